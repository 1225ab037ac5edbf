/- The law DiskSmall. -/
import Derived.Test.YtlaodmpdngdhjaaEn
namespace Go.Proofs.Ytlaodmpdngdhjaa
set_option linter.unusedVariables false
set_option linter.unusedSimpArgs false
open Go.RowKit

set_option maxRecDepth 100000 in
set_option maxHeartbeats 4000000 in
theorem small_law (cap0 : Int) (a : Option Addr) (cap : Nat) (l : List Cl) (w : World) (hrow : CallRow w a l) (hl : l.length ≤ 140737488355328) (hok : ∀ c ∈ l, c.ok) (hn : fits64 cap0) :
    Calls Try.prog 6 #[.int .i64 cap0, .slice a l.length cap] w fun e w' => e = .returned (.bool true) ∧ Below w.heap.size w w' := by
  have HA := Lib.hid fun W => awake_any W
  have HS := Lib.hid (short_any l a cap w hrow hl hok)
  have HR := Lib.hid hrow
  have HK := Lib.hid hok
  cases hsh : shortB l with
  | false =>
    rw [hsh] at HS
    clear hrow hok
    go_enter Try.func6, Try.ntmps6
    go_wp2_with fail
    refine HS.out.mono ?_
    rintro e w1 ⟨rfl, hw⟩
    have hw' := hw.symm
    subst hw'
    go_wp2_with fail
    refine (HA.out _).mono ?_
    rintro e w1 ⟨rfl, hb1⟩
    have HB1 := Lib.hid hb1
    clear hb1
    go_wp2_with fail
    go_ret
    exact ⟨rfl, HB1.out⟩
  | true =>
    rw [hsh] at HS
    obtain ⟨hl40, hF⟩ := short_cases hsh
    have HF := Lib.hid hF
    obtain ⟨N, hN⟩ : ∃ N, cap0 % 41 = N := ⟨_, rfl⟩
    have hN1 : 0 ≤ N ∧ N < 41 := by omega
    obtain ⟨hN2, hN3⟩ := hN1
    have HSM := Lib.hid fun W => small_any cap0 41 W hn.1 hn.2 (by omega) (by omega)
    rw [hN] at HSM
    have HN := Lib.hid (fresh_new N w (by omega) (by omega))
    have HGN := Lib.hid (St.new_good N (by omega))
    obtain ⟨len, hlen⟩ : ∃ len, l.length = len := ⟨_, rfl⟩
    have HLEN := Lib.hid hlen
    rw [hlen] at HS hl40 ⊢
    clear hrow hok hsh hlen hl hn hF hN
    go_enter Try.func6, Try.ntmps6
    go_wp2_with fail
    refine HS.out.mono ?_
    rintro e w1 ⟨rfl, hw⟩
    have hw' := hw.symm
    subst hw'
    go_wp2_with fail
    refine (HSM.out _).mono ?_
    rintro e w1 ⟨rfl, hw1⟩
    have hw1' := hw1.symm
    subst hw1'
    go_wp2_with fail
    refine HN.out.mono ?_
    rintro e w1 ⟨rfl, F0, hlt⟩
    have A0 := Lib.hid (two_new N w w1 F0.out (by omega) (by omega))
    go_wp2_with fail
    refine A0.out.mono ?_
    rintro e w2 ⟨rfl, F1⟩
    go_wp2_with fail
    go_loopw [8] (fun v7 wr => ∃ (k : Nat) (s : St), k ≤ len ∧ v7 = .int .i64 k ∧ Hid (TwoF w w.heap.size s w1.heap.size s wr) ∧ Hid (Good s (201 * k))) (fun v7 _ => len - (intOf v7).toNat)
    case atStart => exact ⟨0, _, Nat.zero_le _, rfl, F1, HGN⟩
    case round =>
      obtain ⟨k, s, hk, rfl, HFR, HGS⟩ := hrel
      by_cases hlt2 : k < len
      · obtain ⟨c, hc⟩ : ∃ c, l[k]? = some c := ⟨l[k]'(by rw [HLEN.out]; exact hlt2), by simp [HLEN.out, hlt2]⟩
        have hco := HK.out c (List.mem_of_getElem? hc)
        have hcf := HF.out c (List.mem_of_getElem? hc)
        obtain ⟨b, o, rfl, hb, c0, c1, c2, c3, c4, c5, c6, c7⟩ := (HR.out.below HFR.out.toBelow).get hc
        obtain ⟨m, hm⟩ : ∃ m : Nat, min c.data.size 15 = m := ⟨_, rfl⟩
        have hmb : m ≤ c.data.size := by omega
        have hmin : min (c.data.size : Int) 15 = (m : Int) := by omega
        have hds : c.data.size ≤ 200 := hcf.1
        obtain ⟨dt, hdt⟩ : ∃ dt, c.data.extract 0 m = dt := ⟨_, rfl⟩
        have hdts : dt.size ≤ 200 := by rw [← hdt]; simp; omega
        have hok' : ({ c with data := dt } : Cl).ok := ⟨hco.kind, hco.from_, hco.to_, hco.n, hco.m, hco.name, Nat.le_trans hdts (by decide)⟩
        have HBX : Hid (Below wr.heap.size wr (wr.alloc (.cells #[.int .i64 c.kind, .int .i64 c.from_, .int .i64 c.to_, .int .i64 c.n, .int .i64 c.m, .string c.name, .string dt, .bool c.raw] 48))) := Lib.hid ((Below.refl _ _).alloc (Nat.le_refl _) _)
        have A1 := Lib.hid ((HFR.out.below HBX.out).do_ HGS.out (by omega) { c with data := dt } hok' hdts hcf.2)
        have HG' : Hid (Good (step { c with data := dt } s).1 (201 * (k + 1))) := Lib.hid ((HGS.out.step _ hok' hdts).mono (by omega))
        obtain ⟨s', hs'⟩ : ∃ s', (step { c with data := dt } s).1 = s' := ⟨_, rfl⟩
        rw [hs'] at A1 HG'
        clear hc hco hcf hs' hok' hm
        go_wp2_with fail
        refine A1.out.mono ?_
        rintro e w3 ⟨rfl, F3⟩
        have A2 := Lib.hid (F3.out.agree HG'.out (by omega))
        go_wp2_with fail
        refine A2.out.mono ?_
        rintro e w4 ⟨rfl, F4⟩
        go_wp2_with fail
        go_roundw
        case rel => exact ⟨k + 1, s', by omega, by go_num, F4, HG'⟩
        case measure => simp [intOf]; omega
      · obtain rfl : k = len := by omega
        have HB9 := Lib.hid HFR.out.toBelow
        go_wp2_with fail
        refine (HA.out _).mono ?_
        rintro e w10 ⟨rfl, hb10⟩
        have HB10 := Lib.hid (HB9.out.trans (hb10.mono HB9.out.size))
        clear hb10
        go_wp2_with fail
        go_ret
        exact ⟨rfl, HB10.out⟩
end Go.Proofs.Ytlaodmpdngdhjaa
