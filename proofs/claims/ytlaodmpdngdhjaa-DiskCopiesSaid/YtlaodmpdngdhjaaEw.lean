/- The law DiskCopies, walked. -/
import Derived.Test.YtlaodmpdngdhjaaEv
namespace Go.Proofs.Ytlaodmpdngdhjaa
set_option linter.unusedVariables false
set_option linter.unusedSimpArgs false
open Go.RowKit

def run (s : St) (l : List Cl) : St := l.foldl (fun s c => (step c s).1) s
theorem run_snoc {s : St} {l : List Cl} {k : Nat} {c : Cl} (h : l[k]? = some c) : run s (l.take (k + 1)) = (step c (run s (l.take k))).1 := by
  have hx : l.take (k + 1) = l.take k ++ [c] := by
    rw [List.take_add_one, h]
    rfl
  unfold run
  rw [hx, List.foldl_append]
  rfl
set_option maxRecDepth 100000 in
set_option maxHeartbeats 8000000 in
theorem copies_law (a b : Option Addr) (cap cap2 : Nat) (l m : List Cl) (w : World) (hrow : CallRow w a l) (hrow2 : CallRow w b m) (hl : l.length ≤ 140737488355328) (hl2 : m.length ≤ 140737488355328) (hok : ∀ c ∈ l, c.ok) (hok2 : ∀ c ∈ m, c.ok) :
    Calls Try.prog 10 #[.slice a l.length cap, .slice b m.length cap2] w fun e w' => e = .returned (.bool true) ∧ Below w.heap.size w w' := by
  have HA := Lib.hid fun W => awake_any W
  have HS := Lib.hid (short_any l a cap w hrow hl hok)
  have HS2 := Lib.hid (short_any m b cap2 w hrow2 hl2 hok2)
  have HR := Lib.hid hrow
  have HK := Lib.hid hok
  have HR2 := Lib.hid hrow2
  have HK2 := Lib.hid hok2
  by_cases hsh : shortB l = true ∧ shortB m = true
  · obtain ⟨hsh, hsh2⟩ := hsh
    rw [hsh] at HS
    rw [hsh2] at HS2
    obtain ⟨hl40, hF⟩ := short_cases hsh
    obtain ⟨hm40, hF2⟩ := short_cases hsh2
    have HF := Lib.hid hF
    have HF2 := Lib.hid hF2
    have HN := Lib.hid (fresh_new 500 w (by omega) (by omega))
    have HGN := Lib.hid (St.new_good 500 (by decide))
    obtain ⟨len, hlen⟩ : ∃ len, l.length = len := ⟨_, rfl⟩
    have HLEN := Lib.hid hlen
    obtain ⟨len2, hlen2⟩ : ∃ len, m.length = len := ⟨_, rfl⟩
    have HLEN2 := Lib.hid hlen2
    rw [hlen] at HS hl40 ⊢
    rw [hlen2] at HS2 hm40 ⊢
    clear hrow hok hsh hlen hl hF hrow2 hok2 hsh2 hlen2 hl2 hF2
    go_enter Try.func10, Try.ntmps10
    go_wp2_with fail
    refine HS.out.mono ?_
    rintro e w1 ⟨rfl, hw⟩
    have hw' := hw.symm
    subst hw'
    go_wp2_with fail
    refine HS2.out.mono ?_
    rintro e w1 ⟨rfl, hw⟩
    have hw' := hw.symm
    subst hw'
    go_wp2_with fail
    refine HN.out.mono ?_
    rintro e w1 ⟨rfl, F0, hlt⟩
    have A0 := Lib.hid (two_new 500 w w1 F0.out (by omega) (by omega))
    go_wp2_with fail
    refine A0.out.mono ?_
    rintro e w2 ⟨rfl, F1⟩
    go_wp2_with fail
    go_loopw [7] (fun v7 wr => ∃ (k : Nat) (s : St), k ≤ len ∧ v7 = .int .i64 k ∧ Hid (TwoF w w.heap.size s w1.heap.size s wr) ∧ Hid (Good s (201 * k))) (fun v7 _ => len - (intOf v7).toNat)
    case atStart => exact ⟨0, _, Nat.zero_le _, rfl, F1, HGN⟩
    case round =>
      obtain ⟨k, s, hk, rfl, HFR, HGS⟩ := hrel
      by_cases hlt2 : k < len
      · obtain ⟨c, hc⟩ : ∃ c, l[k]? = some c := ⟨l[k]'(by rw [HLEN.out]; exact hlt2), by simp [HLEN.out, hlt2]⟩
        have hco := HK.out c (List.mem_of_getElem? hc)
        have hcf := HF.out c (List.mem_of_getElem? hc)
        obtain ⟨b, o, rfl, hb, c0, c1, c2, c3, c4, c5, c6, c7⟩ := (HR.out.below HFR.out.toBelow).get hc
        have A1 := Lib.hid (HFR.out.do_ HGS.out (by omega) c hco hcf.1 hcf.2)
        have HG' : Hid (Good (step c s).1 (201 * (k + 1))) := Lib.hid ((HGS.out.step c hco hcf.1).mono (by omega))
        obtain ⟨s', hs'⟩ : ∃ s', (step c s).1 = s' := ⟨_, rfl⟩
        rw [hs'] at A1 HG'
        clear hc hco hcf hs'
        go_wp2_with fail
        refine A1.out.mono ?_
        rintro e w3 ⟨rfl, F3⟩
        go_wp2_with fail
        go_roundw
        case rel => exact ⟨k + 1, s', by omega, by go_num, F3, HG'⟩
        case measure => simp [intOf]; omega
      · obtain rfl : k = len := by omega
        have HG1 : Hid (Good s 8040) := Lib.hid (HGS.out.mono (by omega))
        have C1 := Lib.hid (tri_copy HFR.out HG1.out (by omega))
        obtain ⟨wq, hwq⟩ : ∃ wq, wr = wq := ⟨_, rfl⟩
        rw [hwq] at HFR C1 ⊢
        clear hwq
        obtain ⟨dd, hdd⟩ : ∃ dd, w.heap.size = dd := ⟨_, rfl⟩
        obtain ⟨rr, hrr⟩ : ∃ rr, w1.heap.size = rr := ⟨_, rfl⟩
        obtain ⟨cc, hcc⟩ : ∃ cc, wq.heap.size = cc := ⟨_, rfl⟩
        rw [hcc] at C1
        have HDD := Lib.hid hdd
        have HRR := Lib.hid hrr
        rw [hdd, hrr] at C1
        rw [hdd, hrr]
        go_wp2_with fail
        refine C1.out.mono ?_
        rintro e w4 ⟨rfl, F4⟩
        have C2 := Lib.hid (quad_copy F4.out HG1.out (by omega))
        go_wp2_with fail
        refine C2.out.mono ?_
        rintro e w5 ⟨q, rfl, F5⟩
        clear hdd hrr hcc hk hlt2
        go_wp2_with fail
        go_loopw [10] (fun v wr => ∃ (k : Nat) (s2 : St), k ≤ len2 ∧ v = .int .i64 k ∧ Hid (Quad w dd s2 rr cc s q wr) ∧ Hid (Good s2 (8040 + 201 * k)) ∧ Hid (s2 = run s (m.take k))) (fun v _ => len2 - (intOf v).toNat)
        case atStart => exact ⟨0, s, Nat.zero_le _, rfl, F5, HG1, Lib.hid rfl⟩
        case round =>
          obtain ⟨j, s2, hj, rfl, HQ, HG2, HRN⟩ := hrel
          by_cases hlt3 : j < len2
          · obtain ⟨c, hc⟩ : ∃ c, m[j]? = some c := ⟨m[j]'(by rw [HLEN2.out]; exact hlt3), by simp [HLEN2.out, hlt3]⟩
            have hco := HK2.out c (List.mem_of_getElem? hc)
            have hcf := HF2.out c (List.mem_of_getElem? hc)
            obtain ⟨b, o, rfl, hb, c0, c1, c2, c3, c4, c5, c6, c7⟩ := (HR2.out.below HQ.out.toBelow).get hc
            have A1 := Lib.hid (HQ.out.do_ HG2.out (by omega) c hco hcf.1 hcf.2)
            have HG' : Hid (Good (step c s2).1 (8040 + 201 * (j + 1))) := Lib.hid ((HG2.out.step c hco hcf.1).mono (by omega))
            have HRN' : Hid ((step c s2).1 = run s (m.take (j + 1))) := Lib.hid (by rw [run_snoc hc, ← HRN.out])
            obtain ⟨s', hs'⟩ : ∃ s', (step c s2).1 = s' := ⟨_, rfl⟩
            rw [hs'] at A1 HG' HRN'
            clear hc hco hcf hs'
            go_wp2_with fail
            refine A1.out.mono ?_
            rintro e w6 ⟨rfl, F6⟩
            go_wp2_with fail
            go_roundw
            case rel => exact ⟨j + 1, s', by omega, by go_num, F6, HG', HRN'⟩
            case measure => simp [intOf]; omega
          · obtain rfl : j = len2 := by omega
            have HGF : Hid (Good s2 16080) := Lib.hid (HG2.out.mono (by omega))
            have HRE : Hid (s2 = run s m) := Lib.hid (by rw [HRN.out, ← HLEN2.out, List.take_length])
            have A1 := Lib.hid (HQ.out.agree HGF.out (by omega))
            clear hj hlt3
            go_wp2_with fail
            refine A1.out.mono ?_
            rintro e w6 ⟨rfl, F6⟩
            have A2 := Lib.hid (F6.out.swap.agree HG1.out (by omega))
            go_wp2_with fail
            refine A2.out.mono ?_
            rintro e w7 ⟨rfl, F7⟩
            go_wp2_with fail
            go_loopw [11] (fun v wr => ∃ (k : Nat) (s3 : St), k ≤ j ∧ v = .int .i64 k ∧ Hid (Quad w cc s3 q dd s2 rr wr) ∧ Hid (Good s3 (8040 + 201 * k)) ∧ Hid (s3 = run s (m.take k))) (fun v _ => j - (intOf v).toNat)
            case atStart => exact ⟨0, s, Nat.zero_le _, rfl, F7, HG1, Lib.hid rfl⟩
            case round =>
              clear HQ HG2 HRN
              obtain ⟨i, s3, hi, rfl, HQ, HG2, HRN⟩ := hrel
              by_cases hlt4 : i < j
              · obtain ⟨c, hc⟩ : ∃ c, m[i]? = some c := ⟨m[i]'(by rw [HLEN2.out]; exact hlt4), by simp [HLEN2.out, hlt4]⟩
                have hco := HK2.out c (List.mem_of_getElem? hc)
                have hcf := HF2.out c (List.mem_of_getElem? hc)
                obtain ⟨b, o, rfl, hb, c0, c1, c2, c3, c4, c5, c6, c7⟩ := (HR2.out.below HQ.out.toBelow).get hc
                have A1 := Lib.hid (HQ.out.do_ HG2.out (by omega) c hco hcf.1 hcf.2)
                have HG' : Hid (Good (step c s3).1 (8040 + 201 * (i + 1))) := Lib.hid ((HG2.out.step c hco hcf.1).mono (by omega))
                have HRN' : Hid ((step c s3).1 = run s (m.take (i + 1))) := Lib.hid (by rw [run_snoc hc, ← HRN.out])
                obtain ⟨s', hs'⟩ : ∃ s', (step c s3).1 = s' := ⟨_, rfl⟩
                rw [hs'] at A1 HG' HRN'
                clear hc hco hcf hs'
                go_wp2_with fail
                refine A1.out.mono ?_
                rintro e w8 ⟨rfl, F8⟩
                go_wp2_with fail
                go_roundw
                case rel => exact ⟨i + 1, s', by omega, by go_num, F8, HG', HRN'⟩
                case measure => simp [intOf]; omega
              · obtain rfl : i = j := by omega
                have HE : Hid (s3 = s2) := Lib.hid (by rw [HRE.out, HRN.out, ← HLEN2.out, List.take_length])
                have HQ2 : Hid (Quad w cc s2 q dd s2 rr wr) := Lib.hid (by have := HQ.out; rw [HE.out] at this; exact this)
                have A1 := Lib.hid (HQ2.out.agree HGF.out (by omega))
                clear hi hlt4
                go_wp2_with fail
                refine A1.out.mono ?_
                rintro e w8 ⟨rfl, F8⟩
                have A2 := Lib.hid (F8.out.swap.cross HGF.out (by omega))
                go_wp2_with fail
                refine A2.out.mono ?_
                rintro e w9 ⟨rfl, F9⟩
                have HB9 := Lib.hid F9.out.toBelow
                go_wp2_with fail
                refine (HA.out _).mono ?_
                rintro e w10 ⟨rfl, hb10⟩
                have HB10 := Lib.hid (HB9.out.trans (hb10.mono HB9.out.size))
                clear hb10
                go_wp2_with fail
                go_ret
                exact ⟨rfl, HB10.out⟩
  · clear hrow hok hrow2 hok2
    cases h1 : shortB l with
    | false =>
      rw [h1] at HS
      clear h1 hsh
      go_enter Try.func10, Try.ntmps10
      go_wp2_with fail
      refine HS.out.mono ?_
      rintro e w1 ⟨rfl, hw⟩
      have hw' := hw.symm
      subst hw'
      go_wp2_with fail
      refine (HA.out _).mono ?_
      rintro e w1 ⟨rfl, hb1⟩
      have HB1 := Lib.hid hb1
      clear hb1
      go_wp2_with fail
      go_ret
      exact ⟨rfl, HB1.out⟩
    | true =>
      have h2 : shortB m = false := by
        cases h2 : shortB m with
        | false => rfl
        | true => exact absurd ⟨h1, h2⟩ hsh
      rw [h1] at HS
      rw [h2] at HS2
      clear h1 h2 hsh
      go_enter Try.func10, Try.ntmps10
      go_wp2_with fail
      refine HS.out.mono ?_
      rintro e w1 ⟨rfl, hw⟩
      have hw' := hw.symm
      subst hw'
      go_wp2_with fail
      refine HS2.out.mono ?_
      rintro e w1 ⟨rfl, hw⟩
      have hw' := hw.symm
      subst hw'
      go_wp2_with fail
      refine (HA.out _).mono ?_
      rintro e w1 ⟨rfl, hb1⟩
      have HB1 := Lib.hid hb1
      clear hb1
      go_wp2_with fail
      go_ret
      exact ⟨rfl, HB1.out⟩
end Go.Proofs.Ytlaodmpdngdhjaa
