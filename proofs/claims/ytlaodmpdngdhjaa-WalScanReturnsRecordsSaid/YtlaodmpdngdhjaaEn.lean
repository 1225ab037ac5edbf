/- The laws DiskFollows and DiskSmall. -/
import Derived.Test.YtlaodmpdngdhjaaEm
namespace Go.Proofs.Ytlaodmpdngdhjaa
set_option linter.unusedVariables false
set_option linter.unusedSimpArgs false
open Go.RowKit

/-- Both disks in blocks of the call's own. -/
def TwoF (w : World) (d : Nat) (s : St) (r : Nat) (t : St) (w' : World) : Prop := ∃ rw ro, Two w' d s r t rw ro ∧ (∀ b, rw b → w.heap.size ≤ b) ∧ Below w.heap.size w w'
section
variable {w w1 w2 : World} {d r : Nat} {s s' t t' : St} {f : Nat} {args : Array Value} {v : Value}
theorem TwoF.call (h : TwoF w d s r t w1) (hc : ∀ rw ro, Two w1 d s r t rw ro → Calls Try.prog f args w1 (TMeth w1 d s' r t' rw ro v)) :
    Calls Try.prog f args w1 fun e w2 => e = .returned v ∧ Hid (TwoF w d s' r t' w2) := by
  obtain ⟨rw, ro, h1, h2, h3⟩ := h
  refine (hc rw ro h1).mono ?_
  rintro e w2 ⟨rfl, rw', ro', h4, h5⟩
  exact ⟨rfl, rw', ro', h4, fun b hb => (h5.rw1 b hb).elim (h2 b) fun hq => Nat.le_trans h3.size hq, h5.toBelow h2 h3⟩
theorem TwoF.below (h : TwoF w d s r t w1) (hb : Below w1.heap.size w1 w2) : TwoF w d s r t w2 := by
  obtain ⟨rw, ro, h1, h2, h3⟩ := h
  exact ⟨rw, ro, h1.below hb, h2, h3.trans (hb.mono h3.size)⟩
theorem TwoF.toBelow (h : TwoF w d s r t w1) : Below w.heap.size w w1 := by
  obtain ⟨rw, ro, h1, h2, h3⟩ := h
  exact h3
theorem TwoF.two (h : TwoF w d s r t w1) : ∃ rw ro, Two w1 d s r t rw ro := by
  obtain ⟨rw, ro, h1, h2, h3⟩ := h
  exact ⟨rw, ro, h1⟩
end
theorem two_new (cap : Int) (w w1 : World) (F : Fresh w w.heap.size (St.new cap) w1) (h1 : -9223372036854775808 ≤ cap) (h2 : cap < 9223372036854775808) :
    Calls Try.prog 35 #[.int .i64 cap] w1 fun e w2 => e = .returned (ptr w1.heap.size) ∧ Hid (TwoF w w.heap.size (St.new cap) w1.heap.size (St.new cap) w2) := by
  refine (rnew_any cap w1 h1 h2).mono ?_
  rintro e w2 ⟨rfl, h3, h4, h5⟩
  obtain ⟨rw, ro, f1, f2, f3⟩ := F
  refine ⟨rfl, fun b => rw b ∨ b = w1.heap.size, fun b => ro b ∨ False, ⟨rw, ro, _, _, f1.below h4, h3, ?_, ?_, fun b => Iff.rfl, fun b => Iff.rfl⟩, ?_, f3.trans (h4.mono f3.size)⟩
  · intro b hb
    have := f1.ltro b (.inl hb)
    exact ⟨fun e => by omega, id⟩
  · intro b hb hq
    have := f1.ltro b (.inr hq)
    omega
  · rintro b (hb | rfl)
    · exact f2 b hb
    · exact f3.size
theorem short_cases {l : List Cl} (h : shortB l = true) : l.length ≤ 40 ∧ ∀ c ∈ l, c.data.size ≤ 200 ∧ c.name.size ≤ 100 := by
  unfold shortB at h
  rw [Bool.and_eq_true, List.all_eq_true] at h
  refine ⟨of_decide_eq_true h.2, fun c hc => ?_⟩
  have := h.1 c hc
  unfold Cl.few at this
  rw [Bool.and_eq_true] at this
  exact ⟨of_decide_eq_true this.1, of_decide_eq_true this.2⟩
/-- do on disks of one state. -/
theorem TwoF.do_ {w w1 : World} {d r : Nat} {s : St} {M : Nat} (h : TwoF w d s r s w1) (gs : Good s M) (hM : M ≤ 500000) (c : Cl) (hok : c.ok) (hd : c.data.size ≤ 200) (hn : c.name.size ≤ 100) :
    Calls Try.prog 36 #[ptr d, ptr r, .agg c.cells] w1 fun e w2 => e = .returned (.bool true) ∧ Hid (TwoF w d (step c s).1 r (step c s).1 w2) := by
  have := h.call (f := 36) (args := #[ptr d, ptr r, .agg c.cells]) fun rw ro h2 => do_any d r s s rw ro M c w1 h2 gs gs hM hok hd hn
  rw [show ((step c s).2 == (step c s).2) = true by rw [beq_iff_eq]] at this
  exact this
theorem TwoF.agree {w w1 : World} {d r : Nat} {s : St} {M : Nat} (h : TwoF w d s r s w1) (gs : Good s M) (hM : M ≤ 500000) :
    Calls Try.prog 37 #[ptr d, ptr r] w1 fun e w2 => e = .returned (.bool true) ∧ Hid (TwoF w d s r s w2) := by
  obtain ⟨rw, ro, h2⟩ := h.two
  refine (agree_any d r s rw ro M w1 h2 gs hM).mono ?_
  rintro e w2 ⟨rfl, hb⟩
  exact ⟨rfl, h.below hb⟩
set_option maxRecDepth 100000 in
set_option maxHeartbeats 4000000 in
theorem follows_law (cap0 : Int) (a : Option Addr) (cap : Nat) (l : List Cl) (w : World) (hrow : CallRow w a l) (hl : l.length ≤ 140737488355328) (hok : ∀ c ∈ l, c.ok) (hn : fits64 cap0) :
    Calls Try.prog 5 #[.int .i64 cap0, .slice a l.length cap] w fun e w' => e = .returned (.bool true) ∧ Below w.heap.size w w' := by
  have HA := Lib.hid fun W => awake_any W
  have HS := Lib.hid (short_any l a cap w hrow hl hok)
  have HR := Lib.hid hrow
  have HK := Lib.hid hok
  cases hsh : shortB l with
  | false =>
    rw [hsh] at HS
    clear hrow hok
    go_enter Try.func5, Try.ntmps5
    go_wp2_with fail
    refine HS.out.mono ?_
    rintro e w1 ⟨rfl, hw⟩
    have hw' := hw.symm
    subst hw'
    go_wp2_with fail
    refine (HA.out _).mono ?_
    rintro e w1 ⟨rfl, hb1⟩
    have HB1 := Lib.hid hb1
    clear hb1
    go_wp2_with fail
    go_ret
    exact ⟨rfl, HB1.out⟩
  | true =>
    rw [hsh] at HS
    obtain ⟨hl40, hF⟩ := short_cases hsh
    have HF := Lib.hid hF
    have HN := Lib.hid (fresh_new cap0 w hn.1 hn.2)
    have HGN := Lib.hid (St.new_good cap0 hn.2)
    have HFIT := Lib.hid hn
    obtain ⟨len, hlen⟩ : ∃ len, l.length = len := ⟨_, rfl⟩
    have HLEN := Lib.hid hlen
    rw [hlen] at HS hl40 ⊢
    clear hrow hok hsh hlen hl hn hF
    go_enter Try.func5, Try.ntmps5
    go_wp2_with fail
    refine HS.out.mono ?_
    rintro e w1 ⟨rfl, hw⟩
    have hw' := hw.symm
    subst hw'
    go_wp2_with fail
    refine HN.out.mono ?_
    rintro e w1 ⟨rfl, F0, hlt⟩
    have A0 := Lib.hid (two_new cap0 w w1 F0.out HFIT.out.1 HFIT.out.2)
    go_wp2_with fail
    refine A0.out.mono ?_
    rintro e w2 ⟨rfl, F1⟩
    go_wp2_with fail
    go_loopw [7] (fun v7 wr => ∃ (k : Nat) (s : St), k ≤ len ∧ v7 = .int .i64 k ∧ Hid (TwoF w w.heap.size s w1.heap.size s wr) ∧ Hid (Good s (201 * k))) (fun v7 _ => len - (intOf v7).toNat)
    case atStart => exact ⟨0, _, Nat.zero_le _, rfl, F1, HGN⟩
    case round =>
      obtain ⟨k, s, hk, rfl, HFR, HGS⟩ := hrel
      by_cases hlt2 : k < len
      · obtain ⟨c, hc⟩ : ∃ c, l[k]? = some c := ⟨l[k]'(by rw [HLEN.out]; exact hlt2), by simp [HLEN.out, hlt2]⟩
        have hco := HK.out c (List.mem_of_getElem? hc)
        have hcf := HF.out c (List.mem_of_getElem? hc)
        obtain ⟨b, o, rfl, hb, c0, c1, c2, c3, c4, c5, c6, c7⟩ := (HR.out.below HFR.out.toBelow).get hc
        have A1 := Lib.hid (HFR.out.do_ HGS.out (by omega) c hco hcf.1 hcf.2)
        have HG' : Hid (Good (step c s).1 (201 * (k + 1))) := Lib.hid ((HGS.out.step c hco hcf.1).mono (by omega))
        obtain ⟨s', hs'⟩ : ∃ s', (step c s).1 = s' := ⟨_, rfl⟩
        rw [hs'] at A1 HG'
        clear hc hco hcf hs'
        go_wp2_with fail
        refine A1.out.mono ?_
        rintro e w3 ⟨rfl, F3⟩
        have A2 := Lib.hid (F3.out.agree HG'.out (by omega))
        go_wp2_with fail
        refine A2.out.mono ?_
        rintro e w4 ⟨rfl, F4⟩
        go_wp2_with fail
        go_roundw
        case rel => exact ⟨k + 1, s', by omega, by go_num, F4, HG'⟩
        case measure => simp [intOf]; omega
      · obtain rfl : k = len := by omega
        have HB9 := Lib.hid HFR.out.toBelow
        go_wp2_with fail
        refine (HA.out _).mono ?_
        rintro e w10 ⟨rfl, hb10⟩
        have HB10 := Lib.hid (HB9.out.trans (hb10.mono HB9.out.size))
        clear hb10
        go_wp2_with fail
        go_ret
        exact ⟨rfl, HB10.out⟩
end Go.Proofs.Ytlaodmpdngdhjaa
