/- The law DiskCopies. -/
import Derived.Test.YtlaodmpdngdhjaaEn
import Derived.Test.YtlaodmpdngdhjaaEs
import Derived.Test.YtlaodmpdngdhjaaEt
namespace Go.Proofs.Ytlaodmpdngdhjaa
set_option linter.unusedVariables false
set_option linter.unusedSimpArgs false
open Go.RowKit

theorem Two.keptB {w w' : World} {d r : Nat} {s t : St} {rw ro : Nat → Prop} (h : Two w d s r t rw ro) (hk : ∀ b, rw b ∨ ro b → w'.heap[b]? = w.heap[b]?) (hs : w.heap.size ≤ w'.heap.size) : Two w' d s r t rw ro := by
  obtain ⟨rwd, rod, rwr, ror, hd, hr, h1, h2, h3, h4⟩ := h
  refine ⟨rwd, rod, rwr, ror, hd.kept (fun b hb => hk b ?_) hs, hr.kept (fun b hb => hk b ?_) hs, h1, h2, h3, h4⟩
  · exact hb.imp (fun h => (h3 b).2 (.inl h)) fun h => (h4 b).2 (.inl h)
  · exact hb.imp (fun h => (h3 b).2 (.inr h)) fun h => (h4 b).2 (.inr h)
/-- Two pairs of disks in blocks of the call's own. -/
def Quad (w : World) (d : Nat) (s : St) (r c : Nat) (s' : St) (q : Nat) (w' : World) : Prop :=
  ∃ rw ro rw2 ro2, Two w' d s r s rw ro ∧ Two w' c s' q s' rw2 ro2 ∧ (∀ b, rw b → w.heap.size ≤ b) ∧ (∀ b, rw2 b → w.heap.size ≤ b) ∧ Below w.heap.size w w' ∧ (∀ b, rw b → ¬ rw2 b ∧ ¬ ro2 b) ∧ (∀ b, rw2 b → ¬ ro b)
section
variable {w w1 w2 : World} {d r c q M : Nat} {s s' : St}
theorem Quad.swap (h : Quad w d s r c s' q w1) : Quad w c s' q d s r w1 := by
  obtain ⟨rw, ro, rw2, ro2, h1, h2, b1, b2, hb, ha, hz⟩ := h
  exact ⟨rw2, ro2, rw, ro, h2, h1, b2, b1, hb, fun b hb => ⟨fun hr => (ha b hr).1 hb, hz b hb⟩, fun b hr => (ha b hr).2⟩
theorem Quad.toBelow (h : Quad w d s r c s' q w1) : Below w.heap.size w w1 := by
  obtain ⟨rw, ro, rw2, ro2, h1, h2, b1, b2, hb, ha, hz⟩ := h
  exact hb
theorem Quad.below (h : Quad w d s r c s' q w1) (hb2 : Below w1.heap.size w1 w2) : Quad w d s r c s' q w2 := by
  obtain ⟨rw, ro, rw2, ro2, h1, h2, b1, b2, hb, ha, hz⟩ := h
  exact ⟨rw, ro, rw2, ro2, h1.below hb2, h2.below hb2, b1, b2, hb.trans (hb2.mono hb.size), ha, hz⟩
theorem Quad.do_ (h : Quad w d s r c s' q w1) (gs : Good s M) (hM : M ≤ 500000) (cl : Cl) (hok : cl.ok) (hd : cl.data.size ≤ 200) (hn : cl.name.size ≤ 100) :
    Calls Try.prog 36 #[ptr d, ptr r, .agg cl.cells] w1 fun e w2 => e = .returned (.bool true) ∧ Hid (Quad w d (step cl s).1 r c s' q w2) := by
  obtain ⟨rw, ro, rw2, ro2, h1, h2, b1, b2, hb, ha, hz⟩ := h
  have := do_any d r s s rw ro M cl w1 h1 gs gs hM hok hd hn
  rw [show ((step cl s).2 == (step cl s).2) = true by rw [beq_iff_eq]] at this
  refine this.mono ?_
  rintro e w2 ⟨rfl, rw', ro', h4, hk⟩
  have hk2 : ∀ b, rw2 b ∨ ro2 b → w2.heap[b]? = w1.heap[b]? := fun b hb' => hk.block b (h2.lt b hb') (fun hr => hb'.elim (ha b hr).1 (ha b hr).2)
  refine ⟨rfl, rw', ro', rw2, ro2, h4, h2.keptB hk2 hk.size, fun b hr => (hk.rw1 b hr).elim (b1 b) fun hq => Nat.le_trans hb.size hq, b2, hk.toBelow b1 hb, fun b hr => (hk.rw1 b hr).elim (ha b) fun hq => ⟨fun h => ?_, fun h => ?_⟩, fun b hr hq => (hk.ro1 b hq).elim (hz b hr) fun hq => ?_⟩
  · have := h2.lt b (.inl h); omega
  · have := h2.lt b (.inr h); omega
  · have := h2.lt b (.inl hr); omega
theorem Quad.agree (h : Quad w d s r c s' q w1) (gs : Good s M) (hM : M ≤ 500000) :
    Calls Try.prog 37 #[ptr d, ptr r] w1 fun e w2 => e = .returned (.bool true) ∧ Hid (Quad w d s r c s' q w2) := by
  have h0 := h
  obtain ⟨rw, ro, rw2, ro2, h1, h2, b1, b2, hb, ha, hz⟩ := h
  refine (agree_any d r s rw ro M w1 h1 gs hM).mono ?_
  rintro e w2 ⟨rfl, hb⟩
  exact ⟨rfl, h0.below hb⟩
theorem Quad.two_cross (h : Quad w d s r c s q w1) : ∃ rw ro, Two w1 c s r s rw ro := by
  obtain ⟨rw, ro, rw2, ro2, ⟨rwd, rod, rwr, ror, hd, hr, x1, x2, x3, x4⟩, ⟨rwc, roc, rwq, roq, hc, hq, y1, y2, y3, y4⟩, b1, b2, hb, ha, hz⟩ := h
  refine ⟨fun b => rwc b ∨ rwr b, fun b => roc b ∨ ror b, rwc, roc, rwr, ror, hc, hr, fun b hb => ?_, fun b hb hb' => ?_, fun b => Iff.rfl, fun b => Iff.rfl⟩
  · have hb2 := (y3 b).2 (.inl hb)
    exact ⟨fun h => (ha b ((x3 b).2 (.inr h))).1 hb2, fun h => hz b hb2 ((x4 b).2 (.inr h))⟩
  · exact (ha b ((x3 b).2 (.inr hb))).2 ((y4 b).2 (.inl hb'))
theorem Quad.cross (h : Quad w d s r c s q w1) (gs : Good s M) (hM : M ≤ 500000) :
    Calls Try.prog 37 #[ptr c, ptr r] w1 fun e w2 => e = .returned (.bool true) ∧ Hid (Quad w d s r c s q w2) := by
  obtain ⟨rw, ro, h2⟩ := h.two_cross
  refine (agree_any c r s rw ro M w1 h2 gs hM).mono ?_
  rintro e w2 ⟨rfl, hb⟩
  exact ⟨rfl, h.below hb⟩
/-- Both disks and a copy of the first. -/
def Tri (w : World) (d : Nat) (s : St) (r c : Nat) (w' : World) : Prop :=
  ∃ rwd rod rwr ror rwc, DiskAt w' d s rwd rod ∧ RefAt w' r s rwr ror ∧ (∀ b, rwd b → ¬ rwr b ∧ ¬ ror b) ∧ (∀ b, rwr b → ¬ rod b) ∧ DiskAt w' c s rwc rod ∧ (∀ b, rwd b ∨ rwr b ∨ rwc b → w.heap.size ≤ b) ∧ Below w.heap.size w w' ∧
    (∀ b, rwc b → ¬ rwd b ∧ ¬ rwr b ∧ ¬ rod b ∧ ¬ ror b)
theorem tri_copy (h : TwoF w d s r s w1) (gs : Good s M) (hM : M ≤ 500000) :
    Calls Try.prog 43 #[ptr d] w1 fun e w2 => e = .returned (ptr w1.heap.size) ∧ Hid (Tri w d s r w1.heap.size w2) := by
  obtain ⟨rw, ro, h0, b1, hb⟩ := h
  have hlt := h0.lt
  obtain ⟨rwd, rod, rwr, ror, hd, hr, x1, x2, x3, x4⟩ := h0
  refine (copy_any d s rwd rod M w1 hd gs hM).mono ?_
  rintro e w2 ⟨rfl, rwc, h4, h5, h6⟩
  refine ⟨rfl, rwd, rod, rwr, ror, rwc, hd.below h6, hr.below h6, x1, x2, h4, fun b hq => ?_, hb.trans (h6.mono hb.size), fun b hq => ?_⟩
  · rcases hq with hq | hq | hq
    · exact b1 b ((x3 b).2 (.inl hq))
    · exact b1 b ((x3 b).2 (.inr hq))
    · exact Nat.le_trans hb.size (h5 b hq)
  · have h7 := h5 b hq
    refine ⟨fun h => ?_, fun h => ?_, fun h => ?_, fun h => ?_⟩
    · have := hlt b (.inl ((x3 b).2 (.inl h))); omega
    · have := hlt b (.inl ((x3 b).2 (.inr h))); omega
    · have := hlt b (.inr ((x4 b).2 (.inl h))); omega
    · have := hlt b (.inr ((x4 b).2 (.inr h))); omega
theorem quad_copy (h : Tri w d s r c w1) (gs : Good s M) (hM : M ≤ 500000) :
    Calls Try.prog 44 #[ptr r] w1 fun e w2 => ∃ q, e = .returned (ptr q) ∧ Hid (Quad w d s r c s q w2) := by
  obtain ⟨rwd, rod, rwr, ror, rwc, hd, hr, x1, x2, hc, b1, hb, ha⟩ := h
  have ht : Two w1 d s r s (fun b => rwd b ∨ rwr b) (fun b => rod b ∨ ror b) := ⟨rwd, rod, rwr, ror, hd, hr, x1, x2, fun b => Iff.rfl, fun b => Iff.rfl⟩
  have hlt := ht.lt
  have hcl := hc.ltro
  refine (rcopy_any r s rwr ror M w1 hr gs hM).mono ?_
  rintro e w2 ⟨q, rfl, rwq, roq, h4, h5, h6⟩
  refine ⟨q, rfl, fun b => rwd b ∨ rwr b, fun b => rod b ∨ ror b, fun b => rwc b ∨ rwq b, fun b => rod b ∨ roq b, ht.below h6, ⟨rwc, rod, rwq, roq, hc.below h6, h4, fun b hq => ?_, fun b hq hq2 => ?_, fun b => Iff.rfl, fun b => Iff.rfl⟩, fun b hq => b1 b ?_, fun b hq => ?_, hb.trans (h6.mono hb.size), fun b hq => ?_, fun b hq hq2 => ?_⟩
  · have h7 := hcl b (.inl hq)
    exact ⟨fun h => by have := h5 b (.inl h); omega, fun h => by have := h5 b (.inr h); omega⟩
  · have h7 := hcl b (.inr hq2)
    have := h5 b (.inl hq)
    omega
  · exact hq.elim .inl fun h => .inr (.inl h)
  · rcases hq with hq | hq
    · exact b1 b (.inr (.inr hq))
    · exact Nat.le_trans hb.size (h5 b (.inl hq))
  · have h7 := hlt b (.inl hq)
    refine ⟨fun h => ?_, fun h => ?_⟩
    · rcases h with h | h
      · exact hq.elim (ha b h).1 (ha b h).2.1
      · have := h5 b (.inl h); omega
    · rcases h with h | h
      · rcases hq with hq | hq
        · exact (by obtain ⟨vd, vf, vp, fuse, fcs, hD⟩ := hd; exact hD.dis b hq h)
        · exact x2 b hq h
      · have := h5 b (.inr h); omega
  · rcases hq with hq | hq
    · exact hq2.elim (ha b hq).2.2.1 (ha b hq).2.2.2
    · have := hlt b (.inr hq2)
      have := h5 b (.inl hq)
      omega
end
end Go.Proofs.Ytlaodmpdngdhjaa
