/- done and blow: the fuse. -/
import Derived.Test.YtlaodmpdngdhjaaDf
namespace Go.Proofs.Ytlaodmpdngdhjaa
set_option linter.unusedVariables false
set_option linter.unusedSimpArgs false
open Go.RowKit Go.Maps Go.WideMaps

/-- Only block d has turned. -/
structure Turn (d : Nat) (w w' : World) : Prop where
  os : w'.os = w.os
  tape : w'.tape = w.tape
  output : w'.output = w.output
  size : w'.heap.size = w.heap.size
  block : ∀ b, b ≠ d → w'.heap[b]? = w.heap[b]?
theorem Turn.refl (d : Nat) (w : World) : Turn d w w := ⟨rfl, rfl, rfl, rfl, fun _ _ => rfl⟩
theorem Turn.trans {d : Nat} {a b c : World} (h : Turn d a b) (k : Turn d b c) : Turn d a c :=
  ⟨k.os.trans h.os, k.tape.trans h.tape, k.output.trans h.output, k.size.trans h.size, fun i hi => (k.block i hi).trans (h.block i hi)⟩
theorem Turn.drew {d : Nat} {a b : World} (h : Turn d a b) : Turn d a b.drew := ⟨h.os, h.tape, h.output, h.size, h.block⟩
theorem set_turn (w : World) (d i : Nat) (v : Value) : Turn d w (w.setCell ⟨d, i, none⟩ v) :=
  ⟨rfl, rfl, rfl, by simp [World.setCell], fun b hb => by simp [World.setCell, Array.getElem?_modify, Ne.symm hb]⟩
theorem set_heap {w : World} {d : Nat} {cs : Array Value} {t : TypeId} {fr : Nat × Nat} (h : w.heap[d]? = some (.cells cs t fr)) (i : Nat) (v : Value) :
    (w.setCell ⟨d, i, none⟩ v).heap[d]? = some (.cells (cs.setIfInBounds i v) t fr) := by
  simp [World.setCell, Array.getElem?_modify, h]

set_option maxHeartbeats 1000000 in
theorem blow_any (d : Nat) (c0 c1 c2 c3 : Value) (off fused : Bool) (fuse : Int) (w : World) (h : w.heap[d]? = some (.cells #[c0, c1, c2, c3, .bool off, .bool fused, .int .i64 fuse] 62 (0, 0))) :
    Calls Try.prog 67 #[ptr d] w fun e w' => e = .returned (.tuple #[]) ∧ w'.heap[d]? = some (.cells #[c0, c1, c2, c3, .bool (off || (fused && decide (fuse ≤ 0))), .bool (fused && !decide (fuse ≤ 0)), .int .i64 fuse] 62 (0, 0)) ∧ Turn d w w' := by
  obtain ⟨hc, hf⟩ := row_cells h
  have k4 : w.cell? ⟨d, 4, none⟩ = some (.bool off) := hc 4
  have k5 : w.cell? ⟨d, 5, none⟩ = some (.bool fused) := hc 5
  have k6 : w.cell? ⟨d, 6, none⟩ = some (.int .i64 fuse) := hc 6
  have f4 := hf 4
  have f5 := hf 5
  have H := Lib.hid h
  clear h hc hf
  cases fused with
  | false =>
    go_enter Try.func67, Try.ntmps67
    go_wp2
    go_end0
    exact ⟨rfl, by simpa using H.out, Turn.refl _ _⟩
  | true =>
    by_cases hle : fuse ≤ 0
    · go_enter Try.func67, Try.ntmps67
      go_wp2
      go_end0
      exact ⟨rfl, by rw [set_heap (set_heap H.out 4 _) 5 _]; simp [hle], (set_turn _ _ _ _).trans (set_turn _ _ _ _)⟩
    · go_enter Try.func67, Try.ntmps67
      go_wp2
      go_end0
      exact ⟨rfl, by rw [show decide (fuse ≤ 0) = false from decide_eq_false (by omega)]; simpa using H.out, Turn.refl _ _⟩

/-- A call that succeeded is counted. -/
theorem done_any (d : Nat) (s : St) (vd vf vp : Value) (fuse : Int) (w : World) (h : w.heap[d]? = some (.cells (dcells s vd vf vp fuse) 62 (0, 0))) (hf : 0 < s.left → fuse = s.left) (hoff : s.off = decide (s.left = 0)) (hhi : s.left < 9223372036854775808) :
    Calls Try.prog 74 #[ptr d] w fun e w' => e = .returned (.int .i64 0) ∧ (∃ fuse', w'.heap[d]? = some (.cells (dcells s.spend vd vf vp fuse') 62 (0, 0)) ∧ (0 < s.spend.left → fuse' = s.spend.left)) ∧ Turn d w w' := by
  obtain ⟨hc, hfz⟩ := row_cells h
  have k5 : w.cell? ⟨d, 5, none⟩ = some (.bool (decide (0 < s.left))) := hc 5
  have k6 : w.cell? ⟨d, 6, none⟩ = some (.int .i64 fuse) := hc 6
  have f6 := hfz 6
  have H := Lib.hid h
  clear h hc hfz
  by_cases hl : 0 < s.left
  · have he := hf hl
    subst he
    have hsp : s.spend = { s with left := s.left - 1, off := decide (s.left - 1 = 0) } := by unfold St.spend; rw [if_pos hl]
    rw [decide_eq_true hl] at k5
    have hwr : IntKind.i64.wrap (s.left - 1) = s.left - 1 := by rw [IntKind.wrap_i64]; omega
    have h1 : s.off = false := by rw [hoff]; exact decide_eq_false (by omega)
    have B := Lib.hid (blow_any d (.int .i64 s.cap) vd vf vp s.off true (s.left - 1) (w.setCell ⟨d, 6, none⟩ (.int .i64 (s.left - 1))) (by rw [set_heap H.out 6 _]; simp [dcells, hl]))
    have HSP := Lib.hid hsp
    have HO := Lib.hid h1
    clear hf hoff hsp h1
    go_enter Try.func74, Try.ntmps74
    go_wp2_with (go_at_call 67; refine B.out.mono ?_; rintro e w2 ⟨rfl, hb, ht⟩; have HBK := Lib.hid hb; have HT := Lib.hid ht; clear hb ht)
    go_ret
    refine ⟨rfl, ⟨s.left - 1, ?_, ?_⟩, (set_turn _ _ _ _).trans HT.out⟩
    · rw [HBK.out, HSP.out, HO.out]
      simp only [dcells, Bool.true_and, Bool.false_or]
      have e1 : decide (s.left - 1 ≤ 0) = decide (s.left - 1 = 0) := by
        by_cases h : s.left - 1 = 0
        · simp [h]
        · rw [decide_eq_false h, decide_eq_false (by omega)]
      have e2 : (!decide (s.left - 1 ≤ 0)) = decide (0 < s.left - 1) := by
        by_cases h : s.left - 1 ≤ 0
        · rw [decide_eq_true h, decide_eq_false (by omega)]; rfl
        · rw [decide_eq_false h, decide_eq_true (by omega)]; rfl
      rw [e1] at *
      rw [← e1, e2, e1]
    · intro _
      rw [HSP.out]
  · rw [decide_eq_false hl] at k5
    have hsp : s.spend = s := by unfold St.spend; rw [if_neg hl]
    have HSP := Lib.hid hsp
    have HF := Lib.hid hf
    clear hf hoff hsp
    go_enter Try.func74, Try.ntmps74
    go_wp2_with fail
    go_ret
    refine ⟨rfl, ⟨fuse, ?_, ?_⟩, Turn.refl _ _⟩
    · rw [HSP.out]; exact H.out
    · rw [HSP.out]; exact HF.out
end Go.Proofs.Ytlaodmpdngdhjaa
