/- The reference's All; a change pushed. -/
import Derived.Test.YtlaodmpdngdhjaaEd
import Derived.Test.YtlaodmpdngdhjaaDr
namespace Go.Proofs.Ytlaodmpdngdhjaa
set_option linter.unusedVariables false
set_option linter.unusedSimpArgs false
open Go.RowKit

theorem info110 : (Try.prog.info? 110).map (fun i => (i.zero, i.size, i.bytes)) = some (some (.agg #[.int .i64 0, .string ⟨#[]⟩, .string ⟨#[]⟩]), 3, 40) := by kernel_rfl
/-- What All hands back. -/
def AllOut (w : World) (F : List File) (ro : Nat → Prop) (e : Ending) (w' : World) : Prop :=
  ∃ v', e = .returned v' ∧ RowF w' v' F ∧ Below w.heap.size w w' ∧ (∀ b, v'.ownBlock = some b → ro b ∨ w.heap.size ≤ b)
set_option maxRecDepth 100000 in
set_option maxHeartbeats 2000000 in
theorem all_any (r : Nat) (s : St) (rw ro : Nat → Prop) (M : Nat) (w : World) (h : RefAt w r s rw ro) (hg : Good s M) (hM : M ≤ 500000) :
    Calls Try.prog 84 #[ptr r] w (AllOut w s.all ro) := by
  obtain ⟨vf, vp, h⟩ := h
  have HD := Lib.hid h
  have HG := Lib.hid hg
  have hops : s.ops.length ≤ 500000 := by have := hg.wt; omega
  obtain ⟨a, cap, hvp, hcap⟩ : ∃ a cap, vp = .slice a s.ops.length cap ∧ s.ops.length ≤ cap := by
    rcases h.row.2 with ⟨h1, h2⟩ | ⟨g, cap, cur, h1, _, _, h2, _⟩
    · exact ⟨none, 0, by rw [h1, h2], by omega⟩
    · exact ⟨_, _, h1, h2⟩
  subst hvp
  have hc := (row_cells h.blk).1
  have k1 : w.cell? ⟨r, 1, none⟩ = some vf := hc 1
  have k2 : w.cell? ⟨r, 2, none⟩ = some (.slice a s.ops.length cap) := hc 2
  have hr := heap_lt h.blk
  clear h hg hc
  go_enter Try.func84, Try.ntmps84
  go_wp2_with fail
  go_loopw [3, 4] (fun v3 i wr => ∃ k : Nat, k ≤ s.ops.length ∧ i = .int .i64 k ∧ Hid (RowF wr v3 ((s.ops.take k).foldl appl s.files)) ∧ Hid (Below w.heap.size w wr) ∧ Hid (∀ b, v3.ownBlock = some b → ro b ∨ w.heap.size ≤ b)) (fun _ i _ => s.ops.length - (intOf i).toNat)
  case atStart => exact ⟨0, Nat.zero_le _, rfl, Lib.hid HD.out.fls, Lib.hid (Below.refl _ _), Lib.hid fun b e => .inl (HD.out.rof b e)⟩
  case round =>
    obtain ⟨k, hk, rfl, HR, HB, HO⟩ := hrel
    have q2 : wr.cell? ⟨r, 2, none⟩ = some (.slice a s.ops.length cap) := by rw [HB.out.cell (p := ⟨r, 2, none⟩) hr]; exact k2
    have hrr : r < wr.heap.size := Nat.lt_of_lt_of_le hr HB.out.size
    by_cases hlt : k < s.ops.length
    · obtain ⟨c, hc⟩ : ∃ c, s.ops[k]? = some c := ⟨s.ops[k], by simp [hlt]⟩
      obtain ⟨x, y, z, ho, _⟩ := ocells_form c
      obtain ⟨g, cap', e, hcc, hgl, x1, y1, z1⟩ := row3 HD.out.row hc ho
      obtain ⟨rfl, rfl⟩ : a = some ⟨g, 0, none⟩ ∧ cap = cap' := by simpa using e
      clear e
      have x2 : wr.cell? ⟨g, k * 3, none⟩ = some x := (HB.out.cell (p := ⟨g, k * 3, none⟩) hgl).trans x1
      have y2 : wr.cell? ⟨g, k * 3 + 1, none⟩ = some y := (HB.out.cell (p := ⟨g, k * 3 + 1, none⟩) hgl).trans y1
      have z2 : wr.cell? ⟨g, k * 3 + 2, none⟩ = some z := (HB.out.cell (p := ⟨g, k * 3 + 2, none⟩) hgl).trans z1
      have HST := Lib.hid (fold_step s.files s.ops hc)
      have hp := (HG.out.part k).2
      have HA := Lib.hid (apply_any u3 _ c wr HR.out (by omega) (by have := HG.out.csz_le hc; omega))
      rw [ho] at HA
      clear hc ho x1 y1 z1 hcc hp
      go_wp2_with fail
      refine HA.out.mono ?_
      rintro e w3 ⟨v', rfl, o3, b3⟩
      have HO3 := Lib.hid o3
      have HB3 := Lib.hid b3
      clear o3 b3
      go_wp2_with fail
      go_roundw
      case rel => exact ⟨k + 1, by omega, by go_num, Lib.hid (by rw [HST.out]; exact (RowF.of_own HO3.out).1), Lib.hid (HB.out.trans (HB3.out.mono HB.out.size)), Lib.hid fun b e => .inr (Nat.le_trans HB.out.size (HO3.out.lt b e).1)⟩
      case measure => simp [intOf]; omega
    · obtain rfl : k = s.ops.length := by omega
      have HR2 : Hid (RowF wr u3 s.all) := Lib.hid (by have := HR.out; rw [List.take_length] at this; exact this)
      go_wp2_with fail
      go_ret
      exact ⟨u3, rfl, HR2.out, HB.out, HO.out⟩
/-- A change appended, the row stored, the fuse burnt. -/
theorem RefIs.push {w w3 w5 : World} {r : Nat} {s : St} {rw ro : Nat → Prop} {vf vp v3 : Value} {X : Obj} {c : Chg} (h : RefIs w r s rw ro vf vp) (g : (w.alloc X).grownBy w3 vp.ownBlock)
    (o : w3.ownsRow 0 110 3 v3 (s.ops.length + 1) (s.ops.flatMap ocells ++ ocells c)) (p : v3.ownBlock = vp.ownBlock ∨ v3.ownBlock = some (w.alloc X).heap.size)
    (T : Turn r (w3.setCell ⟨r, 2, none⟩ v3) w5) (hb : w5.heap[r]? = some (.cells (rcells (s.push c) vf v3) 99 (0, 0))) :
    ∃ rw' ro', RefAt w5 r (s.push c) rw' ro' ∧ Kept w w5 rw ro rw' ro' := by
  have T2 := (set_turn w3 r 2 v3).trans T
  have hrne : some r ≠ vp.ownBlock := by
    intro e
    obtain ⟨cur, fr, ho⟩ := own_obj h.row e.symm
    rw [h.blk] at ho
    cases ho
  have hk0 : ∀ b, b < w.heap.size → some b ≠ vp.ownBlock → w3.heap[b]? = w.heap[b]? := fun b hb hne => by
    rw [g.block b (by simp; omega) hne, Below.heap_alloc w X b hb]
  have hr3 : w3.heap[r]? = some (.cells (rcells s vf vp) 99 (0, 0)) := by rw [hk0 r (heap_lt h.blk) hrne]; exact h.blk
  have hs : w.heap.size + 1 ≤ w3.heap.size := by have := g.size; simpa using this
  have hk : ∀ b, b < w.heap.size → ¬ rw b → w5.heap[b]? = w.heap[b]? := fun b hb hr => by
    rw [T2.block b (by rintro rfl; exact hr h.rwr), hk0 b hb (fun e => hr (h.rwp b e.symm))]
  have hv3 : ∀ b, v3.ownBlock = some b → rw b ∨ w.heap.size < b := fun b e => by
    rcases p with p | p
    · exact .inl (h.rwp b (p ▸ e))
    · rw [p] at e
      simp at e
      exact .inr (by omega)
  have hv3l : ∀ b, v3.ownBlock = some b → b < w5.heap.size := fun b e => by
    obtain ⟨cur, fr, ho⟩ := own_obj o e
    rw [T2.size]; exact heap_lt ho
  obtain ⟨_, e2, e3⟩ := spend_same { s with ops := s.ops ++ [c] }
  have ef : (s.push c).files = s.files := e2
  have eo : (s.push c).ops = s.ops ++ [c] := e3
  have hs5 : w.heap.size ≤ w5.heap.size := by rw [T2.size]; omega
  refine ⟨fun b => rw b ∨ v3.ownBlock = some b, ro, ⟨vf, v3, hb, ?_, ?_, .inl h.rwr, fun b e => .inr e, h.rof, ?_, ?_⟩, T2.os.trans g.os, T2.tape.trans g.tape, T2.output.trans g.output, hs5, hk, ?_, fun b h => .inl h⟩
  · rw [ef]
    exact h.fls.kept (fun b e => hk b (h.lt b (.inr (h.rof b e))) fun hr => h.dis b hr (h.rof b e)) hs5
  · rw [eo, List.flatMap_append, List.length_append]
    have hr : w5.ownsRow 0 110 3 v3 (s.ops.length + 1) (s.ops.flatMap ocells ++ ocells c) := row_kept o fun b e => T2.block b (by
      rintro rfl
      obtain ⟨cur, fr, ho⟩ := own_obj o e
      rw [hr3] at ho
      cases ho)
    simpa using hr
  · rintro b ((hr | e) | hr)
    · exact Nat.lt_of_lt_of_le (h.lt b (.inl hr)) hs5
    · exact hv3l b e
    · exact Nat.lt_of_lt_of_le (h.lt b (.inr hr)) hs5
  · rintro b (hr | e) hr2
    · exact h.dis b hr hr2
    · rcases hv3 b e with h1 | h1
      · exact h.dis b h1 hr2
      · have := h.lt b (.inr hr2); omega
  · rintro b (hr | e)
    · exact .inl hr
    · rcases hv3 b e with h1 | h1
      · exact .inl h1
      · exact .inr (Nat.le_of_lt h1)
/-- A turn of the reference's own block alone. -/
theorem RefIs.turned {w w' : World} {r : Nat} {s s' : St} {rw ro : Nat → Prop} {vf vp : Value} (h : RefIs w r s rw ro vf vp) (T : Turn r w w') (hb : w'.heap[r]? = some (.cells (rcells s' vf vp) 99 (0, 0))) (e1 : s'.files = s.files) (e2 : s'.ops = s.ops) :
    RefAt w' r s' rw ro ∧ Kept w w' rw ro rw ro := by
  refine ⟨⟨vf, vp, hb, ?_, ?_, h.rwr, h.rwp, h.rof, fun b hb => by rw [T.size]; exact h.lt b hb, h.dis⟩, T.os, T.tape, T.output, by rw [T.size]; exact Nat.le_refl _, fun b _ hr => T.block b (by rintro rfl; exact hr h.rwr), fun b h => .inl h, fun b h => .inl h⟩
  · rw [e1]
    exact h.fls.kept (fun b e => T.block b (by rintro rfl; exact h.dis _ h.rwr (h.rof _ e))) (by rw [T.size]; exact Nat.le_refl _)
  · rw [e2]
    exact row_kept h.row fun b e => T.block b (by
      rintro rfl
      obtain ⟨cur, fr, ho⟩ := own_obj h.row e
      rw [h.blk] at ho
      cases ho)
end Go.Proofs.Ytlaodmpdngdhjaa
