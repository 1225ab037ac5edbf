/- What stands midway in 'make': the plain part. -/
import Derived.Test.YtlaodmpdngdhjaaDi
import Derived.Test.YtlaodmpdngdhjaaDap
namespace Go.Proofs.Ytlaodmpdngdhjaa
set_option linter.unusedVariables false
set_option linter.unusedSimpArgs false
open Go.RowKit Go.Maps Go.WideMaps

/-- What a call of a method leaves. -/
def Meth (w : World) (d : Nat) (s' : St) (rw ro : Nat → Prop) (v : Value) (e : Ending) (w' : World) : Prop :=
  e = .returned v ∧ ∃ rw' ro', DiskAt w' d s' rw' ro' ∧ Kept w w' rw ro rw' ro'
theorem own_form {w : World} {base : Nat} {e : TypeId} {size : Nat} {v : Value} {n : Nat} {xs : List Value} (h : w.ownsRow base e size v n xs) (hn : 0 < n) : ∃ g cap, v = .slice (some ⟨g, 0, none⟩) n cap := by
  rcases h.2 with ⟨_, h0⟩ | ⟨g, cap, cur, hv, _⟩
  · omega
  · exact ⟨g, cap, hv⟩
theorem own_obj {w : World} {base : Nat} {e : TypeId} {size : Nat} {v : Value} {n : Nat} {xs : List Value} (h : w.ownsRow base e size v n xs) {g : Nat} (hg : v.ownBlock = some g) : ∃ cur fr, w.heap[g]? = some (.cells cur e fr) := by
  rcases h.2 with ⟨rfl, h0⟩ | ⟨g', cap, cur, rfl, _, hb, _⟩
  · cases hg
  · obtain rfl : g' = g := by simpa [Value.ownBlock] using hg
    exact ⟨cur, _, hb⟩
theorem MapOf.obj {w : World} {b : Nat} {F : List File} (h : MapOf w (.map (some b)) F) : ∃ es c, w.heap[b]? = some (.map es c) := by
  rcases h with ⟨h1, _⟩ | ⟨b', n, D, h1, ⟨es, clock, h2, _⟩, _⟩
  · cases h1
  · cases h1
    exact ⟨_, _, h2⟩
theorem row_kept {w w' : World} {base : Nat} {e : TypeId} {size : Nat} {v : Value} {n : Nat} {xs : List Value} (h : w.ownsRow base e size v n xs) (hk : ∀ g, v.ownBlock = some g → w'.heap[g]? = w.heap[g]?) : w'.ownsRow base e size v n xs := by
  obtain ⟨h1, h2 | ⟨g, cap, cur, hv, hg, hb, h3⟩⟩ := h
  · exact ⟨h1, .inl h2⟩
  · exact ⟨h1, .inr ⟨g, cap, cur, hv, hg, by rw [hk g (by rw [hv]; rfl)]; exact hb, h3⟩⟩
theorem heap_lt {w : World} {b : Nat} {o : Obj} (h : w.heap[b]? = some o) : b < w.heap.size := (Array.getElem?_eq_some_iff.1 h).1

/-- Midway: the box of the change stands at the old end of the heap, the map holds F, the pending row is vp. -/
structure Mid (w : World) (d : Nat) (s : St) (rw ro : Nat → Prop) (vd : Value) (bf : Nat) (vp : Value) (fuse : Int) (n : Nat) (row : List Value) (cs : Array Value) (F : List File) (w0 : World) : Prop where
  os : w0.os = w.os
  tape : w0.tape = w.tape
  output : w0.output = w.output
  sz : w.heap.size < w0.heap.size
  blk : w0.heap[d]? = some (.cells (dcells s vd (.map (some bf)) vp fuse) 62 (0, 0))
  mapd : MapOf w0 vd s.files
  mapf : MapOf w0 (.map (some bf)) F
  box : w0.heap[w.heap.size]? = some (.cells cs 93 (0, 0))
  row : w0.ownsRow 0 93 2 vp n row
  hbf : rw bf ∨ w.heap.size < bf
  hvp : ∀ b, vp.ownBlock = some b → rw b ∨ w.heap.size < b
  hvd : vd ≠ .map (some bf)
  block : ∀ b, b < w.heap.size → ¬ rw b → w0.heap[b]? = w.heap[b]?
  lt : ∀ b, rw b → b < w.heap.size
  rwd : rw d

variable {w w0 w1 : World} {d : Nat} {s : St} {rw ro : Nat → Prop} {vd vf vp : Value} {bf : Nat} {fuse : Int} {n : Nat} {row : List Value} {cs : Array Value} {F G : List File} {fcs : List (List Value)}

theorem Mid.drew (h : Mid w d s rw ro vd bf vp fuse n row cs F w0) : Mid w d s rw ro vd bf vp fuse n row cs F w0.drew :=
  ⟨h.os, h.tape, h.output, h.sz, h.blk, h.mapd.kept fun _ _ => rfl, h.mapf.kept fun _ _ => rfl, h.box, h.row.drew, h.hbf, h.hvp, h.hvd, h.block, h.lt, h.rwd⟩
theorem Mid.start (h : DiskIs w d s rw ro vd (.map (some bf)) vp fuse fcs) : Mid w d s rw ro vd bf vp fuse s.ops.length fcs.flatten cs s.all (w.alloc (.cells cs 93)) := by
  have hk : ∀ b, b < w.heap.size → (w.alloc (.cells cs 93)).heap[b]? = w.heap[b]? := fun b hb => Below.heap_alloc w (.cells cs 93) b hb
  have h' := h.kept (w' := w.alloc (.cells cs 93)) (fun b hb => hk b (h.lt b hb)) (by simp)
  refine ⟨rfl, rfl, rfl, by simp, h'.blk, h'.mapd, h'.mapf, heap_alloc_new w _, h'.row, .inl (h.rwf bf rfl), fun b e => .inl (h.rwp b e), fun e => h.ne bf e rfl, fun b hb _ => hk b hb, fun b hb => h.lt b (.inl hb), h.rwd⟩
theorem Mid.start0 (h : DiskIs w d s rw ro vd (.map none) vp fuse fcs) : Mid w d s rw ro vd (w.heap.size + 1) vp fuse s.ops.length fcs.flatten cs s.all (((w.setCell ⟨d, 2, none⟩ (.map (some (w.heap.size + 1)))).alloc (.cells cs 93)).alloc (.map #[] 0)) := by
  have hd : d < w.heap.size := h.lt d (.inl h.rwd)
  have T := set_turn w d 2 (.map (some (w.heap.size + 1)))
  have hbd := set_heap h.blk 2 (.map (some (w.heap.size + 1)))
  obtain ⟨w1, hw1⟩ : ∃ w1, w.setCell ⟨d, 2, none⟩ (.map (some (w.heap.size + 1))) = w1 := ⟨_, rfl⟩
  rw [hw1] at T hbd ⊢
  obtain ⟨W, hW⟩ : ∃ W, (w1.alloc (.cells cs 93)).alloc (.map #[] 0) = W := ⟨_, rfl⟩
  have hWs : W.heap.size = w.heap.size + 2 := by rw [← hW, ← T.size]; simp
  have hk1 : ∀ b, b < w.heap.size → W.heap[b]? = w1.heap[b]? := fun b hb => by
    rw [← hW, Below.heap_alloc _ _ b (by have := T.size; simp; omega), Below.heap_alloc w1 _ b (by rw [T.size]; exact hb)]
  have hk : ∀ b, b < w.heap.size → b ≠ d → W.heap[b]? = w.heap[b]? := fun b hb hne => by rw [hk1 b hb, T.block b hne]
  have hbx : W.heap[w.heap.size]? = some (.cells cs 93 (0, 0)) := by
    rw [← hW, ← T.size, Below.heap_alloc _ _ _ (by simp)]; exact heap_alloc_new w1 _
  have hmp : MapOf W (.map (some (w.heap.size + 1))) [] := by
    have := MapOf.made (w1.alloc (.cells cs 93))
    rw [hW] at this
    simpa [T.size] using this
  have hall : s.all = [] := by
    rcases h.mapf with ⟨_, h2⟩ | ⟨b, n, D, h1, _⟩
    · exact h2
    · cases h1
  have ho : W.os = w.os ∧ W.tape = w.tape ∧ W.output = w.output := by rw [← hW]; exact ⟨T.os, T.tape, T.output⟩
  rw [hW]
  refine ⟨ho.1, ho.2.1, ho.2.2, by omega, ?_, ?_, ?_, hbx, ?_, .inr (by omega), fun b e => .inl (h.rwp b e), ?_, ?_, fun b hb => h.lt b (.inl hb), h.rwd⟩
  · rw [hk1 d hd, hbd]
    simp [dcells]
  · refine h.mapd.kept fun b e => ?_
    have hb := h.lt b (.inl (h.rwm b e))
    have hm := h.mapd
    rw [e] at hm
    obtain ⟨es, c, ho⟩ := hm.obj
    exact hk b hb (by rintro rfl; rw [h.blk] at ho; cases ho)
  · rw [hall]; exact hmp
  · refine row_kept h.row fun g hg => ?_
    have hb := h.lt g (.inl (h.rwp g hg))
    obtain ⟨cur, fr, ho⟩ := own_obj h.row hg
    exact hk g hb (by rintro rfl; rw [h.blk] at ho; cases ho)
  · intro e
    have := h.lt _ (.inl (h.rwm _ e))
    omega
  · intro b hb hr
    exact hk b hb (by rintro rfl; exact hr h.rwd)
theorem Mid.dbf (h : Mid w d s rw ro vd bf vp fuse n row cs F w0) : d ≠ bf := by
  rintro rfl
  obtain ⟨es, c, ho⟩ := h.mapf.obj
  rw [h.blk] at ho
  cases ho
theorem Mid.dvp (h : Mid w d s rw ro vd bf vp fuse n row cs F w0) : some d ≠ vp.ownBlock := by
  intro e
  obtain ⟨cur, fr, ho⟩ := own_obj h.row e.symm
  rw [h.blk] at ho
  cases ho
theorem Mid.bfvp (h : Mid w d s rw ro vd bf vp fuse n row cs F w0) : some bf ≠ vp.ownBlock := by
  intro e
  obtain ⟨es, c, ho⟩ := h.mapf.obj
  obtain ⟨cur, fr, ho'⟩ := own_obj h.row e.symm
  rw [ho'] at ho
  cases ho
/-- The change was applied to the map. -/
theorem Mid.turn (h : Mid w d s rw ro vd bf vp fuse n row cs F w0) (g : w0.grownBy w1 (some bf)) (hm : MapOf w1 (.map (some bf)) G) : Mid w d s rw ro vd bf vp fuse n row cs G w1 := by
  obtain ⟨g1, g2, g3, g4, g5⟩ := g
  have hbox : w.heap.size ≠ bf := by
    rcases h.hbf with h1 | h1
    · have := h.lt _ h1; omega
    · omega
  refine ⟨g1.trans h.os, g2.trans h.tape, g3.trans h.output, Nat.lt_of_lt_of_le h.sz g4, ?_, ?_, hm, ?_, ?_, h.hbf, h.hvp, h.hvd, ?_, h.lt, h.rwd⟩
  · rw [g5 d (heap_lt h.blk) (by simpa using h.dbf)]; exact h.blk
  · refine h.mapd.kept fun b e => ?_
    have hm := h.mapd
    rw [e] at hm
    refine g5 b hm.lt ?_
    intro e2
    cases e2
    exact h.hvd e
  · rw [g5 _ h.sz (by simpa using hbox)]; exact h.box
  · exact row_kept h.row fun g hg => by
      obtain ⟨cur, fr, ho⟩ := own_obj h.row hg
      refine g5 g (heap_lt ho) ?_
      intro e2
      cases e2
      exact h.bfvp hg.symm
  · intro b hb hr
    rw [g5 b (Nat.lt_trans hb h.sz) ?_]
    · exact h.block b hb hr
    · intro e2
      cases e2
      rcases h.hbf with h1 | h1
      · exact hr h1
      · omega
/-- The change was appended, and the row stored. -/
theorem Mid.push (h : Mid w d s rw ro vd bf vp fuse n row cs F w0) {w3 : World} {X : Obj} {v3 : Value} {n3 : Nat} {row3 : List Value} (g : (w0.alloc X).grownBy w3 vp.ownBlock) (o : w3.ownsRow 0 93 2 v3 n3 row3)
    (p : v3.ownBlock = vp.ownBlock ∨ v3.ownBlock = some (w0.alloc X).heap.size) : Mid w d s rw ro vd bf v3 fuse n3 row3 cs F (w3.setCell ⟨d, 3, none⟩ v3) := by
  have hk : ∀ b, b < w0.heap.size → some b ≠ vp.ownBlock → w3.heap[b]? = w0.heap[b]? := fun b hb hne => by
    rw [g.block b (by simp; omega) hne, Below.heap_alloc w0 X b hb]
  have hbd := hk d (heap_lt h.blk) h.dvp
  have T := set_turn w3 d 3 v3
  have hs : w0.heap.size + 1 ≤ w3.heap.size := by have := g.size; simpa using this
  have hv3 : ∀ b, v3.ownBlock = some b → rw b ∨ w.heap.size < b := by
    intro b e
    rcases p with p | p
    · exact h.hvp b (p ▸ e)
    · rw [p] at e
      simp at e
      have := h.sz
      exact .inr (by omega)
  refine ⟨T.os.trans (g.os.trans h.os), T.tape.trans (g.tape.trans h.tape), T.output.trans (g.output.trans h.output), by rw [T.size]; have := h.sz; omega, ?_, ?_, ?_, ?_, ?_, h.hbf, hv3, h.hvd, ?_, h.lt, h.rwd⟩
  · rw [set_heap (by rw [hbd]; exact h.blk) 3 _]
    simp [dcells]
  · refine h.mapd.kept fun b e => ?_
    have hm := h.mapd
    rw [e] at hm
    obtain ⟨es, c, ho⟩ := hm.obj
    rw [T.block b (by rintro rfl; rw [h.blk] at ho; cases ho), hk b hm.lt ?_]
    intro e2
    obtain ⟨cur, fr, ho'⟩ := own_obj h.row e2.symm
    rw [ho'] at ho
    cases ho
  · refine h.mapf.kept fun b e => ?_
    cases e
    rw [T.block _ h.dbf.symm, hk bf h.mapf.lt h.bfvp]
  · have hb := h.box
    rw [T.block _ (by
      rintro rfl
      rw [h.blk] at hb
      cases hb), hk _ h.sz ?_]
    · exact h.box
    · intro e
      rcases h.hvp _ e.symm with h1 | h1
      · have := h.lt _ h1; omega
      · omega
  · refine row_kept o fun b e => T.block b ?_
    rintro rfl
    obtain ⟨cur, fr, ho⟩ := own_obj o e
    rw [hbd, h.blk] at ho
    cases ho
  · intro b hb hr
    rw [T.block b ?_, hk b (Nat.lt_trans hb h.sz) ?_]
    · exact h.block b hb hr
    · intro e
      rcases h.hvp b e.symm with h1 | h1
      · exact hr h1
      · omega
    · rintro rfl
      exact hr h.rwd
theorem Mid.blk3 (h : Mid w d s rw ro vd bf vp fuse n row cs F w0) {w3 : World} {X : Obj} (g : (w0.alloc X).grownBy w3 vp.ownBlock) : w3.heap[d]? = some (.cells (dcells s vd (.map (some bf)) vp fuse) 62 (0, 0)) := by
  rw [g.block d (by have := heap_lt h.blk; simp; omega) h.dvp, Below.heap_alloc w0 X d (heap_lt h.blk)]
  exact h.blk
/-- From midway to the end. -/
theorem Mid.pack {w4 w5 : World} {c : Chg} {cl : List Value} {v3 : Value} {fuse3 : Int} (h : DiskIs w d s rw ro vd vf vp fuse fcs) (hc : ChgAt w ro cl c) (m : Mid w d s rw ro vd bf v3 fuse (s.ops.length + 1) (fcs.flatten ++ cl) cs (appl s.all c) w4)
    (T : Turn d w4 w5) (hb : w5.heap[d]? = some (.cells (dcells (s.push c) vd (.map (some bf)) v3 fuse3) 62 (0, 0))) (hf : 0 < (s.push c).left → fuse3 = (s.push c).left) :
    Meth w d (s.push c) rw ro (.int .i64 0) (.returned (.int .i64 0)) w5 := by
  have hk : ∀ b, b < w.heap.size → ¬ rw b → w5.heap[b]? = w.heap[b]? := fun b hb hr => by
    rw [T.block b (by rintro rfl; exact hr h.rwd), m.block b hb hr]
  have hro : ∀ b, ro b → w5.heap[b]? = w.heap[b]? := fun b hb => hk b (h.lt b (.inr hb)) fun hr => h.dis b hr hb
  have hs : w.heap.size < w5.heap.size := by rw [T.size]; exact m.sz
  obtain ⟨e1, e2, e3⟩ := spend_same { s with ops := s.ops ++ [c] }
  have ef : (s.push c).files = s.files := e2
  have eo : (s.push c).ops = s.ops ++ [c] := e3
  have hbf : bf < w5.heap.size := by rw [T.size]; exact m.mapf.lt
  have hv3 : ∀ b, v3.ownBlock = some b → b < w5.heap.size := fun b e => by
    obtain ⟨cur, fr, ho⟩ := own_obj m.row e
    rw [T.size]; exact heap_lt ho
  refine ⟨rfl, fun b => rw b ∨ b = bf ∨ v3.ownBlock = some b, ro, ⟨vd, .map (some bf), v3, fuse3, fcs ++ [cl], ?_⟩, ?_⟩
  · refine ⟨hb, hf, ?_, ?_, ?_, ?_, .inl h.rwd, fun b e => .inl (h.rwm b e), fun b e => by cases e; exact .inr (.inl rfl), fun b e => .inr (.inr e), fun b e1 e2 => m.hvd (e2 ▸ e1), ?_, ?_⟩
    · rw [ef]
      refine m.mapd.kept fun b e => T.block b ?_
      rintro rfl
      have hm := m.mapd
      rw [e] at hm
      obtain ⟨es, cc, ho⟩ := hm.obj
      rw [m.blk] at ho
      cases ho
    · rw [push_all]
      refine m.mapf.kept fun b e => T.block b ?_
      cases e
      exact m.dbf.symm
    · rw [eo]
      have hr : w5.ownsRow 0 93 2 v3 (s.ops.length + 1) (fcs.flatten ++ cl) := row_kept m.row fun b e => T.block b (by rintro rfl; exact m.dvp e.symm)
      simpa using hr
    · rw [eo]
      exact (h.chg.kept hro fun _ hb => hb).snoc (hc.kept hro fun _ hb => hb)
    · rintro b ((hr | rfl | hr) | hr)
      · exact Nat.lt_trans (h.lt b (.inl hr)) hs
      · exact hbf
      · exact hv3 b hr
      · exact Nat.lt_trans (h.lt b (.inr hr)) hs
    · rintro b (hr | rfl | hr) hr2
      · exact h.dis b hr hr2
      · rcases m.hbf with h1 | h1
        · exact h.dis _ h1 hr2
        · have := h.lt _ (.inr hr2); omega
      · rcases m.hvp b hr with h1 | h1
        · exact h.dis _ h1 hr2
        · have := h.lt _ (.inr hr2); omega
  · refine ⟨T.os.trans m.os, T.tape.trans m.tape, T.output.trans m.output, Nat.le_of_lt hs, hk, ?_, fun b hb => .inl hb⟩
    rintro b (hr | rfl | hr)
    · exact .inl hr
    · rcases m.hbf with h1 | h1
      · exact .inl h1
      · exact .inr (Nat.le_of_lt h1)
    · rcases m.hvp b hr with h1 | h1
      · exact .inl h1
      · exact .inr (Nat.le_of_lt h1)
end Go.Proofs.Ytlaodmpdngdhjaa
