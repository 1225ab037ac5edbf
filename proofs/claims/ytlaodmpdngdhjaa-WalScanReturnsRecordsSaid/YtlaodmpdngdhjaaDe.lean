/- The program's disk in memory. -/
import Derived.Test.YtlaodmpdngdhjaaDd
namespace Go.Proofs.Ytlaodmpdngdhjaa
set_option linter.unusedVariables false
set_option linter.unusedSimpArgs false
open Go.RowKit Go.Maps Go.WideMaps

abbrev ptr (b : Nat) : Value := .pointer (some ⟨b, 0, none⟩)
/-- The two cells of a pending change: a closure over boxes that are never written. -/
def ChgAt (w : World) (ro : Nat → Prop) (cs : List Value) : Chg → Prop
  | .app n b => ∃ bd bn, cs = [.func (.func 73) #[] #[ptr bd, ptr bn], .bool true] ∧ w.cell? ⟨bd, 0, none⟩ = some (.string b) ∧ w.cell? ⟨bn, 0, none⟩ = some (.string n) ∧ ro bd ∧ ro bn ∧ n.size ≤ 32
  | .ren a b => ∃ ba bb, cs = [.func (.func 78) #[] #[ptr ba, ptr bb], .bool false] ∧ w.cell? ⟨ba, 0, none⟩ = some (.string a) ∧ w.cell? ⟨bb, 0, none⟩ = some (.string b) ∧ ro ba ∧ ro bb ∧ a.size ≤ 32 ∧ b.size ≤ 32
  | .del n => ∃ bn, cs = [.func (.func 79) #[] #[ptr bn], .bool false] ∧ w.cell? ⟨bn, 0, none⟩ = some (.string n) ∧ ro bn ∧ n.size ≤ 32
/-- The changes, one after the other. -/
def ChgsAt (w : World) (ro : Nat → Prop) : List (List Value) → List Chg → Prop
  | [], [] => True
  | cs :: r, c :: l => ChgAt w ro cs c ∧ ChgsAt w ro r l
  | _, _ => False
def dcells (s : St) (vd vf vp : Value) (fuse : Int) : Array Value :=
  #[.int .i64 s.cap, vd, vf, vp, .bool s.off, .bool (decide (0 < s.left)), .int .i64 fuse]
/-- Block d is a disk in this state; it may write the blocks rw alone; it reads the blocks ro besides. -/
structure DiskIs (w : World) (d : Nat) (s : St) (rw ro : Nat → Prop) (vd vf vp : Value) (fuse : Int) (fcs : List (List Value)) : Prop where
  blk : w.heap[d]? = some (.cells (dcells s vd vf vp fuse) 62 (0, 0))
  fus : 0 < s.left → fuse = s.left
  mapd : MapOf w vd s.files
  mapf : MapOf w vf s.all
  row : w.ownsRow 0 93 2 vp s.ops.length fcs.flatten
  chg : ChgsAt w ro fcs s.ops
  rwd : rw d
  rwm : ∀ b, vd = .map (some b) → rw b
  rwf : ∀ b, vf = .map (some b) → rw b
  rwp : ∀ b, vp.ownBlock = some b → rw b
  ne : ∀ b, vd = .map (some b) → vf = .map (some b) → False
  lt : ∀ b, rw b ∨ ro b → b < w.heap.size
  dis : ∀ b, rw b → ro b → False
def DiskAt (w : World) (d : Nat) (s : St) (rw ro : Nat → Prop) : Prop := ∃ vd vf vp fuse fcs, DiskIs w d s rw ro vd vf vp fuse fcs

/-- What a call leaves as it was, and what it may have made. -/
structure Kept (w w' : World) (rw ro rw' ro' : Nat → Prop) : Prop where
  os : w'.os = w.os
  tape : w'.tape = w.tape
  output : w'.output = w.output
  size : w.heap.size ≤ w'.heap.size
  block : ∀ b, b < w.heap.size → ¬ rw b → w'.heap[b]? = w.heap[b]?
  rw1 : ∀ b, rw' b → rw b ∨ w.heap.size ≤ b
  ro1 : ∀ b, ro' b → ro b ∨ w.heap.size ≤ b

theorem ChgAt.kept {w w' : World} {ro ro' : Nat → Prop} {cs : List Value} {c : Chg} (h : ChgAt w ro cs c) (hk : ∀ b, ro b → w'.heap[b]? = w.heap[b]?) (hr : ∀ b, ro b → ro' b) : ChgAt w' ro' cs c := by
  cases c with
  | app n b =>
    obtain ⟨bd, bn, h1, h2, h3, h4, h5, h6⟩ := h
    exact ⟨bd, bn, h1, by rw [World.cell?_of_block (hk bd h4)]; exact h2, by rw [World.cell?_of_block (hk bn h5)]; exact h3, hr _ h4, hr _ h5, h6⟩
  | ren a b =>
    obtain ⟨bd, bn, h1, h2, h3, h4, h5, h6⟩ := h
    exact ⟨bd, bn, h1, by rw [World.cell?_of_block (hk bd h4)]; exact h2, by rw [World.cell?_of_block (hk bn h5)]; exact h3, hr _ h4, hr _ h5, h6⟩
  | del n =>
    obtain ⟨bn, h1, h2, h3, h4⟩ := h
    exact ⟨bn, h1, by rw [World.cell?_of_block (hk bn h3)]; exact h2, hr _ h3, h4⟩
theorem ChgsAt.kept {w w' : World} {ro ro' : Nat → Prop} (hk : ∀ b, ro b → w'.heap[b]? = w.heap[b]?) (hr : ∀ b, ro b → ro' b) : ∀ {l : List (List Value)} {m : List Chg}, ChgsAt w ro l m → ChgsAt w' ro' l m
  | [], [], _ => trivial
  | _ :: _, _ :: _, h => ⟨h.1.kept hk hr, h.2.kept hk hr⟩
  | [], _ :: _, h => h
  | _ :: _, [], h => h
theorem ChgsAt.snoc {w : World} {ro : Nat → Prop} {cs : List Value} {c : Chg} (hc : ChgAt w ro cs c) : ∀ {l : List (List Value)} {m : List Chg}, ChgsAt w ro l m → ChgsAt w ro (l ++ [cs]) (m ++ [c])
  | [], [], _ => ⟨hc, trivial⟩
  | _ :: _, _ :: _, h => ⟨h.1, ChgsAt.snoc hc h.2⟩
  | [], _ :: _, h => h.elim
  | _ :: _, [], h => h.elim
theorem ChgsAt.get {w : World} {ro : Nat → Prop} : ∀ {l : List (List Value)} {m : List Chg}, ChgsAt w ro l m → ∀ {i : Nat} {c : Chg}, m[i]? = some c → ∃ cs, l[i]? = some cs ∧ ChgAt w ro cs c
  | [], [], _, _, _, h => by simp at h
  | cs :: _, _ :: _, h, 0, c, hc => by
    simp only [List.getElem?_cons_zero, Option.some.injEq] at hc
    subst hc
    exact ⟨cs, rfl, h.1⟩
  | _ :: _, _ :: _, h, i + 1, c, hc => ChgsAt.get h.2 (i := i) (by simpa using hc)
  | [], _ :: _, h, _, _, _ => h.elim
  | _ :: _, [], h, _, _, _ => h.elim

/-- The disk stays what it is while other blocks turn. -/
theorem DiskIs.kept {w w' : World} {d : Nat} {s : St} {rw ro : Nat → Prop} {vd vf vp : Value} {fuse : Int} {fcs : List (List Value)} (h : DiskIs w d s rw ro vd vf vp fuse fcs)
    (hk : ∀ b, rw b ∨ ro b → w'.heap[b]? = w.heap[b]?) (hs : w.heap.size ≤ w'.heap.size) : DiskIs w' d s rw ro vd vf vp fuse fcs := by
  refine ⟨by rw [hk d (.inl h.rwd)]; exact h.blk, h.fus, h.mapd.kept fun b e => hk b (.inl (h.rwm b e)), h.mapf.kept fun b e => hk b (.inl (h.rwf b e)), ?_, h.chg.kept (fun b hb => hk b (.inr hb)) (fun _ hb => hb), h.rwd, h.rwm, h.rwf, h.rwp, h.ne, fun b hb => Nat.lt_of_lt_of_le (h.lt b hb) hs, h.dis⟩
  obtain ⟨h1, h2 | ⟨g, cap, cur, hv, hg, hb, h3⟩⟩ := h.row
  · exact ⟨h1, .inl h2⟩
  · exact ⟨h1, .inr ⟨g, cap, cur, hv, hg, by rw [hk g (.inl (h.rwp g (by rw [hv]; rfl)))]; exact hb, h3⟩⟩
theorem DiskAt.kept {w w' : World} {d : Nat} {s : St} {rw ro : Nat → Prop} (h : DiskAt w d s rw ro) (hk : ∀ b, rw b ∨ ro b → w'.heap[b]? = w.heap[b]?) (hs : w.heap.size ≤ w'.heap.size) : DiskAt w' d s rw ro := by
  obtain ⟨vd, vf, vp, fuse, fcs, h⟩ := h
  exact ⟨vd, vf, vp, fuse, fcs, h.kept hk hs⟩
theorem DiskAt.below {w w' : World} {d : Nat} {s : St} {rw ro : Nat → Prop} (h : DiskAt w d s rw ro) (hb : Below w.heap.size w w') : DiskAt w' d s rw ro := by
  have hl : ∀ b, rw b ∨ ro b → b < w.heap.size := by
    obtain ⟨vd, vf, vp, fuse, fcs, h⟩ := h
    exact h.lt
  exact h.kept (fun b hr => hb.block b (hl b hr)) hb.size
end Go.Proofs.Ytlaodmpdngdhjaa
