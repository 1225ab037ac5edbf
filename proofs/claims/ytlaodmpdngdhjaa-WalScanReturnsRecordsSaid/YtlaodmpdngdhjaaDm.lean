/- Append, Rename, Remove of the program's disk. -/
import Derived.Test.YtlaodmpdngdhjaaDk
import Derived.Test.YtlaodmpdngdhjaaDl
namespace Go.Proofs.Ytlaodmpdngdhjaa
set_option linter.unusedVariables false
set_option linter.unusedSimpArgs false
open Go.RowKit Go.Maps Go.WideMaps

theorem Kept.trans {a b c : World} {rw ro rw1 ro1 rw2 ro2 : Nat → Prop} (h : Kept a b rw ro rw1 ro1) (k : Kept b c rw1 ro1 rw2 ro2) : Kept a c rw ro rw2 ro2 := by
  refine ⟨k.os.trans h.os, k.tape.trans h.tape, k.output.trans h.output, Nat.le_trans h.size k.size, fun i hi hr => ?_, fun i hi => ?_, fun i hi => ?_⟩
  · rw [k.block i (Nat.lt_of_lt_of_le hi h.size) fun e => ?_, h.block i hi hr]
    rcases h.rw1 i e with h1 | h1
    · exact hr h1
    · omega
  · rcases k.rw1 i hi with h1 | h1
    · exact h.rw1 i h1
    · exact .inr (Nat.le_trans h.size h1)
  · rcases k.ro1 i hi with h1 | h1
    · exact h.ro1 i h1
    · exact .inr (Nat.le_trans h.size h1)
theorem Kept.below {w w' : World} {rw ro : Nat → Prop} (h : Below w.heap.size w w') : Kept w w' rw ro rw ro :=
  ⟨h.os, h.tape, h.output, h.size, fun b hb _ => h.block b hb, fun _ h => .inl h, fun _ h => .inl h⟩
theorem Meth.mk {w w' : World} {d : Nat} {s : St} {rw ro : Nat → Prop} (v : Value) (h : DiskAt w d s rw ro) (hb : Below w.heap.size w w') : Meth w d s rw ro v (.returned v) w' :=
  ⟨rfl, rw, ro, h.below hb, Kept.below hb⟩
theorem Meth.after {w w1 w' : World} {d : Nat} {s : St} {rw ro rw1 ro1 : Nat → Prop} {v : Value} {e : Ending} (k : Kept w w1 rw ro rw1 ro1) (h : Meth w1 d s rw1 ro1 v e w') : Meth w d s rw ro v e w' := by
  obtain ⟨h1, rw', ro', h2, h3⟩ := h
  exact ⟨h1, rw', ro', h2, k.trans h3⟩
/-- More blocks are read. -/
theorem DiskAt.more {w : World} {d : Nat} {s : St} {rw ro ro' : Nat → Prop} (h : DiskAt w d s rw ro) (h1 : ∀ b, ro b → ro' b) (h2 : ∀ b, ro' b → ro b ∨ (b < w.heap.size ∧ ¬ rw b)) : DiskAt w d s rw ro' := by
  obtain ⟨vd, vf, vp, fuse, fcs, h⟩ := h
  refine ⟨vd, vf, vp, fuse, fcs, h.blk, h.fus, h.mapd, h.mapf, h.row, h.chg.kept (fun _ _ => rfl) h1, h.rwd, h.rwm, h.rwf, h.rwp, h.ne, ?_, ?_⟩
  · rintro b (hb | hb)
    · exact h.lt b (.inl hb)
    · rcases h2 b hb with h3 | h3
      · exact h.lt b (.inr h3)
      · exact h3.1
  · intro b hb hr
    rcases h2 b hr with h3 | h3
    · exact h.dis b hb h3
    · exact h3.2 hb
theorem has_look (s : St) (n : ByteArray) : decide (s.has n) = (look s.all n).isSome := by
  have := idx_le s.all n
  by_cases h : idx s.all n < s.all.length
  · rw [(look_some h).2, decide_eq_true (show s.has n from h)]; rfl
  · rw [look_none.2 (by omega), decide_eq_false (show ¬ s.has n from h)]; rfl
theorem fits_full (s : St) (n b : ByteArray) : fitsB s.cap s.all n b.size = !decide (s.full n b) := by
  unfold fitsB St.full
  have h := has_look s n
  cases hl : look s.all n with
  | none =>
    rw [hl] at h
    have h1 : ¬ s.has n := by simpa using h
    by_cases h2 : 16 ≤ s.all.length
    · simp [h1, h2]
    · simp [h1, h2]
      by_cases h3 : s.cap < szs s.all + b.size
      · simp [h3]; omega
      · simp [h3]; omega
  | some c =>
    rw [hl] at h
    have h1 : s.has n := by simpa using h
    simp [h1]
    by_cases h3 : s.cap < szs s.all + b.size
    · simp [h3]; omega
    · simp [h3]; omega
/-- What the calls within a method need of the disk, in any later world. -/
structure Within (w : World) (d : Nat) (s : St) (rw ro : Nat → Prop) : Prop where
  down : ∀ W, Below w.heap.size w W → Calls Try.prog 66 #[ptr d] W fun e w' => e = .returned (.bool s.off) ∧ w' = W
  has : ∀ W x, Below w.heap.size w W → x.size ≤ maxLen → Calls Try.prog 75 #[ptr d, .string x] W fun e w' => e = .returned (.bool (decide (s.has x))) ∧ w' = W
  fits : ∀ W x (b : ByteArray), Below w.heap.size w W → x.size ≤ maxLen → b.size ≤ 140737488355328 → Calls Try.prog 71 #[ptr d, .string x, .int .i64 b.size] W fun e w' => e = .returned (.bool (!decide (s.full x b))) ∧ Below W.heap.size W w'
theorem DiskAt.within {w : World} {d : Nat} {s : St} {rw ro : Nat → Prop} (h : DiskAt w d s rw ro) {M : Nat} (hg : Good s M) (hM : M ≤ 500000) : Within w d s rw ro := by
  have key : ∀ W, Below w.heap.size w W → DiskAt W d s rw ro := fun W hb => h.below hb
  refine ⟨fun W hb => ?_, fun W x hb hx => ?_, fun W x b hb hx hbs => ?_⟩
  · obtain ⟨vd, vf, vp, fuse, fcs, h⟩ := key W hb
    exact down_any d #[] W s.off ((row_cells h.blk).1 4)
  · obtain ⟨vd, vf, vp, fuse, fcs, h⟩ := key W hb
    rw [has_look]
    exact has_any d vf s.all x W ((row_cells h.blk).1 2) h.mapf hx
  · obtain ⟨vd, vf, vp, fuse, fcs, h⟩ := key W hb
    have := hg.szAll
    rw [← fits_full]
    exact fits_any d vf s.cap s.all x b.size W ((row_cells h.blk).1 0) ((row_cells h.blk).1 2) h.mapf (heap_lt h.blk) hx hg.ndAll (by omega) (by omega) hg.cap (by omega)


theorem cell_lt {w : World} {b i : Nat} {v : Value} (h : w.cell? ⟨b, i, none⟩ = some v) : b < w.heap.size := by
  by_cases hq : b < w.heap.size
  · exact hq
  · unfold World.cell? at h
    simp [Array.getElem?_eq_none (Nat.le_of_not_lt hq)] at h
/-- New boxes: the disk's later reads take them in. -/
theorem DiskAt.boxes {w w2 : World} {d : Nat} {s : St} {rw ro : Nat → Prop} (h : DiskAt w d s rw ro) (hB : Below w.heap.size w w2) {p : Nat → Prop} (hp : ∀ b, p b → w.heap.size ≤ b ∧ b < w2.heap.size) :
    DiskAt w2 d s rw (fun b => ro b ∨ p b) ∧ Kept w w2 rw ro rw (fun b => ro b ∨ p b) := by
  have hl : ∀ b, rw b → b < w.heap.size := by
    obtain ⟨vd, vf, vp, fuse, fcs, h⟩ := h
    exact fun b hb => h.lt b (.inl hb)
  refine ⟨(h.below hB).more (fun b hb => .inl hb) ?_, hB.os, hB.tape, hB.output, hB.size, fun b hb _ => hB.block b hb, fun _ h => .inl h, ?_⟩
  · rintro b (hb | hb)
    · exact .inl hb
    · exact .inr ⟨(hp b hb).2, fun hr => by have := hl b hr; have := (hp b hb).1; omega⟩
  · rintro b (hb | hb)
    · exact .inl hb
    · exact .inr (hp b hb).1
theorem make73_new {w w2 : World} {d : Nat} {s : St} {rw ro : Nat → Prop} {M : Nat} (h : DiskAt w d s rw ro) (hg : Good s M) (hM : M ≤ 500000) (hB : Below w.heap.size w w2) (bd bn : Nat) (n b : ByteArray) (h1 : w.heap.size ≤ bd) (h2 : w.heap.size ≤ bn)
    (c1 : w2.cell? ⟨bd, 0, none⟩ = some (.string b)) (c2 : w2.cell? ⟨bn, 0, none⟩ = some (.string n)) (hn : n.size ≤ 32) (hb : b.size ≤ 500000) :
    Calls Try.prog 72 #[ptr d, .agg #[.func (.func 73) #[] #[ptr bd, ptr bn], .bool true]] w2 (Meth w d (s.push (.app n b)) rw ro (.int .i64 0)) := by
  obtain ⟨k1, k2⟩ := h.boxes hB (p := fun x => x = bd ∨ x = bn) (by rintro x (rfl | rfl); exact ⟨h1, cell_lt c1⟩; exact ⟨h2, cell_lt c2⟩)
  refine (make73 d s _ _ M bd bn n b w2 k1 hg hM ⟨bd, bn, rfl, c1, c2, .inr (.inl rfl), .inr (.inr rfl), hn⟩ trivial hb).mono ?_
  intro e w' hm
  exact hm.after k2
theorem make78_new {w w2 : World} {d : Nat} {s : St} {rw ro : Nat → Prop} {M : Nat} (h : DiskAt w d s rw ro) (hg : Good s M) (hM : M ≤ 500000) (hB : Below w.heap.size w w2) (ba bb : Nat) (x y : ByteArray) (h1 : w.heap.size ≤ ba) (h2 : w.heap.size ≤ bb)
    (c1 : w2.cell? ⟨ba, 0, none⟩ = some (.string x)) (c2 : w2.cell? ⟨bb, 0, none⟩ = some (.string y)) (hx : x.size ≤ 32) (hy : y.size ≤ 32) (ho : s.has x) :
    Calls Try.prog 72 #[ptr d, .agg #[.func (.func 78) #[] #[ptr ba, ptr bb], .bool false]] w2 (Meth w d (s.push (.ren x y)) rw ro (.int .i64 0)) := by
  obtain ⟨k1, k2⟩ := h.boxes hB (p := fun x => x = ba ∨ x = bb) (by rintro x (rfl | rfl); exact ⟨h1, cell_lt c1⟩; exact ⟨h2, cell_lt c2⟩)
  refine (make78 d s _ _ M ba bb x y w2 k1 hg hM ⟨ba, bb, rfl, c1, c2, .inr (.inl rfl), .inr (.inr rfl), hx, hy⟩ ho (Nat.zero_le _)).mono ?_
  intro e w' hm
  exact hm.after k2
theorem make79_new {w w2 : World} {d : Nat} {s : St} {rw ro : Nat → Prop} {M : Nat} (h : DiskAt w d s rw ro) (hg : Good s M) (hM : M ≤ 500000) (hB : Below w.heap.size w w2) (bn : Nat) (n : ByteArray) (h1 : w.heap.size ≤ bn)
    (c1 : w2.cell? ⟨bn, 0, none⟩ = some (.string n)) (hn : n.size ≤ 32) :
    Calls Try.prog 72 #[ptr d, .agg #[.func (.func 79) #[] #[ptr bn], .bool false]] w2 (Meth w d (s.push (.del n)) rw ro (.int .i64 0)) := by
  obtain ⟨k1, k2⟩ := h.boxes hB (p := fun x => x = bn) (by rintro x rfl; exact ⟨h1, cell_lt c1⟩)
  refine (make79 d s _ _ M bn n w2 k1 hg hM ⟨bn, rfl, c1, .inr rfl, hn⟩ trivial (Nat.zero_le _)).mono ?_
  intro e w' hm
  exact hm.after k2
theorem valid_size {n : ByteArray} (h : valid n = true) : n.size ≤ 32 := by
  unfold valid at h
  rw [Bool.and_eq_true] at h
  exact (of_decide_eq_true h.1).2
theorem two_cells (w : World) (x y : Value) (t u : TypeId) : ((w.alloc (.cells #[x] t)).alloc (.cells #[y] u)).cell? ⟨w.heap.size, 0, none⟩ = some x ∧ ((w.alloc (.cells #[x] t)).alloc (.cells #[y] u)).cell? ⟨w.heap.size + 1, 0, none⟩ = some y := by
  constructor
  · rw [World.cell?_of_block (Below.heap_alloc _ _ _ (by simp))]
    exact (row_cells (heap_alloc_new w _)).1 0
  · have := (row_cells (heap_alloc_new (w.alloc (.cells #[x] t)) (.cells #[y] u))).1 0
    simp
set_option maxRecDepth 100000 in
set_option maxHeartbeats 2000000 in
theorem append_gen (d : Nat) (s : St) (rw ro : Nat → Prop) (M : Nat) (n b : ByteArray) (w : World) (h : DiskAt w d s rw ro) (hg : Good s M) (hM : M ≤ 500000) (hn : n.size ≤ maxLen) (hb : b.size ≤ 140737488355328) (hbf : ¬ s.full n b → b.size ≤ 500000) :
    Calls Try.prog 31 #[ptr d, .string n, .string b] w (Meth w d (s.append n b).1 rw ro (.int .i64 (s.append n b).2)) := by
  have HW := Lib.hid (h.within hg hM)
  have HH := Lib.hid h
  have HG := Lib.hid hg
  have HV := Lib.hid fun W => valid_any n W hn
  have HN := Lib.hid hn
  have HB := Lib.hid (show Below w.heap.size w ((w.alloc (.cells #[.string n] 9)).alloc (.cells #[.string b] 9)) from ((Below.refl _ _).alloc (Nat.le_refl _) _).alloc (by simp) _)
  have HDN := Lib.hid (HW.out.down _ HB.out)
  clear h hg
  cases hoff : s.off with
  | true =>
    rw [show s.append n b = (s, 25) by unfold St.append; rw [if_pos hoff]]
    rw [hoff] at HDN
    go_enter Try.func31, Try.ntmps31
    go_wp2_with (go_at_call 66; refine HDN.out.mono ?_; rintro e w2 ⟨rfl, rfl⟩)
    go_ret
    exact Meth.mk _ HH.out HB.out
  | false =>
    rw [hoff] at HDN
    cases hv : valid n with
    | false =>
      rw [show s.append n b = (s, 14) by unfold St.append; rw [if_neg (by rw [hoff]; decide), if_pos hv]]
      rw [hv] at HV
      go_enter Try.func31, Try.ntmps31
      go_wp2_with fail
      refine HDN.out.mono ?_
      rintro e w2 ⟨rfl, rfl⟩
      go_wp2_with fail
      refine (HV.out _).mono ?_
      rintro e w2 ⟨rfl, rfl⟩
      go_wp2_with fail
      go_ret
      exact Meth.mk _ HH.out HB.out
    | true =>
      rw [hv] at HV
      have HF := Lib.hid (HW.out.fits _ n b HB.out hn hb)
      by_cases hfull : s.full n b
      · rw [show s.append n b = (s, 26) by unfold St.append; rw [if_neg (by rw [hoff]; decide), if_neg (by rw [hv]; decide), if_pos hfull]]
        rw [decide_eq_true hfull] at HF
        go_enter Try.func31, Try.ntmps31
        go_wp2_with fail
        refine HDN.out.mono ?_
        rintro e w2 ⟨rfl, rfl⟩
        go_wp2_with fail
        refine (HV.out _).mono ?_
        rintro e w2 ⟨rfl, rfl⟩
        go_wp2_with fail
        refine HF.out.mono ?_
        rintro e w2 ⟨rfl, hb2⟩
        have HB2 := Lib.hid hb2
        clear hb2
        go_wp2_with fail
        go_ret
        exact Meth.mk _ HH.out (HB.out.trans (HB2.out.mono HB.out.size))
      · rw [show s.append n b = (s.push (.app n b), 0) by unfold St.append; rw [if_neg (by rw [hoff]; decide), if_neg (by rw [hv]; decide), if_neg hfull]]
        rw [decide_eq_false hfull] at HF
        go_enter Try.func31, Try.ntmps31
        go_wp2_with fail
        refine HDN.out.mono ?_
        rintro e w2 ⟨rfl, rfl⟩
        go_wp2_with fail
        refine (HV.out _).mono ?_
        rintro e w2 ⟨rfl, rfl⟩
        go_wp2_with fail
        refine HF.out.mono ?_
        rintro e w2 ⟨rfl, hb2⟩
        have HB2 := Lib.hid hb2
        clear hb2
        go_wp2_with fail
        refine (make73_new HH.out HG.out hM (HB.out.trans (HB2.out.mono HB.out.size)) _ _ n b (by omega) (by omega) (by rw [HB2.out.cell (by simp)]; exact (two_cells _ _ _ _ _).2) (by rw [HB2.out.cell (by simp; omega)]; exact (two_cells _ _ _ _ _).1) (valid_size hv) (hbf hfull)).mono ?_
        rintro e w3 ⟨rfl, hm⟩
        have HM := Lib.hid hm
        clear hm
        go_wp2_with fail
        go_ret
        exact ⟨rfl, HM.out⟩
theorem append_any (d : Nat) (s : St) (rw ro : Nat → Prop) (M : Nat) (n b : ByteArray) (w : World) (h : DiskAt w d s rw ro) (hg : Good s M) (hM : M ≤ 500000) (hn : n.size ≤ maxLen) (hb : b.size ≤ 500000) :
    Calls Try.prog 31 #[ptr d, .string n, .string b] w (Meth w d (s.append n b).1 rw ro (.int .i64 (s.append n b).2)) :=
  append_gen d s rw ro M n b w h hg hM hn (by omega) fun _ => hb
end Go.Proofs.Ytlaodmpdngdhjaa
