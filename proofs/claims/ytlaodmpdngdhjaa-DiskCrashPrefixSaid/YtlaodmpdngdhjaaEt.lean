/- Copy of the program's disk. -/
import Derived.Test.YtlaodmpdngdhjaaEq
import Derived.Deep.RegionHeld3
namespace Go.Proofs.Ytlaodmpdngdhjaa
set_option linter.unusedVariables false
set_option linter.unusedSimpArgs false
open Go.RowKit Go.Maps Go.WideMaps

theorem chgs_one {w : World} {ro : Nat → Prop} : ∀ {l : List (List Value)} {m : List Chg}, ChgsAt w ro l m → ∀ u ∈ l.flatten, u.oneCell' = true
  | [], [], _, u, h => by simp at h
  | cs :: r, c :: m, h, u, hu => by
    rw [List.flatten_cons, List.mem_append] at hu
    rcases hu with hu | hu
    · have h1 := h.1
      cases c with
      | app n b => obtain ⟨_, _, rfl, _⟩ := h1; simp at hu; rcases hu with rfl | rfl <;> rfl
      | ren a b => obtain ⟨_, _, rfl, _⟩ := h1; simp at hu; rcases hu with rfl | rfl <;> rfl
      | del n => obtain ⟨_, rfl, _⟩ := h1; simp at hu; rcases hu with rfl | rfl <;> rfl
    · exact chgs_one h.2 u hu
  | [], _ :: _, h, _, _ => h.elim
  | _ :: _, [], h, _, _ => h.elim
theorem size93 (w : World) : (Go.sizeOf 93).run Try.prog w = .ok 2 w := by kernel_rfl
/-- slices.Clone of a row of changes. -/
theorem clone_row (vp : Value) (n : Nat) (xs : List Value) (w : World) (h : w.ownsRow 0 93 2 vp n xs) (h1 : ∀ u ∈ xs, u.oneCell' = true) (hn : n ≤ 1000000) :
    Calls Try.prog 80 #[vp] w fun e w' => ∃ v', e = .returned v' ∧ w'.ownsRow w.heap.size 93 2 v' n xs ∧ Below w.heap.size w w' := by
  obtain ⟨i0, hi, hi0, hi1, hi2⟩ := info_parts info93
  have hh := h
  rcases h.2 with ⟨rfl, rfl⟩ | ⟨g, cap, cur, rfl, hg, hb, g1, g2, g3, g4⟩
  · have hx : xs = [] := List.eq_nil_of_length_eq_zero (by simpa using h.1)
    subst hx
    refine (Try.slices_Clone_nil_80 0 0 w).mono ?_
    rintro e w' ⟨rfl, rfl⟩
    exact ⟨_, rfl, World.ownsRow_nil _ _ _ _, Below.refl _ _⟩
  · refine (Try.slices_Clone_80 i0 (.agg #[.nilFunc, .bool false]) 2 16 hi hi0 hi1 hi2 rfl (by omega) size93 g 0 n cap xs w h.1 (by unfold maxLen; omega) (by omega) (fun j u hu => ?_) h1).mono ?_
    · have := hh.cells (g := g) rfl j u hu
      rwa [Addr.add_lit] at this
    · rintro e w' ⟨v', rfl, h2, _, h4⟩
      exact ⟨v', rfl, h2, h4⟩
set_option maxRecDepth 100000 in
set_option maxHeartbeats 4000000 in
theorem copy_any (d : Nat) (s : St) (rw ro : Nat → Prop) (M : Nat) (w : World) (h : DiskAt w d s rw ro) (gs : Good s M) (hM : M ≤ 500000) :
    Calls Try.prog 43 #[ptr d] w fun e w' => e = .returned (ptr w.heap.size) ∧ ∃ rwc, DiskAt w' w.heap.size s rwc ro ∧ (∀ b, rwc b → w.heap.size ≤ b) ∧ Below w.heap.size w w' := by
  obtain ⟨vd, vf, vp, fuse, fcs, h⟩ := h
  have HD := Lib.hid h
  have hops : s.ops.length ≤ 500000 := by have := gs.wt; omega
  have hc := (row_cells h.blk).1
  have k0 : w.cell? ⟨d, 0, none⟩ = some (.int .i64 s.cap) := hc 0
  have k1 : w.cell? ⟨d, 1, none⟩ = some vd := hc 1
  have k2 : w.cell? ⟨d, 2, none⟩ = some vf := hc 2
  have k3 : w.cell? ⟨d, 3, none⟩ = some vp := hc 3
  have k4 : w.cell? ⟨d, 4, none⟩ = some (.bool s.off) := hc 4
  have k5 : w.cell? ⟨d, 5, none⟩ = some (.bool (decide (0 < s.left))) := hc 5
  have k6 : w.cell? ⟨d, 6, none⟩ = some (.int .i64 fuse) := hc 6
  have hd := heap_lt h.blk
  obtain ⟨o1, rfl⟩ : ∃ o, vd = .map o := by
    rcases h.mapd.shape with ⟨h1, _⟩ | ⟨b, h1, _⟩
    · exact ⟨_, h1⟩
    · exact ⟨_, h1⟩
  obtain ⟨o2, rfl⟩ : ∃ o, vf = .map o := by
    rcases h.mapf.shape with ⟨h1, _⟩ | ⟨b, h1, _⟩
    · exact ⟨_, h1⟩
    · exact ⟨_, h1⟩
  obtain ⟨a3, c3, rfl⟩ := own_slice h.row
  clear h gs hc
  go_enter Try.func43, Try.ntmps43
  go_upto_region 4 with fail
  obtain ⟨wb, hwb⟩ : ∃ wb, w.alloc (.cells #[.int .i64 s.cap, .map o1, .map o2, .slice a3 s.ops.length c3, .bool s.off, .bool (decide (0 < s.left)), .int .i64 fuse] 62) = wb := ⟨_, rfl⟩
  have HBX : Hid (wb.heap[w.heap.size]? = some (.cells (dcells s (.map o1) (.map o2) (.slice a3 s.ops.length c3) fuse) 62 (0, 0))) := Lib.hid (by rw [← hwb]; exact heap_alloc_new w _)
  have HB0 : Hid (Below w.heap.size w wb) := Lib.hid (by rw [← hwb]; exact (Below.refl _ _).alloc (Nat.le_refl _) _)
  rw [hwb]
  have hxl : w.heap.size < wb.heap.size := heap_lt HBX.out
  have q1 : wb.cell? ⟨d, 1, none⟩ = some (.map o1) := (HB0.out.cell (p := ⟨d, 1, none⟩) hd).trans k1
  have q2 : wb.cell? ⟨d, 2, none⟩ = some (.map o2) := (HB0.out.cell (p := ⟨d, 2, none⟩) hd).trans k2
  have q3 : wb.cell? ⟨d, 3, none⟩ = some (.slice a3 s.ops.length c3) := (HB0.out.cell (p := ⟨d, 3, none⟩) hd).trans k3
  have hdb : d < wb.heap.size := Nat.lt_trans hd hxl
  have HDB := Lib.hid (HD.out.kept (fun b hb => HB0.out.block b (HD.out.lt b hb)) HB0.out.size)
  have HCL := Lib.hid fun o F W (h : MapOf W (.map o) F) => clone_any (.map o) F W h
  have HCR := Lib.hid (clone_row (.slice a3 s.ops.length c3) s.ops.length fcs.flatten)
  have H1 := Lib.hid (chgs_one HD.out.chg)
  have hdc1 : ¬ (d = w.heap.size) := by omega
  have hdc2 : ¬ (w.heap.size = d) := by omega
  clear hwb k0 k1 k2 k3 k4 k5 k6
  go_region_held3 (fun w' => w'.cell? ⟨d, 1, none⟩ = some (.map o1) ∧ w'.cell? ⟨d, 2, none⟩ = some (.map o2) ∧ w'.cell? ⟨d, 3, none⟩ = some (.slice a3 s.ops.length c3))
    (first | exact ⟨y51, y52, y53⟩ | exact ⟨y41, y42, y43⟩ | exact ⟨y31, y32, y33⟩ | go_keep)
    (first
    | (go_at_call 69; refine (HCL.out _ s.all _ ((HDB.out.kept (fun b hb => HB3.out.block b (HDB.out.lt b hb)) HB3.out.size).mapf)).mono ?_; rintro e w4 ⟨o4, rfl, hm4, hb4, ho4⟩; have HM4 := Lib.hid hm4; have HO4 := Lib.hid ho4; have HB34 := Lib.hid hb4; have HB4 : Hid (Below wb.heap.size wb w4) := Lib.hid (HB3.out.trans (hb4.mono HB3.out.size)); have y41 := (HB4.out.cell (p := ⟨d, 1, none⟩) hdb).trans q1; have y42 := (HB4.out.cell (p := ⟨d, 2, none⟩) hdb).trans q2; have y43 := (HB4.out.cell (p := ⟨d, 3, none⟩) hdb).trans q3; clear hm4 hb4 ho4)
    | (go_at_call 69; refine (HCL.out _ s.files _ ((HDB.out.kept (w' := wb.drew) (fun b hb => rfl) (Nat.le_refl _)).mapd)).mono ?_; rintro e w3 ⟨o3, rfl, hm3, hb3, ho3⟩; have HM3 := Lib.hid hm3; have HO3 := Lib.hid ho3; have HB3 : Hid (Below wb.heap.size wb w3) := Lib.hid (Below.trans (Below.drew (Below.refl wb.heap.size wb)) hb3); have y31 := (HB3.out.cell (p := ⟨d, 1, none⟩) hdb).trans q1; have y32 := (HB3.out.cell (p := ⟨d, 2, none⟩) hdb).trans q2; have y33 := (HB3.out.cell (p := ⟨d, 3, none⟩) hdb).trans q3; clear hm3 hb3 ho3)
    | (go_at_call 80; refine (HCR.out _ ((HDB.out.kept (fun b hb => HB4.out.block b (HDB.out.lt b hb)) HB4.out.size).row) H1.out (by omega)).mono ?_; rintro e w5 ⟨v5, rfl, hr5, hb5⟩; have HR5 := Lib.hid hr5; have HB45 := Lib.hid hb5; have HB5 : Hid (Below wb.heap.size wb w5) := Lib.hid (HB4.out.trans (hb5.mono HB4.out.size)); obtain ⟨a5, c5, hv5⟩ := own_slice hr5; subst hv5; have y51 := (HB5.out.cell (p := ⟨d, 1, none⟩) hdb).trans q1; have y52 := (HB5.out.cell (p := ⟨d, 2, none⟩) hdb).trans q2; have y53 := (HB5.out.cell (p := ⟨d, 3, none⟩) hdb).trans q3; have HC5 : Hid (w5.heap[w.heap.size]? = some (.cells (dcells s (.map o1) (.map o2) (.slice a3 s.ops.length c3) fuse) 62 (0, 0))) := Lib.hid (by rw [HB5.out.block _ hxl]; exact HBX.out); have x1 : w5.cell? ⟨w.heap.size, 1, none⟩ = some (.map o1) := (row_cells HC5.out).1 1; have x2 : w5.cell? ⟨w.heap.size, 2, none⟩ = some (.map o2) := (row_cells HC5.out).1 2; have x3 : w5.cell? ⟨w.heap.size, 3, none⟩ = some (.slice a3 s.ops.length c3) := (row_cells HC5.out).1 3; have f1 := (row_cells HC5.out).2 1; have f2 := (row_cells HC5.out).2 2; have f3 := (row_cells HC5.out).2 3; have hx5 : w.heap.size < w5.heap.size := heap_lt HC5.out; have hd5 : d < w5.heap.size := Nat.lt_of_lt_of_le hdb HB5.out.size; clear hr5 hb5))
  all_goals
    go_wp2_with fail
    go_ret
    obtain ⟨V5, hV5⟩ : ∃ V5, Value.slice a5 s.ops.length c5 = V5 := ⟨_, rfl⟩
    rw [hV5] at HR5 ⊢
    obtain ⟨wf, hwf⟩ : ∃ wf, ((w5.setCell ⟨w.heap.size, 1, none⟩ (.map o3)).setCell ⟨w.heap.size, 2, none⟩ (.map o4)).setCell ⟨w.heap.size, 3, none⟩ V5 = wf := ⟨_, rfl⟩
    have T : Turn w.heap.size w5 wf := by
      rw [← hwf]
      exact ((set_turn _ _ _ _).trans (set_turn _ _ _ _)).trans (set_turn _ _ _ _)
    have HBF : wf.heap[w.heap.size]? = some (.cells (dcells s (.map o3) (.map o4) V5 fuse) 62 (0, 0)) := by
      rw [← hwf, set_heap (set_heap (set_heap HC5.out 1 _) 2 _) 3 _]
      simp [dcells]
    rw [hwf]
    have s0 := HB0.out.size
    have s3 := HB3.out.size
    have s4 := HB34.out.size
    have s5 := HB45.out.size
    have hsz : wf.heap.size = w5.heap.size := T.size
    have B5 : Below w.heap.size w w5 := HB0.out.trans (HB5.out.mono s0)
    have h3 : ∀ b, o3 = some b → b = wb.heap.size ∧ b < w3.heap.size := fun b e => ⟨HO3.out b e, by have := HM3.out; rw [e] at this; exact this.lt⟩
    have h4 : ∀ b, o4 = some b → b = w3.heap.size ∧ b < w4.heap.size := fun b e => ⟨HO4.out b e, by have := HM4.out; rw [e] at this; exact this.lt⟩
    have h5 : ∀ b, V5.ownBlock = some b → w4.heap.size ≤ b ∧ b < w5.heap.size := fun b e => HR5.out.lt b e
    have hro : ∀ b, ro b → wf.heap[b]? = w.heap[b]? := fun b hb => by
      have := HD.out.lt b (.inr hb)
      rw [T.block b (by omega), B5.block b this]
    refine ⟨rfl, fun b => b = w.heap.size ∨ o3 = some b ∨ o4 = some b ∨ V5.ownBlock = some b, ⟨.map o3, .map o4, V5, fuse, fcs, HBF, HD.out.fus, ?_, ?_, ?_, HD.out.chg.kept hro fun _ h => h, .inl rfl, fun b e => (by cases e; exact .inr (.inl rfl)), fun b e => (by cases e; exact .inr (.inr (.inl rfl))), fun b e => .inr (.inr (.inr e)), ?_, ?_, ?_⟩, ?_, ?_⟩
    · refine HM3.out.kept fun b e => ?_
      cases e
      obtain ⟨e1, e2⟩ := h3 b rfl
      rw [T.block b (by omega), HB45.out.block b (by omega), HB34.out.block b e2]
    · refine HM4.out.kept fun b e => ?_
      cases e
      obtain ⟨e1, e2⟩ := h4 b rfl
      rw [T.block b (by omega), HB45.out.block b e2]
    · have hr : wf.ownsRow w4.heap.size 93 2 V5 s.ops.length fcs.flatten := row_kept HR5.out fun b e => T.block b (by have := (h5 b e).1; omega)
      exact row_mono hr (Nat.zero_le _)
    · intro b e1 e2
      cases e1
      cases e2
      have := h3 b rfl
      have := h4 b rfl
      omega
    · rintro b ((rfl | e | e | e) | e)
      · omega
      · have := (h3 b e).2; omega
      · have := (h4 b e).2; omega
      · have := (h5 b e).2; omega
      · have := HD.out.lt b (.inr e); omega
    · intro b hb hq
      have := HD.out.lt b (.inr hq)
      rcases hb with rfl | e | e | e
      · omega
      · have := (h3 b e).1; omega
      · have := (h4 b e).1; omega
      · have := (h5 b e).1; omega
    · rintro b (rfl | e | e | e)
      · exact Nat.le_refl _
      · have := (h3 b e).1; omega
      · have := (h4 b e).1; omega
      · have := (h5 b e).1; omega
    · exact B5.trans ⟨T.os, T.tape, T.output, Nat.le_of_eq T.size.symm, fun b hb => T.block b (by omega)⟩
end Go.Proofs.Ytlaodmpdngdhjaa
