/- make: a change is made and pending afterwards (printed by mk.py). -/
import Derived.Test.YtlaodmpdngdhjaaDj
import Derived.BigQuiet
import Derived.Shelf.SlMaps.Clone
import Derived.Deep.RegionWith
import Derived.Deep.RegionLaw
import Derived.Deep.Cut
import Derived.Deep.CutBlock
import Derived.Deep.DeepCutAuto
namespace Go.Proofs.Ytlaodmpdngdhjaa
set_option linter.unusedVariables false
set_option linter.unusedSimpArgs false
open Go.RowKit Go.Maps Go.WideMaps
theorem info93 : (Try.prog.info? 93).map (fun i => (i.zero, i.size, i.bytes)) = some (some (.agg #[.nilFunc, .bool false]), 2, 16) := by kernel_rfl
theorem cells_new (w : World) (l : List Value) (t : TypeId) : ∀ j u, l[j]? = some u → (w.alloc (.cells l.toArray t)).cell? ((⟨w.heap.size, 0, none⟩ : Addr).add j) = some u := by
  intro j u hu
  rw [Addr.add_lit, Nat.zero_add, (row_cells (heap_alloc_new w (.cells l.toArray t))).1 j]
  simpa using hu

set_option maxRecDepth 100000 in
set_option maxHeartbeats 4000000 in
theorem make79 (d : Nat) (s : St) (rw ro : Nat → Prop) (W : Nat) (bn : Nat) (x : ByteArray) (w : World)
    (h : DiskAt w d s rw ro) (hg : Good s W) (hW : W ≤ 500000) (hc : ChgAt w ro [.func (.func 79) #[] #[ptr bn], .bool false] (.del x)) (ho : okc s.all (.del x)) (hz : csz (.del x) ≤ 500000) :
    Calls Try.prog 72 #[ptr d, .agg #[.func (.func 79) #[] #[ptr bn], .bool false]] w (Meth w d (s.push (.del x)) rw ro (.int .i64 0)) := by
  obtain ⟨i0, hi, hi0, hi1, hi2⟩ := info_parts info93
  obtain ⟨vd, vf, vp, fuse, fcs, h⟩ := h
  obtain ⟨hc2, hfz⟩ := row_cells h.blk
  have hc0 := hc
  obtain ⟨bn', hcs, h1, r1, z1⟩ := hc
  cases hcs
  have hnd := hg.ndAll
  have hsz := hg.szAll
  have hwt := hg.wt
  have hops : s.ops.length ≤ 500000 := by omega
  have HRO : Hid (∀ b, ro b → b < w.heap.size ∧ ¬ rw b) := Lib.hid fun b hb => ⟨h.lt b (.inr hb), fun hr => h.dis b hr hb⟩
  have HR : Hid (∀ (bf : Nat) (vp : Value) (n : Nat) (row : List Value) (W0 : World), Mid w d s rw ro vd bf vp fuse n row #[.func (.func 79) #[] #[ptr bn], .bool false] s.all W0 →
      Calls Try.prog 79 #[.map (some bf), .int .i64 (-1), ptr bn] W0 fun e w2 => e = .returned (.tuple #[]) ∧ Mid w d s rw ro vd bf vp fuse n row #[.func (.func 79) #[] #[ptr bn], .bool false] (appl s.all (.del x)) w2) := Lib.hid (by
    intro bf vp n row W0 m
    have hk : ∀ b, ro b → ∀ v, w.cell? ⟨b, 0, none⟩ = some v → W0.cell? ⟨b, 0, none⟩ = some v := fun b hb v hv => by
      rw [World.cell?_of_block (m.block b (h.lt b (.inr hb)) fun hr => h.dis b hr hb)]; exact hv
    refine (rem_any bf bn (-1) x s.all W0 m.mapf (hk bn r1 _ h1) z1 hnd).mono ?_
    rintro e w2 ⟨rfl, hm2, hg2⟩
    exact ⟨rfl, m.turn hg2 hm2⟩)
  have HD := Lib.hid h
  have HC := Lib.hid hc0
  have HG := Lib.hid hg
  obtain ⟨o, ho⟩ : ∃ o, vf = .map o := by
    rcases h.mapf.shape with ⟨h1, _⟩ | ⟨b, h1, _⟩
    · exact ⟨_, h1⟩
    · exact ⟨_, h1⟩
  subst ho
  have k2 : w.cell? ⟨d, 2, none⟩ = some (.map o) := hc2 2
  have f2 : w.frozen? ⟨d, 2, none⟩ = false := hfz 2
  have hd : d < w.heap.size := h.lt d (.inl h.rwd)
  have hmm := @run_makeMap Try.prog
  have hq := fun W => run_eql_map_nil_sl (P := Try.prog) W 59 _ _ o Try.underlying59
  clear h hc0 hc2 hfz hg hnd hsz hwt
  go_enter Try.func72, Try.ntmps72
  go_upto_if 9 with fail
  go_cut [] (fun wx => ∃ bf, Hid (Mid w d s rw ro vd bf vp fuse s.ops.length fcs.flatten #[.func (.func 79) #[] #[ptr bn], .bool false] s.all wx))
  case first =>
    cases o with
    | none =>
      go_wp2_with fail
      go_meet
      exact ⟨_, Lib.hid (Mid.start0 HD.out)⟩
    | some bf =>
      go_wp2_with fail
      go_meet
      exact ⟨_, Lib.hid (Mid.start HD.out)⟩
  obtain ⟨bf, HM⟩ := hcut
  go_upto_region 3 with fail
  have hb := HM.out.blk
  have hbx := HM.out.box
  have k2 : wc.cell? ⟨d, 2, none⟩ = some (.map (some bf)) := (row_cells hb).1 2
  have b0 : wc.cell? ⟨w.heap.size, 0, none⟩ = some (.func (.func 79) #[] #[ptr bn]) := (row_cells hbx).1 0
  clear hb hbx
  go_cut [] (fun wx => Hid (Mid w d s rw ro vd bf vp fuse s.ops.length fcs.flatten #[.func (.func 79) #[] #[ptr bn], .bool false] (appl s.all (.del x)) wx))
  case first =>
    go_region_with (go_at_call 79; refine (HR.out _ _ _ _ _ HM.out.drew).mono ?_; rintro e w2 ⟨rfl, hm2⟩; have HM2 := Lib.hid hm2; clear hm2)
    all_goals
      go_wp2_with fail
      go_meet
      exact HM2
  rename_i wc2
  obtain ⟨wq, hwq⟩ : ∃ wq, wc = wq := ⟨_, rfl⟩
  subst hwq
  have HM2 := hcut
  clear hcut HM
  clear hq hmm k2 f2 b0
  go_upto_region 4 with fail
  have hb := HM2.out.blk
  have hbx := HM2.out.box
  have k3 : wc.cell? ⟨d, 3, none⟩ = some vp := (row_cells hb).1 3
  have f3 : wc.frozen? ⟨d, 3, none⟩ = false := (row_cells hb).2 3
  have b0 : wc.cell? ⟨w.heap.size, 0, none⟩ = some (.func (.func 79) #[] #[ptr bn]) := (row_cells hbx).1 0
  have b1 : wc.cell? ⟨w.heap.size, 1, none⟩ = some (.bool false) := (row_cells hbx).1 1
  have hdw : d < wc.heap.size := heap_lt hb
  have hszw := HM2.out.sz
  clear hb hbx
  go_cut [] (fun wx => ∃ v3, Hid (Mid w d s rw ro vd bf v3 fuse (s.ops.length + 1) (fcs.flatten ++ [.func (.func 79) #[] #[ptr bn], .bool false]) #[.func (.func 79) #[] #[ptr bn], .bool false] (appl s.all (.del x)) wx))
  case first =>
    go_region_law (refine step_app rfl (.tmp 25) (.tmp 27) 60 rfl 0 93 i0 (.agg #[.nilFunc, .bool false]) 2 16 Try.underlying60 hi hi0 hi1 hi2 rfl (by omega) vp s.ops.length fcs.flatten (by simp [Act.eval, Act.put]) (HM2.out.row.drew.alloc _) (.slice (some ⟨wc.drew.heap.size, 0, none⟩) 1 1) 1 [.func (.func 79) #[] #[ptr bn], .bool false] (by simp [Act.eval, Act.put]) (.inr ⟨_, _, rfl, rfl, cells_new wc.drew [.func (.func 79) #[] #[ptr bn], .bool false] 93⟩) (by intro u hu; simp at hu; rcases hu with rfl | rfl <;> rfl) (by unfold maxLen; omega) (by omega) (Nat.zero_le _) ?_; intro v3 w3 o3 g3 p3; obtain ⟨gb, gc, rfl⟩ := own_form o3.out (Nat.succ_pos _); have hb3 := Lib.hid (HM2.out.drew.blk3 g3.out); have q4 : w3.cell? ⟨d, 3, none⟩ = some vp := (row_cells hb3.out).1 3; have q5 : w3.frozen? ⟨d, 3, none⟩ = false := (row_cells hb3.out).2 3; have q6 : d < w3.heap.size := heap_lt hb3.out)
    all_goals
      go_wp2_with fail
      go_meet
      exact ⟨_, Lib.hid (HM2.out.drew.push g3.out o3.out p3.out)⟩
  obtain ⟨v3, HM3⟩ := hcut
  clear HM2
  have HDN := Lib.hid (done_any d { s with ops := s.ops ++ [.del x] } vd (.map (some bf)) v3 fuse wc HM3.out.blk HD.out.fus HG.out.off HG.out.hi)
  go_wp2_with (go_at_call 74; refine HDN.out.mono ?_; rintro e w2 ⟨rfl, ⟨fuse3, hb3, hf3⟩, ht3⟩; have HB3 := Lib.hid hb3; have HF3 := Lib.hid hf3; have HT3 := Lib.hid ht3; clear hb3 hf3 ht3)
  go_ret
  exact Mid.pack HD.out HC.out HM3.out HT3.out HB3.out HF3.out

set_option maxRecDepth 100000 in
set_option maxHeartbeats 4000000 in
theorem make78 (d : Nat) (s : St) (rw ro : Nat → Prop) (W : Nat) (ba bb : Nat) (x y : ByteArray) (w : World)
    (h : DiskAt w d s rw ro) (hg : Good s W) (hW : W ≤ 500000) (hc : ChgAt w ro [.func (.func 78) #[] #[ptr ba, ptr bb], .bool false] (.ren x y)) (ho : okc s.all (.ren x y)) (hz : csz (.ren x y) ≤ 500000) :
    Calls Try.prog 72 #[ptr d, .agg #[.func (.func 78) #[] #[ptr ba, ptr bb], .bool false]] w (Meth w d (s.push (.ren x y)) rw ro (.int .i64 0)) := by
  obtain ⟨i0, hi, hi0, hi1, hi2⟩ := info_parts info93
  obtain ⟨vd, vf, vp, fuse, fcs, h⟩ := h
  obtain ⟨hc2, hfz⟩ := row_cells h.blk
  have hc0 := hc
  obtain ⟨ba', bb', hcs, h1, h2, r1, r2, z1, z2⟩ := hc
  cases hcs
  have hnd := hg.ndAll
  have hsz := hg.szAll
  have hwt := hg.wt
  have hops : s.ops.length ≤ 500000 := by omega
  have HRO : Hid (∀ b, ro b → b < w.heap.size ∧ ¬ rw b) := Lib.hid fun b hb => ⟨h.lt b (.inr hb), fun hr => h.dis b hr hb⟩
  have HR : Hid (∀ (bf : Nat) (vp : Value) (n : Nat) (row : List Value) (W0 : World), Mid w d s rw ro vd bf vp fuse n row #[.func (.func 78) #[] #[ptr ba, ptr bb], .bool false] s.all W0 →
      Calls Try.prog 78 #[.map (some bf), .int .i64 (-1), ptr ba, ptr bb] W0 fun e w2 => e = .returned (.tuple #[]) ∧ Mid w d s rw ro vd bf vp fuse n row #[.func (.func 78) #[] #[ptr ba, ptr bb], .bool false] (appl s.all (.ren x y)) w2) := Lib.hid (by
    intro bf vp n row W0 m
    have hk : ∀ b, ro b → ∀ v, w.cell? ⟨b, 0, none⟩ = some v → W0.cell? ⟨b, 0, none⟩ = some v := fun b hb v hv => by
      rw [World.cell?_of_block (m.block b (h.lt b (.inr hb)) fun hr => h.dis b hr hb)]; exact hv
    have hfar : ∀ b, ro b → b ≠ bf := fun b hb e => by
      rcases m.hbf with h3 | h3
      · exact h.dis _ h3 (e ▸ hb)
      · have := h.lt _ (.inr hb); omega
    refine (ren_any bf ba bb (-1) x y s.all W0 m.mapf (hk ba r1 _ h1) (hk bb r2 _ h2) z1 z2 hnd (by omega) (by have := look_size (F := s.all) (n := x); omega) ho ⟨hfar _ r1, hfar _ r2⟩).mono ?_
    rintro e w2 ⟨rfl, hm2, hg2⟩
    exact ⟨rfl, m.turn hg2 hm2⟩)
  have HD := Lib.hid h
  have HC := Lib.hid hc0
  have HG := Lib.hid hg
  obtain ⟨o, ho⟩ : ∃ o, vf = .map o := by
    rcases h.mapf.shape with ⟨h1, _⟩ | ⟨b, h1, _⟩
    · exact ⟨_, h1⟩
    · exact ⟨_, h1⟩
  subst ho
  have k2 : w.cell? ⟨d, 2, none⟩ = some (.map o) := hc2 2
  have f2 : w.frozen? ⟨d, 2, none⟩ = false := hfz 2
  have hd : d < w.heap.size := h.lt d (.inl h.rwd)
  have hmm := @run_makeMap Try.prog
  have hq := fun W => run_eql_map_nil_sl (P := Try.prog) W 59 _ _ o Try.underlying59
  clear h hc0 hc2 hfz hg hnd hsz hwt
  go_enter Try.func72, Try.ntmps72
  go_upto_if 9 with fail
  go_cut [] (fun wx => ∃ bf, Hid (Mid w d s rw ro vd bf vp fuse s.ops.length fcs.flatten #[.func (.func 78) #[] #[ptr ba, ptr bb], .bool false] s.all wx))
  case first =>
    cases o with
    | none =>
      go_wp2_with fail
      go_meet
      exact ⟨_, Lib.hid (Mid.start0 HD.out)⟩
    | some bf =>
      go_wp2_with fail
      go_meet
      exact ⟨_, Lib.hid (Mid.start HD.out)⟩
  obtain ⟨bf, HM⟩ := hcut
  go_upto_region 3 with fail
  have hb := HM.out.blk
  have hbx := HM.out.box
  have k2 : wc.cell? ⟨d, 2, none⟩ = some (.map (some bf)) := (row_cells hb).1 2
  have b0 : wc.cell? ⟨w.heap.size, 0, none⟩ = some (.func (.func 78) #[] #[ptr ba, ptr bb]) := (row_cells hbx).1 0
  clear hb hbx
  go_cut [] (fun wx => Hid (Mid w d s rw ro vd bf vp fuse s.ops.length fcs.flatten #[.func (.func 78) #[] #[ptr ba, ptr bb], .bool false] (appl s.all (.ren x y)) wx))
  case first =>
    go_region_with (go_at_call 78; refine (HR.out _ _ _ _ _ HM.out.drew).mono ?_; rintro e w2 ⟨rfl, hm2⟩; have HM2 := Lib.hid hm2; clear hm2)
    all_goals
      go_wp2_with fail
      go_meet
      exact HM2
  rename_i wc2
  obtain ⟨wq, hwq⟩ : ∃ wq, wc = wq := ⟨_, rfl⟩
  subst hwq
  have HM2 := hcut
  clear hcut HM
  clear hq hmm k2 f2 b0
  go_upto_region 4 with fail
  have hb := HM2.out.blk
  have hbx := HM2.out.box
  have k3 : wc.cell? ⟨d, 3, none⟩ = some vp := (row_cells hb).1 3
  have f3 : wc.frozen? ⟨d, 3, none⟩ = false := (row_cells hb).2 3
  have b0 : wc.cell? ⟨w.heap.size, 0, none⟩ = some (.func (.func 78) #[] #[ptr ba, ptr bb]) := (row_cells hbx).1 0
  have b1 : wc.cell? ⟨w.heap.size, 1, none⟩ = some (.bool false) := (row_cells hbx).1 1
  have hdw : d < wc.heap.size := heap_lt hb
  have hszw := HM2.out.sz
  clear hb hbx
  go_cut [] (fun wx => ∃ v3, Hid (Mid w d s rw ro vd bf v3 fuse (s.ops.length + 1) (fcs.flatten ++ [.func (.func 78) #[] #[ptr ba, ptr bb], .bool false]) #[.func (.func 78) #[] #[ptr ba, ptr bb], .bool false] (appl s.all (.ren x y)) wx))
  case first =>
    go_region_law (refine step_app rfl (.tmp 25) (.tmp 27) 60 rfl 0 93 i0 (.agg #[.nilFunc, .bool false]) 2 16 Try.underlying60 hi hi0 hi1 hi2 rfl (by omega) vp s.ops.length fcs.flatten (by simp [Act.eval, Act.put]) (HM2.out.row.drew.alloc _) (.slice (some ⟨wc.drew.heap.size, 0, none⟩) 1 1) 1 [.func (.func 78) #[] #[ptr ba, ptr bb], .bool false] (by simp [Act.eval, Act.put]) (.inr ⟨_, _, rfl, rfl, cells_new wc.drew [.func (.func 78) #[] #[ptr ba, ptr bb], .bool false] 93⟩) (by intro u hu; simp at hu; rcases hu with rfl | rfl <;> rfl) (by unfold maxLen; omega) (by omega) (Nat.zero_le _) ?_; intro v3 w3 o3 g3 p3; obtain ⟨gb, gc, rfl⟩ := own_form o3.out (Nat.succ_pos _); have hb3 := Lib.hid (HM2.out.drew.blk3 g3.out); have q4 : w3.cell? ⟨d, 3, none⟩ = some vp := (row_cells hb3.out).1 3; have q5 : w3.frozen? ⟨d, 3, none⟩ = false := (row_cells hb3.out).2 3; have q6 : d < w3.heap.size := heap_lt hb3.out)
    all_goals
      go_wp2_with fail
      go_meet
      exact ⟨_, Lib.hid (HM2.out.drew.push g3.out o3.out p3.out)⟩
  obtain ⟨v3, HM3⟩ := hcut
  clear HM2
  have HDN := Lib.hid (done_any d { s with ops := s.ops ++ [.ren x y] } vd (.map (some bf)) v3 fuse wc HM3.out.blk HD.out.fus HG.out.off HG.out.hi)
  go_wp2_with (go_at_call 74; refine HDN.out.mono ?_; rintro e w2 ⟨rfl, ⟨fuse3, hb3, hf3⟩, ht3⟩; have HB3 := Lib.hid hb3; have HF3 := Lib.hid hf3; have HT3 := Lib.hid ht3; clear hb3 hf3 ht3)
  go_ret
  exact Mid.pack HD.out HC.out HM3.out HT3.out HB3.out HF3.out

set_option maxRecDepth 100000 in
set_option maxHeartbeats 4000000 in
theorem make73 (d : Nat) (s : St) (rw ro : Nat → Prop) (W : Nat) (bd bn : Nat) (y x : ByteArray) (w : World)
    (h : DiskAt w d s rw ro) (hg : Good s W) (hW : W ≤ 500000) (hc : ChgAt w ro [.func (.func 73) #[] #[ptr bd, ptr bn], .bool true] (.app y x)) (ho : okc s.all (.app y x)) (hz : csz (.app y x) ≤ 500000) :
    Calls Try.prog 72 #[ptr d, .agg #[.func (.func 73) #[] #[ptr bd, ptr bn], .bool true]] w (Meth w d (s.push (.app y x)) rw ro (.int .i64 0)) := by
  obtain ⟨i0, hi, hi0, hi1, hi2⟩ := info_parts info93
  obtain ⟨vd, vf, vp, fuse, fcs, h⟩ := h
  obtain ⟨hc2, hfz⟩ := row_cells h.blk
  have hc0 := hc
  obtain ⟨bd', bn', hcs, h1, h2, r1, r2, z1⟩ := hc
  cases hcs
  have hnd := hg.ndAll
  have hsz := hg.szAll
  have hwt := hg.wt
  have hops : s.ops.length ≤ 500000 := by omega
  have HRO : Hid (∀ b, ro b → b < w.heap.size ∧ ¬ rw b) := Lib.hid fun b hb => ⟨h.lt b (.inr hb), fun hr => h.dis b hr hb⟩
  have HR : Hid (∀ (bf : Nat) (vp : Value) (n : Nat) (row : List Value) (W0 : World), Mid w d s rw ro vd bf vp fuse n row #[.func (.func 73) #[] #[ptr bd, ptr bn], .bool true] s.all W0 →
      Calls Try.prog 73 #[.map (some bf), .int .i64 (-1), ptr bd, ptr bn] W0 fun e w2 => e = .returned (.tuple #[]) ∧ Mid w d s rw ro vd bf vp fuse n row #[.func (.func 73) #[] #[ptr bd, ptr bn], .bool true] (appl s.all (.app y x)) w2) := Lib.hid (by
    intro bf vp n row W0 m
    have hk : ∀ b, ro b → ∀ v, w.cell? ⟨b, 0, none⟩ = some v → W0.cell? ⟨b, 0, none⟩ = some v := fun b hb v hv => by
      rw [World.cell?_of_block (m.block b (h.lt b (.inr hb)) fun hr => h.dis b hr hb)]; exact hv
    have hz' : x.size ≤ 500000 := hz
    refine (app_any bf bd bn (-1) y x x s.all W0 m.mapf (hk bn r2 _ h2) (hk bd r1 _ h1) z1 hnd (by omega) (by omega) (by rw [if_neg (by omega)])).mono ?_
    rintro e w2 ⟨rfl, hm2, hg2⟩
    exact ⟨rfl, m.turn hg2 hm2⟩)
  have HD := Lib.hid h
  have HC := Lib.hid hc0
  have HG := Lib.hid hg
  obtain ⟨o, ho⟩ : ∃ o, vf = .map o := by
    rcases h.mapf.shape with ⟨h1, _⟩ | ⟨b, h1, _⟩
    · exact ⟨_, h1⟩
    · exact ⟨_, h1⟩
  subst ho
  have k2 : w.cell? ⟨d, 2, none⟩ = some (.map o) := hc2 2
  have f2 : w.frozen? ⟨d, 2, none⟩ = false := hfz 2
  have hd : d < w.heap.size := h.lt d (.inl h.rwd)
  have hmm := @run_makeMap Try.prog
  have hq := fun W => run_eql_map_nil_sl (P := Try.prog) W 59 _ _ o Try.underlying59
  clear h hc0 hc2 hfz hg hnd hsz hwt
  go_enter Try.func72, Try.ntmps72
  go_upto_if 9 with fail
  go_cut [] (fun wx => ∃ bf, Hid (Mid w d s rw ro vd bf vp fuse s.ops.length fcs.flatten #[.func (.func 73) #[] #[ptr bd, ptr bn], .bool true] s.all wx))
  case first =>
    cases o with
    | none =>
      go_wp2_with fail
      go_meet
      exact ⟨_, Lib.hid (Mid.start0 HD.out)⟩
    | some bf =>
      go_wp2_with fail
      go_meet
      exact ⟨_, Lib.hid (Mid.start HD.out)⟩
  obtain ⟨bf, HM⟩ := hcut
  go_upto_region 3 with fail
  have hb := HM.out.blk
  have hbx := HM.out.box
  have k2 : wc.cell? ⟨d, 2, none⟩ = some (.map (some bf)) := (row_cells hb).1 2
  have b0 : wc.cell? ⟨w.heap.size, 0, none⟩ = some (.func (.func 73) #[] #[ptr bd, ptr bn]) := (row_cells hbx).1 0
  clear hb hbx
  go_cut [] (fun wx => Hid (Mid w d s rw ro vd bf vp fuse s.ops.length fcs.flatten #[.func (.func 73) #[] #[ptr bd, ptr bn], .bool true] (appl s.all (.app y x)) wx))
  case first =>
    go_region_with (go_at_call 73; refine (HR.out _ _ _ _ _ HM.out.drew).mono ?_; rintro e w2 ⟨rfl, hm2⟩; have HM2 := Lib.hid hm2; clear hm2)
    all_goals
      go_wp2_with fail
      go_meet
      exact HM2
  rename_i wc2
  obtain ⟨wq, hwq⟩ : ∃ wq, wc = wq := ⟨_, rfl⟩
  subst hwq
  have HM2 := hcut
  clear hcut HM
  clear hq hmm k2 f2 b0
  go_upto_region 4 with fail
  have hb := HM2.out.blk
  have hbx := HM2.out.box
  have k3 : wc.cell? ⟨d, 3, none⟩ = some vp := (row_cells hb).1 3
  have f3 : wc.frozen? ⟨d, 3, none⟩ = false := (row_cells hb).2 3
  have b0 : wc.cell? ⟨w.heap.size, 0, none⟩ = some (.func (.func 73) #[] #[ptr bd, ptr bn]) := (row_cells hbx).1 0
  have b1 : wc.cell? ⟨w.heap.size, 1, none⟩ = some (.bool true) := (row_cells hbx).1 1
  have hdw : d < wc.heap.size := heap_lt hb
  have hszw := HM2.out.sz
  clear hb hbx
  go_cut [] (fun wx => ∃ v3, Hid (Mid w d s rw ro vd bf v3 fuse (s.ops.length + 1) (fcs.flatten ++ [.func (.func 73) #[] #[ptr bd, ptr bn], .bool true]) #[.func (.func 73) #[] #[ptr bd, ptr bn], .bool true] (appl s.all (.app y x)) wx))
  case first =>
    go_region_law (refine step_app rfl (.tmp 25) (.tmp 27) 60 rfl 0 93 i0 (.agg #[.nilFunc, .bool false]) 2 16 Try.underlying60 hi hi0 hi1 hi2 rfl (by omega) vp s.ops.length fcs.flatten (by simp [Act.eval, Act.put]) (HM2.out.row.drew.alloc _) (.slice (some ⟨wc.drew.heap.size, 0, none⟩) 1 1) 1 [.func (.func 73) #[] #[ptr bd, ptr bn], .bool true] (by simp [Act.eval, Act.put]) (.inr ⟨_, _, rfl, rfl, cells_new wc.drew [.func (.func 73) #[] #[ptr bd, ptr bn], .bool true] 93⟩) (by intro u hu; simp at hu; rcases hu with rfl | rfl <;> rfl) (by unfold maxLen; omega) (by omega) (Nat.zero_le _) ?_; intro v3 w3 o3 g3 p3; obtain ⟨gb, gc, rfl⟩ := own_form o3.out (Nat.succ_pos _); have hb3 := Lib.hid (HM2.out.drew.blk3 g3.out); have q4 : w3.cell? ⟨d, 3, none⟩ = some vp := (row_cells hb3.out).1 3; have q5 : w3.frozen? ⟨d, 3, none⟩ = false := (row_cells hb3.out).2 3; have q6 : d < w3.heap.size := heap_lt hb3.out)
    all_goals
      go_wp2_with fail
      go_meet
      exact ⟨_, Lib.hid (HM2.out.drew.push g3.out o3.out p3.out)⟩
  obtain ⟨v3, HM3⟩ := hcut
  clear HM2
  have HDN := Lib.hid (done_any d { s with ops := s.ops ++ [.app y x] } vd (.map (some bf)) v3 fuse wc HM3.out.blk HD.out.fus HG.out.off HG.out.hi)
  go_wp2_with (go_at_call 74; refine HDN.out.mono ?_; rintro e w2 ⟨rfl, ⟨fuse3, hb3, hf3⟩, ht3⟩; have HB3 := Lib.hid hb3; have HF3 := Lib.hid hf3; have HT3 := Lib.hid ht3; clear hb3 hf3 ht3)
  go_ret
  exact Mid.pack HD.out HC.out HM3.out HT3.out HB3.out HF3.out
end Go.Proofs.Ytlaodmpdngdhjaa
