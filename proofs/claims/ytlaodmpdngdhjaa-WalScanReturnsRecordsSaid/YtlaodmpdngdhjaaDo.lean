/- maps.Clone in the disk's words; Sync, Fuse, Names. -/
import Derived.Test.YtlaodmpdngdhjaaDn
import Derived.Test.YtlaodmpdngdhjaaShelf
namespace Go.Proofs.Ytlaodmpdngdhjaa
set_option linter.unusedVariables false
set_option linter.unusedSimpArgs false
open Go.RowKit Go.Maps Go.WideMaps

theorem clone_any (v : Value) (F : List File) (w : World) (h : MapOf w v F) :
    Calls Try.prog 69 #[v] w fun e w' => ∃ o, e = .returned (.map o) ∧ MapOf w' (.map o) F ∧ Below w.heap.size w w' ∧ (∀ b, o = some b → b = w.heap.size) := by
  rcases h with ⟨rfl, rfl⟩ | ⟨b, n, D, rfl, h1, h2⟩
  · refine (Try.maps_Clone_nil_69 w).mono ?_
    rintro e w' ⟨rfl, rfl⟩
    exact ⟨_, rfl, .inl ⟨rfl, rfl⟩, Below.refl _ _, fun b h => by cases h⟩
  · refine (Try.maps_Clone_69 9 rdr b n D w h1).mono ?_
    rintro e w' ⟨rfl, h3, h4, h5⟩
    exact ⟨_, rfl, .inr ⟨_, _, _, rfl, h3, h2⟩, h5, fun b h => by cases h; rfl⟩
theorem all_spend (s : St) : s.spend.all = s.all := by
  unfold St.all
  rw [(spend_same s).2.1, (spend_same s).2.2]
theorem done_nooff {s : St} {M : Nat} (hg : Good s M) : Good { s with files := s.all, ops := [] } M :=
  ⟨hg.ndAll, trivial, hg.off, hg.lo, hg.hi, hg.cap, by have := hg.szAll; simpa [ssz] using this⟩
theorem Good.sync {s : St} {M : Nat} (hg : Good s M) : Good s.sync.1 M := by
  unfold St.sync
  split
  · exact hg
  · exact (done_nooff hg).spend
set_option maxRecDepth 100000 in
set_option maxHeartbeats 2000000 in
theorem sync_any (d : Nat) (s : St) (rw ro : Nat → Prop) (M : Nat) (w : World) (h : DiskAt w d s rw ro) (hg : Good s M) (hM : M ≤ 500000) :
    Calls Try.prog 32 #[ptr d] w (Meth w d s.sync.1 rw ro (.int .i64 s.sync.2)) := by
  have HDN := Lib.hid ((h.within hg hM).down _ (Below.refl _ w))
  have HH := Lib.hid h
  have HG := Lib.hid hg
  cases hoff : s.off with
  | true =>
    rw [show s.sync = (s, 25) by unfold St.sync; rw [if_pos hoff]]
    rw [hoff] at HDN
    clear h hg
    go_enter Try.func32, Try.ntmps32
    go_wp2_with fail
    refine HDN.out.mono ?_
    rintro e w2 ⟨rfl, rfl⟩
    go_wp2_with fail
    go_ret
    exact Meth.mk _ HH.out (Below.refl _ _)
  | false =>
    rw [show s.sync = (({ s with files := s.all, ops := [] } : St).spend, 0) by unfold St.sync; rw [if_neg (by rw [hoff]; decide)]]
    rw [hoff] at HDN
    obtain ⟨vd, vf, vp, fuse, fcs, h⟩ := h
    have HD := Lib.hid h
    have k2 : w.cell? ⟨d, 2, none⟩ = some vf := (row_cells h.blk).1 2
    have HC := Lib.hid (clone_any vf s.all w h.mapf)
    have hd := heap_lt h.blk
    clear h hg
    go_enter Try.func32, Try.ntmps32
    go_wp2_with fail
    refine HDN.out.mono ?_
    rintro e w1 ⟨rfl, hw1⟩
    have hw1' := hw1.symm
    subst hw1'
    go_wp2_with fail
    refine HC.out.mono ?_
    rintro e w2 ⟨o, rfl, hm, hb, hv⟩
    have HM := Lib.hid hm
    have HB := Lib.hid hb
    have HV := Lib.hid hv
    have HBK : Hid (w2.heap[d]? = some (.cells (dcells s vd vf vp fuse) 62 (0, 0))) := Lib.hid (by rw [hb.block d hd]; exact HD.out.blk)
    have k1 : w2.cell? ⟨d, 1, none⟩ = some vd := (row_cells HBK.out).1 1
    have k3 : w2.cell? ⟨d, 3, none⟩ = some vp := (row_cells HBK.out).1 3
    have f1 := (row_cells HBK.out).2 1
    have f3 := (row_cells HBK.out).2 3
    have hd2 := heap_lt HBK.out
    have T : Hid (Turn d w2 ((w2.setCell ⟨d, 1, none⟩ (.map o)).setCell ⟨d, 3, none⟩ (.slice none 0 0))) := Lib.hid ((set_turn _ _ _ _).trans (set_turn _ _ _ _))
    have HB2 : Hid (((w2.setCell ⟨d, 1, none⟩ (.map o)).setCell ⟨d, 3, none⟩ (.slice none 0 0)).heap[d]? = some (.cells (dcells { s with files := s.all, ops := [] } (.map o) vf (.slice none 0 0) fuse) 62 (0, 0))) := Lib.hid (by
      rw [set_heap (set_heap HBK.out 1 _) 3 _]
      simp [dcells])
    have HDO := Lib.hid (done_any d { s with files := s.all, ops := [] } (.map o) vf (.slice none 0 0) fuse _ HB2.out HD.out.fus HG.out.off HG.out.hi)
    clear hm hb hv
    go_wp2_with fail
    refine HDO.out.mono ?_
    rintro e w3 ⟨rfl, ⟨fuse3, hb3, hf3⟩, ht3⟩
    have HB3 := Lib.hid hb3
    have HF3 := Lib.hid hf3
    have HT3 := Lib.hid (T.out.trans ht3)
    clear hb3 hf3 ht3
    go_wp2_with fail
    go_ret
    have e1 := (spend_same { s with files := s.all, ops := [] }).2.1
    have e2 := (spend_same { s with files := s.all, ops := [] }).2.2
    have hk : ∀ b, b < w2.heap.size → b ≠ d → w3.heap[b]? = w2.heap[b]? := fun b _ hne => HT3.out.block b hne
    have hkw : ∀ b, b < w.heap.size → b ≠ d → w3.heap[b]? = w.heap[b]? := fun b hb hne => by rw [HT3.out.block b hne, HB.out.block b hb]
    have hsz : w.heap.size ≤ w3.heap.size := by rw [HT3.out.size]; exact HB.out.size
    refine ⟨rfl, fun b => rw b ∨ o = some b, ro, ⟨.map o, vf, .slice none 0 0, fuse3, [], ?_⟩, ?_⟩
    · refine ⟨HB3.out, HF3.out, ?_, ?_, ?_, ?_, .inl HD.out.rwd, ?_, fun b e => .inl (HD.out.rwf b e), ?_, ?_, ?_, ?_⟩
      · rw [e1]
        refine HM.out.kept fun b e => HT3.out.block b ?_
        cases e
        rintro rfl
        obtain ⟨es, cc, ho⟩ := HM.out.obj
        rw [HBK.out] at ho
        cases ho
      · rw [all_spend]
        show MapOf w3 vf s.all
        refine HD.out.mapf.kept fun b e => ?_
        have hm := HD.out.mapf
        rw [e] at hm
        refine hkw b hm.lt ?_
        rintro rfl
        obtain ⟨es, cc, ho⟩ := hm.obj
        rw [HD.out.blk] at ho
        cases ho
      · rw [e2]
        exact World.ownsRow_nil _ _ _ _
      · rw [e2]
        trivial
      · intro b e
        cases e
        exact .inr rfl
      · intro b e
        cases e
      · intro b e1 e2
        cases e1
        have := HV.out b rfl
        have := HD.out.lt b (.inl (HD.out.rwf b e2))
        omega
      · rintro b ((hr | e) | hr)
        · exact Nat.lt_of_lt_of_le (HD.out.lt b (.inl hr)) hsz
        · have := HM.out
          rw [e] at this
          have h1 := this.lt
          rw [HT3.out.size]
          exact h1
        · exact Nat.lt_of_lt_of_le (HD.out.lt b (.inr hr)) hsz
      · rintro b (hr | e) hr2
        · exact HD.out.dis b hr hr2
        · have := HV.out b e
          have := HD.out.lt b (.inr hr2)
          omega
    · refine ⟨HT3.out.os.trans HB.out.os, HT3.out.tape.trans HB.out.tape, HT3.out.output.trans HB.out.output, hsz, fun b hb hr => hkw b hb (by rintro rfl; exact hr HD.out.rwd), ?_, fun b h => .inl h⟩
      rintro b (hr | e)
      · exact .inl hr
      · exact .inr (by rw [HV.out b e]; exact Nat.le_refl _)
/-- A turn of the disk's own block alone. -/
theorem DiskIs.turned {w w' : World} {d : Nat} {s s' : St} {rw ro : Nat → Prop} {vd vf vp : Value} {fuse fuse' : Int} {fcs : List (List Value)} (h : DiskIs w d s rw ro vd vf vp fuse fcs) (T : Turn d w w')
    (hb : w'.heap[d]? = some (.cells (dcells s' vd vf vp fuse') 62 (0, 0))) (hf : 0 < s'.left → fuse' = s'.left) (e1 : s'.files = s.files) (e2 : s'.ops = s.ops) : DiskAt w' d s' rw ro ∧ Kept w w' rw ro rw ro := by
  have ea : s'.all = s.all := by unfold St.all; rw [e1, e2]
  have hmap : ∀ v F, MapOf w v F → MapOf w' v F := fun v F hm => hm.kept fun b e => T.block b (by
    rintro rfl
    rw [e] at hm
    obtain ⟨es, cc, ho⟩ := hm.obj
    rw [h.blk] at ho
    cases ho)
  refine ⟨⟨vd, vf, vp, fuse', fcs, hb, hf, by rw [e1]; exact hmap _ _ h.mapd, by rw [ea]; exact hmap _ _ h.mapf, ?_, ?_, h.rwd, h.rwm, h.rwf, h.rwp, h.ne, fun b hb => by rw [T.size]; exact h.lt b hb, h.dis⟩, T.os, T.tape, T.output, by rw [T.size]; exact Nat.le_refl _, fun b _ hr => T.block b (by rintro rfl; exact hr h.rwd), fun b h => .inl h, fun b h => .inl h⟩
  · rw [e2]
    refine row_kept h.row fun b e => T.block b ?_
    rintro rfl
    obtain ⟨cur, fr, ho⟩ := own_obj h.row e
    rw [h.blk] at ho
    cases ho
  · rw [e2]
    exact h.chg.kept (fun b hr => T.block b (by rintro rfl; exact h.dis _ h.rwd hr)) fun _ h => h
set_option maxRecDepth 100000 in
set_option maxHeartbeats 2000000 in
theorem fuse_any (d : Nat) (s : St) (rw ro : Nat → Prop) (M : Nat) (n : Int) (w : World) (h : DiskAt w d s rw ro) (hg : Good s M) (hM : M ≤ 500000) (hn : -9223372036854775808 ≤ n ∧ n < 9223372036854775808) :
    Calls Try.prog 26 #[ptr d, .int .i64 n] w (Meth w d (s.fuse n) rw ro (.tuple #[])) := by
  have HDN := Lib.hid ((h.within hg hM).down _ (Below.refl _ w))
  have HH := Lib.hid h
  have HG := Lib.hid hg
  cases hoff : s.off with
  | true =>
    rw [show s.fuse n = s by unfold St.fuse; rw [if_pos hoff]]
    rw [hoff] at HDN
    clear h hg
    go_enter Try.func26, Try.ntmps26
    go_wp2_with fail
    refine HDN.out.mono ?_
    rintro e w2 ⟨rfl, rfl⟩
    go_wp2_with fail
    go_end0
    exact Meth.mk _ HH.out (Below.refl _ _)
  | false =>
    rw [show s.fuse n = { s with left := max n (-1), off := decide (n = 0) } by unfold St.fuse; rw [if_neg (by rw [hoff]; decide)]]
    rw [hoff] at HDN
    obtain ⟨vd, vf, vp, fuse, fcs, h⟩ := h
    have HD := Lib.hid h
    have hb := h.blk
    have k5 : w.cell? ⟨d, 5, none⟩ = some (.bool (decide (0 < s.left))) := (row_cells hb).1 5
    have k6 : w.cell? ⟨d, 6, none⟩ = some (.int .i64 fuse) := (row_cells hb).1 6
    have f5 := (row_cells hb).2 5
    have f6 := (row_cells hb).2 6
    have T : Hid (Turn d w ((w.setCell ⟨d, 5, none⟩ (.bool (decide (0 ≤ n)))).setCell ⟨d, 6, none⟩ (.int .i64 n))) := Lib.hid ((set_turn _ _ _ _).trans (set_turn _ _ _ _))
    have HB := Lib.hid (blow_any d (.int .i64 s.cap) vd vf vp false (decide (0 ≤ n)) n ((w.setCell ⟨d, 5, none⟩ (.bool (decide (0 ≤ n)))).setCell ⟨d, 6, none⟩ (.int .i64 n)) (by
      rw [set_heap (set_heap hb 5 _) 6 _]
      simp [dcells, hoff]))
    obtain ⟨hn1, hn2⟩ := hn
    clear h hg hb
    go_enter Try.func26, Try.ntmps26
    go_wp2_with fail
    refine HDN.out.mono ?_
    rintro e w1 ⟨rfl, hw1⟩
    have hw1' := hw1.symm
    subst hw1'
    go_wp2_with fail
    refine HB.out.mono ?_
    rintro e w2 ⟨rfl, hb2, ht2⟩
    have HB2 := Lib.hid hb2
    have HT2 := Lib.hid (T.out.trans ht2)
    clear hb2 ht2
    go_wp2_with fail
    go_end0
    have e1 : (false || (decide (0 ≤ n) && decide (n ≤ 0))) = decide (n = 0) := by
      by_cases h : n = 0
      · simp [h]
      · by_cases h2 : 0 ≤ n
        · simp [h, h2]; omega
        · simp [h, h2]
    have e2 : (decide (0 ≤ n) && !decide (n ≤ 0)) = decide (0 < max n (-1)) := by
      by_cases h : 0 < n
      · have : 0 ≤ n := by omega
        have h3 : ¬ n ≤ 0 := by omega
        have h4 : 0 < max n (-1) := by omega
        simp [this, h3, h4]
      · have h4 : ¬ 0 < max n (-1) := by omega
        rw [decide_eq_false h4]
        have h3 : n ≤ 0 := by omega
        simp [h3]
    have hbl : w2.heap[d]? = some (.cells (dcells { s with left := max n (-1), off := decide (n = 0) } vd vf vp n) 62 (0, 0)) := by
      rw [HB2.out, e1, e2]
      rfl
    obtain ⟨r1, r2⟩ := HD.out.turned (s' := { s with left := max n (-1), off := decide (n = 0) }) HT2.out hbl (by intro h; show n = max n (-1); have h : 0 < max n (-1) := h; omega) rfl rfl
    exact ⟨rfl, rw, ro, r1, r2⟩
theorem down_fuse (n : Int) (w : World) : Calls Try.prog 26 #[.pointer none, .int .i64 n] w fun e w' => e = .returned (.tuple #[]) ∧ w' = w := by
  have HDN := Lib.hid (down_nil w)
  go_enter Try.func26, Try.ntmps26
  go_wp2_with fail
  refine HDN.out.mono ?_
  rintro e w1 ⟨rfl, rfl⟩
  go_wp2_with fail
  (try simp only [Exit.inBlock, Exit.then])
  refine bodyPost_ret (results_none rfl _ _ _) rfl ?_
  exact ⟨rfl, rfl⟩
end Go.Proofs.Ytlaodmpdngdhjaa
