/- The reference's Sync, Fuse, NewDisk. -/
import Derived.Test.YtlaodmpdngdhjaaEg
import Derived.Test.YtlaodmpdngdhjaaDo
namespace Go.Proofs.Ytlaodmpdngdhjaa
set_option linter.unusedVariables false
set_option linter.unusedSimpArgs false
open Go.RowKit
set_option maxRecDepth 100000 in
set_option maxHeartbeats 2000000 in
theorem rsync_any (r : Nat) (s : St) (rw ro : Nat → Prop) (M : Nat) (w : World) (h : RefAt w r s rw ro) (hg : Good s M) (hM : M ≤ 500000) :
    Calls Try.prog 47 #[ptr r] w (RMeth w r s.sync.1 rw ro (.int .i64 s.sync.2)) := by
  have HH := Lib.hid h
  have HG := Lib.hid hg
  have HALL := Lib.hid (all_any r s rw ro M w h hg hM)
  obtain ⟨vf, vp, h⟩ := h
  have HD := Lib.hid h
  have hc := (row_cells h.blk).1
  have k4 : w.cell? ⟨r, 4, none⟩ = some (.bool s.off) := hc 4
  have hr := heap_lt h.blk
  clear h hg hc
  cases hoff : s.off with
  | true =>
    rw [show s.sync = (s, 25) by unfold St.sync; rw [if_pos hoff]]
    rw [hoff] at k4
    go_enter Try.func47, Try.ntmps47
    go_wp2_with fail
    go_ret
    exact RMeth.mk _ HH.out (Below.refl _ _)
  | false =>
    rw [show s.sync = (({ s with files := s.all, ops := [] } : St).spend, 0) by unfold St.sync; rw [if_neg (by rw [hoff]; decide)]]
    rw [hoff] at k4
    go_enter Try.func47, Try.ntmps47
    go_wp2_with fail
    refine HALL.out.mono ?_
    rintro e w2 ⟨v', rfl, hrow, hb2, ho2⟩
    have HR := Lib.hid hrow
    have HB2 := Lib.hid hb2
    have HO2 := Lib.hid ho2
    obtain ⟨a, cp, hv', hcp⟩ := hrow.shape
    subst hv'
    have HBK : Hid (w2.heap[r]? = some (.cells (rcells s vf vp) 99 (0, 0))) := Lib.hid (by rw [hb2.block r hr]; exact HD.out.blk)
    have k1 : w2.cell? ⟨r, 1, none⟩ = some vf := (row_cells HBK.out).1 1
    have k2 : w2.cell? ⟨r, 2, none⟩ = some vp := (row_cells HBK.out).1 2
    have f1 := (row_cells HBK.out).2 1
    have f2 := (row_cells HBK.out).2 2
    have hr2 := heap_lt HBK.out
    obtain ⟨V, hV⟩ : ∃ V, Value.slice a s.all.length cp = V := ⟨_, rfl⟩
    have HS := Lib.hid (spend_any r { s with files := s.all, ops := [] } (.slice a s.all.length cp) (.slice none 0 0) ((w2.setCell ⟨r, 1, none⟩ (.slice a s.all.length cp)).setCell ⟨r, 2, none⟩ (.slice none 0 0)) (by
      rw [set_heap (set_heap HBK.out 1 _) 2 _]
      simp [rcells]) HG.out.hi)
    have T : Hid (Turn r w2 ((w2.setCell ⟨r, 1, none⟩ (.slice a s.all.length cp)).setCell ⟨r, 2, none⟩ (.slice none 0 0))) := Lib.hid ((set_turn _ _ _ _).trans (set_turn _ _ _ _))
    clear hrow hb2 ho2 hV
    go_wp2_with fail
    refine HS.out.mono ?_
    rintro e w5 ⟨rfl, hb5, ht5⟩
    have HB5 := Lib.hid hb5
    have HT5 := Lib.hid (T.out.trans ht5)
    clear hb5 ht5
    go_wp2_with fail
    go_ret
    have e1 := (spend_same { s with files := s.all, ops := [] }).2.1
    have e2 := (spend_same { s with files := s.all, ops := [] }).2.2
    have hsz : w.heap.size ≤ w5.heap.size := by rw [HT5.out.size]; exact HB2.out.size
    refine ⟨rfl, rw, fun b => ro b ∨ (Value.slice a s.all.length cp).ownBlock = some b, ⟨_, _, HB5.out, ?_, ?_, HD.out.rwr, fun b e => (by cases e), fun b e => .inr e, ?_, ?_⟩, HT5.out.os.trans HB2.out.os, HT5.out.tape.trans HB2.out.tape, HT5.out.output.trans HB2.out.output, hsz, fun b hb hnr => ?_, fun b h => .inl h, ?_⟩
    · rw [e1]
      refine HR.out.kept (fun b e => HT5.out.block b ?_) (by rw [HT5.out.size]; exact Nat.le_refl _)
      rintro rfl
      rcases HO2.out b e with h | h
      · exact HD.out.dis b HD.out.rwr h
      · omega
    · rw [e2]
      exact World.ownsRow_nil _ _ _ _
    · rintro b (hq | hq | hq)
      · exact Nat.lt_of_lt_of_le (HD.out.lt b (.inl hq)) hsz
      · exact Nat.lt_of_lt_of_le (HD.out.lt b (.inr hq)) hsz
      · rw [HT5.out.size]
        rcases HR.out with ⟨h, _⟩ | ⟨g, cap, h, _, hg, _⟩
        · rw [h] at hq; cases hq
        · rw [h] at hq
          obtain rfl : g = b := by simpa [Value.ownBlock] using hq
          exact hg
    · rintro b hq (h | h)
      · exact HD.out.dis b hq h
      · rcases HO2.out b h with h1 | h1
        · exact HD.out.dis b hq h1
        · have := HD.out.lt b (.inl hq); omega
    · rw [HT5.out.block b (by rintro rfl; exact hnr HD.out.rwr)]
      exact HB2.out.block b hb
    · rintro b (h | h)
      · exact .inl h
      · exact HO2.out b h
set_option maxRecDepth 100000 in
set_option maxHeartbeats 2000000 in
theorem rfuse_any (r : Nat) (s : St) (rw ro : Nat → Prop) (n : Int) (w : World) (h : RefAt w r s rw ro) (hn : -9223372036854775808 ≤ n ∧ n < 9223372036854775808) :
    Calls Try.prog 57 #[ptr r, .int .i64 n] w (RMeth w r (s.fuse n) rw ro (.tuple #[])) := by
  have HH := Lib.hid h
  obtain ⟨vf, vp, h⟩ := h
  have HD := Lib.hid h
  obtain ⟨hc, hf⟩ := row_cells h.blk
  have k3 : w.cell? ⟨r, 3, none⟩ = some (.int .i64 s.left) := hc 3
  have k4 : w.cell? ⟨r, 4, none⟩ = some (.bool s.off) := hc 4
  have f3 := hf 3
  have f4 := hf 4
  obtain ⟨hn1, hn2⟩ := hn
  clear h hc hf
  cases hoff : s.off with
  | true =>
    rw [show s.fuse n = s by unfold St.fuse; rw [if_pos hoff]]
    rw [hoff] at k4
    go_enter Try.func57, Try.ntmps57
    go_wp2_with fail
    (try simp only [Exit.inBlock, Exit.then])
    refine bodyPost_ret (results_none rfl _ _ _) rfl ?_
    exact RMeth.mk _ HH.out (Below.refl _ _)
  | false =>
    rw [show s.fuse n = { s with left := max n (-1), off := decide (n = 0) } by unfold St.fuse; rw [if_neg (by rw [hoff]; decide)]]
    rw [hoff] at k4
    go_enter Try.func57, Try.ntmps57
    go_wp2_with fail
    go_end0
    have hb : ((w.setCell ⟨r, 3, none⟩ (.int .i64 (max n (-1)))).setCell ⟨r, 4, none⟩ (.bool (n == 0))).heap[r]? = some (.cells (rcells { s with left := max n (-1), off := decide (n = 0) } vf vp) 99 (0, 0)) := by
      rw [set_heap (set_heap HD.out.blk 3 _) 4 _]
      simp [rcells]
      try rfl
    obtain ⟨h1, h2⟩ := HD.out.turned (s' := { s with left := max n (-1), off := decide (n = 0) }) ((set_turn w r 3 _).trans (set_turn _ r 4 _)) hb rfl rfl
    exact ⟨rfl, rw, ro, h1, h2⟩
set_option maxRecDepth 100000 in
theorem rnew_any (cap : Int) (w : World) (h1 : -9223372036854775808 ≤ cap) (h2 : cap < 9223372036854775808) :
    Calls Try.prog 35 #[.int .i64 cap] w fun e w' => e = .returned (ptr w.heap.size) ∧ RefAt w' w.heap.size (St.new cap) (fun b => b = w.heap.size) (fun _ => False) ∧ Below w.heap.size w w' ∧ w.heap.size < w'.heap.size := by
  have e : max cap 0 = (cap.toNat : Int) := by omega
  have HE := Lib.hid e
  clear e
  go_enter Try.func35, Try.ntmps35
  go_wp2_with fail
  go_ret
  refine ⟨rfl, ⟨.slice none 0 0, .slice none 0 0, ?_, .inl ⟨rfl, rfl⟩, World.ownsRow_nil _ _ _ _, rfl, fun b e => (by cases e), fun b e => (by cases e), ?_, fun _ _ h => h⟩, (Below.refl _ _).alloc (Nat.le_refl _) _, by simp⟩
  · show _ = some (Obj.cells #[.int .i64 (cap.toNat : Int), .slice none 0 0, .slice none 0 0, .int .i64 (-1), .bool false] 99 (0, 0))
    rw [← HE.out]
    exact heap_alloc_new w _
  · rintro b (rfl | h)
    · simp
    · exact h.elim
end Go.Proofs.Ytlaodmpdngdhjaa
