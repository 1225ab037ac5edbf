/- The reference's Rename, Remove, Sync, Read, Fuse, NewDisk (printed by eg.py). -/
import Derived.Test.YtlaodmpdngdhjaaEf
namespace Go.Proofs.Ytlaodmpdngdhjaa
set_option linter.unusedVariables false
set_option linter.unusedSimpArgs false
open Go.RowKit
set_option maxRecDepth 100000 in
set_option maxHeartbeats 4000000 in
theorem rrename_any (r : Nat) (s : St) (rw ro : Nat → Prop) (M : Nat) (x y : ByteArray) (w : World) (h : RefAt w r s rw ro) (hg : Good s M) (hM : M ≤ 500000) (hx : x.size ≤ maxLen) (hy : y.size ≤ maxLen) :
    Calls Try.prog 76 #[ptr r, .string x, .string y] w (RMeth w r (s.rename x y).1 rw ro (.int .i64 (s.rename x y).2)) := by
  obtain ⟨i0, hf, hf0, hf1, hf2⟩ := info_parts info110
  have HH := Lib.hid h
  have HG := Lib.hid hg
  have HALL := Lib.hid (all_any r s rw ro M w h hg hM)
  have hsz := hg.szAll
  have hops : s.ops.length ≤ 500000 := by have := hg.wt; omega
  obtain ⟨vf, vp, h⟩ := h
  have HD := Lib.hid h
  have hc := (row_cells h.blk).1
  have k0 : w.cell? ⟨r, 0, none⟩ = some (.int .i64 s.cap) := hc 0
  have k4 : w.cell? ⟨r, 4, none⟩ = some (.bool s.off) := hc 4
  have hr := heap_lt h.blk
  have hcap := hg.cap
  clear h hg hc
  have HV := Lib.hid fun W => validf_any x W hx
  have HV2 := Lib.hid fun W => validf_any y W hy
  cases hoff : s.off with
  | true =>
    rw [show s.rename x y = (s, 25) by unfold St.rename; rw [if_pos hoff]]
    rw [hoff] at k4
    go_enter Try.func76, Try.ntmps76
    go_wp2_with fail
    go_ret
    exact RMeth.mk _ HH.out (Below.refl _ _)
  | false =>
    rw [hoff] at k4
    cases hv : valid x with
    | false =>
      rw [show s.rename x y = (s, 14) by unfold St.rename; rw [if_neg (by rw [hoff]; decide), if_pos (.inl hv)]]
      rw [hv] at HV
      go_enter Try.func76, Try.ntmps76
      go_wp2_with fail
      refine (HV.out _).mono ?_
      rintro e w2 ⟨rfl, hw⟩
      have hw' := hw.symm
      subst hw'
      go_wp2_with fail
      go_ret
      exact RMeth.mk _ HH.out (Below.refl _ _)
    | true =>
      rw [hv] at HV
      cases hv2 : valid y with
      | false =>
        rw [show s.rename x y = (s, 14) by unfold St.rename; rw [if_neg (by rw [hoff]; decide), if_pos (.inr hv2)]]
        rw [hv2] at HV2
        go_enter Try.func76, Try.ntmps76
        go_wp2_with fail
        refine (HV.out _).mono ?_
        rintro e w2 ⟨rfl, hw⟩
        have hw' := hw.symm
        subst hw'
        go_wp2_with fail
        refine (HV2.out _).mono ?_
        rintro e w2 ⟨rfl, hw2⟩
        have hw2' := hw2.symm
        subst hw2'
        go_wp2_with fail
        go_ret
        exact RMeth.mk _ HH.out (Below.refl _ _)
      | true =>
        rw [hv2] at HV2
        by_cases hhas : s.has x
        · rw [show s.rename x y = (s.push (.ren x y), 0) by unfold St.rename; rw [if_neg (by rw [hoff]; decide), if_neg (by rw [hv, hv2]; decide), if_neg (by simpa using hhas)]]
          have hwr := whr_nonneg hhas
          go_enter Try.func76, Try.ntmps76
          go_wp2_with fail
          refine (HV.out _).mono ?_
          rintro e w1 ⟨rfl, hw⟩
          have hw' := hw.symm
          subst hw'
          go_wp2_with fail
          refine (HV2.out _).mono ?_
          rintro e w1 ⟨rfl, hw2⟩
          have hw2' := hw2.symm
          subst hw2'
          go_wp2_with fail
          refine HALL.out.mono ?_
          rintro e w2 ⟨v', rfl, hrow, hb2, ho2⟩
          have HB2 := Lib.hid hb2
          have HWH := Lib.hid (where_any _ s.all x w2 hrow (by omega))
          clear hrow hb2 ho2
          rw [hwr] at HWH
          obtain ⟨q, hq⟩ : ∃ q, idx s.all x = q := ⟨_, rfl⟩
          rw [hq] at HWH
          clear hq hwr
          go_wp2_with fail
          refine HWH.out.mono ?_
          rintro e w2' ⟨rfl, hw⟩
          have hw' := hw.symm
          subst hw'
          have HI2 : Hid (RefIs w2 r s rw ro vf vp) := Lib.hid (HD.out.kept (fun b hb => HB2.out.block b (HD.out.lt b hb)) HB2.out.size)
          have m2 : w2.cell? ⟨r, 2, none⟩ = some vp := (row_cells HI2.out.blk).1 2
          have hr2 : r < w2.heap.size := heap_lt HI2.out.blk
          go_wp2_with (at_builtin; go_loud (refine wpList_app rfl (.tmp 28) (.tmp 32) 97 rfl 0 110 i0 (.agg #[.int .i64 0, .string ⟨#[]⟩, .string ⟨#[]⟩]) 3 40 Try.underlying97 hf hf0 hf1 hf2 rfl (by omega) vp s.ops.length (s.ops.flatMap ocells) rfl (HI2.out.row.alloc _) (.slice (some ⟨w2.heap.size, 0, none⟩) 1 1) 1 (ocells (.ren x y)) rfl (.inr ⟨_, _, rfl, rfl, cells_new' w2 (ocells (.ren x y)) 110⟩) (by intro u hu; simp [ocells] at hu; rcases hu with rfl | rfl | rfl <;> rfl) (by unfold maxLen; omega) (by omega) (Nat.zero_le _) ?_; intro v3 w3 o3 g3 p3; obtain ⟨gb, gc, rfl⟩ := own_form o3.out (Nat.succ_pos _); have hb3 : Hid (w3.heap[r]? = some (.cells (rcells s vf vp) 99 (0, 0))) := Lib.hid (by rw [g3.out.block r (by simp; omega) (by intro e; obtain ⟨cur, fr, ho⟩ := own_obj HI2.out.row e.symm; rw [HI2.out.blk] at ho; cases ho), Below.heap_alloc _ _ _ hr2]; exact HI2.out.blk); have q4 : w3.cell? ⟨r, 2, none⟩ = some vp := (row_cells hb3.out).1 2; have q5 : w3.frozen? ⟨r, 2, none⟩ = false := (row_cells hb3.out).2 2; have q6 : r < w3.heap.size := heap_lt hb3.out))
          have HS := Lib.hid (spend_any r { s with ops := s.ops ++ [.ren x y] } vf (.slice (some ⟨gb, 0, none⟩) (s.ops.length + 1) gc) (w3.setCell ⟨r, 2, none⟩ (.slice (some ⟨gb, 0, none⟩) (s.ops.length + 1) gc)) (by rw [set_heap hb3.out 2 _]; simp [rcells]) HG.out.hi)
          refine HS.out.mono ?_
          rintro e w5 ⟨rfl, hb5, ht5⟩
          have HP := Lib.hid (HI2.out.push (c := .ren x y) g3.out o3.out p3.out ht5 hb5)
          clear hb5 ht5
          go_wp2_with fail
          go_ret
          obtain ⟨rw', ro', h1, h2⟩ := HP.out
          exact ⟨rfl, rw', ro', h1, (Kept.below HB2.out).trans h2⟩
        · rw [show s.rename x y = (s, 23) by unfold St.rename; rw [if_neg (by rw [hoff]; decide), if_neg (by rw [hv, hv2]; decide), if_pos hhas]]
          have hwr := whr_neg hhas
          go_enter Try.func76, Try.ntmps76
          go_wp2_with fail
          refine (HV.out _).mono ?_
          rintro e w1 ⟨rfl, hw⟩
          have hw' := hw.symm
          subst hw'
          go_wp2_with fail
          refine (HV2.out _).mono ?_
          rintro e w1 ⟨rfl, hw2⟩
          have hw2' := hw2.symm
          subst hw2'
          go_wp2_with fail
          refine HALL.out.mono ?_
          rintro e w2 ⟨v', rfl, hrow, hb2, ho2⟩
          have HB2 := Lib.hid hb2
          have HWH := Lib.hid (where_any _ s.all x w2 hrow (by omega))
          clear hrow hb2 ho2
          rw [hwr] at HWH
          clear hwr
          go_wp2_with fail
          refine HWH.out.mono ?_
          rintro e w2' ⟨rfl, hw⟩
          have hw' := hw.symm
          subst hw'
          go_wp2_with fail
          go_ret
          exact RMeth.mk _ HH.out HB2.out
set_option maxRecDepth 100000 in
set_option maxHeartbeats 4000000 in
theorem rremove_any (r : Nat) (s : St) (rw ro : Nat → Prop) (M : Nat) (x : ByteArray) (w : World) (h : RefAt w r s rw ro) (hg : Good s M) (hM : M ≤ 500000) (hx : x.size ≤ maxLen) :
    Calls Try.prog 77 #[ptr r, .string x] w (RMeth w r (s.remove x).1 rw ro (.int .i64 (s.remove x).2)) := by
  obtain ⟨i0, hf, hf0, hf1, hf2⟩ := info_parts info110
  have HH := Lib.hid h
  have HG := Lib.hid hg
  have HALL := Lib.hid (all_any r s rw ro M w h hg hM)
  have hsz := hg.szAll
  have hops : s.ops.length ≤ 500000 := by have := hg.wt; omega
  obtain ⟨vf, vp, h⟩ := h
  have HD := Lib.hid h
  have hc := (row_cells h.blk).1
  have k0 : w.cell? ⟨r, 0, none⟩ = some (.int .i64 s.cap) := hc 0
  have k4 : w.cell? ⟨r, 4, none⟩ = some (.bool s.off) := hc 4
  have hr := heap_lt h.blk
  have hcap := hg.cap
  clear h hg hc
  have HV := Lib.hid fun W => validf_any x W hx
  cases hoff : s.off with
  | true =>
    rw [show s.remove x = (s, 25) by unfold St.remove; rw [if_pos hoff]]
    rw [hoff] at k4
    go_enter Try.func77, Try.ntmps77
    go_wp2_with fail
    go_ret
    exact RMeth.mk _ HH.out (Below.refl _ _)
  | false =>
    rw [hoff] at k4
    cases hv : valid x with
    | false =>
      rw [show s.remove x = (s, 14) by unfold St.remove; rw [if_neg (by rw [hoff]; decide), if_pos hv]]
      rw [hv] at HV
      go_enter Try.func77, Try.ntmps77
      go_wp2_with fail
      refine (HV.out _).mono ?_
      rintro e w2 ⟨rfl, hw⟩
      have hw' := hw.symm
      subst hw'
      go_wp2_with fail
      go_ret
      exact RMeth.mk _ HH.out (Below.refl _ _)
    | true =>
      rw [hv] at HV
      by_cases hhas : s.has x
      · rw [show s.remove x = (s.push (.del x), 0) by unfold St.remove; rw [if_neg (by rw [hoff]; decide), if_neg (by rw [hv]; decide), if_neg (by simpa using hhas)]]
        have hwr := whr_nonneg hhas
        go_enter Try.func77, Try.ntmps77
        go_wp2_with fail
        refine (HV.out _).mono ?_
        rintro e w1 ⟨rfl, hw⟩
        have hw' := hw.symm
        subst hw'
        go_wp2_with fail
        refine HALL.out.mono ?_
        rintro e w2 ⟨v', rfl, hrow, hb2, ho2⟩
        have HB2 := Lib.hid hb2
        have HWH := Lib.hid (where_any _ s.all x w2 hrow (by omega))
        clear hrow hb2 ho2
        rw [hwr] at HWH
        obtain ⟨q, hq⟩ : ∃ q, idx s.all x = q := ⟨_, rfl⟩
        rw [hq] at HWH
        clear hq hwr
        go_wp2_with fail
        refine HWH.out.mono ?_
        rintro e w2' ⟨rfl, hw⟩
        have hw' := hw.symm
        subst hw'
        have HI2 : Hid (RefIs w2 r s rw ro vf vp) := Lib.hid (HD.out.kept (fun b hb => HB2.out.block b (HD.out.lt b hb)) HB2.out.size)
        have m2 : w2.cell? ⟨r, 2, none⟩ = some vp := (row_cells HI2.out.blk).1 2
        have hr2 : r < w2.heap.size := heap_lt HI2.out.blk
        go_wp2_with (at_builtin; go_loud (refine wpList_app rfl (.tmp 21) (.tmp 24) 97 rfl 0 110 i0 (.agg #[.int .i64 0, .string ⟨#[]⟩, .string ⟨#[]⟩]) 3 40 Try.underlying97 hf hf0 hf1 hf2 rfl (by omega) vp s.ops.length (s.ops.flatMap ocells) rfl (HI2.out.row.alloc _) (.slice (some ⟨w2.heap.size, 0, none⟩) 1 1) 1 (ocells (.del x)) rfl (.inr ⟨_, _, rfl, rfl, cells_new' w2 (ocells (.del x)) 110⟩) (by intro u hu; simp [ocells] at hu; rcases hu with rfl | rfl | rfl <;> rfl) (by unfold maxLen; omega) (by omega) (Nat.zero_le _) ?_; intro v3 w3 o3 g3 p3; obtain ⟨gb, gc, rfl⟩ := own_form o3.out (Nat.succ_pos _); have hb3 : Hid (w3.heap[r]? = some (.cells (rcells s vf vp) 99 (0, 0))) := Lib.hid (by rw [g3.out.block r (by simp; omega) (by intro e; obtain ⟨cur, fr, ho⟩ := own_obj HI2.out.row e.symm; rw [HI2.out.blk] at ho; cases ho), Below.heap_alloc _ _ _ hr2]; exact HI2.out.blk); have q4 : w3.cell? ⟨r, 2, none⟩ = some vp := (row_cells hb3.out).1 2; have q5 : w3.frozen? ⟨r, 2, none⟩ = false := (row_cells hb3.out).2 2; have q6 : r < w3.heap.size := heap_lt hb3.out))
        have HS := Lib.hid (spend_any r { s with ops := s.ops ++ [.del x] } vf (.slice (some ⟨gb, 0, none⟩) (s.ops.length + 1) gc) (w3.setCell ⟨r, 2, none⟩ (.slice (some ⟨gb, 0, none⟩) (s.ops.length + 1) gc)) (by rw [set_heap hb3.out 2 _]; simp [rcells]) HG.out.hi)
        refine HS.out.mono ?_
        rintro e w5 ⟨rfl, hb5, ht5⟩
        have HP := Lib.hid (HI2.out.push (c := .del x) g3.out o3.out p3.out ht5 hb5)
        clear hb5 ht5
        go_wp2_with fail
        go_ret
        obtain ⟨rw', ro', h1, h2⟩ := HP.out
        exact ⟨rfl, rw', ro', h1, (Kept.below HB2.out).trans h2⟩
      · rw [show s.remove x = (s, 23) by unfold St.remove; rw [if_neg (by rw [hoff]; decide), if_neg (by rw [hv]; decide), if_pos hhas]]
        have hwr := whr_neg hhas
        go_enter Try.func77, Try.ntmps77
        go_wp2_with fail
        refine (HV.out _).mono ?_
        rintro e w1 ⟨rfl, hw⟩
        have hw' := hw.symm
        subst hw'
        go_wp2_with fail
        refine HALL.out.mono ?_
        rintro e w2 ⟨v', rfl, hrow, hb2, ho2⟩
        have HB2 := Lib.hid hb2
        have HWH := Lib.hid (where_any _ s.all x w2 hrow (by omega))
        clear hrow hb2 ho2
        rw [hwr] at HWH
        clear hwr
        go_wp2_with fail
        refine HWH.out.mono ?_
        rintro e w2' ⟨rfl, hw⟩
        have hw' := hw.symm
        subst hw'
        go_wp2_with fail
        go_ret
        exact RMeth.mk _ HH.out HB2.out
set_option maxRecDepth 100000 in
set_option maxHeartbeats 4000000 in
theorem rread_any (r : Nat) (s : St) (rw ro : Nat → Prop) (M : Nat) (x : ByteArray) (w : World) (h : RefAt w r s rw ro) (hg : Good s M) (hM : M ≤ 500000) (hx : x.size ≤ maxLen) :
    Calls Try.prog 60 #[ptr r, .string x] w fun e w' => e = .returned (.tuple #[.string (s.read x).1, .int .i64 (s.read x).2]) ∧ Below w.heap.size w w' := by
  obtain ⟨i0, hf, hf0, hf1, hf2⟩ := info_parts info110
  have HH := Lib.hid h
  have HG := Lib.hid hg
  have HALL := Lib.hid (all_any r s rw ro M w h hg hM)
  have hsz := hg.szAll
  have hops : s.ops.length ≤ 500000 := by have := hg.wt; omega
  obtain ⟨vf, vp, h⟩ := h
  have HD := Lib.hid h
  have hc := (row_cells h.blk).1
  have k0 : w.cell? ⟨r, 0, none⟩ = some (.int .i64 s.cap) := hc 0
  have k4 : w.cell? ⟨r, 4, none⟩ = some (.bool s.off) := hc 4
  have hr := heap_lt h.blk
  have hcap := hg.cap
  clear h hg hc
  have HV := Lib.hid fun W => validf_any x W hx
  cases hoff : s.off with
  | true =>
    rw [show s.read x = (⟨#[]⟩, 25) by unfold St.read; rw [if_pos hoff]]
    rw [hoff] at k4
    go_enter Try.func60, Try.ntmps60
    go_wp2_with fail
    go_ret2
    exact ⟨rfl, Below.refl _ _⟩
  | false =>
    rw [hoff] at k4
    cases hv : valid x with
    | false =>
      rw [show s.read x = (⟨#[]⟩, 14) by unfold St.read; rw [if_neg (by rw [hoff]; decide), if_pos hv]]
      rw [hv] at HV
      go_enter Try.func60, Try.ntmps60
      go_wp2_with fail
      refine (HV.out _).mono ?_
      rintro e w2 ⟨rfl, hw⟩
      have hw' := hw.symm
      subst hw'
      go_wp2_with fail
      go_ret2
      exact ⟨rfl, Below.refl _ _⟩
    | true =>
      rw [hv] at HV
      by_cases hhas : s.has x
      · rw [show s.read x = ((look s.all x).getD ⟨#[]⟩, 0) by unfold St.read; rw [if_neg (by rw [hoff]; decide), if_neg (by rw [hv]; decide), if_neg (by simpa using hhas)]]
        have hwr := whr_nonneg hhas
        have hlk := (look_some hhas).2
        obtain ⟨p, hp⟩ : ∃ p, s.all[idx s.all x]'hhas = p := ⟨_, rfl⟩
        have hp2 : s.all[idx s.all x]? = some p := by rw [← hp]; exact List.getElem?_eq_getElem hhas
        rw [hp] at hlk
        rw [show (look s.all x).getD ⟨#[]⟩ = p.2 by rw [hlk]; rfl]
        go_enter Try.func60, Try.ntmps60
        go_wp2_with fail
        refine (HV.out _).mono ?_
        rintro e w1 ⟨rfl, hw⟩
        have hw' := hw.symm
        subst hw'
        go_wp2_with fail
        refine HALL.out.mono ?_
        rintro e w2 ⟨v', rfl, hrow, hb2, ho2⟩
        have HB2 := Lib.hid hb2
        have HWH := Lib.hid (where_any _ s.all x w2 hrow (by omega))
        obtain ⟨a, cp, hv', hcp⟩ := hrow.shape
        subst hv'
        obtain ⟨g, rfl, _, hg, _, c1⟩ := hrow.get hp2
        rw [hwr] at HWH
        obtain ⟨q, hq⟩ : ∃ q, idx s.all x = q := ⟨_, rfl⟩
        obtain ⟨len, hlen⟩ : ∃ len, s.all.length = len := ⟨_, rfl⟩
        have hql : q < len := by rw [← hq, ← hlen]; exact hhas
        have hl5 : len ≤ 500000 := by omega
        rw [hq] at HWH c1
        rw [hlen] at HWH ⊢
        clear hq hwr hlk hp hp2 hrow hb2 ho2 hlen hhas
        go_wp2_with fail
        refine HWH.out.mono ?_
        rintro e w2' ⟨rfl, hw⟩
        have hw' := hw.symm
        subst hw'
        go_wp2_with fail
        go_ret2
        exact ⟨rfl, HB2.out⟩
      · rw [show s.read x = (⟨#[]⟩, 23) by unfold St.read; rw [if_neg (by rw [hoff]; decide), if_neg (by rw [hv]; decide), if_pos hhas]]
        have hwr := whr_neg hhas
        go_enter Try.func60, Try.ntmps60
        go_wp2_with fail
        refine (HV.out _).mono ?_
        rintro e w1 ⟨rfl, hw⟩
        have hw' := hw.symm
        subst hw'
        go_wp2_with fail
        refine HALL.out.mono ?_
        rintro e w2 ⟨v', rfl, hrow, hb2, ho2⟩
        have HB2 := Lib.hid hb2
        have HWH := Lib.hid (where_any _ s.all x w2 hrow (by omega))
        clear hrow hb2 ho2
        rw [hwr] at HWH
        clear hwr
        go_wp2_with fail
        refine HWH.out.mono ?_
        rintro e w2' ⟨rfl, hw⟩
        have hw' := hw.symm
        subst hw'
        go_wp2_with fail
        go_ret2
        exact ⟨rfl, HB2.out⟩
end Go.Proofs.Ytlaodmpdngdhjaa
