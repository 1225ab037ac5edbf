/- Rename, Remove, Read, Pending of the program's disk. -/
import Derived.Test.YtlaodmpdngdhjaaDm
namespace Go.Proofs.Ytlaodmpdngdhjaa
set_option linter.unusedVariables false
set_option linter.unusedSimpArgs false
open Go.RowKit Go.Maps Go.WideMaps

set_option maxRecDepth 100000 in
set_option maxHeartbeats 2000000 in
theorem rename_any (d : Nat) (s : St) (rw ro : Nat → Prop) (M : Nat) (x y : ByteArray) (w : World) (h : DiskAt w d s rw ro) (hg : Good s M) (hM : M ≤ 500000) (hx : x.size ≤ maxLen) (hy : y.size ≤ maxLen) :
    Calls Try.prog 41 #[ptr d, .string x, .string y] w (Meth w d (s.rename x y).1 rw ro (.int .i64 (s.rename x y).2)) := by
  have HW := Lib.hid (h.within hg hM)
  have HH := Lib.hid h
  have HG := Lib.hid hg
  have HV := Lib.hid fun W => valid_any x W hx
  have HV2 := Lib.hid fun W => valid_any y W hy
  have HN := Lib.hid hx
  have HB := Lib.hid (show Below w.heap.size w ((w.alloc (.cells #[.string x] 9)).alloc (.cells #[.string y] 9)) from ((Below.refl _ _).alloc (Nat.le_refl _) _).alloc (by simp) _)
  have HDN := Lib.hid (HW.out.down _ HB.out)
  have HHS := Lib.hid (HW.out.has _ x HB.out hx)
  clear h hg
  cases hoff : s.off with
  | true =>
    rw [show s.rename x y = (s, 25) by unfold St.rename; rw [if_pos hoff]]
    rw [hoff] at HDN
    go_enter Try.func41, Try.ntmps41
    go_wp2_with fail
    refine HDN.out.mono ?_
    rintro e w2 ⟨rfl, rfl⟩
    go_wp2_with fail
    go_ret
    exact Meth.mk _ HH.out HB.out
  | false =>
    rw [hoff] at HDN
    cases hv : valid x with
    | false =>
      rw [show s.rename x y = (s, 14) by unfold St.rename; rw [if_neg (by rw [hoff]; decide), if_pos (.inl hv)]]
      rw [hv] at HV
      go_enter Try.func41, Try.ntmps41
      go_wp2_with fail
      refine HDN.out.mono ?_
      rintro e w2 ⟨rfl, rfl⟩
      go_wp2_with fail
      refine (HV.out _).mono ?_
      rintro e w2 ⟨rfl, rfl⟩
      go_wp2_with fail
      go_ret
      exact Meth.mk _ HH.out HB.out
    | true =>
      rw [hv] at HV
      cases hv2 : valid y with
      | false =>
        rw [show s.rename x y = (s, 14) by unfold St.rename; rw [if_neg (by rw [hoff]; decide), if_pos (.inr hv2)]]
        rw [hv2] at HV2
        go_enter Try.func41, Try.ntmps41
        go_wp2_with fail
        refine HDN.out.mono ?_
        rintro e w2 ⟨rfl, rfl⟩
        go_wp2_with fail
        refine (HV.out _).mono ?_
        rintro e w2 ⟨rfl, rfl⟩
        go_wp2_with fail
        refine (HV2.out _).mono ?_
        rintro e w2 ⟨rfl, rfl⟩
        go_wp2_with fail
        go_ret
        exact Meth.mk _ HH.out HB.out
      | true =>
        rw [hv2] at HV2
        by_cases hhas : s.has x
        · rw [show s.rename x y = (s.push (.ren x y), 0) by unfold St.rename; rw [if_neg (by rw [hoff]; decide), if_neg (by rw [hv, hv2]; decide), if_neg (by simpa using hhas)]]
          rw [decide_eq_true hhas] at HHS
          go_enter Try.func41, Try.ntmps41
          go_wp2_with fail
          refine HDN.out.mono ?_
          rintro e w2 ⟨rfl, rfl⟩
          go_wp2_with fail
          refine (HV.out _).mono ?_
          rintro e w2 ⟨rfl, rfl⟩
          go_wp2_with fail
          refine (HV2.out _).mono ?_
          rintro e w2 ⟨rfl, rfl⟩
          go_wp2_with fail
          refine HHS.out.mono ?_
          rintro e w2 ⟨rfl, rfl⟩
          go_wp2_with fail
          refine (make78_new HH.out HG.out hM HB.out _ _ x y (by omega) (by omega) (two_cells _ _ _ _ _).1 (two_cells _ _ _ _ _).2 (valid_size hv) (valid_size hv2) hhas).mono ?_
          rintro e w3 ⟨rfl, hm⟩
          have HM := Lib.hid hm
          clear hm
          go_wp2_with fail
          go_ret
          exact ⟨rfl, HM.out⟩
        · rw [show s.rename x y = (s, 23) by unfold St.rename; rw [if_neg (by rw [hoff]; decide), if_neg (by rw [hv, hv2]; decide), if_pos hhas]]
          rw [decide_eq_false hhas] at HHS
          go_enter Try.func41, Try.ntmps41
          go_wp2_with fail
          refine HDN.out.mono ?_
          rintro e w2 ⟨rfl, rfl⟩
          go_wp2_with fail
          refine (HV.out _).mono ?_
          rintro e w2 ⟨rfl, rfl⟩
          go_wp2_with fail
          refine (HV2.out _).mono ?_
          rintro e w2 ⟨rfl, rfl⟩
          go_wp2_with fail
          refine HHS.out.mono ?_
          rintro e w2 ⟨rfl, rfl⟩
          go_wp2_with fail
          go_ret
          exact Meth.mk _ HH.out HB.out
set_option maxRecDepth 100000 in
set_option maxHeartbeats 2000000 in
theorem remove_any (d : Nat) (s : St) (rw ro : Nat → Prop) (M : Nat) (x : ByteArray) (w : World) (h : DiskAt w d s rw ro) (hg : Good s M) (hM : M ≤ 500000) (hx : x.size ≤ maxLen) :
    Calls Try.prog 42 #[ptr d, .string x] w (Meth w d (s.remove x).1 rw ro (.int .i64 (s.remove x).2)) := by
  have HW := Lib.hid (h.within hg hM)
  have HH := Lib.hid h
  have HG := Lib.hid hg
  have HV := Lib.hid fun W => valid_any x W hx
  have HN := Lib.hid hx
  have HB := Lib.hid (show Below w.heap.size w (w.alloc (.cells #[.string x] 9)) from (Below.refl _ _).alloc (Nat.le_refl _) _)
  have HDN := Lib.hid (HW.out.down _ HB.out)
  have HHS := Lib.hid (HW.out.has _ x HB.out hx)
  clear h hg
  cases hoff : s.off with
  | true =>
    rw [show s.remove x = (s, 25) by unfold St.remove; rw [if_pos hoff]]
    rw [hoff] at HDN
    go_enter Try.func42, Try.ntmps42
    go_wp2_with fail
    refine HDN.out.mono ?_
    rintro e w2 ⟨rfl, rfl⟩
    go_wp2_with fail
    go_ret
    exact Meth.mk _ HH.out HB.out
  | false =>
    rw [hoff] at HDN
    cases hv : valid x with
    | false =>
      rw [show s.remove x = (s, 14) by unfold St.remove; rw [if_neg (by rw [hoff]; decide), if_pos hv]]
      rw [hv] at HV
      go_enter Try.func42, Try.ntmps42
      go_wp2_with fail
      refine HDN.out.mono ?_
      rintro e w2 ⟨rfl, rfl⟩
      go_wp2_with fail
      refine (HV.out _).mono ?_
      rintro e w2 ⟨rfl, rfl⟩
      go_wp2_with fail
      go_ret
      exact Meth.mk _ HH.out HB.out
    | true =>
      rw [hv] at HV
      by_cases hhas : s.has x
      · rw [show s.remove x = (s.push (.del x), 0) by unfold St.remove; rw [if_neg (by rw [hoff]; decide), if_neg (by rw [hv]; decide), if_neg (by simpa using hhas)]]
        rw [decide_eq_true hhas] at HHS
        go_enter Try.func42, Try.ntmps42
        go_wp2_with fail
        refine HDN.out.mono ?_
        rintro e w2 ⟨rfl, rfl⟩
        go_wp2_with fail
        refine (HV.out _).mono ?_
        rintro e w2 ⟨rfl, rfl⟩
        go_wp2_with fail
        refine HHS.out.mono ?_
        rintro e w2 ⟨rfl, rfl⟩
        go_wp2_with fail
        refine (make79_new HH.out HG.out hM HB.out _ x (by omega) ((row_cells (heap_alloc_new w _)).1 0) (valid_size hv)).mono ?_
        rintro e w3 ⟨rfl, hm⟩
        have HM := Lib.hid hm
        clear hm
        go_wp2_with fail
        go_ret
        exact ⟨rfl, HM.out⟩
      · rw [show s.remove x = (s, 23) by unfold St.remove; rw [if_neg (by rw [hoff]; decide), if_neg (by rw [hv]; decide), if_pos hhas]]
        rw [decide_eq_false hhas] at HHS
        go_enter Try.func42, Try.ntmps42
        go_wp2_with fail
        refine HDN.out.mono ?_
        rintro e w2 ⟨rfl, rfl⟩
        go_wp2_with fail
        refine (HV.out _).mono ?_
        rintro e w2 ⟨rfl, rfl⟩
        go_wp2_with fail
        refine HHS.out.mono ?_
        rintro e w2 ⟨rfl, rfl⟩
        go_wp2_with fail
        go_ret
        exact Meth.mk _ HH.out HB.out
/-- Read changes nothing. -/
theorem read_any (d : Nat) (s : St) (rw ro : Nat → Prop) (M : Nat) (x : ByteArray) (w : World) (h : DiskAt w d s rw ro) (hg : Good s M) (hM : M ≤ 500000) (hx : x.size ≤ maxLen) :
    Calls Try.prog 33 #[ptr d, .string x] w fun e w' => e = .returned (.tuple #[.string (s.read x).1, .int .i64 (s.read x).2]) ∧ w' = w := by
  have HW := Lib.hid (h.within hg hM)
  have HV := Lib.hid fun W => valid_any x W hx
  have HDN := Lib.hid (HW.out.down _ (Below.refl _ w))
  have HHS := Lib.hid (HW.out.has _ x (Below.refl _ w) hx)
  cases hoff : s.off with
  | true =>
    rw [show s.read x = (⟨#[]⟩, 25) by unfold St.read; rw [if_pos hoff]]
    rw [hoff] at HDN
    clear h hg
    go_enter Try.func33, Try.ntmps33
    go_wp2_with fail
    refine HDN.out.mono ?_
    rintro e w2 ⟨rfl, rfl⟩
    go_wp2_with fail
    go_ret2
    exact ⟨rfl, rfl⟩
  | false =>
    rw [hoff] at HDN
    cases hv : valid x with
    | false =>
      rw [show s.read x = (⟨#[]⟩, 14) by unfold St.read; rw [if_neg (by rw [hoff]; decide), if_pos hv]]
      rw [hv] at HV
      clear h hg
      go_enter Try.func33, Try.ntmps33
      go_wp2_with fail
      refine HDN.out.mono ?_
      rintro e w2 ⟨rfl, rfl⟩
      go_wp2_with fail
      refine (HV.out _).mono ?_
      rintro e w2 ⟨rfl, rfl⟩
      go_wp2_with fail
      go_ret2
      exact ⟨rfl, rfl⟩
    | true =>
      rw [hv] at HV
      by_cases hhas : s.has x
      · rw [show s.read x = ((look s.all x).getD ⟨#[]⟩, 0) by unfold St.read; rw [if_neg (by rw [hoff]; decide), if_neg (by rw [hv]; decide), if_neg (by simpa using hhas)]]
        rw [decide_eq_true hhas] at HHS
        obtain ⟨vd, vf, vp, fuse, fcs, h⟩ := h
        have hl := h.mapf.look1 (x := x) hx
        have k2 : w.cell? ⟨d, 2, none⟩ = some vf := (row_cells h.blk).1 2
        obtain ⟨z, hz⟩ : ∃ z, (look s.all x).getD ⟨#[]⟩ = z := ⟨_, rfl⟩
        rw [hz] at hl ⊢
        clear h hg hz
        go_enter Try.func33, Try.ntmps33
        go_wp2_with fail
        refine HDN.out.mono ?_
        rintro e w2 ⟨rfl, rfl⟩
        go_wp2_with fail
        refine (HV.out _).mono ?_
        rintro e w2 ⟨rfl, rfl⟩
        go_wp2_with fail
        refine HHS.out.mono ?_
        rintro e w2 ⟨rfl, rfl⟩
        go_wp2_with fail
        go_ret2
        exact ⟨rfl, rfl⟩
      · rw [show s.read x = (⟨#[]⟩, 23) by unfold St.read; rw [if_neg (by rw [hoff]; decide), if_neg (by rw [hv]; decide), if_pos hhas]]
        rw [decide_eq_false hhas] at HHS
        clear h hg
        go_enter Try.func33, Try.ntmps33
        go_wp2_with fail
        refine HDN.out.mono ?_
        rintro e w2 ⟨rfl, rfl⟩
        go_wp2_with fail
        refine (HV.out _).mono ?_
        rintro e w2 ⟨rfl, rfl⟩
        go_wp2_with fail
        refine HHS.out.mono ?_
        rintro e w2 ⟨rfl, rfl⟩
        go_wp2_with fail
        go_ret2
        exact ⟨rfl, rfl⟩
theorem own_slice {w : World} {base : Nat} {e : TypeId} {size : Nat} {v : Value} {n : Nat} {xs : List Value} (h : w.ownsRow base e size v n xs) : ∃ a cap, v = .slice a n cap := by
  rcases h.2 with ⟨rfl, rfl⟩ | ⟨g, cap, cur, rfl, _⟩
  · exact ⟨_, _, rfl⟩
  · exact ⟨_, _, rfl⟩
theorem pending_any (d : Nat) (s : St) (rw ro : Nat → Prop) (w : World) (h : DiskAt w d s rw ro) :
    Calls Try.prog 39 #[ptr d] w fun e w' => e = .returned (.int .i64 s.ops.length) ∧ w' = w := by
  obtain ⟨vd, vf, vp, fuse, fcs, h⟩ := h
  obtain ⟨a, cap, rfl⟩ := own_slice h.row
  have k3 : w.cell? ⟨d, 3, none⟩ = some (.slice a s.ops.length cap) := (row_cells h.blk).1 3
  clear h
  go_enter Try.func39, Try.ntmps39
  go_wp2_with fail
  go_ret
  exact ⟨rfl, rfl⟩
theorem pending_nil (w : World) : Calls Try.prog 39 #[.pointer none] w fun e w' => e = .returned (.int .i64 0) ∧ w' = w := by
  go_enter Try.func39, Try.ntmps39
  go_wp2_with fail
  go_ret
  exact ⟨rfl, rfl⟩
end Go.Proofs.Ytlaodmpdngdhjaa
