/- The law DiskNone. -/
import Derived.Test.YtlaodmpdngdhjaaEq
namespace Go.Proofs.Ytlaodmpdngdhjaa
set_option linter.unusedVariables false
set_option linter.unusedSimpArgs false
open Go.RowKit

theorem append_nil (n b : ByteArray) (w : World) : Calls Try.prog 31 #[.pointer none, .string n, .string b] w fun e w' => e = .returned (.int .i64 25) ∧ Below w.heap.size w w' := by
  have HDN := Lib.hid fun W => down_nil W
  go_enter Try.func31, Try.ntmps31
  go_wp2_with fail
  refine (HDN.out _).mono ?_
  rintro e w1 ⟨rfl, rfl⟩
  go_wp2_with fail
  go_ret
  exact ⟨rfl, ((Below.refl _ _).alloc (Nat.le_refl _) _).alloc (by simp) _⟩
theorem rename_nil (n b : ByteArray) (w : World) : Calls Try.prog 41 #[.pointer none, .string n, .string b] w fun e w' => e = .returned (.int .i64 25) ∧ Below w.heap.size w w' := by
  have HDN := Lib.hid fun W => down_nil W
  go_enter Try.func41, Try.ntmps41
  go_wp2_with fail
  refine (HDN.out _).mono ?_
  rintro e w1 ⟨rfl, rfl⟩
  go_wp2_with fail
  go_ret
  exact ⟨rfl, ((Below.refl _ _).alloc (Nat.le_refl _) _).alloc (by simp) _⟩
theorem remove_nil (n : ByteArray) (w : World) : Calls Try.prog 42 #[.pointer none, .string n] w fun e w' => e = .returned (.int .i64 25) ∧ Below w.heap.size w w' := by
  have HDN := Lib.hid fun W => down_nil W
  go_enter Try.func42, Try.ntmps42
  go_wp2_with fail
  refine (HDN.out _).mono ?_
  rintro e w1 ⟨rfl, rfl⟩
  go_wp2_with fail
  go_ret
  exact ⟨rfl, (Below.refl _ _).alloc (Nat.le_refl _) _⟩
theorem sync_nil (w : World) : Calls Try.prog 32 #[.pointer none] w fun e w' => e = .returned (.int .i64 25) ∧ w' = w := by
  have HDN := Lib.hid fun W => down_nil W
  go_enter Try.func32, Try.ntmps32
  go_wp2_with fail
  refine (HDN.out _).mono ?_
  rintro e w1 ⟨rfl, rfl⟩
  go_wp2_with fail
  go_ret
  exact ⟨rfl, rfl⟩
theorem read_nil (n : ByteArray) (w : World) : Calls Try.prog 33 #[.pointer none, .string n] w fun e w' => e = .returned (.tuple #[.string ⟨#[]⟩, .int .i64 25]) ∧ w' = w := by
  have HDN := Lib.hid fun W => down_nil W
  go_enter Try.func33, Try.ntmps33
  go_wp2_with fail
  refine (HDN.out _).mono ?_
  rintro e w1 ⟨rfl, rfl⟩
  go_wp2_with fail
  go_ret2
  exact ⟨rfl, rfl⟩
theorem copy_nil (w : World) : Calls Try.prog 43 #[.pointer none] w fun e w' => e = .returned (.pointer none) ∧ w' = w := by
  go_enter Try.func43, Try.ntmps43
  go_wp2_with fail
  go_ret
  exact ⟨rfl, rfl⟩
theorem zero_append (x y : ByteArray) : Good ((St.new 0).append x y).1 1 := by
  have g0 : Good (St.new 0) 0 := St.new_good 0 (by decide)
  by_cases hy : y.size = 0
  · exact (g0.append x y).mono (by omega)
  · have hf : (St.new 0).full x y := .inr (by show (0 : Nat) < szs [] + y.size; simp [szs]; omega)
    unfold St.append
    rw [if_neg (by show ¬ false = true; decide)]
    split
    · exact g0.mono (by omega)
    · exact g0.mono (by omega)
theorem zero_room (x y : ByteArray) (h : ¬ (St.new 0).full x y) : y.size ≤ 500000 := by
  by_cases hy : y.size = 0
  · omega
  · exact absurd (.inr (by show (0 : Nat) < szs [] + y.size; simp [szs]; omega)) h
set_option maxRecDepth 100000 in
set_option maxHeartbeats 8000000 in
theorem none_law (x y : ByteArray) (n m : Int) (w : World) (hx : x.size ≤ 140737488355328) (hy : y.size ≤ 140737488355328) (hn : fits64 n) (hm : fits64 m) :
    Calls Try.prog 11 #[.string x, .string y, .int .i64 n, .int .i64 m] w fun e w' => e = .returned (.bool true) ∧ Below w.heap.size w w' := by
  have hxm : x.size ≤ maxLen := by unfold maxLen; omega
  have HA := Lib.hid fun W => awake_any W
  have N1 := Lib.hid fun W => down_fuse n W
  have N2 := Lib.hid fun W => crash_nil n m W
  have N3 := Lib.hid fun W => read_nil x W
  have N4 := Lib.hid fun W => append_nil x y W
  have N5 := Lib.hid fun W => rename_nil x y W
  have N6 := Lib.hid fun W => remove_nil x W
  have N7 := Lib.hid fun W => sync_nil W
  have N8 := Lib.hid fun W => names_nil W
  have N9 := Lib.hid fun W => pending_nil W
  have N10 := Lib.hid fun W => copy_nil W
  have HZG := Lib.hid (zero_append x y)
  have HZR := Lib.hid (zero_room x y)
  have FZ : Hid (Fresh w w.heap.size (St.new 0) (w.alloc (.cells #[.int .i64 0, .map none, .map none, .slice none 0 0, .bool false, .bool false, .int .i64 0] 62))) := Lib.hid
    (Fresh.made (w1 := w) (disk_of_cells 0 0 (heap_alloc_new w _)) (Nat.le_refl _) ((Below.refl _ _).alloc (Nat.le_refl _) _))
  clear hn hm
  go_enter Try.func11, Try.ntmps11
  go_wp2_with fail
  refine (N1.out _).mono ?_
  rintro e w1 ⟨rfl, hw⟩
  subst hw
  go_wp2_with fail
  refine (N2.out _).mono ?_
  rintro e w1 ⟨rfl, hw⟩
  subst hw
  go_wp2_with fail
  refine (N3.out _).mono ?_
  rintro e w1 ⟨rfl, hw⟩
  have A0 := Lib.hid (two_new 0 w w1 (by rw [hw]; exact FZ.out) (by omega) (by omega))
  clear hw
  go_wp2_with fail
  refine A0.out.mono ?_
  rintro e w2 ⟨rfl, F2⟩
  go_wp2_with fail
  refine (N4.out _).mono ?_
  rintro e w3 ⟨rfl, hb3⟩
  have F3 := Lib.hid (F2.out.below hb3)
  clear hb3
  go_wp2_with fail
  refine (N5.out _).mono ?_
  rintro e w4 ⟨rfl, hb4⟩
  have F4 := Lib.hid (F3.out.below hb4)
  clear hb4
  go_wp2_with fail
  refine (N6.out _).mono ?_
  rintro e w5 ⟨rfl, hb5⟩
  have F5 := Lib.hid (F4.out.below hb5)
  clear hb5
  go_wp2_with fail
  refine (N7.out _).mono ?_
  rintro e w6 ⟨rfl, hw6⟩
  have hw6' := hw6.symm
  subst hw6'
  go_wp2_with fail
  refine (N8.out _).mono ?_
  rintro e w6 ⟨rfl, hw7⟩
  have hw7' := hw7.symm
  subst hw7'
  go_wp2_with fail
  refine (N9.out _).mono ?_
  rintro e w6 ⟨rfl, hw8⟩
  have hw8' := hw8.symm
  subst hw8'
  go_wp2_with fail
  refine (N10.out _).mono ?_
  rintro e w6 ⟨rfl, hw9⟩
  have hw9' := hw9.symm
  subst hw9'
  have g0 : Good (St.new 0) 0 := St.new_good 0 (by decide)
  have A6 := Lib.hid (F5.out.call (f := 31) (args := #[ptr w.heap.size, .string x, .string y]) fun rw ro h2 => h2.disk fun rwd rod h3 => append_gen w.heap.size (St.new 0) rwd rod 0 x y w5 h3 g0 (by omega) hxm hy HZR.out)
  go_wp2_with fail
  refine A6.out.mono ?_
  rintro e w7 ⟨rfl, F7⟩
  have A7 := Lib.hid (F7.out.call (f := 46) (args := #[ptr w1.heap.size, .string x, .string y]) fun rw ro h2 => h2.ref fun rwr ror h3 => rappend_any w1.heap.size (St.new 0) rwr ror 0 x y w7 h3 g0 (by omega) hxm hy)
  obtain ⟨q, hq⟩ : ∃ q, ((St.new 0).append x y).2 = q := ⟨_, rfl⟩
  obtain ⟨S, hS⟩ : ∃ S, ((St.new 0).append x y).1 = S := ⟨_, rfl⟩
  rw [hq, hS] at A7
  rw [hS] at F7 HZG
  rw [hq]
  go_wp2_with fail
  refine A7.out.mono ?_
  rintro e w8 ⟨rfl, F8⟩
  have A8 := Lib.hid (F8.out.sync HZG.out (by omega))
  have HZS := Lib.hid HZG.out.sync
  obtain ⟨S2, p, hS2⟩ : ∃ S2 p, S.sync = (S2, p) := ⟨_, _, rfl⟩
  have HS2 := Lib.hid hS2
  rw [hS2] at A8 HZS
  clear hq hS hS2
  go_wp2_with fail
  refine A8.out.mono ?_
  rintro e w9 ⟨rfl, F9⟩
  have A9 := Lib.hid (F9.out.call (f := 47) (args := #[ptr w1.heap.size]) fun rw ro h2 => h2.ref fun rwr ror h3 => rsync_any w1.heap.size S rwr ror 1 w9 h3 HZG.out (by omega))
  rw [HS2.out] at A9
  go_wp2_with fail
  refine A9.out.mono ?_
  rintro e w10 ⟨rfl, F10⟩
  obtain ⟨rw, ro, h10⟩ := F10.out.two
  have A10 := Lib.hid (h10.names HZS.out (by omega))
  clear h10
  go_wp2_with fail
  refine A10.out.mono ?_
  rintro e w11 ⟨v11, rfl, hr11, hb11⟩
  have HR11 := Lib.hid hr11
  have F11 := Lib.hid (F10.out.below hb11)
  clear hr11 hb11
  obtain ⟨rw2, ro2, h11⟩ := F11.out.two
  have A11 := Lib.hid (h11.rnames HZS.out (by omega))
  clear h11
  go_wp2_with fail
  refine A11.out.mono ?_
  rintro e w12 ⟨v12, rfl, hr12, hb12⟩
  have A12 := Lib.hid (same_true v11 v12 S2.names w12 (HR11.out.below hb12) hr12 (Nat.le_trans (names_len HZS.out) (by omega)))
  have F12 := Lib.hid (F11.out.below hb12)
  clear hr12 hb12
  go_wp2_with fail
  refine A12.out.mono ?_
  rintro e w13 ⟨rfl, hb13⟩
  have F13 := Lib.hid (F12.out.below hb13).toBelow
  clear hb13
  go_wp2_with fail
  refine (HA.out _).mono ?_
  rintro e w14 ⟨rfl, hb14⟩
  have HB14 := Lib.hid (F13.out.trans (hb14.mono F13.out.size))
  clear hb14
  go_wp2_with fail
  go_ret
  exact ⟨rfl, HB14.out⟩
end Go.Proofs.Ytlaodmpdngdhjaa
