/- The laws of frames and of the nil log, walked. -/
import Derived.Test.YtlaodmpdngdhjaaM3
import Derived.Test.YtlaodmpdngdhjaaEu
namespace Go.Proofs.Ytlaodmpdngdhjaa
set_option linter.unusedVariables false
set_option linter.unusedSimpArgs false
open Go.RowKit

set_option maxRecDepth 100000 in
set_option maxHeartbeats 4000000 in
theorem open_nil (n : ByteArray) (w : World) : Calls Try.prog 22 #[.pointer none, .string n] w fun e w' => e = .returned (.tuple #[.pointer none, .slice none 0 0, .int .i64 25]) ∧ Below w.heap.size w w' := by
  have HR := Lib.hid fun W => read_nil n W
  go_enter Try.func22, Try.ntmps22
  go_wp2_with fail
  refine (HR.out _).mono ?_
  rintro e w1 ⟨rfl, rfl⟩
  go_wp2_with fail
  go_ret3
  exact ⟨rfl, (Below.refl _ _).alloc (Nat.le_refl _) _⟩
set_option maxRecDepth 100000 in
set_option maxHeartbeats 4000000 in
theorem wnone_law (n : ByteArray) (w : World) : Calls Try.prog 16 #[.string n] w fun e w' => e = .returned (.bool true) ∧ Below w.heap.size w w' := by
  have HO := Lib.hid (open_nil n w)
  have N1 := Lib.hid fun W => lapp_nil n W
  have N2 := Lib.hid fun W => lsync_nil W
  have N3 := Lib.hid fun W => lreset_nil n W
  have N4 := Lib.hid fun W => len_nil W
  have N5 := Lib.hid fun W => size_nil W
  have HW := Lib.hid fun W => wake_any W
  go_enter Try.func16, Try.ntmps16
  go_wp2_with fail
  refine HO.out.mono ?_
  rintro e w1 ⟨rfl, hb1⟩
  have HB1 := Lib.hid hb1
  clear hb1
  go_wp2_with fail
  refine (N1.out w1).mono ?_
  rintro e w2 ⟨rfl, rfl⟩
  go_wp2_with fail
  refine (N2.out _).mono ?_
  rintro e w2 ⟨rfl, rfl⟩
  go_wp2_with fail
  refine (N3.out _).mono ?_
  rintro e w2 ⟨rfl, rfl⟩
  go_wp2_with fail
  refine (N4.out _).mono ?_
  rintro e w2 ⟨rfl, rfl⟩
  go_wp2_with fail
  refine (N5.out _).mono ?_
  rintro e w2 ⟨rfl, rfl⟩
  go_wp2_with fail
  refine (HW.out _).mono ?_
  rintro e w2 ⟨rfl, hb2⟩
  have HB2 := Lib.hid hb2
  clear hb2
  go_wp2_with fail
  go_ret
  have s1 := HB1.out.size
  exact ⟨rfl, HB1.out.trans (HB2.out.mono s1)⟩
end Go.Proofs.Ytlaodmpdngdhjaa
