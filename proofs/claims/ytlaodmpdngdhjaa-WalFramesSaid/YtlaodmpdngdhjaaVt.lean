/- The law of frames, walked. -/
import Derived.Test.YtlaodmpdngdhjaaM3
namespace Go.Proofs.Ytlaodmpdngdhjaa
set_option linter.unusedVariables false
set_option linter.unusedSimpArgs false
open Go.RowKit

theorem run_make_long : ∃ L : List UInt8, L.length = 65537 ∧ ∀ W : World, (Instr.makeSlice 69 (.int .i64 65537) (.int .i64 65537)).run Try.prog W = .ok (.slice (some ⟨W.heap.size, 0, none⟩) 65537 65537) (W.alloc (.cells (bys L).toArray 5)) := by
  obtain ⟨p, hp⟩ : ∃ p : Nat, p = 65537 := ⟨_, rfl⟩
  refine ⟨List.replicate p 0, by rw [List.length_replicate, hp], fun W => ?_⟩
  rw [show (65537 : Int) = (p : Int) by omega, ← hp]
  obtain ⟨i5, h5, h50, h51, h52⟩ := info_parts info5
  have := run_make (P := Try.prog) W 69 5 i5 (.int .u8 0) Try.underlying69 h5 h50 .i64 .i64 (p : Int) (p : Int) (by omega) (by omega) (by rw [h52]; omega) (by omega)
  rw [h51, Nat.mul_one, Int.toNat_natCast, made_bytes] at this
  exact this
set_option maxRecDepth 100000 in
set_option maxHeartbeats 4000000 in
theorem frames_law (n : Int) (d : ByteArray) (long : Bool) (w : World) (hn : fits64 n) (hd : d.size ≤ 140737488355328) :
    Calls Try.prog 14 #[.int .i64 n, .string d, .bool long] w fun e w' => e = .returned (.bool true) ∧ Below w.heap.size w w' := by
  have HW := Lib.hid fun W => wake_any W
  by_cases h : 1000 < d.size
  · have q1 : decide ((1000 : Int) < (d.size : Int)) = true := decide_eq_true (by omega)
    clear h hn
    go_enter Try.func14, Try.ntmps14
    go_wp2_with fail
    refine (HW.out _).mono ?_
    rintro e w1 ⟨rfl, hb1⟩
    have HB1 := Lib.hid hb1
    clear hb1
    go_wp2_with fail
    go_ret
    exact ⟨rfl, HB1.out⟩
  · have q1 : decide ((1000 : Int) < (d.size : Int)) = false := decide_eq_false (by omega)
    cases long with
    | false =>
      have HF := Lib.hid (Frame_any n d w hn (by omega))
      have HG := Lib.hid fun W => rFrame_any n d W hn (by omega)
      obtain ⟨⟨x, c⟩, hx⟩ : ∃ r, FrameIs n d = r := ⟨_, rfl⟩
      rw [hx] at HF HG
      clear hx hn
      go_enter Try.func14, Try.ntmps14
      go_wp2_with fail
      refine HF.out.mono ?_
      rintro e w1 ⟨rfl, hb1⟩
      have HB1 := Lib.hid hb1
      clear hb1
      go_wp2_with fail
      refine (HG.out w1).mono ?_
      rintro e w2 ⟨rfl, hb2⟩
      have HB2 := Lib.hid hb2
      clear hb2
      go_wp2_with fail
      refine (HW.out w2).mono ?_
      rintro e w3 ⟨rfl, hb3⟩
      have HB3 := Lib.hid hb3
      clear hb3
      go_wp2_with fail
      go_ret
      have s1 := HB1.out.size
      have s2 := HB2.out.size
      exact ⟨rfl, (HB1.out.trans (HB2.out.mono s1)).trans (HB3.out.mono (by omega))⟩
    | true =>
      obtain ⟨L, hL, hmk⟩ := run_make_long
      obtain ⟨w0, hw0⟩ : ∃ w0, w.alloc (.cells (bys L).toArray 5) = w0 := ⟨_, rfl⟩
      have hh0 : w0.heap[w.heap.size]? = some (.cells (bys L).toArray 5 (0, 0)) := by rw [← hw0]; exact heap_alloc_new _ _
      have hcv := conv_row (own_bytes (base := w.heap.size) hh0 (Nat.le_refl _) hL (by omega)) (by omega)
      have hmk0 := hmk w
      rw [hw0] at hmk0
      have HB0 : Hid (Below w.heap.size w w0) := Lib.hid (by rw [← hw0]; exact (Below.refl _ _).alloc (Nat.le_refl _) _)
      obtain ⟨x0, hx0⟩ : ∃ x0 : ByteArray, (⟨L.toArray⟩ : ByteArray) = x0 := ⟨_, rfl⟩
      have hs0 : x0.size = 65537 := by rw [← hx0]; show L.toArray.size = 65537; rw [List.size_toArray, hL]
      rw [hx0] at hcv
      obtain ⟨y, hy⟩ : ∃ y, x0 ++ d = y := ⟨_, rfl⟩
      have hys : y.size ≤ 100000 := by rw [← hy, ByteArray.size_append]; omega
      have HF := Lib.hid fun W => Frame_any n y W hn (by omega)
      have HG := Lib.hid fun W => rFrame_any n y W hn (by omega)
      obtain ⟨⟨x, c⟩, hx⟩ : ∃ r, FrameIs n y = r := ⟨_, rfl⟩
      rw [hx] at HF HG
      clear hx hn hmk hL hh0 hw0 hx0
      go_enter Try.func14, Try.ntmps14
      go_wp2_with fail
      refine (HF.out _).mono ?_
      rintro e w1 ⟨rfl, hb1⟩
      have HB1 := Lib.hid hb1
      clear hb1
      go_wp2_with fail
      refine (HG.out w1).mono ?_
      rintro e w2 ⟨rfl, hb2⟩
      have HB2 := Lib.hid hb2
      clear hb2
      go_wp2_with fail
      refine (HW.out w2).mono ?_
      rintro e w3 ⟨rfl, hb3⟩
      have HB3 := Lib.hid hb3
      clear hb3
      go_wp2_with fail
      go_ret
      have s0 := HB0.out.size
      have s1 := HB1.out.size
      have s2 := HB2.out.size
      exact ⟨rfl, ((HB0.out.trans (HB1.out.mono s0)).trans (HB2.out.mono (by omega))).trans (HB3.out.mono (by omega))⟩
end Go.Proofs.Ytlaodmpdngdhjaa
