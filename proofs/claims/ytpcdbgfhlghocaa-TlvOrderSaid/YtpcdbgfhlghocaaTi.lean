import Derived.Test.YtpcdbgfhlghocaaTh
namespace Go.Proofs.Ytpcdbgfhlghocaa
set_option linter.unusedVariables false
set_option linter.unusedSimpArgs false
open Go.RowKit

theorem one_content (b : ByteArray) : (one b).2.1.size ≤ b.size := by
  unfold one
  split
  · exact Nat.zero_le _
  rename_i h
  split
  · exact Nat.zero_le _
  have h1 : (rd b).2.2.2.2 = 0 := by simpa using h
  obtain ⟨n, _, _, h3, _, h5⟩ := read_ok h1
  rw [h5, fin_eq h3]
  simp
  omega
/-- Wrap of one string in new memory. -/
theorem wrap_one (t : Int) (c : ByteArray) (hc : c.size ≤ maxLen) (w : World) (blk : Nat) (hb : blk = w.heap.size) :
    Calls Try.prog 13 #[.int .i64 t, .slice (some ⟨blk, 0, none⟩) 1 1] (w.alloc (.cells #[.string c] 9)) fun e w' => e = .returned (valW (wrp t [c])) ∧ Below (w.heap.size + 1) (w.alloc (.cells #[.string c] 9)) w' := by
  subst hb
  have h := wrap_any t 1 (some ⟨w.heap.size, 0, none⟩) 1 [c] (w.alloc (.cells #[.string c] 9)) (StrRow.lit w [c]) rfl (by simp) (by simp) (by intro x hx; simp at hx; subst hx; exact hc)
  simpa using h

set_option maxRecDepth 100000 in
set_option maxHeartbeats 1000000 in
theorem law_TlvBack (b : ByteArray) (t : Int) (c : ByteArray) (w : World) (hs : b.size ≤ maxLen) (ht0 : 0 ≤ t) (ht1 : t ≤ 255) (hcs : c.size ≤ maxLen) : Calls Try.prog 5 #[.string b, .int .u8 t, .string c] w (Ok w w) := by
  unfold maxLen at hs hcs
  by_cases hbig : 600 < b.size
  · go_enter Try.func5, Try.ntmps5
    go_wp2_with (first | (go_at_call 12; refine (awake_any _).mono ?_; rintro e w1 ⟨rfl, hb1⟩))
    go_ret
    exact ⟨rfl, hb1⟩
  by_cases hbig2 : 600 < c.size
  · go_enter Try.func5, Try.ntmps5
    go_wp2_with (first | (go_at_call 12; refine (awake_any _).mono ?_; rintro e w1 ⟨rfl, hb1⟩))
    go_ret
    exact ⟨rfl, hb1⟩
  have c1 := fun W => one_any b W hs
  unfold valO at c1
  obtain ⟨m, rfl⟩ := Int.eq_ofNat_of_zero_le ht0
  have hwb := @wrap_back b
  have hxb := one_content b
  generalize one b = r1 at *
  obtain ⟨t1, x1, y1, e1⟩ := r1
  have C1 := Lib.hid c1
  clear c1
  have hS : m % 32 = 31 ∧ wrp m [c] = (⟨#[]⟩, 5) ∨ m % 32 ≠ 31 ∧ ∃ S, wrp m [c] = (S, 0) ∧ rd (S ++ b) = (m, c, S, b, 0) ∧ S.size ≤ 700 := by
    by_cases h : m % 32 = 31
    · exact Or.inl ⟨h, by unfold wrp; rw [if_pos (by omega)]⟩
    · obtain ⟨r1, r2⟩ := wrap_read (t := m) (c := c) (b := b) (by omega) h (by omega)
      refine Or.inr ⟨h, (wrp m [c]).1, Prod.ext rfl r2, r1, ?_⟩
      unfold wrp
      rw [if_neg (by omega), if_neg (by simp [tot]; omega)]
      have := hdr_len m c.size
      rw [str_size, List.length_append, cat_length]
      have h3 : tot [c] = c.size := by simp [tot]
      rw [h3]
      show (hdr m c.size).length + c.size ≤ 700
      omega
  by_cases h1 : e1 = 0
  · obtain ⟨hw1, hw2⟩ := hwb h1
    have hw3 : y1 = b := hw2
    have h2 : e1 = 0 := h1
    clear hw2 h1
    have hxb : x1.size ≤ b.size := hxb
    subst hw3
    subst h2
    have hx1 : x1.size ≤ maxLen := Nat.le_trans hxb (by unfold maxLen; omega)
    clear hxb
    have hc0 := fun W blk h => wrap_one t1 x1 hx1 W blk h
    rw [show wrp t1 [x1] = (y1, 0) from hw1] at hc0
    unfold valW at hc0
    have C0 := Lib.hid hc0
    clear hc0 hw1 hwb
    rcases hS with ⟨h31, hw⟩ | ⟨h31, S, hw, hr, hSz⟩
    · have hm1 : ((m : Int) % 32 == 31) = true := by rw [beq_iff_eq]; omega
      have hc2 := fun W blk h => wrap_one m c hcs W blk h
      rw [hw] at hc2
      unfold valW at hc2
      have C2 := Lib.hid hc2
      clear hc2 hw h31
      go_enter Try.func5, Try.ntmps5
      go_wp2_with fail
      refine (C1.out _).mono ?_
      rintro e w1 ⟨rfl, hb1⟩
      go_wp2_with fail
      refine (C0.out _ _ (by simp)).mono ?_
      rintro e w2 ⟨rfl, hb2⟩
      obtain ⟨hc2, hf2⟩ := bcell (W := ((w1.alloc (.cells #[.int .i64 t1, .string x1, .string y1] 32)).alloc (.cells #[.string x1] 9))) (by simpa using hb2)
      have hz2 : w1.heap.size + 1 < w2.heap.size := by have := hb2.size; simp at this; omega
      go_wp2_with fail
      have hbP := ((hb1.alloc hb1.size (.cells #[.int .i64 t1, .string x1, .string y1] 32)).alloc (by have := hb1.size; simp; omega) (.cells #[.string x1] 9)).trans (hb2.mono (by have := hb1.size; simp; omega))
      refine (C2.out _ _ (by simp)).mono ?_
      rintro e w3 ⟨rfl, hb3⟩
      go_wp2_with fail
      refine (awake_any _).mono ?_
      rintro e w4 ⟨rfl, hb4⟩
      go_wp2_with fail
      go_ret
      exact ⟨rfl, (hbP.alloc hbP.size _).trans ((hb3.mono (by have := hbP.size; simp at this ⊢; omega)).trans (hb4.mono (by have := hbP.size; have := hb3.size; simp at *; omega)))⟩
    · have hm1 : ((m : Int) % 32 == 31) = false := by rw [beq_eq_false_iff_ne]; omega
      have hc2 := fun W blk h => wrap_one m c hcs W blk h
      have hc3 := fun W => read_any (S ++ y1) W (by simp; unfold maxLen; omega)
      rw [hw] at hc2
      rw [hr] at hc3
      unfold valW at hc2
      unfold valR at hc3
      have C2 := Lib.hid hc2
      have C3 := Lib.hid hc3
      clear hc2 hc3 hw hr h31
      go_enter Try.func5, Try.ntmps5
      go_wp2_with fail
      refine (C1.out _).mono ?_
      rintro e w1 ⟨rfl, hb1⟩
      go_wp2_with fail
      refine (C0.out _ _ (by simp)).mono ?_
      rintro e w2 ⟨rfl, hb2⟩
      obtain ⟨hc2, hf2⟩ := bcell (W := ((w1.alloc (.cells #[.int .i64 t1, .string x1, .string y1] 32)).alloc (.cells #[.string x1] 9))) (by simpa using hb2)
      have hz2 : w1.heap.size + 1 < w2.heap.size := by have := hb2.size; simp at this; omega
      go_wp2_with fail
      have hbP := ((hb1.alloc hb1.size (.cells #[.int .i64 t1, .string x1, .string y1] 32)).alloc (by have := hb1.size; simp; omega) (.cells #[.string x1] 9)).trans (hb2.mono (by have := hb1.size; simp; omega))
      refine (C2.out _ _ (by simp)).mono ?_
      rintro e w3 ⟨rfl, hb3⟩
      go_wp2_with fail
      refine (C3.out _).mono ?_
      rintro e w4 ⟨rfl, hb4⟩
      go_wp2_with fail
      refine (awake_any _).mono ?_
      rintro e w5 ⟨rfl, hb5⟩
      obtain ⟨hc5, hf5⟩ := bcell hb5
      go_wp2_with fail
      go_ret
      exact ⟨rfl, (((hbP.alloc hbP.size _).trans ((hb3.mono (by have := hbP.size; simp at this ⊢; omega)).trans (hb4.mono (by have := hbP.size; have := hb3.size; simp at *; omega)))).alloc (by have := hbP.size; have := hb3.size; have := hb4.size; simp at *; omega) _).trans (hb5.mono (by have := hbP.size; have := hb3.size; have := hb4.size; simp at *; omega))⟩
  · have hn1 : (e1 == 0) = false := by rw [beq_eq_false_iff_ne]; exact h1
    clear h1 hwb hxb
    rcases hS with ⟨h31, hw⟩ | ⟨h31, S, hw, hr, hSz⟩
    · have hm1 : ((m : Int) % 32 == 31) = true := by rw [beq_iff_eq]; omega
      have hc2 := fun W blk h => wrap_one m c hcs W blk h
      rw [hw] at hc2
      unfold valW at hc2
      have C2 := Lib.hid hc2
      clear hc2 hw h31
      go_enter Try.func5, Try.ntmps5
      go_wp2_with fail
      refine (C1.out _).mono ?_
      rintro e w1 ⟨rfl, hb1⟩
      go_wp2_with fail
      have hbP := hb1.alloc hb1.size (.cells #[.int .i64 t1, .string x1, .string y1] 32)
      refine (C2.out _ _ (by simp)).mono ?_
      rintro e w3 ⟨rfl, hb3⟩
      go_wp2_with fail
      refine (awake_any _).mono ?_
      rintro e w4 ⟨rfl, hb4⟩
      go_wp2_with fail
      go_ret
      exact ⟨rfl, (hbP.alloc hbP.size _).trans ((hb3.mono (by have := hbP.size; simp at this ⊢; omega)).trans (hb4.mono (by have := hbP.size; have := hb3.size; simp at *; omega)))⟩
    · have hm1 : ((m : Int) % 32 == 31) = false := by rw [beq_eq_false_iff_ne]; omega
      have hc2 := fun W blk h => wrap_one m c hcs W blk h
      have hc3 := fun W => read_any (S ++ b) W (by simp; unfold maxLen; omega)
      rw [hw] at hc2
      rw [hr] at hc3
      unfold valW at hc2
      unfold valR at hc3
      have C2 := Lib.hid hc2
      have C3 := Lib.hid hc3
      clear hc2 hc3 hw hr h31
      go_enter Try.func5, Try.ntmps5
      go_wp2_with fail
      refine (C1.out _).mono ?_
      rintro e w1 ⟨rfl, hb1⟩
      go_wp2_with fail
      have hbP := hb1.alloc hb1.size (.cells #[.int .i64 t1, .string x1, .string y1] 32)
      refine (C2.out _ _ (by simp)).mono ?_
      rintro e w3 ⟨rfl, hb3⟩
      go_wp2_with fail
      refine (C3.out _).mono ?_
      rintro e w4 ⟨rfl, hb4⟩
      go_wp2_with fail
      refine (awake_any _).mono ?_
      rintro e w5 ⟨rfl, hb5⟩
      obtain ⟨hc5, hf5⟩ := bcell hb5
      go_wp2_with fail
      go_ret
      exact ⟨rfl, (((hbP.alloc hbP.size _).trans ((hb3.mono (by have := hbP.size; simp at this ⊢; omega)).trans (hb4.mono (by have := hbP.size; have := hb3.size; simp at *; omega)))).alloc (by have := hbP.size; have := hb3.size; have := hb4.size; simp at *; omega) _).trans (hb5.mono (by have := hbP.size; have := hb3.size; have := hb4.size; simp at *; omega))⟩
end Go.Proofs.Ytpcdbgfhlghocaa
