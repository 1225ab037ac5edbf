import Derived.Test.YtpcdbgfhlghocaaProg
import Derived.Test.YtpcdbgfhlghocaaTz
import Derived.WalkKit
import Derived.Lib.Hide
import Derived.WalkSpells
import Derived.WalkLawsBesides
namespace Go.Proofs.Ytpcdbgfhlghocaa
set_option linter.unusedVariables false
set_option linter.unusedSimpArgs false
open Go.RowKit


set_option maxHeartbeats 400000 in
theorem read_w1 (s : ByteArray) (w : World) (h0 : s.size = 0) :
    Calls Try.prog 16 #[.string s] w fun e w' => e = .returned (valR (bad 3)) ∧ Below w.heap.size w w' := by
  obtain rfl : s = ⟨#[]⟩ := by
    apply ByteArray.ext; apply Array.eq_empty_of_size_eq_zero; exact h0
  go_enter Try.func16, Try.ntmps16
  go_wp2
  exact bodyPost_ret (v := valR (bad 3)) (by simp [results, Try.results16, go_sem, bodyPost_bad]) rfl ⟨rfl, ((Below.refl _ _).alloc (Nat.le_refl _) _).alloc (by simp) _⟩


set_option maxHeartbeats 400000 in
theorem read_w2 (s : ByteArray) (w : World) (hs : s.size ≤ maxLen) (h0 : 0 < s.size) (h1 : bt s 0 % 32 = 31) :
    Calls Try.prog 16 #[.string s] w fun e w' => e = .returned (valR (bad 5)) ∧ Below w.heap.size w w' := by
  unfold maxLen at hs
  have hne := ne_list h0
  have hb0 : s[0].toNat = bt s 0 := bt_get s 0 h0
  have hl0 : bt s 0 < 256 := bt_lt s 0
  have hbit : bits BinOp.and IntKind.i64 (bt s 0 : Int) 31 = 31 := by rw [bits31 _ hl0, h1]; rfl
  clear h1
  go_enter Try.func16, Try.ntmps16
  go_wp2
  exact bodyPost_ret (v := valR (bad 5)) (by simp [results, Try.results16, go_sem, bodyPost_bad]) rfl ⟨rfl, ((Below.refl _ _).alloc (Nat.le_refl _) _).alloc (by simp) _⟩

set_option maxHeartbeats 400000 in
theorem read_w3 (s : ByteArray) (w : World) (h0 : s.size = 1) (h1 : bt s 0 % 32 ≠ 31) :
    Calls Try.prog 16 #[.string s] w fun e w' => e = .returned (valR (bad 3)) ∧ Below w.heap.size w w' := by
  have hne := ne_list (s := s) (by omega)
  have h00 : 0 < s.size := by omega
  have hb0 : s[0].toNat = bt s 0 := bt_get s 0 h00
  have hl0 : bt s 0 < 256 := bt_lt s 0
  have hbit := tag_no hl0 h1
  clear h1
  have h2 : s.size < 2 := by omega
  clear h0
  go_enter Try.func16, Try.ntmps16
  go_wp2
  exact bodyPost_ret (v := valR (bad 3)) (by simp [results, Try.results16, go_sem, bodyPost_bad]) rfl ⟨rfl, ((Below.refl _ _).alloc (Nat.le_refl _) _).alloc (by simp) _⟩

set_option maxHeartbeats 400000 in
theorem read_w4 (s : ByteArray) (w : World) (hs : s.size ≤ maxLen) (h0 : 2 ≤ s.size) (h1 : bt s 0 % 32 ≠ 31) (h2 : bt s 1 = 128 ∨ 131 < bt s 1) :
    Calls Try.prog 16 #[.string s] w fun e w' => e = .returned (valR (bad 6)) ∧ Below w.heap.size w w' := by
  unfold maxLen at hs
  have hne := ne_list (s := s) (by omega)
  have h00 : 0 < s.size := by omega
  have h01 : 1 < s.size := by omega
  have hb0 : s[0].toNat = bt s 0 := bt_get s 0 h00
  have hb1 : s[1].toNat = bt s 1 := bt_get s 1 h01
  have hl0 : bt s 0 < 256 := bt_lt s 0
  have hl1 : bt s 1 < 256 := bt_lt s 1
  have hbit := tag_no hl0 h1
  clear h1
  rcases h2 with h2 | h2
  · have h3 : ((bt s 1 : Int) == 128) = true := by rw [beq_iff_eq]; omega
    clear h2
    go_enter Try.func16, Try.ntmps16
    go_wp2
    exact bodyPost_ret (v := valR (bad 6)) (by simp [results, Try.results16, go_sem, bodyPost_bad]) rfl ⟨rfl, ((Below.refl _ _).alloc (Nat.le_refl _) _).alloc (by simp) _⟩
  · have h3 : ((bt s 1 : Int) == 128) = false := by rw [beq_eq_false_iff_ne]; omega
    go_enter Try.func16, Try.ntmps16
    go_wp2
    exact bodyPost_ret (v := valR (bad 6)) (by simp [results, Try.results16, go_sem, bodyPost_bad]) rfl ⟨rfl, ((Below.refl _ _).alloc (Nat.le_refl _) _).alloc (by simp) _⟩

set_option maxHeartbeats 400000 in
theorem read_w5 (s : ByteArray) (w : World) (hs : s.size ≤ maxLen) (h0 : 2 ≤ s.size) (h1 : bt s 0 % 32 ≠ 31) (h2 : bt s 1 < 128) :
    Calls Try.prog 16 #[.string s] w fun e w' => e = .returned (valR (fin s (bt s 1) 2)) ∧ Below w.heap.size w w' := by
  unfold maxLen at hs
  have hne := ne_list (s := s) (by omega)
  have h00 : 0 < s.size := by omega
  have h01 : 1 < s.size := by omega
  have hb0 : s[0].toNat = bt s 0 := bt_get s 0 h00
  have hb1 : s[1].toNat = bt s 1 := bt_get s 1 h01
  have hl0 : bt s 0 < 256 := bt_lt s 0
  have hl1 : bt s 1 < 256 := bt_lt s 1
  have hbit := tag_no hl0 h1
  clear h1
  have h3 : ((bt s 1 : Int) == 128) = false := by rw [beq_eq_false_iff_ne]; omega
  by_cases h4 : s.size < 2 + bt s 1
  · have hf : fin s (bt s 1) 2 = bad 3 := by unfold fin; rw [if_pos h4]
    rw [hf]
    clear hf
    go_enter Try.func16, Try.ntmps16
    go_wp2
    exact bodyPost_ret (v := valR (bad 3)) (by simp [results, Try.results16, go_sem, bodyPost_bad]) rfl ⟨rfl, ((Below.refl _ _).alloc (Nat.le_refl _) _).alloc (by simp) _⟩
  · have hf : fin s (bt s 1) 2 = (bt s 0, s.extract 2 (2 + bt s 1), s.extract 0 (2 + bt s 1), s.extract (2 + bt s 1) s.size, 0) := by unfold fin; rw [if_neg h4]
    rw [hf]
    clear hf
    go_enter Try.func16, Try.ntmps16
    go_wp2
    go_region
    all_goals
      go_wp2
      exact bodyPost_ret (v := valR (bt s 0, s.extract 2 (2 + bt s 1), s.extract 0 (2 + bt s 1), s.extract (2 + bt s 1) s.size, 0)) (by simp [results, Try.results16, go_sem, valR]) rfl ⟨rfl, (((Below.refl _ _).alloc (Nat.le_refl _) _).alloc (by simp) _).drew⟩

set_option maxHeartbeats 400000 in
theorem read_w6 (s : ByteArray) (w : World) (hs : s.size ≤ maxLen) (h0 : 2 ≤ s.size) (h1 : bt s 0 % 32 ≠ 31) (K : Nat) (hK1 : 1 ≤ K) (hK3 : K ≤ 3) (h2 : bt s 1 = 128 + K) (h5 : 2 + K ≤ s.size):
    Calls Try.prog 16 #[.string s] w fun e w' => e = .returned (valR (lg s K)) ∧ Below w.heap.size w w' := by
  unfold maxLen at hs
  have hne := ne_list (s := s) (by omega)
  have h00 : 0 < s.size := by omega
  have h01 : 1 < s.size := by omega
  have hb0 : s[0].toNat = bt s 0 := bt_get s 0 h00
  have hb1 : s[1].toNat = 128 + K := by rw [bt_get s 1 h01, h2]
  have hl0 : bt s 0 < 256 := bt_lt s 0
  have hbit := tag_no hl0 h1
  clear h1 h2
  have h3 : (128 + (K : Int) == 128) = false := by rw [beq_eq_false_iff_ne]; omega
  have hconv := fun (w : World) (s : ByteArray) => run_bytes_of_string (P := Try.prog) w 9 30 5 s Try.underlying9 Try.underlying30 Try.underlying5
  have hnew := new_cell w
  go_enter Try.func16, Try.ntmps16
  go_wp2
  go_loop [7, 11, 52] (fun n _ i => ∃ k : Nat, k ≤ K ∧ i = .int .i64 k ∧ n = .int .i64 (val s k)) (fun _ _ i => K - (intOf i).toNat)
  case atStart => exact ⟨0, Nat.zero_le _, rfl, rfl⟩
  case round =>
    obtain ⟨k, hk, rfl, rfl⟩ := hrel
    have hvl := val_lt s k
    by_cases hlt : k < K
    · have hcell : ∀ cap, (bytesRow (s.extract 2 (2 + K)) cap)[k]? = some (.int .u8 (bt s (2 + k))) := fun cap => by
        rw [bytesRow_get _ _ _ (by simp; omega), bt_extract _ _ _ _ (by omega) (by omega)]
      have hbl := bt_lt s (2 + k)
      have hv2 : val s k < 65536 := by
        have h3 : 256 ^ k ≤ 256 ^ 2 := Nat.pow_le_pow_right (by decide) (by omega)
        omega
      have hor := or8 (val s k) (bt s (2 + k)) hv2 hbl
      go_wp2
      go_round
      case rel => exact ⟨k + 1, by omega, by go_num, by simp only [val]; go_num⟩
      case measure => simp [intOf]; omega
    · obtain rfl : k = K := by omega
      have hv2 : val s k < 16777216 := by
        have h3 : 256 ^ k ≤ 256 ^ 3 := Nat.pow_le_pow_right (by decide) hK3
        omega
      clear hlt hvl hconv hnew
      generalize hV : val s k = V at *
      have HV := Lib.hid hV
      clear hV
      by_cases h6 : V < least k
      · have hf : lg s k = bad 6 := by unfold lg; rw [HV.out, if_pos (Or.inl h6)]
        have HF := Lib.hid hf
        clear hf
        go_wp2_with (go_at_call 28; refine (least_any _ k _ (by omega) hK1 hK3).mono ?_; rintro e w' ⟨rfl, rfl⟩)
        exact bodyPost_ret (v := valR (bad 6)) (by simp [results, Try.results16, go_sem, bodyPost_bad]) rfl ⟨by rw [HF.out], ((((Below.refl _ _).alloc (Nat.le_refl _) _).alloc (by simp) _).alloc (by simp; omega) _).drew⟩
      by_cases h7 : 131072 < V
      · have hf : lg s k = bad 6 := by unfold lg; rw [HV.out, if_pos (Or.inr h7)]
        have HF := Lib.hid hf
        clear hf
        go_wp2_with (go_at_call 28; refine (least_any _ k _ (by omega) hK1 hK3).mono ?_; rintro e w' ⟨rfl, rfl⟩)
        exact bodyPost_ret (v := valR (bad 6)) (by simp [results, Try.results16, go_sem, bodyPost_bad]) rfl ⟨by rw [HF.out], ((((Below.refl _ _).alloc (Nat.le_refl _) _).alloc (by simp) _).alloc (by simp; omega) _).drew⟩
      have hlg : lg s k = fin s V (2 + k) := by unfold lg; rw [HV.out, if_neg (by omega)]
      by_cases h8 : s.size < 2 + k + V
      · have hf : lg s k = bad 3 := by rw [hlg]; unfold fin; rw [if_pos h8]
        clear hlg
        have HF := Lib.hid hf
        clear hf
        go_wp2_with (go_at_call 28; refine (least_any _ k _ (by omega) hK1 hK3).mono ?_; rintro e w' ⟨rfl, rfl⟩)
        exact bodyPost_ret (v := valR (bad 3)) (by simp [results, Try.results16, go_sem, bodyPost_bad]) rfl ⟨by rw [HF.out], ((((Below.refl _ _).alloc (Nat.le_refl _) _).alloc (by simp) _).alloc (by simp; omega) _).drew⟩
      · have hf : lg s k = (bt s 0, s.extract (2 + k) (2 + k + V), s.extract 0 (2 + k + V), s.extract (2 + k + V) s.size, 0) := by rw [hlg]; unfold fin; rw [if_neg h8]
        clear hlg
        have HF := Lib.hid hf
        clear hf
        go_wp2_with (go_at_call 28; refine (least_any _ k _ (by omega) hK1 hK3).mono ?_; rintro e w' ⟨rfl, rfl⟩)
        go_region
        all_goals
          go_wp2
          exact bodyPost_ret (v := valR (bt s 0, s.extract (2 + k) (2 + k + V), s.extract 0 (2 + k + V), s.extract (2 + k + V) s.size, 0)) (by simp [results, Try.results16, go_sem, valR]) rfl ⟨by rw [HF.out], ((((Below.refl _ _).alloc (Nat.le_refl _) _).alloc (by simp) _).alloc (by simp; omega) _).drew.drew⟩

set_option maxHeartbeats 400000 in
theorem read_w7 (s : ByteArray) (w : World) (hs : s.size ≤ maxLen) (h0 : 2 ≤ s.size) (h1 : bt s 0 % 32 ≠ 31) (K : Nat) (hK1 : 1 ≤ K) (hK3 : K ≤ 3) (h2 : bt s 1 = 128 + K) (h5 : s.size < 2 + K):
    Calls Try.prog 16 #[.string s] w fun e w' => e = .returned (valR (bad 3)) ∧ Below w.heap.size w w' := by
  unfold maxLen at hs
  have hne := ne_list (s := s) (by omega)
  have h00 : 0 < s.size := by omega
  have h01 : 1 < s.size := by omega
  have hb0 : s[0].toNat = bt s 0 := bt_get s 0 h00
  have hb1 : s[1].toNat = 128 + K := by rw [bt_get s 1 h01, h2]
  have hl0 : bt s 0 < 256 := bt_lt s 0
  have hbit := tag_no hl0 h1
  clear h1 h2
  have h3 : (128 + (K : Int) == 128) = false := by rw [beq_eq_false_iff_ne]; omega
  go_enter Try.func16, Try.ntmps16
  go_wp2
  exact bodyPost_ret (v := valR (bad 3)) (by simp [results, Try.results16, go_sem, bodyPost_bad]) rfl ⟨rfl, ((Below.refl _ _).alloc (Nat.le_refl _) _).alloc (by simp) _⟩

/-- 'tlv.Read'. -/
theorem read_any (s : ByteArray) (w : World) (hs : s.size ≤ maxLen) :
    Calls Try.prog 16 #[.string s] w fun e w' => e = .returned (valR (rd s)) ∧ Below w.heap.size w w' := by
  unfold rd
  by_cases h0 : s.size = 0
  · rw [if_pos h0]; exact read_w1 s w h0
  rw [if_neg h0]
  by_cases h1 : bt s 0 % 32 = 31
  · rw [if_pos h1]; exact read_w2 s w hs (by omega) h1
  rw [if_neg h1]
  by_cases h2 : s.size < 2
  · rw [if_pos h2]; exact read_w3 s w (by omega) h1
  rw [if_neg h2]
  by_cases h3 : bt s 1 = 128 ∨ 131 < bt s 1
  · rw [if_pos h3]; exact read_w4 s w hs (by omega) h1 h3
  rw [if_neg h3]
  by_cases h4 : bt s 1 < 128
  · rw [if_pos h4]; exact read_w5 s w hs (by omega) h1 h4
  rw [if_neg h4]
  obtain ⟨K, hK⟩ : ∃ K, bt s 1 = 128 + K := ⟨bt s 1 - 128, by omega⟩
  rw [hK, Nat.add_sub_cancel_left]
  by_cases h5 : s.size < 2 + K
  · rw [if_pos h5]; exact read_w7 s w hs (by omega) h1 K (by omega) (by omega) hK h5
  · rw [if_neg h5]; exact read_w6 s w hs (by omega) h1 K (by omega) (by omega) hK (by omega)
end Go.Proofs.Ytpcdbgfhlghocaa
