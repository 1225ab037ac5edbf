import Derived.Test.YtpcdbgfhlghocaaProg
import Derived.Test.YtpcdbgfhlghocaaTz
import Derived.WalkKit
import Derived.Lib.Hide
import Derived.WalkSpells
import Derived.WalkLawsBesides
namespace Go.Proofs.Ytpcdbgfhlghocaa
set_option linter.unusedVariables false
set_option linter.unusedSimpArgs false
open Go.RowKit


set_option maxHeartbeats 400000 in
theorem rread_w1 (s : ByteArray) (w : World) (h0 : s.size = 0) :
    Calls Try.prog 29 #[.string s] w fun e w' => e = .returned (valR (bad 3)) ∧ Below w.heap.size w w' := by
  have hz : ((s.size : Int) == 0) = true := by rw [beq_iff_eq]; omega
  clear h0
  go_enter Try.func29, Try.ntmps29
  go_wp2
  exact bodyPost_ret (v := valR (bad 3)) (by simp [results, Try.results29, go_sem, bodyPost_bad]) rfl ⟨rfl, ((Below.refl _ _).alloc (Nat.le_refl _) _).alloc (by simp) _⟩

set_option maxHeartbeats 400000 in
theorem rread_w2 (s : ByteArray) (w : World) (hs : s.size ≤ maxLen) (h0 : 0 < s.size) (h1 : bt s 0 % 32 = 31) :
    Calls Try.prog 29 #[.string s] w fun e w' => e = .returned (valR (bad 5)) ∧ Below w.heap.size w w' := by
  unfold maxLen at hs
  have hz : ((s.size : Int) == 0) = false := by rw [beq_eq_false_iff_ne]; omega
  have hb0 : s[0].toNat = bt s 0 := bt_get s 0 h0
  have hl0 : bt s 0 < 256 := bt_lt s 0
  have hbit := tag_yes_u8 hl0 h1
  clear h1
  go_enter Try.func29, Try.ntmps29
  go_wp2
  exact bodyPost_ret (v := valR (bad 5)) (by simp [results, Try.results29, go_sem, bodyPost_bad]) rfl ⟨rfl, ((Below.refl _ _).alloc (Nat.le_refl _) _).alloc (by simp) _⟩

set_option maxHeartbeats 400000 in
theorem rread_w3 (s : ByteArray) (w : World) (h0 : s.size = 1) (h1 : bt s 0 % 32 ≠ 31) :
    Calls Try.prog 29 #[.string s] w fun e w' => e = .returned (valR (bad 3)) ∧ Below w.heap.size w w' := by
  have hz : ((s.size : Int) == 0) = false := by rw [beq_eq_false_iff_ne]; omega
  have h00 : 0 < s.size := by omega
  have hb0 : s[0].toNat = bt s 0 := bt_get s 0 h00
  have hl0 : bt s 0 < 256 := bt_lt s 0
  have hbit := tag_no_u8 hl0 h1
  clear h1
  have h2 : ((s.size : Int) == 1) = true := by rw [beq_iff_eq]; omega
  clear h0
  go_enter Try.func29, Try.ntmps29
  go_wp2
  exact bodyPost_ret (v := valR (bad 3)) (by simp [results, Try.results29, go_sem, bodyPost_bad]) rfl ⟨rfl, ((Below.refl _ _).alloc (Nat.le_refl _) _).alloc (by simp) _⟩

set_option maxHeartbeats 400000 in
theorem rread_w4 (s : ByteArray) (w : World) (hs : s.size ≤ maxLen) (h0 : 2 ≤ s.size) (h1 : bt s 0 % 32 ≠ 31) (h2 : bt s 1 = 128 ∨ 131 < bt s 1) :
    Calls Try.prog 29 #[.string s] w fun e w' => e = .returned (valR (bad 6)) ∧ Below w.heap.size w w' := by
  unfold maxLen at hs
  have hz : ((s.size : Int) == 0) = false := by rw [beq_eq_false_iff_ne]; omega
  have h00 : 0 < s.size := by omega
  have hz1 : ((s.size : Int) == 1) = false := by rw [beq_eq_false_iff_ne]; omega
  have h01 : 1 < s.size := by omega
  have hb0 : s[0].toNat = bt s 0 := bt_get s 0 h00
  have hb1 : s[1].toNat = bt s 1 := bt_get s 1 h01
  have hl0 : bt s 0 < 256 := bt_lt s 0
  have hl1 : bt s 1 < 256 := bt_lt s 1
  have hbit := tag_no_u8 hl0 h1
  clear h1
  rcases h2 with h2 | h2
  · have h3 : ((bt s 1 : Int) == 128) = true := by rw [beq_iff_eq]; omega
    clear h2
    go_enter Try.func29, Try.ntmps29
    go_wp2
    exact bodyPost_ret (v := valR (bad 6)) (by simp [results, Try.results29, go_sem, bodyPost_bad]) rfl ⟨rfl, ((Below.refl _ _).alloc (Nat.le_refl _) _).alloc (by simp) _⟩
  · have h3 : ((bt s 1 : Int) == 128) = false := by rw [beq_eq_false_iff_ne]; omega
    go_enter Try.func29, Try.ntmps29
    go_wp2
    exact bodyPost_ret (v := valR (bad 6)) (by simp [results, Try.results29, go_sem, bodyPost_bad]) rfl ⟨rfl, ((Below.refl _ _).alloc (Nat.le_refl _) _).alloc (by simp) _⟩

set_option maxHeartbeats 400000 in
theorem rread_w5 (s : ByteArray) (w : World) (hs : s.size ≤ maxLen) (h0 : 2 ≤ s.size) (h1 : bt s 0 % 32 ≠ 31) (h2 : bt s 1 < 128) :
    Calls Try.prog 29 #[.string s] w fun e w' => e = .returned (valR (fin s (bt s 1) 2)) ∧ Below w.heap.size w w' := by
  unfold maxLen at hs
  have hz : ((s.size : Int) == 0) = false := by rw [beq_eq_false_iff_ne]; omega
  have h00 : 0 < s.size := by omega
  have hz1 : ((s.size : Int) == 1) = false := by rw [beq_eq_false_iff_ne]; omega
  have h01 : 1 < s.size := by omega
  have hb0 : s[0].toNat = bt s 0 := bt_get s 0 h00
  have hb1 : s[1].toNat = bt s 1 := bt_get s 1 h01
  have hl0 : bt s 0 < 256 := bt_lt s 0
  have hl1 : bt s 1 < 256 := bt_lt s 1
  have hbit := tag_no_u8 hl0 h1
  clear h1
  have h3 : ((bt s 1 : Int) == 128) = false := by rw [beq_eq_false_iff_ne]; omega
  by_cases h4 : s.size < 2 + bt s 1
  · have hf : fin s (bt s 1) 2 = bad 3 := by unfold fin; rw [if_pos h4]
    rw [hf]
    clear hf
    go_enter Try.func29, Try.ntmps29
    go_wp2
    exact bodyPost_ret (v := valR (bad 3)) (by simp [results, Try.results29, go_sem, bodyPost_bad]) rfl ⟨rfl, ((Below.refl _ _).alloc (Nat.le_refl _) _).alloc (by simp) _⟩
  · have hf : fin s (bt s 1) 2 = (bt s 0, s.extract 2 (2 + bt s 1), s.extract 0 (2 + bt s 1), s.extract (2 + bt s 1) s.size, 0) := by unfold fin; rw [if_neg h4]
    rw [hf]
    clear hf
    go_enter Try.func29, Try.ntmps29
    go_wp2
    go_region
    all_goals
      go_wp2
      exact bodyPost_ret (v := valR (bt s 0, s.extract 2 (2 + bt s 1), s.extract 0 (2 + bt s 1), s.extract (2 + bt s 1) s.size, 0)) (by simp [results, Try.results29, go_sem, valR]) rfl ⟨rfl, (((Below.refl _ _).alloc (Nat.le_refl _) _).alloc (by simp) _).drew⟩

theorem fin_eq_1 {s : ByteArray} {V : Nat} (h : lg s 1 = (bt s 0, s.extract (2 + 1) (2 + 1 + V), s.extract 0 (2 + 1 + V), s.extract (2 + 1 + V) s.size, 0)) :
    Ending.returned (valR (bt s 0, s.extract 3 (3 + V), s.extract 0 (3 + V), s.extract (3 + V) s.size, 0)) = Ending.returned (valR (lg s 1)) := by
  rw [h]
theorem fin_eq_2 {s : ByteArray} {V : Nat} (h : lg s 2 = (bt s 0, s.extract (2 + 2) (2 + 2 + V), s.extract 0 (2 + 2 + V), s.extract (2 + 2 + V) s.size, 0)) :
    Ending.returned (valR (bt s 0, s.extract 4 (4 + V), s.extract 0 (4 + V), s.extract (4 + V) s.size, 0)) = Ending.returned (valR (lg s 2)) := by
  rw [h]
theorem fin_eq_3 {s : ByteArray} {V : Nat} (h : lg s 3 = (bt s 0, s.extract (2 + 3) (2 + 3 + V), s.extract 0 (2 + 3 + V), s.extract (2 + 3 + V) s.size, 0)) :
    Ending.returned (valR (bt s 0, s.extract 5 (5 + V), s.extract 0 (5 + V), s.extract (5 + V) s.size, 0)) = Ending.returned (valR (lg s 3)) := by
  rw [h]
set_option maxHeartbeats 2000000 in
set_option maxRecDepth 100000 in
theorem rread_w6 (s : ByteArray) (w : World) (hs : s.size ≤ maxLen) (h0 : 2 ≤ s.size) (h1 : bt s 0 % 32 ≠ 31) (K : Nat) (hK1 : 1 ≤ K) (hK3 : K ≤ 3) (h2 : bt s 1 = 128 + K) (h5 : 2 + K ≤ s.size):
    Calls Try.prog 29 #[.string s] w fun e w' => e = .returned (valR (lg s K)) ∧ Below w.heap.size w w' := by
  unfold maxLen at hs
  have hz : ((s.size : Int) == 0) = false := by rw [beq_eq_false_iff_ne]; omega
  have h00 : 0 < s.size := by omega
  have hz1 : ((s.size : Int) == 1) = false := by rw [beq_eq_false_iff_ne]; omega
  have h01 : 1 < s.size := by omega
  have hb0 : s[0].toNat = bt s 0 := bt_get s 0 h00
  have hb1 : s[1].toNat = 128 + K := by rw [bt_get s 1 h01, h2]
  have hl0 : bt s 0 < 256 := bt_lt s 0
  have hbit := tag_no_u8 hl0 h1
  clear h1 h2
  have h3 : (128 + (K : Int) == 128) = false := by rw [beq_eq_false_iff_ne]; omega
  have hd1 : decide ((128 : Int) < 128 + (K : Int)) = true := by simp; omega
  have hd2 : decide ((131 : Int) < 128 + (K : Int)) = false := by simp; omega
  have hd3 : decide ((s.size : Int) < 2 + (128 + (K : Int) - 128)) = false := by simp; omega
  go_enter Try.func29, Try.ntmps29
  go_wp2
  go_loop [6, 9] (fun n i => ∃ k : Nat, k ≤ K ∧ i = .int .i64 k ∧ n = .int .i64 (val s k)) (fun _ i => K - (intOf i).toNat)
  case atStart => exact ⟨0, Nat.zero_le _, rfl, rfl⟩
  case round =>
    obtain ⟨k, hk, rfl, rfl⟩ := hrel
    have hvl := val_lt s k
    by_cases hlt : k < K
    · have hkk : 2 + k < s.size := by omega
      have hbk : s[2 + k].toNat = bt s (2 + k) := bt_get s _ hkk
      have hbl := bt_lt s (2 + k)
      have hv2 : val s k < 65536 := by
        have h3 : 256 ^ k ≤ 256 ^ 2 := Nat.pow_le_pow_right (by decide) (by omega)
        omega
      go_wp2
      go_round
      case rel =>
        exact ⟨k + 1, by omega, by go_num, by simp only [val]; go_num⟩
      case measure => simp [intOf]; omega
    · obtain rfl : k = K := by omega
      have hv2 : val s k < 16777216 := by
        have h3 : 256 ^ k ≤ 256 ^ 3 := Nat.pow_le_pow_right (by decide) hK3
        omega
      clear hlt hvl hd1 hd2 hd3
      have hcs : k = 1 ∧ least k = 128 ∨ k = 2 ∧ least k = 256 ∨ k = 3 ∧ least k = 65536 := by
        have : k = 1 ∨ k = 2 ∨ k = 3 := by omega
        rcases this with rfl | rfl | rfl
        · exact Or.inl ⟨rfl, rfl⟩
        · exact Or.inr (Or.inl ⟨rfl, rfl⟩)
        · exact Or.inr (Or.inr ⟨rfl, rfl⟩)
      generalize hV : val s k = V at *
      have HV := Lib.hid hV
      clear hV
      by_cases h6 : V < least k ∨ 131072 < V
      · have hf : lg s k = bad 6 := by unfold lg; rw [HV.out, if_pos h6]
        have HF := Lib.hid hf
        clear hf HV
        rcases hcs with ⟨rfl, hl⟩ | ⟨rfl, hl⟩ | ⟨rfl, hl⟩
        all_goals
          rw [hl] at h6
          clear hl
          rcases h6 with h6 | h6
          all_goals
            go_wp2
            exact bodyPost_ret (v := valR (bad 6)) (by simp [results, Try.results29, go_sem, bodyPost_bad]) rfl ⟨by rw [HF.out], (((Below.refl _ _).alloc (Nat.le_refl _) _).alloc (by simp) _).alloc (by simp; omega) _⟩
      have hlg : lg s k = fin s V (2 + k) := by unfold lg; rw [HV.out, if_neg (by omega)]
      by_cases h8 : s.size < 2 + k + V
      · have hf : lg s k = bad 3 := by rw [hlg]; unfold fin; rw [if_pos h8]
        have HF := Lib.hid hf
        clear hf hlg HV
        rcases hcs with ⟨rfl, hl⟩ | ⟨rfl, hl⟩ | ⟨rfl, hl⟩
        all_goals
          rw [hl] at h6
          clear hl
          have h7 : ¬ 131072 < V := by omega
          go_wp2
          exact bodyPost_ret (v := valR (bad 3)) (by simp [results, Try.results29, go_sem, bodyPost_bad]) rfl ⟨by rw [HF.out], (((Below.refl _ _).alloc (Nat.le_refl _) _).alloc (by simp) _).alloc (by simp; omega) _⟩
      · have hf : lg s k = (bt s 0, s.extract (2 + k) (2 + k + V), s.extract 0 (2 + k + V), s.extract (2 + k + V) s.size, 0) := by rw [hlg]; unfold fin; rw [if_neg h8]
        have HF := Lib.hid hf
        clear hf hlg HV
        rcases hcs with ⟨rfl, hl⟩ | ⟨rfl, hl⟩ | ⟨rfl, hl⟩
        · rw [hl] at h6
          clear hl
          have h7 : ¬ 131072 < V := by omega
          go_wp2
          go_region
          all_goals
            go_wp2
            exact bodyPost_ret (v := valR (bt s 0, s.extract 3 (3 + V), s.extract 0 (3 + V), s.extract (3 + V) s.size, 0)) (by simp [results, Try.results29, go_sem, valR]) rfl ⟨fin_eq_1 HF.out, ((((Below.refl _ _).alloc (Nat.le_refl _) _).alloc (by simp) _).alloc (by simp; omega) _).drew⟩
        · rw [hl] at h6
          clear hl
          have h7 : ¬ 131072 < V := by omega
          go_wp2
          go_region
          all_goals
            go_wp2
            exact bodyPost_ret (v := valR (bt s 0, s.extract 4 (4 + V), s.extract 0 (4 + V), s.extract (4 + V) s.size, 0)) (by simp [results, Try.results29, go_sem, valR]) rfl ⟨fin_eq_2 HF.out, ((((Below.refl _ _).alloc (Nat.le_refl _) _).alloc (by simp) _).alloc (by simp; omega) _).drew⟩
        · rw [hl] at h6
          clear hl
          have h7 : ¬ 131072 < V := by omega
          go_wp2
          go_region
          all_goals
            go_wp2
            exact bodyPost_ret (v := valR (bt s 0, s.extract 5 (5 + V), s.extract 0 (5 + V), s.extract (5 + V) s.size, 0)) (by simp [results, Try.results29, go_sem, valR]) rfl ⟨fin_eq_3 HF.out, ((((Below.refl _ _).alloc (Nat.le_refl _) _).alloc (by simp) _).alloc (by simp; omega) _).drew⟩

set_option maxHeartbeats 400000 in
theorem rread_w7 (s : ByteArray) (w : World) (hs : s.size ≤ maxLen) (h0 : 2 ≤ s.size) (h1 : bt s 0 % 32 ≠ 31) (K : Nat) (hK1 : 1 ≤ K) (hK3 : K ≤ 3) (h2 : bt s 1 = 128 + K) (h5 : s.size < 2 + K):
    Calls Try.prog 29 #[.string s] w fun e w' => e = .returned (valR (bad 3)) ∧ Below w.heap.size w w' := by
  unfold maxLen at hs
  have hz : ((s.size : Int) == 0) = false := by rw [beq_eq_false_iff_ne]; omega
  have h00 : 0 < s.size := by omega
  have hz1 : ((s.size : Int) == 1) = false := by rw [beq_eq_false_iff_ne]; omega
  have h01 : 1 < s.size := by omega
  have hb0 : s[0].toNat = bt s 0 := bt_get s 0 h00
  have hb1 : s[1].toNat = 128 + K := by rw [bt_get s 1 h01, h2]
  have hl0 : bt s 0 < 256 := bt_lt s 0
  have hbit := tag_no_u8 hl0 h1
  clear h1 h2
  have h3 : (128 + (K : Int) == 128) = false := by rw [beq_eq_false_iff_ne]; omega
  go_enter Try.func29, Try.ntmps29
  go_wp2
  exact bodyPost_ret (v := valR (bad 3)) (by simp [results, Try.results29, go_sem, bodyPost_bad]) rfl ⟨rfl, ((Below.refl _ _).alloc (Nat.le_refl _) _).alloc (by simp) _⟩

/-- 'certpathref01.Read'. -/
theorem rread_any (s : ByteArray) (w : World) (hs : s.size ≤ maxLen) :
    Calls Try.prog 29 #[.string s] w fun e w' => e = .returned (valR (rd s)) ∧ Below w.heap.size w w' := by
  unfold rd
  by_cases h0 : s.size = 0
  · rw [if_pos h0]; exact rread_w1 s w h0
  rw [if_neg h0]
  by_cases h1 : bt s 0 % 32 = 31
  · rw [if_pos h1]; exact rread_w2 s w hs (by omega) h1
  rw [if_neg h1]
  by_cases h2 : s.size < 2
  · rw [if_pos h2]; exact rread_w3 s w (by omega) h1
  rw [if_neg h2]
  by_cases h3 : bt s 1 = 128 ∨ 131 < bt s 1
  · rw [if_pos h3]; exact rread_w4 s w hs (by omega) h1 h3
  rw [if_neg h3]
  by_cases h4 : bt s 1 < 128
  · rw [if_pos h4]; exact rread_w5 s w hs (by omega) h1 h4
  rw [if_neg h4]
  obtain ⟨K, hK⟩ : ∃ K, bt s 1 = 128 + K := ⟨bt s 1 - 128, by omega⟩
  rw [hK, Nat.add_sub_cancel_left]
  by_cases h5 : s.size < 2 + K
  · rw [if_pos h5]; exact rread_w7 s w hs (by omega) h1 K (by omega) (by omega) hK h5
  · rw [if_neg h5]; exact rread_w6 s w hs (by omega) h1 K (by omega) (by omega) hK (by omega)
end Go.Proofs.Ytpcdbgfhlghocaa
