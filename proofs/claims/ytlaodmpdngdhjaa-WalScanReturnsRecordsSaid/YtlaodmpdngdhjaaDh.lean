/- valid and ValidFile: file names. -/
import Derived.Test.YtlaodmpdngdhjaaDg
namespace Go.Proofs.Ytlaodmpdngdhjaa
set_option linter.unusedVariables false
set_option linter.unusedSimpArgs false
open Go.RowKit Go.Maps Go.WideMaps

/-- The byte at a place (0 beyond the end). -/
def bt (s : ByteArray) (i : Nat) : Nat := if h : i < s.size then s[i].toNat else 0
theorem bt_lt (s : ByteArray) (i : Nat) : bt s i < 256 := by
  unfold bt
  split
  · exact UInt8.toNat_lt _
  · omega
theorem bt_get (s : ByteArray) (i : Nat) (h : i < s.size) : s[i].toNat = bt s i := by
  unfold bt
  rw [dif_pos h]
def okN (c : Nat) : Bool := (97 ≤ c && c ≤ 122) || (48 ≤ c && c ≤ 57) || c == 45 || c == 46
theorem bt_ok (s : ByteArray) (i : Nat) (h : i < s.size) : okByte (s.data.toList[i]'(by simpa using h)) = okN (bt s i) := by
  rw [← bt_get s i h]
  rfl
theorem valid_no {s : ByteArray} {k : Nat} (hk : k < s.size) (h : okN (bt s k) = false) : valid s = false := by
  unfold valid
  rw [Bool.and_eq_false_iff]
  right
  rw [List.all_eq_false]
  exact ⟨_, List.getElem_mem (by simpa using hk), by rw [bt_ok s k hk, h]; simp⟩
theorem valid_all {s : ByteArray} (h : ∀ j, j < s.size → okN (bt s j) = true) : valid s = decide (1 ≤ s.size ∧ s.size ≤ 32) := by
  unfold valid
  have : s.data.toList.all okByte = true := by
    rw [List.all_eq_true]
    intro c hc
    obtain ⟨i, hi, rfl⟩ := List.getElem_of_mem hc
    have hi' : i < s.size := by simpa using hi
    rw [bt_ok s i hi', h i hi']
  rw [this, Bool.and_true]
theorem okN_cases (c : Nat) : (okN c = true ∧ ((97 ≤ c ∧ c ≤ 122) ∨ (48 ≤ c ∧ c ≤ 57) ∨ c = 45 ∨ c = 46)) ∨ (okN c = false ∧ c ≠ 45 ∧ c ≠ 46 ∧ (c < 48 ∨ (57 < c ∧ c < 97) ∨ 122 < c)) := by
  unfold okN
  by_cases h1 : 97 ≤ c ∧ c ≤ 122
  · left; simp [h1]
  · by_cases h2 : 48 ≤ c ∧ c ≤ 57
    · left; simp [h2]
    · by_cases h3 : c = 45
      · left; simp [h3]
      · by_cases h4 : c = 46
        · left; simp [h4]
        · right
          refine ⟨?_, h3, h4, by omega⟩
          simp only [Bool.or_eq_false_iff, Bool.and_eq_false_iff, decide_eq_false_iff_not, beq_eq_false_iff_ne]
          omega

set_option maxHeartbeats 2000000 in
/-- 'disk.valid'. -/
theorem valid_any (s : ByteArray) (w : World) (hs : s.size ≤ maxLen) : Calls Try.prog 70 #[.string s] w fun e w' => e = .returned (.bool (valid s)) ∧ w' = w := by
  unfold maxLen at hs
  by_cases hsz : 1 ≤ s.size ∧ s.size ≤ 32
  · obtain ⟨hs1, hs2⟩ := hsz
    have hz : ((s.size : Int) == 0) = false := by rw [beq_eq_false_iff_ne]; omega
    have hz2 : decide (32 < (s.size : Int)) = false := decide_eq_false (by omega)
    go_enter Try.func70, Try.ntmps70
    go_wp2_with fail
    go_loop [15] (fun i => ∃ k : Nat, k ≤ s.size ∧ i = .int .i64 k ∧ Hid (∀ j, j < k → okN (bt s j) = true)) (fun i => s.size - (intOf i).toNat)
    case atStart => exact ⟨0, Nat.zero_le _, rfl, Lib.hid (by intro j h; omega)⟩
    case round =>
      obtain ⟨k, hk, rfl, HA⟩ := hrel
      by_cases hlt : k < s.size
      · have hg := bt_get s k hlt
        obtain ⟨c, hc⟩ : ∃ c, bt s k = c := ⟨_, rfl⟩
        rw [hc] at hg
        rcases okN_cases c with ⟨ho, hcs⟩ | ⟨ho, n1, n2, hcs⟩
        · have HK : Hid (∀ j, j < k + 1 → okN (bt s j) = true) := Lib.hid (by
            intro j hj
            by_cases e : j = k
            · rw [e, hc]; exact ho
            · exact HA.out j (by omega))
          clear ho hc
          rcases hcs with h | h | h | h
          all_goals
            go_wp2_with fail
            go_round
            case rel => exact ⟨k + 1, by omega, by go_num, HK⟩
            case measure => simp [intOf]; omega
        · have HR := Lib.hid (valid_no hlt (by rw [hc]; exact ho))
          have e1 : ((c : Int) != 45) = true := by rw [bne_iff_ne]; omega
          have e2 : ((c : Int) != 46) = true := by rw [bne_iff_ne]; omega
          clear ho hc
          rcases hcs with h | h | h
          all_goals
            go_wp2_with fail
            go_ret
            exact ⟨by rw [HR.out]; rfl, rfl⟩
      · obtain rfl : k = s.size := by omega
        have HR : Hid (valid s = true) := Lib.hid (by rw [valid_all HA.out, decide_eq_true ⟨hs1, hs2⟩])
        go_wp2_with fail
        go_ret
        exact ⟨by rw [HR.out]; rfl, rfl⟩
  · have HR : Hid (valid s = false) := Lib.hid (by unfold valid; rw [decide_eq_false hsz]; rfl)
    by_cases h0 : s.size = 0
    · go_enter Try.func70, Try.ntmps70
      go_wp2_with fail
      go_ret
      exact ⟨by rw [HR.out]; rfl, rfl⟩
    · have h1 : 32 < s.size := by omega
      clear hsz
      go_enter Try.func70, Try.ntmps70
      go_wp2_with fail
      go_ret
      exact ⟨by rw [HR.out]; rfl, rfl⟩
end Go.Proofs.Ytlaodmpdngdhjaa
