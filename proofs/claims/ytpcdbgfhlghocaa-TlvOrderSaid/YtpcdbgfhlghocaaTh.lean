import Derived.Test.YtpcdbgfhlghocaaTf
import Derived.Test.YtpcdbgfhlghocaaTg
namespace Go.Proofs.Ytpcdbgfhlghocaa
set_option linter.unusedVariables false
set_option linter.unusedSimpArgs false
open Go.RowKit

theorem one_small {s : ByteArray} : True := trivial

set_option maxHeartbeats 1000000 in
theorem law_TlvPrefix (b : ByteArray) (k : Int) (w : World) (hs : b.size ≤ maxLen) (hk0 : 0 ≤ k) (hk1 : k ≤ 65535) : Calls Try.prog 6 #[.string b, .int .u16 k] w (Ok w w) := by
  by_cases hz : b.size = 0
  · have hz1 : ((b.size : Int) == 0) = true := by rw [beq_iff_eq]; omega
    clear hz
    go_enter Try.func6, Try.ntmps6
    go_wp2_with (first | (go_at_call 12; refine (awake_any _).mono ?_; rintro e w1 ⟨rfl, hb1⟩))
    go_ret
    exact ⟨rfl, hb1⟩
  have hz1 : ((b.size : Int) == 0) = false := by rw [beq_eq_false_iff_ne]; omega
  by_cases hbig : 600 < b.size
  · clear hz
    unfold maxLen at hs
    go_enter Try.func6, Try.ntmps6
    go_wp2_with (first | (go_at_call 12; refine (awake_any _).mono ?_; rintro e w1 ⟨rfl, hb1⟩))
    go_ret
    exact ⟨rfl, hb1⟩
  have c1 := fun W => one_any b W hs
  obtain ⟨m, rfl⟩ := Int.eq_ofNat_of_zero_le hk0
  have hj : m % b.size < b.size := Nat.mod_lt _ (by omega)
  have c2 := fun W => one_any (b.extract 0 (m % b.size)) W (by simp; unfold maxLen; omega)
  have hpre := fun h => prefix_bad hj rfl h
  unfold valO at c1 c2
  generalize one (b.extract 0 (m % b.size)) = r2 at *
  generalize one b = r1 at *
  obtain ⟨t1, x1, y1, e1⟩ := r1
  obtain ⟨t2, x2, y2, e2⟩ := r2
  have C1 := Lib.hid c1
  have C2 := Lib.hid c2
  have HP := Lib.hid hpre
  clear c1 c2 hpre hs hz
  by_cases h1 : e1 = 0
  · have h2 : e2 ≠ 0 := HP.out h1
    have hn1 : (e1 != 0) = false := by rw [bne_eq_false_iff_eq]; exact h1
    have hn2 : (e2 != 0) = true := by rw [bne_iff_ne]; exact h2
    clear h1 h2
    go_enter Try.func6, Try.ntmps6
    go_wp2_with fail
    refine (C1.out _).mono ?_
    rintro e w1 ⟨rfl, hb1⟩
    go_wp2_with fail
    refine (C2.out _).mono ?_
    rintro e w2 ⟨rfl, hb2⟩
    go_wp2_with fail
    refine (awake_any _).mono ?_
    rintro e w3 ⟨rfl, hb3⟩
    go_wp2_with fail
    go_ret
    have hz1 := hb1.size
    have hz2 := hb2.size
    simp at hz2
    exact ⟨rfl, ((hb1.alloc hz1 _).trans (hb2.mono (by simp; omega))).alloc (by omega) _ |>.trans (hb3.mono (by simp; omega))⟩
  · have hn1 : (e1 != 0) = true := by rw [bne_iff_ne]; exact h1
    clear h1
    go_enter Try.func6, Try.ntmps6
    go_wp2_with fail
    refine (C1.out _).mono ?_
    rintro e w1 ⟨rfl, hb1⟩
    go_wp2_with fail
    refine (C2.out _).mono ?_
    rintro e w2 ⟨rfl, hb2⟩
    go_wp2_with fail
    refine (awake_any _).mono ?_
    rintro e w3 ⟨rfl, hb3⟩
    go_wp2_with fail
    go_ret
    have hz1 := hb1.size
    have hz2 := hb2.size
    simp at hz2
    exact ⟨rfl, ((hb1.alloc hz1 _).trans (hb2.mono (by simp; omega))).alloc (by omega) _ |>.trans (hb3.mono (by simp; omega))⟩
end Go.Proofs.Ytpcdbgfhlghocaa
