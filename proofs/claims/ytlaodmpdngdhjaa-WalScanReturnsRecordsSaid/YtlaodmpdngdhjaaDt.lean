/- The law DiskTornAppend. -/
import Derived.Test.YtlaodmpdngdhjaaDr
namespace Go.Proofs.Ytlaodmpdngdhjaa
set_option linter.unusedVariables false
set_option linter.unusedSimpArgs false
open Go.RowKit Go.Maps Go.WideMaps

abbrev fA : ByteArray := ⟨#[97]⟩
abbrev fC : ByteArray := ⟨#[99]⟩
theorem vA : valid fA = true := by kernel_rfl
theorem vC : valid fC = true := by kernel_rfl
theorem neAC : ¬ fA = fC := by decide
theorem append_ok {s : St} {n b : ByteArray} (h1 : s.off = false) (h2 : valid n = true) (h3 : ¬ s.full n b) : s.append n b = (s.push (.app n b), 0) := by
  unfold St.append
  rw [if_neg (by rw [h1]; decide), if_neg (by rw [h2]; decide), if_neg h3]
theorem push_left {s : St} {c : Chg} (h : s.left = -1) : s.push c = { s with ops := s.ops ++ [c] } := by
  unfold St.push St.spend
  rw [if_neg (by show ¬ 0 < s.left; omega)]
def tn1 (a : ByteArray) : St := { cap := 1000, files := [], ops := [.app fA a], left := -1, off := false }
def tn2 (a : ByteArray) : St := { cap := 1000, files := [(fA, a)], ops := [], left := -1, off := false }
def tn3 (a b : ByteArray) : St := { cap := 1000, files := [(fA, a)], ops := [.app fA b], left := -1, off := false }
def tn4 (a b c : ByteArray) : St := { cap := 1000, files := [(fA, a)], ops := [.app fA b, .app fC c], left := -1, off := false }
def tn5 (a b : ByteArray) (n : Nat) : St := { cap := 1000, files := [(fA, a ++ b.extract 0 (min n b.size))], ops := [], left := -1, off := false }
theorem tn_1 (a : ByteArray) (h : a.size ≤ 300) : (St.new 1000).append fA a = (tn1 a, 0) := by
  rw [append_ok rfl vA ?_, push_left rfl]
  · rfl
  · rintro (⟨_, h1⟩ | h1)
    · exact absurd (show 16 ≤ 0 from h1) (by omega)
    · have : (1000 : Nat) < 0 + a.size := h1
      omega
theorem tn_2 (a : ByteArray) : (tn1 a).sync = (tn2 a, 0) := by
  unfold St.sync
  rw [if_neg (by show ¬ false = true; decide)]
  rfl
theorem all3 (a : ByteArray) (ops : List Chg) : ({ cap := 1000, files := [(fA, a)], ops := ops, left := -1, off := false } : St).all = ops.foldl appl [(fA, a)] := rfl
theorem tn_3 (a b : ByteArray) (h : a.size + b.size ≤ 300) : (tn2 a).append fA b = (tn3 a b, 0) := by
  rw [append_ok rfl vA ?_, push_left rfl]
  · rfl
  · rintro (⟨_, h1⟩ | h1)
    · exact absurd (show 16 ≤ 1 from h1) (by omega)
    · have : (1000 : Nat) < szs [(fA, a)] + b.size := h1
      simp [szs] at this
      omega
theorem app_A (a b : ByteArray) : appl [(fA, a)] (.app fA b) = [(fA, a ++ b)] := by
  have : idx [(fA, a)] fA = 0 := by rw [idx_cons, if_pos rfl]
  simp only [appl, this]
  rfl
theorem tn_4 (a b c : ByteArray) (h : a.size + b.size + c.size ≤ 300) : (tn3 a b).append fC c = (tn4 a b c, 0) := by
  have hall : (tn3 a b).all = [(fA, a ++ b)] := app_A a b
  rw [append_ok rfl vC ?_, push_left rfl]
  · rfl
  · unfold St.full
    rw [hall]
    rintro (⟨_, h1⟩ | h1)
    · exact absurd (show 16 ≤ 1 from h1) (by omega)
    · have : (1000 : Nat) < szs [(fA, a ++ b)] + c.size := h1
      simp [szs, ByteArray.size_append] at this
      omega
theorem bytes_nil (a : ByteArray) : a ++ (⟨#[]⟩ : ByteArray) = a := ByteArray.ext (by simp [ByteArray.data_append])
theorem tn_5 (a b c : ByteArray) (n : Nat) : (tn4 a b c).crash 0 n = tn5 a b n := by
  have hk : (tn4 a b c).keep 0 = 0 := by unfold St.keep; simp
  have hf : ((tn4 a b c).crash 0 n).files = [(fA, a ++ b.extract 0 (min n b.size))] := by
    rw [crash_files _ _ _ hk]
    show (torn (.app fA b) n).foldl appl [(fA, a)] = _
    by_cases h0 : n = 0
    · subst h0
      show [(fA, a)] = _
      rw [show b.extract 0 (min 0 b.size) = (⟨#[]⟩ : ByteArray) from ByteArray.ext (by simp), bytes_nil]
    · show (if 0 < (n : Int) then [Chg.app fA (b.extract 0 (min (n : Int).toNat b.size))] else []).foldl appl _ = _
      rw [if_pos (by omega)]
      exact app_A a _
  show ({ cap := 1000, files := ((tn4 a b c).crash 0 n).files, ops := [], left := -1, off := false } : St) = _
  rw [hf]
  rfl
theorem tn_6 (a b : ByteArray) (n : Nat) : (tn5 a b n).read fA = (a ++ b.extract 0 (min n b.size), 0) := by
  unfold St.read
  rw [if_neg (by show ¬ false = true; decide), if_neg (by rw [vA]; decide), if_neg (by
    rintro h
    apply h
    show idx [(fA, _)] fA < 1
    rw [idx_cons, if_pos rfl]
    omega)]
  show ((look [(fA, _)] fA).getD _, (0 : Int)) = _
  rw [look_cons, if_pos rfl]
  rfl
theorem tn_7 (a b : ByteArray) (n : Nat) : ((tn5 a b n).read fC).2 = 23 := by
  unfold St.read
  rw [if_neg (by show ¬ false = true; decide), if_neg (by rw [vC]; decide), if_pos (by
    show ¬ idx [(fA, _)] fC < 1
    rw [idx_cons, if_neg neAC]
    omega)]
theorem tn_good (a b c : ByteArray) (n : Nat) (h : a.size + b.size + c.size ≤ 300) : Good (tn1 a) 1000 ∧ Good (tn2 a) 1000 ∧ Good (tn3 a b) 1000 ∧ Good (tn4 a b c) 1000 ∧ Good (tn5 a b n) 1000 := by
  have g0 : Good (St.new 1000) 0 := St.new_good 1000 (by decide)
  have g1 : Good (tn1 a) 301 := by have := g0.append fA a; rw [tn_1 a (by omega)] at this; exact this.mono (by omega)
  have g2 : Good (tn2 a) 301 := by have := g1.sync; rw [tn_2] at this; exact this
  have g3 : Good (tn3 a b) 602 := by have := g2.append fA b; rw [tn_3 a b (by omega)] at this; exact this.mono (by omega)
  have g4 : Good (tn4 a b c) 903 := by have := g3.append fC c; rw [tn_4 a b c h] at this; exact this.mono (by omega)
  have g5 : Good (tn5 a b n) 903 := by have := g4.crash 0 n; rw [tn_5] at this; exact this
  exact ⟨g1.mono (by omega), g2.mono (by omega), g3.mono (by omega), g4.mono (by omega), g5.mono (by omega)⟩
set_option maxRecDepth 100000 in
set_option maxHeartbeats 4000000 in
theorem torn_law (a b c : ByteArray) (bytes : Int) (w : World) (ha : a.size ≤ 140737488355328) (hb : b.size ≤ 140737488355328) (hc : c.size ≤ 140737488355328) (h1 : -9223372036854775808 ≤ bytes) (h2 : bytes < 9223372036854775808) :
    Calls Try.prog 4 #[.string a, .string b, .string c, .int .i64 bytes] w fun e w' => e = .returned (.bool true) ∧ Below w.heap.size w w' := by
  have HA := Lib.hid fun W => awake_any W
  by_cases hsz : a.size + b.size + c.size ≤ 300
  · have hz : decide (300 < (a.size : Int) + b.size + c.size) = false := decide_eq_false (by omega)
    obtain ⟨n, hn⟩ : ∃ n : Nat, bytes % ((b.size : Int) + 3) = n := ⟨(bytes % ((b.size : Int) + 3)).toNat, by have := Int.emod_nonneg bytes (show (b.size : Int) + 3 ≠ 0 by omega); omega⟩
    have hn2 : n < b.size + 3 := by have := Int.emod_lt_of_pos bytes (show 0 < (b.size : Int) + 3 by omega); omega
    obtain ⟨g1, g2, g3, g4, g5⟩ := tn_good a b c n hsz
    have HN := Lib.hid (fresh_new 1000 w (by omega) (by omega))
    have HS := Lib.hid fun W => small_any bytes ((b.size : Int) + 3) W h1 h2 (by omega) (by omega)
    rw [hn] at HS
    have E1 := Lib.hid (tn_1 a (by omega))
    have E2 := Lib.hid (tn_2 a)
    have E3 := Lib.hid (tn_3 a b (by omega))
    have E4 := Lib.hid (tn_4 a b c hsz)
    have E5 := Lib.hid (tn_5 a b c n)
    have E6 := Lib.hid (tn_6 a b n)
    have E7 := Lib.hid (tn_7 a b n)
    go_enter Try.func4, Try.ntmps4
    go_wp2_with fail
    refine HN.out.mono ?_
    rintro e w1 ⟨rfl, F0, hlt⟩
    have A1 := Lib.hid (F0.out.append (n := fA) (b := a) (St.new_good 1000 (by decide)) (by omega) (by decide) (by omega))
    rw [E1.out] at A1
    go_wp2_with fail
    refine A1.out.mono ?_
    rintro e w2 ⟨rfl, F1⟩
    have A2 := Lib.hid (F1.out.sync g1 (by omega))
    rw [E2.out] at A2
    go_wp2_with fail
    refine A2.out.mono ?_
    rintro e w3 ⟨rfl, F2⟩
    have A3 := Lib.hid (F2.out.append (n := fA) (b := b) g2 (by omega) (by decide) (by omega))
    rw [E3.out] at A3
    go_wp2_with fail
    refine A3.out.mono ?_
    rintro e w4 ⟨rfl, F3⟩
    have A4 := Lib.hid (F3.out.append (n := fC) (b := c) g3 (by omega) (by decide) (by omega))
    rw [E4.out] at A4
    go_wp2_with fail
    refine A4.out.mono ?_
    rintro e w5 ⟨rfl, F4⟩
    go_wp2_with fail
    refine (HS.out _).mono ?_
    rintro e w5' ⟨rfl, hw⟩
    subst hw
    have A5 := Lib.hid (F4.out.crash (k := 0) (b := n) g4 (by omega) (by omega) (by omega))
    rw [E5.out] at A5
    go_wp2_with fail
    refine A5.out.mono ?_
    rintro e w6 ⟨rfl, F5⟩
    have A6 := Lib.hid (F5.out.read (n := fA) g5 (by omega) (by decide))
    have A7 := Lib.hid (F5.out.read (n := fC) g5 (by omega) (by decide))
    rw [E6.out] at A6
    rw [E7.out] at A7
    have HB := Lib.hid F5.out.toBelow
    go_wp2_with fail
    refine A6.out.mono ?_
    rintro e w7 ⟨rfl, hw⟩
    subst hw
    go_wp2_with fail
    refine A7.out.mono ?_
    rintro e w8 ⟨rfl, hw⟩
    subst hw
    clear F0 F1 F2 F3 F4 F5 A1 A2 A3 A4 A5 A6 A7 g1 g2 g3 g4 g5 hn
    obtain ⟨z, hz7⟩ : ∃ z, ((tn5 a b n).read fC).1 = z := ⟨_, rfl⟩
    have hmin : min (n : Int) (b.size : Int) = ((min n b.size : Nat) : Int) := by omega
    have hm2 : min n b.size ≤ b.size := Nat.min_le_right _ _
    go_wp2_with fail
    refine (HA.out _).mono ?_
    rintro e w9 ⟨rfl, hb9⟩
    have HB9 := Lib.hid (HB.out.trans (hb9.mono HB.out.size))
    clear hb9
    go_wp2_with fail
    go_ret
    exact ⟨rfl, HB9.out⟩
  · have hz : decide (300 < (a.size : Int) + b.size + c.size) = true := decide_eq_true (by omega)
    go_enter Try.func4, Try.ntmps4
    go_wp2_with fail
    refine (HA.out _).mono ?_
    rintro e w1 ⟨rfl, hb1⟩
    have HB1 := Lib.hid hb1
    clear hb1
    go_wp2_with fail
    go_ret
    exact ⟨rfl, HB1.out⟩
end Go.Proofs.Ytlaodmpdngdhjaa
