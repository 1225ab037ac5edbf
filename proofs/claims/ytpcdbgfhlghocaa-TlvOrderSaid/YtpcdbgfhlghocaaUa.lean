import Derived.Test.YtpcdbgfhlghocaaTo
namespace Go.Proofs.Ytpcdbgfhlghocaa
set_option linter.unusedVariables false
set_option linter.unusedSimpArgs false
open Go.RowKit

/-- Is the one string before the other? -/
def lessB (x y : ByteArray) : Bool := Op.bytesLess x.toList y.toList
def rawAt (l : List El) (i : Nat) : ByteArray := (l.getD i (0, ⟨#[]⟩, ⟨#[]⟩)).2.2
def ascB (l : List El) : Bool := decide (∀ j, j < l.length → 1 ≤ j → lessB (rawAt l j) (rawAt l (j - 1)) = false)

theorem rawAt_get (l : List El) (i : Nat) (h : i < l.length) : rawAt l i = l[i].2.2 := by simp [rawAt, List.getD, h]
theorem ascB_no {l : List El} {k : Nat} (h : k < l.length) (h1 : 1 ≤ k) (hl : lessB (rawAt l k) (rawAt l (k - 1)) = true) : ascB l = false := by
  unfold ascB
  rw [decide_eq_false_iff_not]
  intro hh
  rw [hh k h h1] at hl
  cases hl

set_option maxHeartbeats 1000000 in
/-- 'tlv.Ascending'. -/
theorem asc_any (l : List El) (b1 : Nat) (v1 : Value) (w : World) (hl : l.length ≤ 2000000) (h1 : w.ownsRow b1 32 3 v1 l.length (rowCells l)) :
    Calls Try.prog 24 #[v1] w fun e w' => e = .returned (.bool (ascB l)) ∧ Below w.heap.size w w' := by
  obtain ⟨a1, c1, rfl⟩ := row_shape h1
  have H1 := Lib.hid h1
  clear h1
  go_enter Try.func24, Try.ntmps24
  go_wp2_with fail
  go_loopw [3] (fun i wr => ∃ k q : Nat, 1 ≤ k ∧ (k ≤ l.length ∨ k = 1) ∧ i = .int .i64 k ∧ wr = w.drewN q ∧ Hid (∀ j, j < k → 1 ≤ j → lessB (rawAt l j) (rawAt l (j - 1)) = false)) (fun i _ => l.length + 1 - (intOf i).toNat)
  case atStart => exact ⟨1, 0, Nat.le_refl _, .inr rfl, rfl, rfl, Lib.hid (by intro j h1 h2; omega)⟩
  case round =>
    obtain ⟨k, q, hk1, hk, rfl, rfl, HA⟩ := hrel
    by_cases hlt : k < l.length
    · obtain ⟨g1, d1, e1, hd1, x1, y1, z1⟩ := row_cell H1.out hlt
      obtain ⟨g2, d2, e2, hd2, x2, y2, z2⟩ := row_cell (k := k - 1) H1.out (by omega)
      obtain ⟨rfl, rfl⟩ : a1 = some ⟨g1, 0, none⟩ ∧ c1 = d1 := by simpa using e1
      obtain ⟨rfl, rfl⟩ : g1 = g2 ∧ c1 = d2 := by simpa using e2
      clear e1 e2
      have hr1 := rawAt_get l k hlt
      have hr2 := rawAt_get l (k - 1) (by omega)
      rw [← hr1] at z1
      rw [← hr2] at z2
      obtain ⟨rk, hrk⟩ : ∃ r, rawAt l k = r := ⟨_, rfl⟩
      obtain ⟨rj, hrj⟩ : ∃ r, rawAt l (k - 1) = r := ⟨_, rfl⟩
      rw [hrk] at z1
      rw [hrj] at z2
      have HK := Lib.hid hrk
      have HJ := Lib.hid hrj
      clear hr1 hr2 hrk hrj x1 y1 x2 y2
      cases hless : lessB rk rj with
      | true =>
        have hres : ascB l = false := ascB_no hlt hk1 (by rw [HK.out, HJ.out]; exact hless)
        have HRES := Lib.hid hres
        have hl2 : Op.bytesLess rk.toList rj.toList = true := hless
        clear hres hless
        go_wp2_with fail
        go_quiet (fail)
        go_wp2_with fail
        go_ret
        exact ⟨by rw [HRES.out]; rfl, below_drewN (below_drewN (Below.refl _ _) _) _⟩
      | false =>
        have hl2 : Op.bytesLess rk.toList rj.toList = false := hless
        have HN : Hid (∀ j, j < k + 1 → 1 ≤ j → lessB (rawAt l j) (rawAt l (j - 1)) = false) := Lib.hid (by
          intro j h1 h2
          by_cases hj : j = k
          · subst hj; rw [HK.out, HJ.out]; exact hless
          · exact HA.out j (by omega) h2)
        clear hless
        go_wp2_with fail
        go_quiet (fail)
        go_wp2_with fail
        go_roundw
        case rel => exact ⟨k + 1, q + nq, by omega, .inl (by omega), by go_num, by simp, HN⟩
        case measure => simp [intOf]; omega
    · have hres : ascB l = true := by
        unfold ascB
        rw [decide_eq_true_iff]
        intro j h1 h2
        exact HA.out j (by omega) h2
      have HRES := Lib.hid hres
      clear hres
      go_wp2_with fail
      go_ret
      exact ⟨by rw [HRES.out]; rfl, below_drewN (Below.refl _ _) _⟩

set_option maxHeartbeats 1000000 in
/-- 'certpathref01.Ascending'. -/
theorem rasc_any (l : List El) (b1 : Nat) (v1 : Value) (w : World) (hl : l.length ≤ 2000000) (h1 : w.ownsRow b1 32 3 v1 l.length (rowCells l)) :
    Calls Try.prog 25 #[v1] w fun e w' => e = .returned (.bool (ascB l)) ∧ Below w.heap.size w w' := by
  obtain ⟨a1, c1, rfl⟩ := row_shape h1
  have H1 := Lib.hid h1
  clear h1
  go_enter Try.func25, Try.ntmps25
  go_wp2_with fail
  go_loopw [3] (fun i wr => ∃ k q : Nat, 1 ≤ k ∧ (k ≤ l.length ∨ k = 1) ∧ i = .int .i64 k ∧ wr = w.drewN q ∧ Hid (∀ j, j < k → 1 ≤ j → lessB (rawAt l j) (rawAt l (j - 1)) = false)) (fun i _ => l.length + 1 - (intOf i).toNat)
  case atStart => exact ⟨1, 0, Nat.le_refl _, .inr rfl, rfl, rfl, Lib.hid (by intro j h1 h2; omega)⟩
  case round =>
    obtain ⟨k, q, hk1, hk, rfl, rfl, HA⟩ := hrel
    by_cases hlt : k < l.length
    · obtain ⟨g1, d1, e1, hd1, x1, y1, z1⟩ := row_cell H1.out hlt
      obtain ⟨g2, d2, e2, hd2, x2, y2, z2⟩ := row_cell (k := k - 1) H1.out (by omega)
      obtain ⟨rfl, rfl⟩ : a1 = some ⟨g1, 0, none⟩ ∧ c1 = d1 := by simpa using e1
      obtain ⟨rfl, rfl⟩ : g1 = g2 ∧ c1 = d2 := by simpa using e2
      clear e1 e2
      have hr1 := rawAt_get l k hlt
      have hr2 := rawAt_get l (k - 1) (by omega)
      rw [← hr1] at z1
      rw [← hr2] at z2
      obtain ⟨rk, hrk⟩ : ∃ r, rawAt l k = r := ⟨_, rfl⟩
      obtain ⟨rj, hrj⟩ : ∃ r, rawAt l (k - 1) = r := ⟨_, rfl⟩
      rw [hrk] at z1
      rw [hrj] at z2
      have HK := Lib.hid hrk
      have HJ := Lib.hid hrj
      clear hr1 hr2 hrk hrj x1 y1 x2 y2
      cases hless : lessB rk rj with
      | true =>
        have hres : ascB l = false := ascB_no hlt hk1 (by rw [HK.out, HJ.out]; exact hless)
        have HRES := Lib.hid hres
        have hl2 : Op.bytesLess rk.toList rj.toList = true := hless
        clear hres hless
        go_wp2_with fail
        go_quiet (fail)
        go_wp2_with fail
        go_ret
        exact ⟨by rw [HRES.out]; rfl, below_drewN (below_drewN (Below.refl _ _) _) _⟩
      | false =>
        have hl2 : Op.bytesLess rk.toList rj.toList = false := hless
        have HN : Hid (∀ j, j < k + 1 → 1 ≤ j → lessB (rawAt l j) (rawAt l (j - 1)) = false) := Lib.hid (by
          intro j h1 h2
          by_cases hj : j = k
          · subst hj; rw [HK.out, HJ.out]; exact hless
          · exact HA.out j (by omega) h2)
        clear hless
        go_wp2_with fail
        go_quiet (fail)
        go_wp2_with fail
        go_roundw
        case rel => exact ⟨k + 1, q + nq, by omega, .inl (by omega), by go_num, by simp, HN⟩
        case measure => simp [intOf]; omega
    · have hres : ascB l = true := by
        unfold ascB
        rw [decide_eq_true_iff]
        intro j h1 h2
        exact HA.out j (by omega) h2
      have HRES := Lib.hid hres
      clear hres
      go_wp2_with fail
      go_ret
      exact ⟨by rw [HRES.out]; rfl, below_drewN (Below.refl _ _) _⟩
end Go.Proofs.Ytpcdbgfhlghocaa
