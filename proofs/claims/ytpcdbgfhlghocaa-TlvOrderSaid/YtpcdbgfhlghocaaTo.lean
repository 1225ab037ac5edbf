import Derived.Test.YtpcdbgfhlghocaaTn
import Derived.Deep.QuietTactic
import Derived.BigQuiet
import Derived.RegionTactic
namespace Go.Proofs.Ytpcdbgfhlghocaa
set_option linter.unusedVariables false
set_option linter.unusedSimpArgs false
open Go.RowKit

theorem row_shape {w : World} {base n : Nat} {v : Value} {cs : List Value} (h : w.ownsRow base 32 3 v n cs) : ∃ a c, v = .slice a n c := by
  obtain ⟨_, h | ⟨g, cap, cur, h, _⟩⟩ := h
  · exact ⟨none, 0, by rw [h.1, h.2]⟩
  · exact ⟨_, _, h⟩

set_option maxHeartbeats 1000000 in
/-- 'sameElements' of two lists that are the same. -/
theorem same_el (l : List El) (b1 b2 : Nat) (v1 v2 : Value) (w : World) (hl : l.length ≤ 2000000) (h1 : w.ownsRow b1 32 3 v1 l.length (rowCells l)) (h2 : w.ownsRow b2 32 3 v2 l.length (rowCells l)) :
    Calls Try.prog 32 #[v1, v2] w fun e w' => e = .returned (.bool true) ∧ Below w.heap.size w w' := by
  obtain ⟨a1, c1, rfl⟩ := row_shape h1
  obtain ⟨a2, c2, rfl⟩ := row_shape h2
  have H1 := Lib.hid h1
  have H2 := Lib.hid h2
  clear h1 h2
  go_enter Try.func32, Try.ntmps32
  go_wp2_with fail
  go_loopw [13] (fun i wr => ∃ k q : Nat, k ≤ l.length ∧ i = .int .i64 k ∧ wr = w.drewN q) (fun i _ => l.length - (intOf i).toNat)
  case atStart => exact ⟨0, 0, Nat.zero_le _, rfl, rfl⟩
  case round =>
    obtain ⟨k, q, hk, rfl, rfl⟩ := hrel
    by_cases hlt : k < l.length
    · obtain ⟨g1, d1, e1, hd1, x1, y1, z1⟩ := row_cell H1.out hlt
      obtain ⟨g2, d2, e2, hd2, x2, y2, z2⟩ := row_cell H2.out hlt
      obtain ⟨rfl, rfl⟩ : a1 = some ⟨g1, 0, none⟩ ∧ c1 = d1 := by simpa using e1
      obtain ⟨rfl, rfl⟩ : a2 = some ⟨g2, 0, none⟩ ∧ c2 = d2 := by simpa using e2
      clear e1 e2
      generalize l[k].1 = tt at *
      generalize l[k].2.1 = cc at *
      generalize l[k].2.2 = rr at *
      go_wp2_with fail
      go_quiet (fail)
      go_wp2_with fail
      go_roundw
      case rel => exact ⟨k + 1, q + nq, by omega, by go_num, by simp⟩
      case measure => simp [intOf]; omega
    · obtain rfl : k = l.length := by omega
      go_wp2_with fail
      go_ret
      exact ⟨rfl, below_drewN (Below.refl _ _) _⟩

theorem one_content2 (b : ByteArray) : (one b).2.1.size ≤ b.size := by
  unfold one
  split
  · exact Nat.zero_le _
  rename_i h
  split
  · exact Nat.zero_le _
  have h1 : (rd b).2.2.2.2 = 0 := by simpa using h
  obtain ⟨n, _, _, h3, _, h5⟩ := read_ok h1
  rw [h5, fin_eq h3]
  simp
  omega
theorem one_bounds (s : ByteArray) : (one s).1 < 256 ∧ (one s).2.1.size ≤ s.size := by
  refine ⟨?_, one_content2 s⟩
  unfold one
  split
  · show 0 < 256; omega
  rename_i h
  split
  · show 0 < 256; omega
  exact (rd_sizes (by simpa using h)).1
set_option maxHeartbeats 1000000 in
/-- 'tlv.Check'. -/
theorem check_any (s : ByteArray) (w : World) (hs : s.size ≤ maxLen) : Calls Try.prog 18 #[.string s] w (Chk (check s) w) := by
  have hr := fun W => one_any s W hs
  unfold valO at hr
  have hbd := one_bounds s
  have hck : check s = if (one s).2.2.2 ≠ 0 then (one s).2.2.2 else chk 15 (one s).1 (one s).2.1 := rfl
  obtain ⟨q, hq⟩ : ∃ q, one s = q := ⟨_, rfl⟩
  rw [hq] at hr hbd hck
  obtain ⟨t, c, r, e⟩ := q
  have hb1 : t < 256 := hbd.1
  have hb2 : c.size ≤ maxLen := Nat.le_trans hbd.2 hs
  have hw := fun W => within_any 15 t c r 1 W (by omega) (by omega) hb1 hb2
  have HR := Lib.hid hr
  have HW := Lib.hid hw
  clear hr hw hq hbd hb1 hb2
  by_cases he : e = 0
  · have hres : check s = chk 15 t c := by rw [hck, if_neg (by simpa using he)]
    have HRES := Lib.hid hres
    subst he
    clear hres hck
    generalize chk 15 t c = G at *
    go_enter Try.func18, Try.ntmps18
    go_wp2_with fail
    refine (HR.out _).mono ?_
    rintro e w2 ⟨rfl, hb2⟩
    go_wp2_with fail
    refine (HW.out _).mono ?_
    rintro e w3 ⟨rfl, hb3⟩
    go_wp2_with fail
    go_ret
    exact ⟨by rw [HRES.out]; rfl, (hb2.alloc hb2.size _).trans (hb3.mono (by have := hb2.size; simp; omega))⟩
  · have hres : check s = e := by rw [hck, if_pos (by simpa using he)]
    have HRES := Lib.hid hres
    have he1 : (e != 0) = true := by rw [bne_iff_ne]; exact he
    clear hres hck he HW
    go_enter Try.func18, Try.ntmps18
    go_wp2_with fail
    refine (HR.out _).mono ?_
    rintro e w2 ⟨rfl, hb2⟩
    go_wp2_with fail
    go_ret
    exact ⟨by rw [HRES.out]; rfl, hb2.alloc hb2.size _⟩
set_option maxHeartbeats 1000000 in
/-- 'certpathref01.Check'. -/
theorem rcheckall_any (s : ByteArray) (w : World) (hs : s.size ≤ maxLen) : Calls Try.prog 19 #[.string s] w (Chk (check s) w) := by
  have hr := fun W => rone_any s W hs
  unfold valO at hr
  have hbd := one_bounds s
  have hck : check s = if (one s).2.2.2 ≠ 0 then (one s).2.2.2 else chk 15 (one s).1 (one s).2.1 := rfl
  obtain ⟨q, hq⟩ : ∃ q, one s = q := ⟨_, rfl⟩
  rw [hq] at hr hbd hck
  obtain ⟨t, c, r, e⟩ := q
  have hb1 : t < 256 := hbd.1
  have hb2 : c.size ≤ maxLen := Nat.le_trans hbd.2 hs
  have hw := fun W => rcheck_any 15 t c r 0 W (by omega) (by omega) hb1 hb2
  have HR := Lib.hid hr
  have HW := Lib.hid hw
  clear hr hw hq hbd hb1 hb2
  by_cases he : e = 0
  · have hres : check s = chk 15 t c := by rw [hck, if_neg (by simpa using he)]
    have HRES := Lib.hid hres
    subst he
    clear hres hck
    generalize chk 15 t c = G at *
    go_enter Try.func19, Try.ntmps19
    go_wp2_with fail
    refine (HR.out _).mono ?_
    rintro e w2 ⟨rfl, hb2⟩
    go_wp2_with fail
    refine (HW.out _).mono ?_
    rintro e w3 ⟨rfl, hb3⟩
    go_wp2_with fail
    go_ret
    exact ⟨by rw [HRES.out]; rfl, (hb2.alloc hb2.size _).trans (hb3.mono (by have := hb2.size; simp; omega))⟩
  · have hres : check s = e := by rw [hck, if_pos (by simpa using he)]
    have HRES := Lib.hid hres
    have he1 : (e != 0) = true := by rw [bne_iff_ne]; exact he
    clear hres hck he HW
    go_enter Try.func19, Try.ntmps19
    go_wp2_with fail
    refine (HR.out _).mono ?_
    rintro e w2 ⟨rfl, hb2⟩
    go_wp2_with fail
    go_ret
    exact ⟨by rw [HRES.out]; rfl, hb2.alloc hb2.size _⟩
end Go.Proofs.Ytpcdbgfhlghocaa
