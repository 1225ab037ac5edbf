import Derived.Test.YtpcdbgfhlghocaaTa
import Derived.Test.YtpcdbgfhlghocaaTb
import Derived.Test.YtpcdbgfhlghocaaTl
namespace Go.Proofs.Ytpcdbgfhlghocaa
set_option linter.unusedVariables false
set_option linter.unusedSimpArgs false
open Go.RowKit

def valO (r : Nat × ByteArray × ByteArray × Int) : Value := .tuple #[.agg #[.int .i64 r.1, .string r.2.1, .string r.2.2.1], .int .i64 r.2.2.2]

set_option maxHeartbeats 1000000 in
/-- 'tlv.One'. -/
theorem one_any (s : ByteArray) (w : World) (hs : s.size ≤ maxLen) :
    Calls Try.prog 15 #[.string s] w fun e w' => e = .returned (valO (one s)) ∧ Below w.heap.size w w' := by
  have hr := fun W => read_any s W hs
  unfold valR at hr
  obtain ⟨r, hrs⟩ : ∃ r, rd s = r := ⟨_, rfl⟩
  rw [hrs] at hr
  have hone : one s = if r.2.2.2.2 ≠ 0 then (0, ⟨#[]⟩, ⟨#[]⟩, r.2.2.2.2) else if r.2.2.2.1.size ≠ 0 then (0, ⟨#[]⟩, ⟨#[]⟩, 4) else (r.1, r.2.1, r.2.2.1, 0) := by
    rw [← hrs]; rfl
  obtain ⟨t, c, raw, rest, e⟩ := r
  clear hrs
  have HR := Lib.hid hr
  clear hr
  by_cases he : e = 0
  · subst he
    by_cases hz : rest.size = 0
    · have hz1 := empty_list hz
      have hz3 : (!rest.toList.isEmpty) = false := by rw [hz1]; rfl
      have HO : Hid (one s = (t, c, raw, 0)) := by show one s = _; rw [hone, if_neg (by simp), if_neg (by simp [hz])]
      clear hz hone
      go_enter Try.func15, Try.ntmps15
      go_wp2_with (first | (go_at_call 16; refine (HR.out _).mono ?_; rintro e w2 ⟨rfl, hb2⟩; obtain ⟨hc2, hf2⟩ := bcell hb2; have hzb : w.heap.size < w2.heap.size := by have := hb2.size; simp at this; omega))
      exact bodyPost_ret (v := .tuple #[.agg #[.int .i64 t, .string c, .string raw], .int .i64 0]) (by simp [results, Try.results15, go_sem, hc2, hf2, hzb]) rfl ⟨by rw [HO.out]; rfl, by
        repeat (first | exact Below.refl _ _ | (refine Below.drew ?_) | (refine Below.setCell ?_ (by simp) _) | (refine Below.alloc ?_ (by simp <;> omega) _) | (refine Below.trans ?_ (hb2.mono (by simp))))⟩
    · have hz1 := ne_list (s := rest) (by omega)
      have hz3 : (!rest.toList.isEmpty) = true := by rw [hz1]; rfl
      have HO : Hid (one s = (0, ⟨#[]⟩, ⟨#[]⟩, 4)) := by show one s = _; rw [hone, if_neg (by simp), if_pos (by simpa using hz)]
      clear hz hone
      go_enter Try.func15, Try.ntmps15
      go_wp2_with (first | (go_at_call 16; refine (HR.out _).mono ?_; rintro e w2 ⟨rfl, hb2⟩; obtain ⟨hc2, hf2⟩ := bcell hb2; have hzb : w.heap.size < w2.heap.size := by have := hb2.size; simp at this; omega))
      exact bodyPost_ret (v := .tuple #[.agg #[.int .i64 0, .string ⟨#[]⟩, .string ⟨#[]⟩], .int .i64 4]) (by simp [results, Try.results15, go_sem, hc2, hf2, hzb]) rfl ⟨by rw [HO.out]; rfl, by
        repeat (first | exact Below.refl _ _ | (refine Below.drew ?_) | (refine Below.setCell ?_ (by simp) _) | (refine Below.alloc ?_ (by simp <;> omega) _) | (refine Below.trans ?_ (hb2.mono (by simp))))⟩
  · have he1 : (e != 0) = true := by rw [bne_iff_ne]; exact he
    have HO : Hid (one s = (0, ⟨#[]⟩, ⟨#[]⟩, e)) := by show one s = _; rw [hone, if_pos (by simpa using he)]
    clear he hone
    go_enter Try.func15, Try.ntmps15
    go_wp2_with (first | (go_at_call 16; refine (HR.out _).mono ?_; rintro e w2 ⟨rfl, hb2⟩; obtain ⟨hc2, hf2⟩ := bcell hb2; have hzb : w.heap.size < w2.heap.size := by have := hb2.size; simp at this; omega))
    exact bodyPost_ret (v := .tuple #[.agg #[.int .i64 0, .string ⟨#[]⟩, .string ⟨#[]⟩], .int .i64 e]) (by simp [results, Try.results15, go_sem, hc2, hf2, hzb]) rfl ⟨by rw [HO.out]; rfl, by
        repeat (first | exact Below.refl _ _ | (refine Below.drew ?_) | (refine Below.setCell ?_ (by simp) _) | (refine Below.alloc ?_ (by simp <;> omega) _) | (refine Below.trans ?_ (hb2.mono (by simp))))⟩

set_option maxHeartbeats 1000000 in
/-- 'certpathref01.One'. -/
theorem rone_any (s : ByteArray) (w : World) (hs : s.size ≤ maxLen) :
    Calls Try.prog 30 #[.string s] w fun e w' => e = .returned (valO (one s)) ∧ Below w.heap.size w w' := by
  have hr := fun W => rread_any s W hs
  unfold valR at hr
  obtain ⟨r, hrs⟩ : ∃ r, rd s = r := ⟨_, rfl⟩
  rw [hrs] at hr
  have hone : one s = if r.2.2.2.2 ≠ 0 then (0, ⟨#[]⟩, ⟨#[]⟩, r.2.2.2.2) else if r.2.2.2.1.size ≠ 0 then (0, ⟨#[]⟩, ⟨#[]⟩, 4) else (r.1, r.2.1, r.2.2.1, 0) := by
    rw [← hrs]; rfl
  obtain ⟨t, c, raw, rest, e⟩ := r
  clear hrs
  have HR := Lib.hid hr
  clear hr
  by_cases he : e = 0
  · subst he
    by_cases hz : rest.size = 0
    · have hz1 : ¬ 0 < rest.size := by omega
      have HO : Hid (one s = (t, c, raw, 0)) := by show one s = _; rw [hone, if_neg (by simp), if_neg (by simp [hz])]
      clear hz hone
      go_enter Try.func30, Try.ntmps30
      go_wp2_with (first | (go_at_call 29; refine (HR.out _).mono ?_; rintro e w2 ⟨rfl, hb2⟩; obtain ⟨hc2, hf2⟩ := bcell hb2; have hzb : w.heap.size < w2.heap.size := by have := hb2.size; simp at this; omega))
      exact bodyPost_ret (v := .tuple #[.agg #[.int .i64 t, .string c, .string raw], .int .i64 0]) (by simp [results, Try.results30, go_sem, hc2, hf2, hzb]) rfl ⟨by rw [HO.out]; rfl, by
        repeat (first | exact Below.refl _ _ | (refine Below.drew ?_) | (refine Below.setCell ?_ (by simp) _) | (refine Below.alloc ?_ (by simp <;> omega) _) | (refine Below.trans ?_ (hb2.mono (by simp))))⟩
    · have hz1 : 0 < rest.size := by omega
      have HO : Hid (one s = (0, ⟨#[]⟩, ⟨#[]⟩, 4)) := by show one s = _; rw [hone, if_neg (by simp), if_pos (by simpa using hz)]
      clear hz hone
      go_enter Try.func30, Try.ntmps30
      go_wp2_with (first | (go_at_call 29; refine (HR.out _).mono ?_; rintro e w2 ⟨rfl, hb2⟩; obtain ⟨hc2, hf2⟩ := bcell hb2; have hzb : w.heap.size < w2.heap.size := by have := hb2.size; simp at this; omega))
      exact bodyPost_ret (v := .tuple #[.agg #[.int .i64 0, .string ⟨#[]⟩, .string ⟨#[]⟩], .int .i64 4]) (by simp [results, Try.results30, go_sem, hc2, hf2, hzb]) rfl ⟨by rw [HO.out]; rfl, by
        repeat (first | exact Below.refl _ _ | (refine Below.drew ?_) | (refine Below.setCell ?_ (by simp) _) | (refine Below.alloc ?_ (by simp <;> omega) _) | (refine Below.trans ?_ (hb2.mono (by simp))))⟩
  · have he1 : (e != 0) = true := by rw [bne_iff_ne]; exact he
    have HO : Hid (one s = (0, ⟨#[]⟩, ⟨#[]⟩, e)) := by show one s = _; rw [hone, if_pos (by simpa using he)]
    clear he hone
    go_enter Try.func30, Try.ntmps30
    go_wp2_with (first | (go_at_call 29; refine (HR.out _).mono ?_; rintro e w2 ⟨rfl, hb2⟩; obtain ⟨hc2, hf2⟩ := bcell hb2; have hzb : w.heap.size < w2.heap.size := by have := hb2.size; simp at this; omega))
    exact bodyPost_ret (v := .tuple #[.agg #[.int .i64 0, .string ⟨#[]⟩, .string ⟨#[]⟩], .int .i64 e]) (by simp [results, Try.results30, go_sem, hc2, hf2, hzb]) rfl ⟨by rw [HO.out]; rfl, by
        repeat (first | exact Below.refl _ _ | (refine Below.drew ?_) | (refine Below.setCell ?_ (by simp) _) | (refine Below.alloc ?_ (by simp <;> omega) _) | (refine Below.trans ?_ (hb2.mono (by simp))))⟩

end Go.Proofs.Ytpcdbgfhlghocaa
