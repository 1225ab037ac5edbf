import Derived.Test.YtpcdbgfhlghocaaTa
import Derived.Test.YtpcdbgfhlghocaaTd
namespace Go.Proofs.Ytpcdbgfhlghocaa
set_option linter.unusedVariables false
set_option linter.unusedSimpArgs false
open Go.RowKit

theorem wrap_any (t : Int) (n : Nat) (a : Option Addr) (c : Nat) (xs : List ByteArray) (w : World) (hrow : StrRow w a xs) (hn : n = xs.length) (hc : xs.length ≤ c) (hl : xs.length ≤ 140737488355328)
    (hsz : ∀ x ∈ xs, x.size ≤ maxLen) :
    Calls Try.prog 13 #[.int .i64 t, .slice a n c] w fun e w' => e = .returned (valW (wrp t xs)) ∧ Below w.heap.size w w' := by
  by_cases ht : t < 0 ∨ 255 < t ∨ t % 32 = 31
  · have hw : wrp t xs = (⟨#[]⟩, 5) := by unfold wrp; rw [if_pos ht]
    rw [hw]
    exact (wrap_bad t n a c w ht).mono fun e w' ⟨he, hw⟩ => ⟨he, hw ▸ Below.refl _ _⟩
  · obtain ⟨m, rfl⟩ := Int.eq_ofNat_of_zero_le (by omega : 0 ≤ t)
    exact wrap_ok m (by omega) (by omega) n a c xs w hrow hn hc hl hsz

theorem rwrap_any (t : Int) (n : Nat) (a : Option Addr) (c : Nat) (xs : List ByteArray) (w : World) (hrow : StrRow w a xs) (hn : n = xs.length) (hl : xs.length ≤ 140737488355328)
    (htot : tot xs ≤ 140737488355328) :
    Calls Try.prog 14 #[.int .i64 t, .slice a n c] w fun e w' => e = .returned (valW (wrp t xs)) ∧ Below w.heap.size w w' := by
  by_cases ht : t < 0 ∨ 255 < t ∨ t % 32 = 31
  · have hw : wrp t xs = (⟨#[]⟩, 5) := by unfold wrp; rw [if_pos ht]
    rw [hw]
    exact (rwrap_bad t n a c w ht).mono fun e w' ⟨he, hw⟩ => ⟨he, hw ▸ Below.refl _ _⟩
  · obtain ⟨m, rfl⟩ := Int.eq_ofNat_of_zero_le (by omega : 0 ≤ t)
    exact rwrap_ok m (by omega) (by omega) n a c xs w hrow hn hl htot

/-- A literal of strings is a row. -/
theorem StrRow.lit (w : World) (L : List ByteArray) : StrRow (w.alloc (.cells (L.map Value.string).toArray 9)) (some ⟨w.heap.size, 0, none⟩) L := by
  refine Or.inr ⟨w.heap.size, 0, rfl, by simp, fun j x hx => ?_⟩
  unfold World.cell?
  rw [heap_alloc_new w _]
  simp [hx]

theorem wrp_awake : wrp 4 [⟨#[97]⟩, ⟨#[98]⟩] = (⟨#[4, 2, 97, 98]⟩, 0) := by decide +kernel
theorem rd_awake : rd ⟨#[4, 129, 2, 97, 98]⟩ = bad 6 := by decide +kernel

set_option maxHeartbeats 400000 in
theorem awake_any (w : World) : Calls Try.prog 12 #[] w fun e w' => e = .returned (.bool true) ∧ Below w.heap.size w w' := by
  have h1 := wrap_any 4 2 (some ⟨w.heap.size, 0, none⟩) 2 [⟨#[97]⟩, ⟨#[98]⟩] _ (StrRow.lit w [⟨#[97]⟩, ⟨#[98]⟩]) rfl (by decide) (by decide) (by intro x hx; simp at hx; rcases hx with rfl | rfl <;> decide)
  rw [wrp_awake] at h1
  unfold valW at h1
  have h2 := fun W => read_any ⟨#[4, 129, 2, 97, 98]⟩ W (by decide)
  rw [rd_awake] at h2
  unfold valR bad at h2
  have H1 := Lib.hid h1
  have H2 := Lib.hid h2
  clear h1 h2
  go_enter Try.func12, Try.ntmps12
  go_wp2_with (first | (go_at_call 13; refine H1.out.mono ?_; rintro e w1 ⟨rfl, hb1⟩) | (go_at_call 16; refine (H2.out _).mono ?_; rintro e w2 ⟨rfl, hb2⟩))
  go_ret
  exact ⟨rfl, ((((Below.refl _ _).alloc (Nat.le_refl _) _).trans (hb1.mono (by simp))).trans (hb2.mono (by have := hb1.size; simp at this; omega))).alloc (by have := hb1.size; have := hb2.size; simp at *; omega) _⟩
end Go.Proofs.Ytpcdbgfhlghocaa
