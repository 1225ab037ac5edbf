/- A slice of ints that came in. -/
import Derived.Test.YtpcdbgfhlghocaaR
import Derived.Test.YtpcdbgfhlghocaaTx
namespace Go.Proofs.Ytpcdbgfhlghocaa
set_option linter.unusedVariables false
set_option linter.unusedSimpArgs false
open Go.ChangeShapes Go.WideShapes Go.ChangeAt Go.RowKit

theorem open_introw {H : Type} {enc : TypeId × Value → H} {W : World} {base : Nat} {v : Value} {d : DataW H} {p : List MemPlace} (hv : Value.okWide Try.prog W .any base 25 v)
    (h : DataW.Trod enc Try.prog W 0 (fun _ => true) true 25 v d p) (hlt : ∀ x ∈ p, x.block < W.heap.size)
    (hsz : ∀ L M : List (DataW H), d = .slice L M → (L.length + M.length) * 8 ≤ reachBytes) :
    ∃ (a : Option Addr) (n c : Nat) (xs : List Int), v = .slice a n c ∧ IntRow W a xs ∧ n = xs.length ∧ xs.length ≤ c ∧ xs.length ≤ 140737488355328 ∧ (∀ x ∈ xs, -9223372036854775808 ≤ x ∧ x ≤ 9223372036854775807) := by
  obtain ⟨a0, len, cap, rfl⟩ := okWide_slice Try.underlying25 hv
  obtain ⟨fuel, hf⟩ := h
  rcases open_ints Try.underlying25 Try.underlying3 cells3 hf with ⟨hcs, hx⟩ | ⟨a, len', cap', zs, hcs, _, hl, hm, hz, hx, hcell, hwz⟩
  · simp [Value.cells] at hcs
    obtain ⟨rfl, rfl, rfl⟩ := hcs
    exact ⟨none, 0, 0, [], rfl, Or.inl rfl, rfl, Nat.zero_le _, Nat.zero_le _, by simp⟩
  · simp [Value.cells] at hcs
    obtain ⟨rfl, rfl, rfl⟩ := hcs
    simp only [Prod.mk.injEq] at hx
    obtain ⟨rfl, rfl⟩ := hx
    simp only [if_true] at hz
    have hr := hsz _ _ rfl
    simp only [lits, List.length_map, List.length_take, List.length_drop, reachBytes] at hr
    have hlen : (zs.take len).length = len := by rw [List.length_take]; omega
    refine ⟨some a, len, cap, zs.take len, rfl, ?_, hlen.symm, by omega, by omega, fun x hx => wf_bounds_i64 (hwz x (List.mem_of_mem_take hx))⟩
    by_cases hl0 : zs.length = 0
    · exact Or.inl (List.eq_nil_of_length_eq_zero (by omega))
    · obtain ⟨b, off, spot⟩ := a
      have hspot : spot = none := by simpa [Addr.add] using World.cell?_spot (hcell 0 (by omega))
      subst hspot
      refine Or.inr ⟨b, off, rfl, hlt (.cell b off) (MemPlace.mem_row.2 ⟨0, by omega, by simp⟩), fun j hj => ?_⟩
      have hjl : j < len := by omega
      have h2 := hcell j (by omega)
      rw [add_plain] at h2
      rw [h2]
      simp only [List.getElem_take]
      rw [List.getD_eq_getElem?_getD, List.getElem?_eq_getElem (by omega)]
      rfl
end Go.Proofs.Ytpcdbgfhlghocaa
