/- A slice of strings that came in. -/
import Derived.Test.YtlaodmpdngdhjaaR
import Derived.Test.YtlaodmpdngdhjaaEl
import Derived.WalkKit
import Derived.ProofKit
import Derived.SizedLaws
import Derived.OpenShut
namespace Go.Proofs.Ytlaodmpdngdhjaa
set_option linter.unusedVariables false
set_option linter.unusedSimpArgs false
open Go.ChangeShapes Go.WideShapes Go.ChangeAt Go.RowKit
open Go.RowKit


set_option maxRecDepth 100000 in
theorem open_row {H : Type} {enc : TypeId × Value → H} {W : World} {base : Nat} {v : Value} {d : DataW H} {p : List MemPlace} (hv : Value.okWide Try.prog W .any base 22 v)
    (h : DataW.Trod enc Try.prog W 0 (fun _ => true) true 22 v d p) (hlt : ∀ x ∈ p, x.block < W.heap.size)
    (hsz : ∀ L M : List (DataW H), d = .slice L M → (L.length + M.length) * 16 ≤ reachBytes) :
    ∃ (a : Option Addr) (n c : Nat) (xs : List ByteArray), v = .slice a n c ∧ RowS W (.slice a xs.length c) xs ∧ n = xs.length ∧ xs.length ≤ c ∧ xs.length ≤ 140737488355328 ∧ (∀ x ∈ xs, x.size ≤ maxLen) := by
  obtain ⟨a0, len, cap, rfl⟩ := okWide_slice Try.underlying22 hv
  obtain ⟨fuel, hf⟩ := h
  rcases open_strings Try.underlying22 Try.underlying9 cells9 hf with ⟨hcs, hx⟩ | ⟨a, len', cap', ss, hcs, _, hl, hm, hz, hx, hcell, hws⟩
  · simp [Value.cells] at hcs
    obtain ⟨rfl, rfl, rfl⟩ := hcs
    exact ⟨none, 0, 0, [], rfl, Or.inl ⟨rfl, none, 0, rfl⟩, rfl, Nat.zero_le _, Nat.zero_le _, fun x hx => by cases hx⟩
  · simp [Value.cells] at hcs
    obtain ⟨rfl, rfl, rfl⟩ := hcs
    simp only [Prod.mk.injEq] at hx
    obtain ⟨rfl, rfl⟩ := hx
    simp only [if_true] at hz
    have hr := hsz _ _ rfl
    simp only [ChangeShapes.strs, List.length_map, List.length_take, List.length_drop, reachBytes] at hr
    have hlen : (ss.take len).length = len := by rw [List.length_take]; omega
    refine ⟨some a, len, cap, ss.take len, rfl, ?_, hlen.symm, by omega, by omega, fun x hx => hws x (List.mem_of_mem_take hx)⟩
    by_cases hl0 : len = 0
    · exact Or.inl ⟨by subst hl0; simp, _, _, by subst hl0; simp; exact ⟨rfl, rfl⟩⟩
    · obtain ⟨b, off, spot⟩ := a
      have hspot : spot = none := by simpa [Addr.add] using World.cell?_spot (hcell 0 (by omega))
      subst hspot
      refine Or.inr ⟨b, off, _, rfl, hlt (.cell b off) (MemPlace.mem_row.2 ⟨0, by omega, by simp⟩), fun j x hj => ?_⟩
      have hjl : j < len := by
        have := (List.getElem?_eq_some_iff.1 hj).1
        omega
      rw [List.getElem?_take_of_lt hjl] at hj
      have h2 := hcell j (by omega)
      rw [add_plain] at h2
      rw [h2, List.getD_eq_getElem?_getD, hj]
      rfl
end Go.Proofs.Ytlaodmpdngdhjaa
