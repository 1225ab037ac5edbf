/- A slice of calls that came in. -/
import Derived.Test.YtlaodmpdngdhjaaR
import Derived.Test.YtlaodmpdngdhjaaDv
namespace Go.Proofs.Ytlaodmpdngdhjaa
set_option linter.unusedVariables false
set_option linter.unusedSimpArgs false
open Go.ChangeShapes Go.WideShapes Go.ChangeAt Go.RowKit

theorem cells48 : Try.prog.cellsOf 48 = 8 := by kernel_rfl
theorem bytes48 : Try.prog.bytesOf 48 = 80 := by kernel_rfl
theorem list_choose {α : Type} {P : Nat → α → Prop} : ∀ n : Nat, (∀ i, i < n → ∃ c, P i c) → ∃ l : List α, l.length = n ∧ ∀ i c, l[i]? = some c → P i c
  | 0, _ => ⟨[], rfl, by simp⟩
  | n + 1, h => by
    obtain ⟨l, hl, hp⟩ := list_choose n fun i hi => h i (by omega)
    obtain ⟨c, hc⟩ := h n (by omega)
    refine ⟨l ++ [c], by simp [hl], fun i x hx => ?_⟩
    by_cases hi : i < n
    · rw [List.getElem?_append_left (by omega)] at hx
      exact hp i x hx
    · have hlt := (List.getElem?_eq_some_iff.1 hx).1
      simp [hl] at hlt
      obtain rfl : i = n := by omega
      rw [List.getElem?_append_right (by omega)] at hx
      simp [hl] at hx
      subst hx
      exact hc
theorem fits_of_wf {n : Int} (h : (Lit.int .i64 n).wf = true) : fits64 n := by
  have := wf_bounds_i64 h
  exact ⟨this.1, by omega⟩
set_option maxRecDepth 100000 in
theorem open_call {H : Type} {enc : TypeId × Value → H} {W : World} {fuel : Nat} {cs : List Value} {x : DataW H × List MemPlace} (h : DataW.trod enc Try.prog W 0 (fun _ => true) true fuel 48 cs = some x) :
    ∃ c : Cl, c.ok ∧ cs = c.cells.toList := by
  obtain ⟨xs, n, _, _, hlen, hxs, hf⟩ := DataW.trod_struct Try.underlying48 h
  rw [cells48] at hlen
  rw [show (#[_, _, _, _, _, _, _, _] : Array Field).size = 8 from rfl] at hxs
  obtain ⟨v0, v1, v2, v3, v4, v5, v6, v7, rfl⟩ : ∃ v0 v1 v2 v3 v4 v5 v6 v7, cs = [v0, v1, v2, v3, v4, v5, v6, v7] := by
    match cs, hlen with
    | [v0, v1, v2, v3, v4, v5, v6, v7], _ => exact ⟨_, _, _, _, _, _, _, _, rfl⟩
  have g : ∀ i, i < 8 → ∃ y, xs[i]? = some y := fun i hi => ⟨xs[i], by simp [hxs, hi]⟩
  have c3 : Try.prog.cellsOf 3 = 1 := by kernel_rfl
  have c9 : Try.prog.cellsOf 9 = 1 := by kernel_rfl
  have c4 : Try.prog.cellsOf 4 = 1 := by kernel_rfl
  obtain ⟨y0, e0⟩ := g 0 (by omega)
  obtain ⟨y1, e1⟩ := g 1 (by omega)
  obtain ⟨y2, e2⟩ := g 2 (by omega)
  obtain ⟨y3, e3⟩ := g 3 (by omega)
  obtain ⟨y4, e4⟩ := g 4 (by omega)
  obtain ⟨y5, e5⟩ := g 5 (by omega)
  obtain ⟨y6, e6⟩ := g 6 (by omega)
  obtain ⟨y7, e7⟩ := g 7 (by omega)
  have h0 : DataW.trod enc Try.prog W 0 (fun _ => true) true n 3 (([v0, v1, v2, v3, v4, v5, v6, v7].drop 0).take (Try.prog.cellsOf 3)) = some y0 := (hf 0 _ rfl).trans e0
  rw [c3] at h0
  have h1 : DataW.trod enc Try.prog W 0 (fun _ => true) true n 3 (([v0, v1, v2, v3, v4, v5, v6, v7].drop 1).take (Try.prog.cellsOf 3)) = some y1 := (hf 1 _ rfl).trans e1
  rw [c3] at h1
  have h2 : DataW.trod enc Try.prog W 0 (fun _ => true) true n 3 (([v0, v1, v2, v3, v4, v5, v6, v7].drop 2).take (Try.prog.cellsOf 3)) = some y2 := (hf 2 _ rfl).trans e2
  rw [c3] at h2
  have h3 : DataW.trod enc Try.prog W 0 (fun _ => true) true n 3 (([v0, v1, v2, v3, v4, v5, v6, v7].drop 3).take (Try.prog.cellsOf 3)) = some y3 := (hf 3 _ rfl).trans e3
  rw [c3] at h3
  have h4 : DataW.trod enc Try.prog W 0 (fun _ => true) true n 3 (([v0, v1, v2, v3, v4, v5, v6, v7].drop 4).take (Try.prog.cellsOf 3)) = some y4 := (hf 4 _ rfl).trans e4
  rw [c3] at h4
  have h5 : DataW.trod enc Try.prog W 0 (fun _ => true) true n 9 (([v0, v1, v2, v3, v4, v5, v6, v7].drop 5).take (Try.prog.cellsOf 9)) = some y5 := (hf 5 _ rfl).trans e5
  rw [c9] at h5
  have h6 : DataW.trod enc Try.prog W 0 (fun _ => true) true n 9 (([v0, v1, v2, v3, v4, v5, v6, v7].drop 6).take (Try.prog.cellsOf 9)) = some y6 := (hf 6 _ rfl).trans e6
  rw [c9] at h6
  have h7 : DataW.trod enc Try.prog W 0 (fun _ => true) true n 4 (([v0, v1, v2, v3, v4, v5, v6, v7].drop 7).take (Try.prog.cellsOf 4)) = some y7 := (hf 7 _ rfl).trans e7
  rw [c4] at h7
  obtain ⟨n0, q0, _, w0⟩ := DataW.trod_int Try.underlying3 h0
  obtain ⟨n1, q1, _, w1⟩ := DataW.trod_int Try.underlying3 h1
  obtain ⟨n2, q2, _, w2⟩ := DataW.trod_int Try.underlying3 h2
  obtain ⟨n3, q3, _, w3⟩ := DataW.trod_int Try.underlying3 h3
  obtain ⟨n4, q4, _, w4⟩ := DataW.trod_int Try.underlying3 h4
  obtain ⟨s5, q5, _, w5⟩ := DataW.trod_string Try.underlying9 h5
  obtain ⟨s6, q6, _, w6⟩ := DataW.trod_string Try.underlying9 h6
  obtain ⟨b7, q7, _⟩ := DataW.trod_bool Try.underlying4 h7
  cases q0; cases q1; cases q2; cases q3; cases q4; cases q5; cases q6; cases q7
  exact ⟨⟨n0, n1, n2, n3, n4, s5, s6, b7⟩, ⟨fits_of_wf w0, fits_of_wf w1, fits_of_wf w2, fits_of_wf w3, fits_of_wf w4, w5, w6⟩, rfl⟩
set_option maxRecDepth 100000 in
theorem open_calls {H : Type} {enc : TypeId × Value → H} {W : World} {base : Nat} {v : Value} {d : DataW H} {p : List MemPlace} (hv : Value.okWide Try.prog W .any base 42 v)
    (h : DataW.Trod enc Try.prog W 0 (fun _ => true) true 42 v d p) (hlt : ∀ x ∈ p, x.block < W.heap.size)
    (hsz : ∀ L M : List (DataW H), d = .slice L M → (L.length + M.length) * 80 ≤ reachBytes) :
    ∃ (a : Option Addr) (n c : Nat) (xs : List Cl), v = .slice a n c ∧ CallRow W a xs ∧ n = xs.length ∧ xs.length ≤ c ∧ xs.length ≤ 140737488355328 ∧ (∀ x ∈ xs, x.ok) := by
  obtain ⟨a0, len, cap, rfl⟩ := okWide_slice Try.underlying42 hv
  obtain ⟨fuel, hf⟩ := h
  rcases DataW.trod_slice Try.underlying42 hf with ⟨hcs, hx⟩ | ⟨a, len', cap', elems, rest, n, _, hcs, hx, _, hl, hm, hlen, hel, _⟩
  · simp [Value.cells] at hcs
    obtain ⟨rfl, rfl, rfl⟩ := hcs
    exact ⟨none, 0, 0, [], rfl, Or.inl rfl, rfl, Nat.zero_le _, Nat.zero_le _, by simp⟩
  · simp [Value.cells] at hcs
    obtain ⟨rfl, rfl, rfl⟩ := hcs
    simp only [Prod.mk.injEq] at hx
    obtain ⟨rfl, rfl⟩ := hx
    have hr := hsz _ _ rfl
    simp only [List.length_map, reachBytes] at hr
    rw [cells48] at hel
    obtain ⟨l, hll, hlp⟩ := list_choose (P := fun i (c : Cl) => c.ok ∧ ∀ j v, c.cells[j]? = some v → W.cell? ((a.add (i * 8)).add j) = some v) len fun i hi => by
      have h1 := hel i hi
      have h2 : elems[i]? = some elems[i] := by simp
      rw [h2] at h1
      cases hc : W.cells? 0 (a.add (i * 8)) 8 with
      | none => rw [hc] at h1; cases h1
      | some cs =>
        rw [hc] at h1
        obtain ⟨c, hok, rfl⟩ := open_call h1
        obtain ⟨_, _, h3⟩ := World.cells?_some hc
        refine ⟨c, hok, fun j v hj => ?_⟩
        have hj8 : j < 8 := by
          have := (Array.getElem?_eq_some_iff.1 hj).1
          exact this
        rw [h3 j hj8]
        simpa using hj
    refine ⟨some a, len, cap, l, rfl, ?_, hll.symm, by omega, by omega, fun x hx => ?_⟩
    · by_cases hl0 : l = []
      · exact Or.inl hl0
      · have hpos : 0 < l.length := List.length_pos_iff.2 hl0
        obtain ⟨b, off, spot⟩ := a
        have hspot : spot = none := by
          have h0 := (hlp 0 l[0] (by simp)).2 0 _ rfl
          have := World.cell?_spot h0
          simpa [Addr.add] using this
        subst hspot
        refine Or.inr ⟨b, off, rfl, hlt (.cell b off) (List.mem_append_left _ (MemPlace.mem_row.2 ⟨0, ?_, by simp⟩)), fun j c hj i v hv => ?_⟩
        · rw [cells48]
          omega
        · have h3 := (hlp j c hj).2 i v hv
          rw [add_plain, add_plain] at h3
          exact h3
    · obtain ⟨i, hi, rfl⟩ := List.getElem_of_mem hx
      exact (hlp i _ (by simp)).1
end Go.Proofs.Ytlaodmpdngdhjaa
