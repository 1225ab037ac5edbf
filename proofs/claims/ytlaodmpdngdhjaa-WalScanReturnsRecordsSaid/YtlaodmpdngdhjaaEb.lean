/- without: a file is left out. -/
import Derived.Test.YtlaodmpdngdhjaaEa
import Derived.Test.YtlaodmpdngdhjaaDs
import Derived.Deep.RegionLaw
namespace Go.Proofs.Ytlaodmpdngdhjaa
set_option linter.unusedVariables false
set_option linter.unusedSimpArgs false
open Go.RowKit

theorem info107 : (Try.prog.info? 107).map (fun i => (i.zero, i.size, i.bytes)) = some (some (.agg #[.string ⟨#[]⟩, .string ⟨#[]⟩]), 2, 32) := by kernel_rfl
theorem fcells_take (F : List File) (i : Nat) : fcells (F.take i) = (fcells F).take (i * 2) := by
  induction F generalizing i with
  | nil => simp [fcells]
  | cons p r ih =>
    cases i with
    | zero => simp [fcells]
    | succ i =>
      have e : (i + 1) * 2 = i * 2 + 2 := by omega
      rw [e]
      have := ih i
      simp only [fcells] at this
      simp [fcells, this]
theorem fcells_drop (F : List File) (i : Nat) : fcells (F.drop i) = (fcells F).drop (i * 2) := by
  induction F generalizing i with
  | nil => simp [fcells]
  | cons p r ih =>
    cases i with
    | zero => simp [fcells]
    | succ i =>
      have e : (i + 1) * 2 = i * 2 + 2 := by omega
      rw [e]
      have := ih i
      simp only [fcells] at this
      simp [fcells, this]
theorem fcells_erase (F : List File) (i : Nat) : fcells (F.eraseIdx i) = (fcells F).take (i * 2) ++ (fcells F).drop ((i + 1) * 2) := by
  rw [List.eraseIdx_eq_take_drop_succ, fcells_append, fcells_take, fcells_drop]
theorem srcF_take {w : World} {g n cap i : Nat} {F : List File} (hn : F.length = n) (hi : i ≤ n) (h : ∀ j u, (fcells F)[j]? = some u → w.cell? ⟨g, j, none⟩ = some u) : Src w 2 (.slice (some ⟨g, 0, none⟩) i cap) i ((fcells F).take (i * 2)) := by
  refine .inr ⟨_, _, rfl, by rw [List.length_take, fcells_length, hn]; omega, fun j u hu => ?_⟩
  rw [Addr.add_lit, Nat.zero_add]
  refine h j u ?_
  rw [List.getElem?_take] at hu
  split at hu
  · exact hu
  · cases hu
theorem srcF_drop {w : World} {g n cap i : Nat} {F : List File} {A3 : Option Addr} (hn : F.length = n) (hi : i ≤ n) (hc : n ≤ cap) (hA : (if cap = i then some ⟨g, 0, none⟩ else some ⟨g, i * 2, none⟩ : Option Addr) = A3) (h : ∀ j u, (fcells F)[j]? = some u → w.cell? ⟨g, j, none⟩ = some u) :
    Src w 2 (.slice A3 (n - i) (cap - i)) (n - i) ((fcells F).drop (i * 2)) := by
  have hl : ((fcells F).drop (i * 2)).length = (n - i) * 2 := by rw [List.length_drop, fcells_length, hn]; omega
  split at hA
  · subst hA
    refine .inr ⟨_, _, rfl, hl, fun j u hu => ?_⟩
    have := (List.getElem?_eq_some_iff.1 hu).1
    omega
  · subst hA
    refine .inr ⟨_, _, rfl, hl, fun j u hu => ?_⟩
    rw [Addr.add_lit]
    exact h _ u (by simpa using hu)
set_option maxRecDepth 100000 in
set_option maxHeartbeats 2000000 in
theorem without_any (v : Value) (F : List File) (i : Nat) (w : World) (h : RowF w v F) (hi : i < F.length) (hl : F.length ≤ 1000000) :
    Calls Try.prog 99 #[v, .int .i64 i] w fun e w' => ∃ v', e = .returned v' ∧ w'.ownsRow w.heap.size 107 2 v' (F.eraseIdx i).length (fcells (F.eraseIdx i)) ∧ Below w.heap.size w w' := by
  obtain ⟨i0, hf, hf0, hf1, hf2⟩ := info_parts info107
  obtain ⟨g, cap, rfl, hcap, hg, hc⟩ : ∃ g cap, v = .slice (some ⟨g, 0, none⟩) F.length cap ∧ F.length ≤ cap ∧ g < w.heap.size ∧ ∀ j u, (fcells F)[j]? = some u → w.cell? ⟨g, j, none⟩ = some u := by
    rcases h with ⟨_, rfl⟩ | h
    · simp at hi
    · exact h
  have HC := Lib.hid hc
  obtain ⟨n, hn⟩ : ∃ n, F.length = n := ⟨_, rfl⟩
  have HN := Lib.hid hn
  have hE : Hid (fcells (F.eraseIdx i) = [] ++ (fcells F).take (i * 2) ++ (fcells F).drop ((i + 1) * 2)) := Lib.hid (by rw [fcells_erase]; simp)
  have hEl : Hid ((F.eraseIdx i).length = 0 + i + (n - (i + 1))) := Lib.hid (by rw [List.length_eraseIdx, if_pos hi, hn]; omega)
  rw [hn] at hi hl hcap ⊢
  obtain ⟨A3, hA3⟩ : ∃ A3, (if cap = i + 1 then some ⟨g, 0, none⟩ else some ⟨g, (i + 1) * 2, none⟩ : Option Addr) = A3 := ⟨_, rfl⟩
  have S1 : Hid (∀ W : World, (∀ o, W.cell? ⟨g, o, none⟩ = w.cell? ⟨g, o, none⟩) → Src W 2 (.slice (some ⟨g, 0, none⟩) i cap) i ((fcells F).take (i * 2))) := Lib.hid fun W hW => srcF_take HN.out (by omega) fun j u hu => by rw [hW]; exact HC.out j u hu
  have S2 : Hid (∀ W : World, (∀ o, W.cell? ⟨g, o, none⟩ = w.cell? ⟨g, o, none⟩) → Src W 2 (.slice A3 (n - (i + 1)) (cap - (i + 1))) (n - (i + 1)) ((fcells F).drop ((i + 1) * 2))) := Lib.hid fun W hW => srcF_drop HN.out (by omega) hcap hA3 fun j u hu => by rw [hW]; exact HC.out j u hu
  have BA : Hid (Below w.heap.size w (w.alloc (.cells #[] 107)).drew) := Lib.hid ((Below.refl _ _).alloc (Nat.le_refl _) _).drew
  have OA : Hid ((w.alloc (.cells #[] 107)).drew.ownsRow w.heap.size 107 2 (.slice (some ⟨w.heap.size, 0, none⟩) 0 0) 0 []) := Lib.hid (World.ownsRow_made w #[] 0 (Nat.le_refl _) (Nat.zero_le _) (by simp)).drew
  have hic : i ≤ cap := by omega
  have hic1 : i + 1 ≤ cap := by omega
  have hin1 : i + 1 ≤ n := by omega
  have hi1 : (0 : Int) ≤ (i : Int) + 1 := by omega
  have hi2 : (i : Int) + 1 ≤ (n : Int) := by omega
  have hwr : IntKind.i64.wrap ((i : Int) + 1) = ((i + 1 : Nat) : Int) := by rw [IntKind.wrap_i64]; omega
  clear hc hn h
  go_enter Try.func99, Try.ntmps99
  go_wp2_with fail
  go_region_law (first
    | (refine step_appB rfl (.tmp 5) (.tmp 8) 96 rfl w.heap.size 107 i0 (.agg #[.string ⟨#[]⟩, .string ⟨#[]⟩]) 2 32 Try.underlying96 hf hf0 hf1 hf2 rfl (by omega) (.slice (some ⟨w.heap.size, 0, none⟩) 0 0) 0 [] (by simp [Act.eval, Act.put]) OA.out (.slice (some ⟨g, 0, none⟩) i cap) i ((fcells F).take (i * 2)) (by simp [Act.eval, Act.put]) (S1.out _ (by intro o; go_simp)) (fun u hu => fcells_one F u (List.mem_of_mem_take hu)) (by unfold maxLen; omega) (by omega) (Nat.le_refl _) BA.out ?_; intro v1 w1 o1 g1 b1)
    | (refine step_appB rfl (.tmp 9) (.tmp 13) 96 rfl w.heap.size 107 i0 (.agg #[.string ⟨#[]⟩, .string ⟨#[]⟩]) 2 32 Try.underlying96 hf hf0 hf1 hf2 rfl (by omega) v1 (0 + i) ([] ++ (fcells F).take (i * 2)) (by simp [Act.eval, Act.put]) o1.out (.slice A3 (n - (i + 1)) (cap - (i + 1))) (n - (i + 1)) ((fcells F).drop ((i + 1) * 2)) (by simp [Act.eval, Act.put]) (S2.out _ (by intro o; exact b1.out.cell (p := ⟨g, o, none⟩) hg)) (fun u hu => fcells_one F u (List.mem_of_mem_drop hu)) (by unfold maxLen; omega) (by omega) (Nat.le_refl _) b1.out ?_; intro v2 w2 o2 g2 b2))
  all_goals
    go_wp2_with fail
    go_ret
    exact ⟨v2, rfl, by rw [hE.out, hEl.out]; exact o2.out, b2.out⟩
end Go.Proofs.Ytlaodmpdngdhjaa
