import Derived.Test.YtpcdbgfhlghocaaUd
import Derived.Test.YtpcdbgfhlghocaaTj
namespace Go.Proofs.Ytpcdbgfhlghocaa
set_option linter.unusedVariables false
set_option linter.unusedSimpArgs false
open Go.RowKit Go.Sort

/-- The order of strings. -/
def leS (x y : ByteArray) : Bool := leB x.data.toList y.data.toList
theorem leS_trans (a b c : ByteArray) (h1 : leS a b = true) (h2 : leS b c = true) : leS a c = true := by
  simp only [leS, leB, decide_eq_true_eq] at *; exact List.le_trans h1 h2
theorem leS_total (a b : ByteArray) : (leS a b || leS b a) = true := by
  simp only [leS, leB, Bool.or_eq_true, decide_eq_true_eq]; exact List.le_total _ _
theorem leS_anti (a b : ByteArray) (h1 : leS a b = true) (h2 : leS b a = true) : a = b := by
  simp only [leS, leB, decide_eq_true_eq] at *
  exact ByteArray.ext (Array.toList_inj.1 (List.le_antisymm h1 h2))
theorem leqB_eq (x y : ByteArray) : leqB x y = leS x y := by
  unfold leqB leS
  rw [ByteArray.toList_eq, ByteArray.toList_eq, bytesLess_eq]
  generalize x.data.toList = a
  generalize y.data.toList = b
  rw [Bool.eq_iff_iff]
  simp only [Bool.or_eq_true, decide_eq_true_eq, beq_iff_eq]
  constructor
  · rintro (h | rfl)
    · exact List.le_of_lt h
    · exact List.le_refl _
  · intro h
    rcases List.le_iff_lt_or_eq.1 h with h | h
    · exact .inl h
    · exact .inr h
theorem lessB_eq (x y : ByteArray) (h : leS y x = true) : lessB x y = false := by
  unfold lessB
  rw [ByteArray.toList_eq, ByteArray.toList_eq, bytesLess_eq]
  simp only [leS, leB, decide_eq_true_eq] at h
  rw [decide_eq_false_iff_not]
  exact List.not_lt.2 h
theorem insB_sorted {x : ByteArray} {l : List ByteArray} (h : l.Pairwise fun a b => leS a b = true) : (insB x l).Pairwise fun a b => leS a b = true := by
  induction l with
  | nil => simp [insB]
  | cons y r ih =>
    have e : insB x (y :: r) = if leqB y x then y :: insB x r else x :: y :: r := by
      unfold insB
      by_cases hy : leqB y x = true
      · simp [List.takeWhile_cons, List.dropWhile_cons, hy]
      · simp [List.takeWhile_cons, List.dropWhile_cons, hy]
    rw [e]
    obtain ⟨h1, h2⟩ := List.pairwise_cons.1 h
    split
    · rename_i hy
      rw [leqB_eq] at hy
      refine List.pairwise_cons.2 ⟨fun z hz => ?_, ih h2⟩
      have := (insB_perm x r).mem_iff.1 hz
      rcases List.mem_cons.1 this with rfl | hz
      · exact hy
      · exact h1 z hz
    · rename_i hy
      rw [leqB_eq] at hy
      have hxy : leS x y = true := by
        have := leS_total x y
        rw [Bool.or_eq_true] at this
        rcases this with h | h
        · exact h
        · exact absurd h hy
      refine List.pairwise_cons.2 ⟨fun z hz => ?_, h⟩
      rcases List.mem_cons.1 hz with rfl | hz
      · exact hxy
      · exact leS_trans _ _ _ hxy (h1 z hz)
theorem srtB_sorted (l : List ByteArray) : (srtB l).Pairwise fun a b => leS a b = true := by
  have : ∀ (l s : List ByteArray), (s.Pairwise fun a b => leS a b = true) → (l.foldl (fun s x => insB x s) s).Pairwise fun a b => leS a b = true := by
    intro l
    induction l with
    | nil => intro s h; exact h
    | cons x r ih => intro s h; exact ih _ (insB_sorted h)
  exact this l [] List.Pairwise.nil
theorem sortB_sorted (l : List ByteArray) : (sortB l).Pairwise fun a b => leS a b = true := by
  have tr : ∀ a b c : List UInt8, leB a b = true → leB b c = true → leB a c = true := fun a b c h1 h2 => by simp only [leB, decide_eq_true_eq] at *; exact List.le_trans h1 h2
  have tot2 : ∀ a b : List UInt8, (leB a b || leB b a) = true := fun a b => by simp only [leB, Bool.or_eq_true, decide_eq_true_eq]; exact List.le_total a b
  have h := List.pairwise_mergeSort tr tot2 (lists l)
  unfold sortB
  rw [List.pairwise_map]
  exact h
theorem sort_same (l : List ByteArray) : sortB l = srtB l :=
  List.Perm.eq_of_pairwise (le := fun a b => leS a b = true) (fun a b _ _ h1 h2 => leS_anti a b h1 h2) (sortB_sorted l) (srtB_sorted l) ((sortB_perm l).trans (srtB_perm l).symm)

/-- The encoding of a string. -/
def encB (c : ByteArray) : ByteArray := (wrp 4 [c]).1
theorem encB_read {c : ByteArray} (b : ByteArray) (h : c.size ≤ 100) : rd (encB c ++ b) = (4, c, encB c, b, 0) :=
  (wrap_read (t := 4) (c := c) (b := b) (by omega) (by omega) (by omega)).1
theorem encB_wrp {c : ByteArray} (h : c.size ≤ 100) : wrp 4 [c] = (encB c, 0) := Prod.ext rfl (wrap_read (t := 4) (c := c) (b := ⟨#[]⟩) (by omega) (by omega) (by omega)).2
theorem encB_size {c : ByteArray} (h : c.size ≤ 100) : 2 ≤ (encB c).size ∧ (encB c).size ≤ 102 := by
  have htot : tot [c] = c.size := by simp [tot]
  have hw : encB c = ⟨(hdr 4 c.size ++ c.data.toList).toArray⟩ := by
    unfold encB wrp
    rw [if_neg (by omega), htot, if_neg (by omega)]
    simp [cat]
  rw [hw, size_list]
  have : (hdr 4 c.size).length = 2 := by
    unfold hdr
    rw [if_pos (by omega)]
    simp
  simp [this]
  omega
theorem catB_cons (x : ByteArray) (l : List ByteArray) : (⟨(cat (x :: l)).toArray⟩ : ByteArray) = x ++ ⟨(cat l).toArray⟩ := by
  apply ByteArray.ext
  simp [cat, ByteArray.data_append]
theorem lst_cat : ∀ (ys : List ByteArray) (n : Nat) (acc : List El), (∀ y ∈ ys, ∃ c : ByteArray, c.size ≤ 100 ∧ y = encB c) → (⟨(cat ys).toArray⟩ : ByteArray).size < n →
    ∃ els : List El, lst n acc ⟨(cat ys).toArray⟩ = (acc ++ els, 0) ∧ els.map (·.2.2) = ys := by
  intro ys
  induction ys with
  | nil =>
    intro n acc _ _
    exact ⟨[], by rw [lst_stop (by rfl)]; simp, rfl⟩
  | cons y r ih =>
    intro n acc h hn
    obtain ⟨c, hc, rfl⟩ := h y (by simp)
    rw [catB_cons] at hn ⊢
    have hr := encB_read (c := c) ⟨(cat r).toArray⟩ hc
    have hsz := encB_size hc
    rw [ByteArray.size_append] at hn
    obtain ⟨m, rfl⟩ : ∃ m, n = m + 1 := ⟨n - 1, by omega⟩
    rw [lst_step (by rw [ByteArray.size_append]; omega) (by rw [hr])]
    rw [hr]
    obtain ⟨els, h1, h2⟩ := ih m (acc ++ [(4, c, encB c)]) (fun y hy => h y (by simp [hy])) (by omega)
    exact ⟨(4, c, encB c) :: els, by rw [h1]; simp, by simp [h2]⟩
/-- What List reads back of ordered encodings. -/
theorem list_sorted (xs : List ByteArray) (h : ∀ x ∈ xs, x.size ≤ 100) : ∃ els : List El, list ⟨(cat (sortB (xs.map encB))).toArray⟩ = (els, 0) ∧ els.length = xs.length ∧ ascB els = true := by
  have hp := sortB_perm (xs.map encB)
  obtain ⟨els, h1, h2⟩ := lst_cat (sortB (xs.map encB)) _ [] (by
    intro y hy
    obtain ⟨c, hc, rfl⟩ := List.mem_map.1 (hp.mem_iff.1 hy)
    exact ⟨c, h c hc, rfl⟩) (Nat.lt_succ_self _)
  refine ⟨els, by rw [list, h1]; simp, ?_, ?_⟩
  · have := congrArg List.length h2
    rw [List.length_map, sortB_length, List.length_map] at this
    exact this
  · unfold ascB
    rw [decide_eq_true_iff]
    intro j hj h1j
    have hs := sortB_sorted (xs.map encB)
    rw [← h2] at hs
    apply lessB_eq
    rw [rawAt_get els j hj, rawAt_get els (j - 1) (by omega)]
    have := List.pairwise_iff_getElem.1 hs (j - 1) j (by simp; omega) (by simp; omega) (by omega)
    simpa using this
end Go.Proofs.Ytpcdbgfhlghocaa
