/- Strings in rows, sorted and inserted (turned from the Tlv seat). -/
import Derived.Test.YtlaodmpdngdhjaaDap
import Derived.Test.YtlaodmpdngdhjaaProg
import Derived.Sort.OwnSorted
import Derived.Sort.Walk0
import Derived.Sort.KeysCollected
namespace Go.Proofs.Ytlaodmpdngdhjaa
set_option linter.unusedVariables false
set_option linter.unusedSimpArgs false
open Go.RowKit Go.Sort

/-- Is the one string before the other? -/
def lessB (x y : ByteArray) : Bool := Op.bytesLess x.toList y.toList
theorem info9 : (Try.prog.info? 9).map (fun i => (i.zero, i.size, i.bytes)) = some (some (.string ⟨#[]⟩), 1, 16) := by kernel_rfl

/-- The insertion sort of the reference. -/
def leqB (x y : ByteArray) : Bool := Op.bytesLess x.toList y.toList || x.toList == y.toList
def insB (x : ByteArray) (l : List ByteArray) : List ByteArray := l.takeWhile (fun y => leqB y x) ++ [x] ++ l.dropWhile (fun y => leqB y x)
def srtB (l : List ByteArray) : List ByteArray := l.foldl (fun s x => insB x s) []
theorem srtB_snoc (l : List ByteArray) (k : Nat) (x : ByteArray) (h : l[k]? = some x) : srtB (l.take (k + 1)) = insB x (srtB (l.take k)) := by
  unfold srtB
  rw [List.take_add_one, h]
  simp
theorem insB_length (x : ByteArray) (l : List ByteArray) : (insB x l).length = l.length + 1 := by
  have h := congrArg List.length (List.takeWhile_append_dropWhile (p := fun y => leqB y x) (l := l))
  simp only [List.length_append] at h
  simp only [insB, List.length_append, List.length_cons, List.length_nil]
  omega
theorem srtB_length (l : List ByteArray) : (srtB l).length = l.length := by
  have : ∀ (l s : List ByteArray), (l.foldl (fun s x => insB x s) s).length = s.length + l.length := by
    intro l
    induction l with
    | nil => intro s; rfl
    | cons x r ih => intro s; rw [List.foldl_cons, ih, insB_length, List.length_cons]; omega
  rw [srtB, this]; simp
/-- The place that the inner loop has found is where the new one goes. -/
theorem insB_at {x : ByteArray} {l : List ByteArray} {k : Nat} (hk : k ≤ l.length) (h1 : ∀ j y, j < k → l[j]? = some y → leqB y x = true) (h2 : ∀ y, l[k]? = some y → leqB y x = false) :
    insB x l = l.take k ++ [x] ++ l.drop k := by
  have e1 : l.takeWhile (fun y => leqB y x) = l.take k ∧ l.dropWhile (fun y => leqB y x) = l.drop k := by
    induction l generalizing k with
    | nil => simp
    | cons y r ih =>
      cases k with
      | zero =>
        have := h2 y rfl
        simp [List.takeWhile_cons, List.dropWhile_cons, this]
      | succ k =>
        have h0 := h1 0 y (by omega) rfl
        obtain ⟨e2, e3⟩ := ih (k := k) (by simpa using hk) (fun j z hj hz => h1 (j + 1) z (by omega) (by simpa using hz)) (fun z hz => h2 z (by simpa using hz))
        simp [List.takeWhile_cons, List.dropWhile_cons, h0, e2, e3]
  rw [insB, e1.1, e1.2]
theorem insB_perm (x : ByteArray) (l : List ByteArray) : (insB x l).Perm (x :: l) := by
  have h := List.takeWhile_append_dropWhile (p := fun y => leqB y x) (l := l)
  unfold insB
  have h2 : (l.takeWhile (fun y => leqB y x) ++ [x] ++ l.dropWhile (fun y => leqB y x)).Perm (x :: (l.takeWhile (fun y => leqB y x) ++ l.dropWhile (fun y => leqB y x))) := by
    rw [List.append_assoc]
    exact List.perm_middle
  rwa [h] at h2
theorem srtB_perm (l : List ByteArray) : (srtB l).Perm l := by
  have : ∀ (l s : List ByteArray), (l.foldl (fun s x => insB x s) s).Perm (s ++ l) := by
    intro l
    induction l with
    | nil => intro s; simp
    | cons x r ih =>
      intro s
      rw [List.foldl_cons]
      refine (ih (insB x s)).trans ?_
      refine ((insB_perm x s).append_right r).trans ?_
      exact List.perm_middle.symm
  simpa [srtB] using this l []
def strs (l : List ByteArray) : List Value := l.map Value.string
theorem strs_length (l : List ByteArray) : (strs l).length = l.length := by simp [strs]
theorem strs_one (l : List ByteArray) : ∀ u ∈ strs l, u.oneCell' = true := by
  intro u hu
  obtain ⟨x, _, rfl⟩ := List.mem_map.1 hu
  rfl
theorem srow_shape {w : World} {base n : Nat} {v : Value} {cs : List Value} (h : w.ownsRow base 9 1 v n cs) : (v = .slice none 0 0 ∧ n = 0) ∨ ∃ g c, v = .slice (some ⟨g, 0, none⟩) n c ∧ base ≤ g ∧ g < w.heap.size ∧ n ≤ c ∧ c ≤ maxLen ∧ ∀ j u, cs[j]? = some u → w.cell? ⟨g, j, none⟩ = some u := by
  have hh := h
  obtain ⟨hl, h | ⟨g, cap, cur, rfl, hg, hb, h1, h2, h3, h4⟩⟩ := h
  · exact .inl h
  · refine .inr ⟨g, cap, rfl, hg, (Array.getElem?_eq_some_iff.1 hb).1, h1, h2, fun j u hu => ?_⟩
    have := hh.cells (g := g) rfl j u hu
    simpa [Addr.add_lit] using this

theorem row_mono {w : World} {base base' : Nat} {e : TypeId} {size : Nat} {v : Value} {n : Nat} {xs : List Value} (h : w.ownsRow base e size v n xs) (hb : base' ≤ base) : w.ownsRow base' e size v n xs :=
  ⟨h.1, h.2.imp id fun ⟨g, cap, cur, h1, h2, h3⟩ => ⟨g, cap, cur, h1, Nat.le_trans hb h2, h3⟩⟩
theorem new_far (w : World) {w1 : World} {x : Value} {t : TypeId} (h : (w.alloc (.cells #[x] t)).grownBy w1 (Value.ownBlock (.slice none 0 0))) : ∀ j u, [x][j]? = some u → w1.cell? ((⟨w.heap.size, 0, none⟩ : Addr).add j) = some u := by
  intro j u hu
  rw [World.cell?_of_block (w := w.alloc (.cells #[x] t)) (by rw [Addr.add_lit]; exact h.block _ (by simp) (by simp [Value.ownBlock]))]
  exact cell_one_new w x t j u hu
theorem src_take {wr : World} {aa : Option Addr} {j k cc B : Nat} {S : List ByteArray} (hS : S.length = k) (hj : j ≤ k) (h : (aa = none ∧ k = 0 ∧ cc = 0) ∨ ∃ g, aa = some ⟨g, 0, none⟩ ∧ B ≤ g ∧ g < wr.heap.size ∧ ∀ j y, S[j]? = some y → wr.cell? ⟨g, j, none⟩ = some (.string y)) :
    ∀ W : World, (∀ b o, b < wr.heap.size → W.cell? ⟨b, o, none⟩ = wr.cell? ⟨b, o, none⟩) → Src W 1 (.slice aa j cc) j (strs (S.take j)) := by
  intro W hW
  rcases h with ⟨rfl, rfl, rfl⟩ | ⟨g, rfl, hg1, hg2, hg3⟩
  · obtain rfl : j = 0 := by omega
    exact .inl ⟨rfl, rfl, by simp [strs]⟩
  · refine .inr ⟨_, _, rfl, by simp [strs]; omega, fun i u hu => ?_⟩
    rw [Addr.add_lit, Nat.zero_add, hW _ _ hg2]
    have hi : i < j := by
      have := (List.getElem?_eq_some_iff.1 hu).1
      simp [strs] at this; omega
    simp only [strs, List.getElem?_map, List.getElem?_take_of_lt hi, Option.map_eq_some_iff] at hu
    obtain ⟨y, hy, rfl⟩ := hu
    exact hg3 i y hy
theorem src_drop {wr : World} {aa A3 : Option Addr} {j k cc B : Nat} {S : List ByteArray} (hS : S.length = k) (hj : j ≤ k) (hkc : k ≤ cc) (hA : (if cc = j then aa else Option.map (fun x => x.add j) aa) = A3) (h : (aa = none ∧ k = 0 ∧ cc = 0) ∨ ∃ g, aa = some ⟨g, 0, none⟩ ∧ B ≤ g ∧ g < wr.heap.size ∧ ∀ j y, S[j]? = some y → wr.cell? ⟨g, j, none⟩ = some (.string y)) :
    ∀ W : World, (∀ b o, b < wr.heap.size → W.cell? ⟨b, o, none⟩ = wr.cell? ⟨b, o, none⟩) → Src W 1 (.slice A3 (k - j) (cc - j)) (k - j) (strs (S.drop j)) := by
  intro W hW
  rcases h with ⟨rfl, rfl, rfl⟩ | ⟨g, rfl, hg1, hg2, hg3⟩
  · obtain rfl : j = 0 := by omega
    simp at hA
    subst hA
    exact .inl ⟨rfl, rfl, by have : S = [] := List.eq_nil_of_length_eq_zero hS; simp [strs, this]⟩
  · by_cases hc : cc = j
    · rw [if_pos hc] at hA
      subst hA
      refine .inr ⟨_, _, rfl, by simp [strs]; omega, fun i u hu => ?_⟩
      have := (List.getElem?_eq_some_iff.1 hu).1
      simp [strs] at this; omega
    · rw [if_neg hc] at hA
      subst hA
      refine .inr ⟨_, _, rfl, by simp [strs]; omega, fun i u hu => ?_⟩
      show W.cell? (((⟨g, 0, none⟩ : Addr).add j).add i) = some u
      rw [Addr.add_lit, Addr.add_lit, Nat.zero_add, hW _ _ hg2]
      simp only [strs, List.getElem?_map, List.getElem?_drop, Option.map_eq_some_iff] at hu
      obtain ⟨y, hy, rfl⟩ := hu
      exact hg3 _ y hy

def listsB (xs : List ByteArray) : List (List UInt8) := xs.map (·.data.toList)
def sortB (xs : List ByteArray) : List ByteArray := ((listsB xs).mergeSort leB).map fun l => ⟨l.toArray⟩
theorem listsB_strs (xs : List ByteArray) : (listsB xs).map encStr = strs xs := by
  simp [listsB, strs, encStr]
theorem sortB_strs (xs : List ByteArray) : ((listsB xs).mergeSort leB).map encStr = strs (sortB xs) := by
  simp [sortB, strs, encStr, Function.comp_def]
theorem sortB_length (xs : List ByteArray) : (sortB xs).length = xs.length := by simp [sortB, listsB]
theorem sortB_perm (xs : List ByteArray) : (sortB xs).Perm xs := by
  have h := (List.mergeSort_perm (listsB xs) leB).map fun l => (⟨l.toArray⟩ : ByteArray)
  have e : (listsB xs).map (fun l => (⟨l.toArray⟩ : ByteArray)) = xs := by
    simp [listsB, Function.comp_def]
  rwa [e] at h
theorem src_own {w : World} {b n : Nat} {v : Value} {cs : List Value} (h : w.ownsRow b 9 1 v n cs) : Src w 1 v n cs := by
  rcases srow_shape h with ⟨rfl, rfl⟩ | ⟨g, c', rfl, h1, h2, h3, h4, h5⟩
  · have : cs = [] := List.eq_nil_of_length_eq_zero (by simpa using h.1)
    exact .inl ⟨rfl, rfl, this⟩
  · exact .inr ⟨_, _, rfl, h.1, fun j u hu => by rw [Addr.add_lit, Nat.zero_add]; exact h5 j u hu⟩
/-- The order of strings. -/
def leS (x y : ByteArray) : Bool := leB x.data.toList y.data.toList
theorem leS_trans (a b c : ByteArray) (h1 : leS a b = true) (h2 : leS b c = true) : leS a c = true := by
  simp only [leS, leB, decide_eq_true_eq] at *; exact List.le_trans h1 h2
theorem leS_total (a b : ByteArray) : (leS a b || leS b a) = true := by
  simp only [leS, leB, Bool.or_eq_true, decide_eq_true_eq]; exact List.le_total _ _
theorem leS_anti (a b : ByteArray) (h1 : leS a b = true) (h2 : leS b a = true) : a = b := by
  simp only [leS, leB, decide_eq_true_eq] at *
  exact ByteArray.ext (Array.toList_inj.1 (List.le_antisymm h1 h2))
theorem leqB_eq (x y : ByteArray) : leqB x y = leS x y := by
  unfold leqB leS
  rw [ByteArray.toList_eq, ByteArray.toList_eq, bytesLess_eq]
  generalize x.data.toList = a
  generalize y.data.toList = b
  rw [Bool.eq_iff_iff]
  simp only [Bool.or_eq_true, decide_eq_true_eq, beq_iff_eq]
  constructor
  · rintro (h | rfl)
    · exact List.le_of_lt h
    · exact List.le_refl _
  · intro h
    rcases List.le_iff_lt_or_eq.1 h with h | h
    · exact .inl h
    · exact .inr h
theorem lessB_eq (x y : ByteArray) (h : leS y x = true) : lessB x y = false := by
  unfold lessB
  rw [ByteArray.toList_eq, ByteArray.toList_eq, bytesLess_eq]
  simp only [leS, leB, decide_eq_true_eq] at h
  rw [decide_eq_false_iff_not]
  exact List.not_lt.2 h
theorem insB_sorted {x : ByteArray} {l : List ByteArray} (h : l.Pairwise fun a b => leS a b = true) : (insB x l).Pairwise fun a b => leS a b = true := by
  induction l with
  | nil => simp [insB]
  | cons y r ih =>
    have e : insB x (y :: r) = if leqB y x then y :: insB x r else x :: y :: r := by
      unfold insB
      by_cases hy : leqB y x = true
      · simp [List.takeWhile_cons, List.dropWhile_cons, hy]
      · simp [List.takeWhile_cons, List.dropWhile_cons, hy]
    rw [e]
    obtain ⟨h1, h2⟩ := List.pairwise_cons.1 h
    split
    · rename_i hy
      rw [leqB_eq] at hy
      refine List.pairwise_cons.2 ⟨fun z hz => ?_, ih h2⟩
      have := (insB_perm x r).mem_iff.1 hz
      rcases List.mem_cons.1 this with rfl | hz
      · exact hy
      · exact h1 z hz
    · rename_i hy
      rw [leqB_eq] at hy
      have hxy : leS x y = true := by
        have := leS_total x y
        rw [Bool.or_eq_true] at this
        rcases this with h | h
        · exact h
        · exact absurd h hy
      refine List.pairwise_cons.2 ⟨fun z hz => ?_, h⟩
      rcases List.mem_cons.1 hz with rfl | hz
      · exact hxy
      · exact leS_trans _ _ _ hxy (h1 z hz)
theorem srtB_sorted (l : List ByteArray) : (srtB l).Pairwise fun a b => leS a b = true := by
  have : ∀ (l s : List ByteArray), (s.Pairwise fun a b => leS a b = true) → (l.foldl (fun s x => insB x s) s).Pairwise fun a b => leS a b = true := by
    intro l
    induction l with
    | nil => intro s h; exact h
    | cons x r ih => intro s h; exact ih _ (insB_sorted h)
  exact this l [] List.Pairwise.nil
theorem sortB_sorted (l : List ByteArray) : (sortB l).Pairwise fun a b => leS a b = true := by
  have tr : ∀ a b c : List UInt8, leB a b = true → leB b c = true → leB a c = true := fun a b c h1 h2 => by simp only [leB, decide_eq_true_eq] at *; exact List.le_trans h1 h2
  have tot2 : ∀ a b : List UInt8, (leB a b || leB b a) = true := fun a b => by simp only [leB, Bool.or_eq_true, decide_eq_true_eq]; exact List.le_total a b
  have h := List.pairwise_mergeSort tr tot2 (listsB l)
  unfold sortB
  rw [List.pairwise_map]
  exact h
theorem sort_same (l : List ByteArray) : sortB l = srtB l :=
  List.Perm.eq_of_pairwise (le := fun a b => leS a b = true) (fun a b _ _ h1 h2 => leS_anti a b h1 h2) (sortB_sorted l) (srtB_sorted l) ((sortB_perm l).trans (srtB_perm l).symm)

end Go.Proofs.Ytlaodmpdngdhjaa
