import Derived.Test.YtpcdbgfhlghocaaUc
import Derived.Sort.OwnSorted
import Derived.Sort.KeysCollected
import Derived.Shelf.Slices.In.SortNone2
namespace Go.Proofs.Ytpcdbgfhlghocaa
set_option linter.unusedVariables false
set_option linter.unusedSimpArgs false
open Go.RowKit Go.Sort

def lists (xs : List ByteArray) : List (List UInt8) := xs.map (·.data.toList)
def sortB (xs : List ByteArray) : List ByteArray := ((lists xs).mergeSort leB).map fun l => ⟨l.toArray⟩
theorem lists_strs (xs : List ByteArray) : (lists xs).map encStr = strs xs := by
  simp [lists, strs, encStr]
theorem sortB_strs (xs : List ByteArray) : ((lists xs).mergeSort leB).map encStr = strs (sortB xs) := by
  simp [sortB, strs, encStr, Function.comp_def]
theorem sortB_length (xs : List ByteArray) : (sortB xs).length = xs.length := by simp [sortB, lists]
theorem sortB_perm (xs : List ByteArray) : (sortB xs).Perm xs := by
  have h := (List.mergeSort_perm (lists xs) leB).map fun l => (⟨l.toArray⟩ : ByteArray)
  have e : (lists xs).map (fun l => (⟨l.toArray⟩ : ByteArray)) = xs := by
    simp [lists, Function.comp_def]
  rwa [e] at h
theorem src_own {w : World} {b n : Nat} {v : Value} {cs : List Value} (h : w.ownsRow b 9 1 v n cs) : Src w 1 v n cs := by
  rcases srow_shape h with ⟨rfl, rfl⟩ | ⟨g, c', rfl, h1, h2, h3, h4, h5⟩
  · have : cs = [] := List.eq_nil_of_length_eq_zero (by simpa using h.1)
    exact .inl ⟨rfl, rfl, this⟩
  · exact .inr ⟨_, _, rfl, h.1, fun j u hu => by rw [Addr.add_lit, Nat.zero_add]; exact h5 j u hu⟩
theorem row_of_own {w : World} {b n : Nat} {v : Value} {xs : List ByteArray} (h : w.ownsRow b 9 1 v n (strs xs)) : ∃ a c, v = .slice a n c ∧ n ≤ c ∧ StrRow w a xs := by
  have hl : xs.length = n := by have := h.1; rw [strs_length] at this; omega
  rcases srow_shape h with ⟨rfl, rfl⟩ | ⟨g, c', rfl, h1, h2, h3, h4, h5⟩
  · exact ⟨none, 0, rfl, Nat.le_refl _, .inl (List.eq_nil_of_length_eq_zero hl)⟩
  · exact ⟨_, _, rfl, h3, .inr ⟨g, 0, rfl, h2, fun j x hx => by rw [Nat.zero_add]; exact h5 j _ (by simp [strs, hx])⟩⟩

/-- sort.Strings of a slice of the call's own. -/
theorem sort_own (b n : Nat) (v : Value) (xs : List ByteArray) (w : World) (h : w.ownsRow b 9 1 v n (strs xs)) (hn : n ≤ 1000) :
    Calls Try.prog 36 #[v] w fun e w' => e = .returned (.tuple #[]) ∧ w'.ownsRow b 9 1 v n (strs (sortB xs)) ∧ w.grownBy w' v.ownBlock := by
  have hl : xs.length = n := by have := h.1; rw [strs_length] at this; omega
  rcases h.2 with ⟨rfl, rfl⟩ | ⟨g, cap, cur, rfl, hg, hb, h1, h2, h3, h4⟩
  · have hx : xs = [] := List.eq_nil_of_length_eq_zero hl
    subst hx
    refine (Any.sort_Strings_none Try.lays192 none 0 w).mono ?_
    rintro e w' ⟨he, hw⟩
    subst hw
    exact ⟨he, by simpa [sortB, lists] using h, ⟨rfl, rfl, rfl, Nat.le_refl _, fun _ _ _ => rfl⟩⟩
  · have hlen : (lists xs).length = n := by simp [lists, hl]
    have hH : Holds encStr w g 0 (lists xs).toArray := holds_of_block hb (by rw [hlen, lists_strs]; simpa using h4)
    have hc := Try.sort_Strings g 0 cap (lists xs) w hH (Array.getElem?_eq_some_iff.1 hb).1 (by rw [hlen]; omega)
    rw [hlen] at hc
    refine hc.mono ?_
    rintro e w' ⟨he, k, os, hw⟩
    subst hw
    refine ⟨he, ?_, grownBy_sorted _⟩
    have := ownsRow_sorted (w := w) (n := k) (os := os) (ss := lists xs) (ts := (lists xs).mergeSort leB) (by simp) hg hb (by rw [hlen]; exact h1) h2 h3
    rw [hlen, sortB_strs] at this
    exact this

set_option maxRecDepth 100000 in
set_option maxHeartbeats 2000000 in
/-- 'tlv.Order'. -/
theorem order_any (b n : Nat) (v : Value) (xs : List ByteArray) (w : World) (h : w.ownsRow b 9 1 v n (strs xs)) (hn : n ≤ 1000) (ht : tot xs ≤ 10000000) :
    Calls Try.prog 22 #[v] w fun e w' => e = .returned (.string ⟨(cat (sortB xs)).toArray⟩) ∧ Below w.heap.size w w' := by
  obtain ⟨i0, hi, hi0, hi1, hi2⟩ := info_parts info9
  have hl : xs.length = n := by have := h.1; rw [strs_length] at this; omega
  have HL := Lib.hid hl
  have HT := Lib.hid (show tot (sortB xs) ≤ 140737488355328 by rw [perm_tot (sortB_perm xs)]; omega)
  have HS := Lib.hid (src_own h)
  clear h hl ht
  go_enter Try.func22, Try.ntmps22
  go_wp2_with (at_builtin; go_loud (refine wpList_app rfl (.const (.slice none 0 0)) (.tmp 4) 22 rfl w.heap.size 9 i0 (.string ⟨#[]⟩) 1 16 Try.underlying22 hi hi0 hi1 hi2 rfl (by omega) (.slice none 0 0) 0 [] rfl (World.ownsRow_nil _ _ _ _) v n (strs xs) rfl HS.out (strs_one _) (by unfold maxLen; omega) (by omega) (Nat.le_refl _) ?_; intro v1 w1 o1 g1 q1))
  have B1 : Hid (Below w.heap.size w w1) := Lib.hid ((Below.refl _ _).grown g1.out (Nat.le_refl _) (by intro k hk; cases hk))
  have o2 : w1.ownsRow w.heap.size 9 1 v1 n (strs xs) := by have := o1.out; rw [Nat.zero_add] at this; exact this
  refine (sort_own w.heap.size n v1 xs w1 o2 hn).mono ?_
  rintro e w2 ⟨rfl, o3, g3⟩
  have B2 : Hid (Below w.heap.size w w2) := Lib.hid (B1.out.grown g3 B1.out.size fun k hk => (o2.lt k hk).1)
  obtain ⟨a, c, rfl, hc, hr⟩ := row_of_own o3
  have hls := sortB_length xs
  have J := join_any a c n (sortB xs) w2 hr (by rw [hls]; exact HL.out.symm) (by rw [hls, HL.out]; exact hc) (by rw [hls, HL.out]; omega) HT.out
  have JJ := Lib.hid J
  clear o2 o3 g3 J hr
  go_wp2_with (go_at_call 27; refine JJ.out.mono ?_; rintro e w3 ⟨rfl, hb3⟩)
  go_ret
  exact ⟨rfl, B2.out.trans (hb3.mono B2.out.size)⟩
end Go.Proofs.Ytpcdbgfhlghocaa
