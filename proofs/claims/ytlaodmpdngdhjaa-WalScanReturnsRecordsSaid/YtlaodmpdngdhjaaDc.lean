/- The program's map of files, in the plain files' words. -/
import Derived.Test.YtlaodmpdngdhjaaProg
import Derived.Test.YtlaodmpdngdhjaaDb
import Derived.WalkKit
import Derived.Maps.OwnSet
import Derived.Maps.OwnOps
import Derived.Maps.StringElems
import Derived.Sort.KeysCollected
import Derived.Lib.Hide
namespace Go.Proofs.Ytlaodmpdngdhjaa
set_option linter.unusedVariables false
set_option linter.unusedSimpArgs false
open Go.RowKit Go.Maps Go.WideMaps

abbrev lk (x : ByteArray) : Lit := .string x.data.toList
abbrev dv (b : ByteArray) : DataW Unit := .lit (.string b.data.toList)
noncomputable abbrev rdr : Value → Option (DataW Unit × List MemPlace) := plainElem Try.prog 9
theorem law9 : Keyed Try.prog 9 := string_keyed Try.underlying9
theorem zero9 (w : World) : (zeroValue 9).run Try.prog w = .ok (.string ⟨#[]⟩) w := by kernel_rfl
theorem keylit {x : ByteArray} : WideAt.IsKeyLit (lk x) := by simp [WideAt.IsKeyLit]
theorem lk_inj {x y : ByteArray} (h : lk x = lk y) : x = y := by
  have : x.data.toList = y.data.toList := by simpa [lk] using h
  exact ByteArray.ext (Array.toList_inj.1 this)
theorem key9 {x : ByteArray} (h : x.size ≤ maxLen) : keyOf Try.prog 9 (.string x) = some (lk x) := keyOf_string_mk Try.underlying9 h
/-- The datum holds just these files. -/
def Agr (D : DataW Unit) (F : List File) : Prop := ∀ x : ByteArray, match look F x with
  | none => Maps.has D (lk x) = false
  | some b => Maps.has D (lk x) = true ∧ ∀ z, D.atKey (lk x) z = dv b
/-- The value is a map of just these files. -/
def MapOf (w : World) (v : Value) (F : List File) : Prop :=
  (v = .map none ∧ F = []) ∨ ∃ b n D, v = .map (some b) ∧ w.ownsMap Try.prog 9 rdr b n D ∧ Agr D F
def lists (F : List File) : List (List UInt8) := F.map fun p => p.1.data.toList
theorem agr_none {D : DataW Unit} {F : List File} (h : Agr D F) {x : ByteArray} (hx : look F x = none) : Maps.has D (lk x) = false := by
  have := h x
  rw [hx] at this
  exact this
theorem agr_some {D : DataW Unit} {F : List File} (h : Agr D F) {x b : ByteArray} (hx : look F x = some b) : Maps.has D (lk x) = true ∧ ∀ z, D.atKey (lk x) z = dv b := by
  have := h x
  rw [hx] at this
  exact this
theorem agr_congr {D : DataW Unit} {F G : List File} (h : Agr D F) (hg : ∀ x, look G x = look F x) : Agr D G := by
  intro x
  rw [hg x]
  exact h x
theorem look_nil_all {G : List File} (h : ∀ x, look G x = none) : G = [] := by
  cases G with
  | nil => rfl
  | cons p r =>
    have := h p.1
    rw [look_cons, if_pos rfl] at this
    cases this
theorem MapOf.congr {w : World} {v : Value} {F G : List File} (h : MapOf w v F) (hg : ∀ x, look G x = look F x) : MapOf w v G := by
  rcases h with ⟨rfl, rfl⟩ | ⟨b, n, D, rfl, h1, h2⟩
  · exact .inl ⟨rfl, look_nil_all fun x => by rw [hg]; rfl⟩
  · exact .inr ⟨b, n, D, rfl, h1, agr_congr h2 hg⟩
theorem agr_put {D : DataW Unit} {F G : List File} (h : Agr D F) (hD : Maps.IsMap D) {x y : ByteArray} (hg : ∀ z, look G z = if z = x then some y else look F z) : Agr (D.put (lk x) (dv y)) G := by
  intro z
  rw [hg z]
  by_cases hz : z = x
  · subst hz
    rw [if_pos rfl]
    exact ⟨has_put_same hD keylit _, fun zd => atKey_put_same hD keylit _ _⟩
  · rw [if_neg hz]
    have hne : lk z ≠ lk x := fun e => hz (lk_inj e)
    have := h z
    cases hl : look F z with
    | none =>
      rw [hl] at this
      show Maps.has _ _ = false
      rw [has_put_other hne]; exact this
    | some b =>
      rw [hl] at this
      exact ⟨by rw [has_put_other hne]; exact this.1, fun zd => by rw [atKey_put_other hne]; exact this.2 zd⟩
theorem agr_del {D : DataW Unit} {F G : List File} (h : Agr D F) {x : ByteArray} (hg : ∀ z, look G z = if z = x then none else look F z) : Agr (D.del (lk x)) G := by
  intro z
  rw [hg z]
  by_cases hz : z = x
  · subst hz
    rw [if_pos rfl]
    exact has_del_same
  · rw [if_neg hz]
    have hne : lk z ≠ lk x := fun e => hz (lk_inj e)
    have := h z
    cases hl : look F z with
    | none =>
      rw [hl] at this
      show Maps.has _ _ = false
      rw [has_del_other hne]; exact this
    | some b =>
      rw [hl] at this
      exact ⟨by rw [has_del_other hne]; exact this.1, fun zd => by rw [atKey_del_other hne]; exact this.2 zd⟩
/-- As many entries as files. -/
theorem size_agr {w : World} {b n : Nat} {D : DataW Unit} {F : List File} (h : w.ownsMap Try.prog 9 rdr b n D) (ha : Agr D F) (hn : KeysND F) : Maps.size D = F.length := by
  obtain ⟨es, rfl, hes⟩ := h.tidy law9
  obtain ⟨es', he, hk⟩ := h.keysOf
  cases he
  have hs : ∀ p ∈ es, ∃ x, p.1 = .string x := by
    intro p hp
    obtain ⟨v, hv⟩ := hk p hp
    obtain ⟨x, _, h2, _⟩ := Maps.keyOf_str Try.underlying9 hv
    exact ⟨x, h2⟩
  have hnd : (lists F).Nodup := by
    unfold lists List.Nodup
    unfold KeysND List.Nodup at hn
    rw [List.pairwise_map] at hn ⊢
    exact hn.imp fun {a b} hab e => hab (ByteArray.ext (Array.toList_inj.1 e))
  have hp := perm_strKeys (H := Unit) hes hs (ss := lists F) hnd (by
    intro x
    have hx : x = (⟨x.toArray⟩ : ByteArray).data.toList := by simp
    have h1 := ha ⟨x.toArray⟩
    cases hl : look F ⟨x.toArray⟩ with
    | none =>
      rw [hl] at h1
      simp only [lk, List.toList_toArray] at h1
      rw [h1]
      simp only [Bool.false_eq_true, iff_false]
      intro hm
      unfold lists at hm
      obtain ⟨p, hp, e⟩ := List.mem_map.1 hm
      have : (look F p.1).isSome = true := look_mem.2 (List.mem_map.2 ⟨p, hp, rfl⟩)
      have e2 : p.1 = ⟨x.toArray⟩ := ByteArray.ext (by rw [← e])
      rw [e2, hl] at this
      cases this
    | some c =>
      rw [hl] at h1
      simp only [lk, List.toList_toArray] at h1
      rw [h1.1]
      simp only [iff_true]
      have : (look F ⟨x.toArray⟩).isSome = true := by rw [hl]; rfl
      obtain ⟨p, hp, e⟩ := List.mem_map.1 (look_mem.1 this)
      unfold lists
      exact List.mem_map.2 ⟨p, hp, by rw [e]⟩)
  have := hp.length_eq
  rw [Maps.size_eq]
  simpa [lists, strKeys] using this.symm
end Go.Proofs.Ytlaodmpdngdhjaa
