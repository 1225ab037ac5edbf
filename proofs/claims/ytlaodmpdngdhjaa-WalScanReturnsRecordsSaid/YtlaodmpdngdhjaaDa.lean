/- The plain disk: files as a list, changes, the reference's words. -/
import Derived.Below
namespace Go.Proofs.Ytlaodmpdngdhjaa
set_option linter.unusedVariables false
set_option linter.unusedSimpArgs false

abbrev File := ByteArray × ByteArray
/-- The place of a file (the list's length if there is none). -/
def idx (F : List File) (x : ByteArray) : Nat := F.findIdx fun p => decide (p.1 = x)
def look (F : List File) (x : ByteArray) : Option ByteArray := (F.find? fun p => decide (p.1 = x)).map (·.2)
inductive Chg where
  | app (n b : ByteArray)
  | ren (a b : ByteArray)
  | del (n : ByteArray)
def drop1 (F : List File) (x : ByteArray) : List File := if idx F x < F.length then F.eraseIdx (idx F x) else F
def appl (F : List File) : Chg → List File
  | .app n b => if idx F n < F.length then F.modify (idx F n) fun p => (p.1, p.2 ++ b) else F ++ [(n, b)]
  | .ren a b => if idx F a < F.length ∧ a ≠ b then drop1 (F.eraseIdx (idx F a)) b ++ [(b, (F.getD (idx F a) (⟨#[]⟩, ⟨#[]⟩)).2)] else F
  | .del n => drop1 F n
def KeysND (F : List File) : Prop := (F.map (·.1)).Nodup

theorem idx_cons (p : File) (F : List File) (x : ByteArray) : idx (p :: F) x = if p.1 = x then 0 else idx F x + 1 := by
  unfold idx
  rw [List.findIdx_cons]
  by_cases h : p.1 = x <;> simp [h]
theorem look_cons (p : File) (F : List File) (x : ByteArray) : look (p :: F) x = if p.1 = x then some p.2 else look F x := by
  unfold look
  rw [List.find?_cons]
  by_cases h : p.1 = x <;> simp [h]
theorem idx_le (F : List File) (x : ByteArray) : idx F x ≤ F.length := List.findIdx_le_length
theorem look_none {F : List File} {x : ByteArray} : look F x = none ↔ idx F x = F.length := by
  induction F with
  | nil => simp [look, idx]
  | cons p r ih =>
    rw [look_cons, idx_cons]
    by_cases h : p.1 = x
    · simp [h]
    · simp [h, ih]
theorem look_some {F : List File} {x : ByteArray} (h : idx F x < F.length) : F[idx F x].1 = x ∧ look F x = some F[idx F x].2 := by
  induction F with
  | nil => simp [idx] at h
  | cons p r ih =>
    by_cases hp : p.1 = x
    · have e : idx (p :: r) x = 0 := by rw [idx_cons, if_pos hp]
      simp only [e, List.getElem_cons_zero]
      exact ⟨hp, by rw [look_cons, if_pos hp]⟩
    · have e : idx (p :: r) x = idx r x + 1 := by rw [idx_cons, if_neg hp]
      have h2 : idx r x < r.length := by rw [e] at h; simpa using h
      have := ih h2
      simp only [e, List.getElem_cons_succ]
      exact ⟨this.1, by rw [look_cons, if_neg hp]; exact this.2⟩
theorem look_mem {F : List File} {x : ByteArray} : (look F x).isSome = true ↔ x ∈ F.map (·.1) := by
  induction F with
  | nil => simp [look]
  | cons p r ih =>
    rw [look_cons]
    by_cases h : p.1 = x
    · simp [h]
    · rw [if_neg h, ih]
      simp only [List.map_cons, List.mem_cons]
      constructor
      · exact .inr
      · rintro (e | e)
        · exact absurd e.symm h
        · exact e
theorem look_append (F G : List File) (x : ByteArray) : look (F ++ G) x = (look F x).or (look G x) := by
  unfold look
  rw [List.find?_append]
  cases F.find? fun p => decide (p.1 = x) <;> simp
theorem look_erase {F : List File} (h : KeysND F) (n x : ByteArray) (hn : idx F n < F.length) : look (F.eraseIdx (idx F n)) x = if x = n then none else look F x := by
  induction F with
  | nil => simp [idx] at hn
  | cons p r ih =>
    unfold KeysND at h
    rw [List.map_cons, List.nodup_cons] at h
    by_cases hp : p.1 = n
    · have e : idx (p :: r) n = 0 := by rw [idx_cons, if_pos hp]
      rw [e, List.eraseIdx_cons_zero, look_cons]
      by_cases hx : x = n
      · subst hx
        rw [if_pos rfl]
        have : ¬ (look r x).isSome = true := by rw [look_mem, ← hp]; exact h.1
        cases hl : look r x with
        | none => rfl
        | some v => rw [hl] at this; simp at this
      · rw [if_neg hx, if_neg (by rw [hp]; exact fun e => hx e.symm)]
    · have e : idx (p :: r) n = idx r n + 1 := by rw [idx_cons, if_neg hp]
      have h2 : idx r n < r.length := by rw [e] at hn; simpa using hn
      rw [e, List.eraseIdx_cons_succ, look_cons, look_cons, ih h.2 h2]
      by_cases hx : p.1 = x
      · rw [if_pos hx, if_pos hx, if_neg (fun e => hp (hx.trans e))]
      · rw [if_neg hx, if_neg hx]
theorem nd_erase {F : List File} (h : KeysND F) (i : Nat) : KeysND (F.eraseIdx i) := by
  unfold KeysND at *
  exact (List.Sublist.map _ (List.eraseIdx_sublist F i)).nodup h
theorem look_drop1 {F : List File} (h : KeysND F) (n x : ByteArray) : look (drop1 F n) x = if x = n then none else look F x := by
  unfold drop1
  split
  · rename_i hn
    exact look_erase h n x hn
  · rename_i hn
    have := idx_le F n
    have hl : look F n = none := look_none.2 (by omega)
    by_cases hx : x = n
    · rw [if_pos hx, hx, hl]
    · rw [if_neg hx]
theorem nd_drop1 {F : List File} (h : KeysND F) (n : ByteArray) : KeysND (drop1 F n) := by
  unfold drop1
  split
  · exact nd_erase h _
  · exact h
theorem nd_snoc {F : List File} (h : KeysND F) {n b : ByteArray} (hn : look F n = none) : KeysND (F ++ [(n, b)]) := by
  unfold KeysND at *
  rw [List.map_append, List.nodup_append]
  refine ⟨h, by simp, ?_⟩
  intro a ha c hc
  simp only [List.map_cons, List.map_nil, List.mem_singleton] at hc
  subst hc
  rintro rfl
  have := look_mem.2 ha
  rw [hn] at this
  cases this
theorem look_modify (F : List File) (n b x : ByteArray) (hn : idx F n < F.length) : look (F.modify (idx F n) fun p => (p.1, p.2 ++ b)) x = if x = n then (look F n).map (· ++ b) else look F x := by
  induction F with
  | nil => simp [idx] at hn
  | cons p r ih =>
    by_cases hp : p.1 = n
    · have e : idx (p :: r) n = 0 := by rw [idx_cons, if_pos hp]
      rw [e, List.modify_zero_cons, look_cons, look_cons, look_cons]
      by_cases hx : x = n
      · subst hx
        simp [hp]
      · rw [if_neg hx, if_neg (by show ¬ p.1 = x; rw [hp]; exact fun e => hx e.symm), if_neg (by rw [hp]; exact fun e => hx e.symm)]
    · have e : idx (p :: r) n = idx r n + 1 := by rw [idx_cons, if_neg hp]
      have h2 : idx r n < r.length := by rw [e] at hn; simpa using hn
      rw [e, List.modify_succ_cons, look_cons, look_cons, look_cons, ih h2]
      by_cases hx : p.1 = x
      · rw [if_pos hx, if_pos hx, if_neg (fun e => hp (hx.trans e))]
      · rw [if_neg hx, if_neg hx, if_neg hp]
theorem nd_modify {F : List File} (h : KeysND F) (i : Nat) (b : ByteArray) : KeysND (F.modify i fun p => (p.1, p.2 ++ b)) := by
  have e : (F.modify i fun p => (p.1, p.2 ++ b)).map (·.1) = F.map (·.1) := by
    apply List.ext_getElem?
    intro j
    simp only [List.getElem?_map, List.getElem?_modify]
    by_cases hj : i = j
    · simp [hj, Option.map_map, Function.comp_def]
    · simp [hj]
  unfold KeysND at *
  rw [e]
  exact h
theorem nd_appl {F : List File} (h : KeysND F) (c : Chg) : KeysND (appl F c) := by
  cases c with
  | app n b =>
    simp only [appl]
    split
    · exact nd_modify h _ _
    · rename_i hn
      have := idx_le F n
      exact nd_snoc h (look_none.2 (by omega))
  | ren a b =>
    simp only [appl]
    split
    · refine nd_snoc (nd_drop1 (nd_erase h _) b) ?_
      rw [look_drop1 (nd_erase h _), if_pos rfl]
    · exact h
  | del n => exact nd_drop1 h n
theorem look_app {F : List File} (n b x : ByteArray) : look (appl F (.app n b)) x = if x = n then some (((look F n).getD ⟨#[]⟩) ++ b) else look F x := by
  simp only [appl]
  split
  · rename_i hn
    rw [look_modify F n b x hn, (look_some hn).2]
    simp
  · rename_i hn
    have := idx_le F n
    have hl : look F n = none := look_none.2 (by omega)
    rw [look_append, look_cons, hl]
    by_cases hx : x = n
    · subst hx
      rw [hl, if_pos rfl, if_pos rfl]
      have : (⟨#[]⟩ : ByteArray) ++ b = b := ByteArray.ext (by simp [ByteArray.data_append])
      simp [this]
    · rw [if_neg (fun e => hx e.symm), if_neg hx]
      cases look F x <;> simp [look]
theorem look_ren {F : List File} (h : KeysND F) (a b x : ByteArray) (ha : idx F a < F.length) : look (appl F (.ren a b)) x = if x = b then look F a else if x = a then none else look F x := by
  by_cases hab : a = b
  · subst hab
    simp only [appl, ne_eq, not_true_eq_false, and_false, if_false]
    by_cases hx : x = a
    · simp [hx]
    · simp [hx]
  · simp only [appl, ha, hab, ne_eq, not_false_eq_true, and_self, if_true]
    rw [look_append, look_drop1 (nd_erase h _), look_erase h a x ha, look_cons]
    have hg : F.getD (idx F a) (⟨#[]⟩, ⟨#[]⟩) = F[idx F a] := by simp [List.getD, ha]
    by_cases hx : x = b
    · subst hx
      rw [if_pos rfl, if_pos rfl, if_pos rfl, (look_some ha).2, hg]
      rfl
    · have hl : look ([] : List File) x = none := rfl
      have hbx : ¬ b = x := fun e => hx e.symm
      by_cases hxa : x = a
      · subst hxa
        simp only [if_neg hx, if_neg hbx, hl, if_true, Option.or_none]
      · simp only [if_neg hx, if_neg hbx, if_neg hxa, hl, Option.or_none]
theorem look_del {F : List File} (h : KeysND F) (n x : ByteArray) : look (appl F (.del n)) x = if x = n then none else look F x := look_drop1 h n x
end Go.Proofs.Ytlaodmpdngdhjaa
