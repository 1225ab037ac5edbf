/- The plain disk: its state and its methods. -/
import Derived.Test.YtlaodmpdngdhjaaDa
namespace Go.Proofs.Ytlaodmpdngdhjaa
set_option linter.unusedVariables false
set_option linter.unusedSimpArgs false

def okByte (c : UInt8) : Bool := (97 ≤ c.toNat && c.toNat ≤ 122) || (48 ≤ c.toNat && c.toNat ≤ 57) || c.toNat == 45 || c.toNat == 46
def valid (x : ByteArray) : Bool := decide (1 ≤ x.size ∧ x.size ≤ 32) && x.data.toList.all okByte
def szs (F : List File) : Nat := (F.map fun p => p.2.size).sum
def csz : Chg → Nat
  | .app _ b => b.size
  | _ => 0

structure St where
  cap : Nat
  files : List File
  ops : List Chg
  left : Int
  off : Bool
def St.all (s : St) : List File := s.ops.foldl appl s.files
def St.spend (s : St) : St := if 0 < s.left then { s with left := s.left - 1, off := decide (s.left - 1 = 0) } else s
def St.has (s : St) (n : ByteArray) : Prop := idx s.all n < s.all.length
instance (s : St) (n : ByteArray) : Decidable (s.has n) := inferInstanceAs (Decidable (_ < _))
def St.push (s : St) (c : Chg) : St := { s with ops := s.ops ++ [c] }.spend
def St.full (s : St) (n b : ByteArray) : Prop := (¬ s.has n ∧ 16 ≤ s.all.length) ∨ s.cap < szs s.all + b.size
instance (s : St) (n b : ByteArray) : Decidable (s.full n b) := inferInstanceAs (Decidable (_ ∨ _))
def St.append (s : St) (n b : ByteArray) : St × Int :=
  if s.off then (s, 25) else if valid n = false then (s, 14) else if s.full n b then (s, 26) else (s.push (.app n b), 0)
def St.rename (s : St) (a b : ByteArray) : St × Int :=
  if s.off then (s, 25) else if valid a = false ∨ valid b = false then (s, 14) else if ¬ s.has a then (s, 23) else (s.push (.ren a b), 0)
def St.remove (s : St) (n : ByteArray) : St × Int :=
  if s.off then (s, 25) else if valid n = false then (s, 14) else if ¬ s.has n then (s, 23) else (s.push (.del n), 0)
def St.sync (s : St) : St × Int :=
  if s.off then (s, 25) else ({ s with files := s.all, ops := [] }.spend, 0)
def St.read (s : St) (n : ByteArray) : ByteArray × Int :=
  if s.off then (⟨#[]⟩, 25) else if valid n = false then (⟨#[]⟩, 14) else if ¬ s.has n then (⟨#[]⟩, 23) else ((look s.all n).getD ⟨#[]⟩, 0)
def St.fuse (s : St) (n : Int) : St := if s.off then s else { s with left := max n (-1), off := decide (n = 0) }
/-- How many changes a crash keeps. -/
def St.keep (s : St) (k : Int) : Nat := min k.toNat s.ops.length
def torn (c : Chg) (bytes : Int) : List Chg :=
  match c with
  | .app n b => if 0 < bytes then [.app n (b.extract 0 (min bytes.toNat b.size))] else []
  | _ => []
def St.crash (s : St) (k bytes : Int) : St :=
  { s with
    files := ((s.ops.take (s.keep k)) ++ (match s.ops[s.keep k]? with | some c => torn c bytes | none => [])).foldl appl s.files
    ops := [], left := -1, off := false }

/-- Every pending Rename finds its file. -/
def okc (F : List File) : Chg → Prop
  | .ren a _ => idx F a < F.length
  | _ => True
def RenOK : List File → List Chg → Prop
  | _, [] => True
  | F, c :: r => okc F c ∧ RenOK (appl F c) r
theorem renOK_append (F : List File) (l m : List Chg) : RenOK F (l ++ m) ↔ RenOK F l ∧ RenOK (l.foldl appl F) m := by
  induction l generalizing F with
  | nil => simp [RenOK]
  | cons c r ih => simp only [List.cons_append, RenOK, List.foldl_cons, ih, and_assoc]
theorem nd_fold {F : List File} (h : KeysND F) (l : List Chg) : KeysND (l.foldl appl F) := by
  induction l generalizing F with
  | nil => exact h
  | cons c r ih => exact ih (nd_appl h c)

/-- The sizes. -/
theorem szs_append (F G : List File) : szs (F ++ G) = szs F + szs G := by simp [szs]
theorem szs_erase (F : List File) (i : Nat) : szs (F.eraseIdx i) ≤ szs F := by
  induction F generalizing i with
  | nil => simp [szs]
  | cons p r ih =>
    cases i with
    | zero => simp [szs]
    | succ i =>
      have := ih i
      simp only [szs, List.eraseIdx_cons_succ, List.map_cons, List.sum_cons] at *
      omega
theorem szs_drop1 (F : List File) (x : ByteArray) : szs (drop1 F x) ≤ szs F := by
  unfold drop1
  split
  · exact szs_erase _ _
  · exact Nat.le_refl _
theorem szs_erase_get (F : List File) (i : Nat) (h : i < F.length) : szs (F.eraseIdx i) + F[i].2.size = szs F := by
  induction F generalizing i with
  | nil => simp at h
  | cons p r ih =>
    cases i with
    | zero => simp [szs]; omega
    | succ i =>
      have := ih i (by simpa using h)
      simp only [szs, List.eraseIdx_cons_succ, List.map_cons, List.sum_cons, List.getElem_cons_succ] at *
      omega
theorem szs_modify (F : List File) (i : Nat) (b : ByteArray) (h : i < F.length) : szs (F.modify i fun p => (p.1, p.2 ++ b)) = szs F + b.size := by
  induction F generalizing i with
  | nil => simp at h
  | cons p r ih =>
    cases i with
    | zero => simp [szs, ByteArray.size_append]; omega
    | succ i =>
      have := ih i (by simpa using h)
      simp only [szs, List.modify_succ_cons, List.map_cons, List.sum_cons] at *
      omega
theorem szs_appl (F : List File) (c : Chg) : szs (appl F c) ≤ szs F + csz c := by
  cases c with
  | app n b =>
    simp only [appl, csz]
    split
    · rename_i h
      rw [szs_modify _ _ _ h]; exact Nat.le_refl _
    · rw [szs_append]; simp [szs]
  | ren a b =>
    simp only [appl, csz]
    split
    · rename_i h
      have h1 := szs_erase_get F (idx F a) h.1
      have h2 := szs_drop1 (F.eraseIdx (idx F a)) b
      have hg : F.getD (idx F a) (⟨#[]⟩, ⟨#[]⟩) = F[idx F a]'h.1 := by simp [List.getD, h.1]
      rw [szs_append, hg]
      have h3 : szs [(b, (F[idx F a]'h.1).2)] = (F[idx F a]'h.1).2.size := by simp [szs]
      omega
    · omega
  | del n =>
    simp only [appl, csz]
    exact szs_drop1 _ _
theorem len_appl (F : List File) (c : Chg) : (appl F c).length ≤ F.length + 1 := by
  have hd : ∀ (G : List File) x, (drop1 G x).length ≤ G.length := by
    intro G x
    unfold drop1
    split
    · rw [List.length_eraseIdx]; split <;> omega
    · exact Nat.le_refl _
  cases c with
  | app n b =>
    simp only [appl]
    split
    · simp
    · simp
  | ren a b =>
    simp only [appl]
    split
    · rename_i h
      have h1 := hd (F.eraseIdx (idx F a)) b
      have h2 : (F.eraseIdx (idx F a)).length ≤ F.length := by rw [List.length_eraseIdx]; split <;> omega
      rw [List.length_append]
      simp only [List.length_cons, List.length_nil]
      omega
    · omega
  | del n => exact Nat.le_succ_of_le (hd F n)
def ssz (l : List Chg) : Nat := (l.map csz).sum
theorem szs_fold (F : List File) (l : List Chg) : szs (l.foldl appl F) ≤ szs F + ssz l := by
  induction l generalizing F with
  | nil => simp [ssz]
  | cons c r ih =>
    have h1 := ih (appl F c)
    have h2 := szs_appl F c
    simp only [List.foldl_cons, ssz, List.map_cons, List.sum_cons] at *
    omega
theorem len_fold (F : List File) (l : List Chg) : (l.foldl appl F).length ≤ F.length + l.length := by
  induction l generalizing F with
  | nil => simp
  | cons c r ih =>
    have h1 := ih (appl F c)
    have h2 := len_appl F c
    simp only [List.foldl_cons, List.length_cons] at *
    omega

/-- What holds of every state that a program's disk comes to, W bounding what it weighs. -/
structure Good (s : St) (W : Nat) : Prop where
  nd : KeysND s.files
  ren : RenOK s.files s.ops
  off : s.off = decide (s.left = 0)
  lo : -1 ≤ s.left
  hi : s.left < 9223372036854775808
  cap : s.cap < 9223372036854775808
  wt : szs s.files + s.files.length + ssz s.ops + s.ops.length ≤ W
theorem Good.ndAll {s : St} {W : Nat} (h : Good s W) : KeysND s.all := nd_fold h.nd _
theorem Good.szAll {s : St} {W : Nat} (h : Good s W) : szs s.all + s.all.length ≤ W := by
  have h1 := szs_fold s.files s.ops
  have h2 := len_fold s.files s.ops
  have h3 := h.wt
  unfold St.all
  omega
theorem Good.mono {s : St} {W W' : Nat} (h : Good s W) (hw : W ≤ W') : Good s W' := { h with wt := Nat.le_trans h.wt hw }
theorem spend_same (s : St) : s.spend.cap = s.cap ∧ s.spend.files = s.files ∧ s.spend.ops = s.ops := by
  unfold St.spend
  split <;> exact ⟨rfl, rfl, rfl⟩
theorem Good.spend {s : St} {W : Nat} (h : Good s W) : Good s.spend W := by
  obtain ⟨h1, h2, h3⟩ := spend_same s
  have e := h.off
  have l1 := h.lo
  have l2 := h.hi
  refine ⟨by rw [h2]; exact h.nd, by rw [h2, h3]; exact h.ren, ?_, ?_, ?_, by rw [h1]; exact h.cap, by rw [h2, h3]; exact h.wt⟩
  · unfold St.spend
    split
    · rfl
    · exact e
  · unfold St.spend
    split
    · show -1 ≤ s.left - 1; omega
    · exact l1
  · unfold St.spend
    split
    · show s.left - 1 < _; omega
    · exact l2
theorem Good.push {s : St} {W : Nat} (h : Good s W) {c : Chg} (hc : okc s.all c) : Good (s.push c) (W + csz c + 1) := by
  unfold St.push
  refine Good.spend ⟨h.nd, ?_, h.off, h.lo, h.hi, h.cap, ?_⟩
  · show RenOK s.files (s.ops ++ [c])
    rw [renOK_append]
    exact ⟨h.ren, hc, trivial⟩
  · have := h.wt
    show szs s.files + s.files.length + ssz (s.ops ++ [c]) + (s.ops ++ [c]).length ≤ _
    simp [ssz] at *
    omega
theorem push_all (s : St) (c : Chg) : (s.push c).all = appl s.all c := by
  unfold St.push St.all
  rw [(spend_same _).2.1, (spend_same _).2.2]
  simp
end Go.Proofs.Ytlaodmpdngdhjaa
