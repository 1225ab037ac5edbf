/- The closures of the pending changes. -/
import Derived.Test.YtlaodmpdngdhjaaDh
namespace Go.Proofs.Ytlaodmpdngdhjaa
set_option linter.unusedVariables false
set_option linter.unusedSimpArgs false
open Go.RowKit Go.Maps Go.WideMaps

/-- A change applied to a map of the program's. -/
def Appl (b : Nat) (w : World) (G : List File) (e : Ending) (w' : World) : Prop :=
  e = .returned (.tuple #[]) ∧ MapOf w' (.map (some b)) G ∧ w.grownBy w' (some b)

set_option maxHeartbeats 1000000 in
/-- Remove's closure. -/
theorem rem_any (b bn : Nat) (k : Int) (n : ByteArray) (F : List File) (w : World) (hm : MapOf w (.map (some b)) F) (hn : w.cell? ⟨bn, 0, none⟩ = some (.string n)) (hsz : n.size ≤ 32) (hnd : KeysND F) :
    Calls Try.prog 79 #[.map (some b), .int .i64 k, ptr bn] w (Appl b w (appl F (.del n))) := by
  obtain ⟨w1, hrun, h1, h2, _, h4⟩ := hm.del (x := n) (by unfold maxLen; omega) (look_del hnd n) 0
  have H1 := Lib.hid h1
  have H2 := Lib.hid (h2 b rfl)
  clear hm h1 h2 h4
  go_enter Try.func79, Try.ntmps79
  go_wp2
  go_end0
  exact ⟨rfl, H1.out, H2.out⟩

set_option maxHeartbeats 1000000 in
/-- Rename's closure. -/
theorem ren_any (b ba bb : Nat) (k : Int) (x y : ByteArray) (F : List File) (w : World) (hm : MapOf w (.map (some b)) F) (hx : w.cell? ⟨ba, 0, none⟩ = some (.string x)) (hy : w.cell? ⟨bb, 0, none⟩ = some (.string y))
    (sx : x.size ≤ 32) (sy : y.size ≤ 32) (hnd : KeysND F) (hl : F.length < 1000000) (hF : ((look F x).getD ⟨#[]⟩).size ≤ 1000000000) (hex : idx F x < F.length) (hfar : ba ≠ b ∧ bb ≠ b) :
    Calls Try.prog 78 #[.map (some b), .int .i64 k, ptr ba, ptr bb] w (Appl b w (appl F (.ren x y))) := by
  have hlook := hm.look1 (x := x) (by unfold maxLen; omega)
  obtain ⟨w1, hrun, h1, h2, _, h4⟩ := hm.del (x := x) (by unfold maxLen; omega) (look_del hnd x) 0
  have hnd1 : KeysND (appl F (.del x)) := nd_appl hnd _
  have hl1 : (appl F (.del x)).length < maxLen := by have := len_appl F (.del x); unfold maxLen; omega
  have g1 := h2 b rfl
  have hb := hm.lt
  have hlt : bb < w.heap.size := by
    by_cases hq : bb < w.heap.size
    · exact hq
    · unfold World.cell? at hy
      simp [Array.getElem?_eq_none (Nat.le_of_not_lt hq)] at hy
  have hy1 : w1.cell? ⟨bb, 0, none⟩ = some (.string y) := by
    rw [World.cell?_of_block (w := w) (g1.block bb hlt (by simpa using hfar.2))]; exact hy
  have hsome : look F x = some ((look F x).getD ⟨#[]⟩) := by rw [(look_some hex).2]; rfl
  obtain ⟨w2, hrun2, h5, h6, _⟩ := h1.put (G := appl F (.ren x y)) hnd1 hl1 (x := y) (y := (look F x).getD ⟨#[]⟩) (by unfold maxLen; omega) (by unfold maxLen; omega) (by
    intro z
    rw [look_ren hnd x y z hex, look_del hnd x z, ← hsome])
  have H5 := Lib.hid h5
  have H6 := Lib.hid (g1.trans h6)
  generalize (look F x).getD ⟨#[]⟩ = u at *
  clear hm h1 h2 h4 h5 h6 hnd1 hl1 g1 hsome hex hfar hF hl hnd
  go_enter Try.func78, Try.ntmps78
  go_wp2
  go_end0
  exact ⟨rfl, H5.out, H6.out⟩

theorem look_size {F : List File} {n : ByteArray} : ((look F n).getD ⟨#[]⟩).size ≤ szs F := by
  by_cases h : idx F n < F.length
  · have := szs_erase_get F (idx F n) h
    rw [(look_some h).2]
    show F[idx F n].2.size ≤ szs F
    omega
  · have := idx_le F n
    rw [look_none.2 (by omega)]
    exact Nat.zero_le _
set_option maxHeartbeats 1000000 in
set_option maxRecDepth 100000 in
/-- Append's closure. -/
theorem app_any (b bd bn : Nat) (k : Int) (n x x' : ByteArray) (F : List File) (w : World) (hm : MapOf w (.map (some b)) F) (hn : w.cell? ⟨bn, 0, none⟩ = some (.string n)) (hx : w.cell? ⟨bd, 0, none⟩ = some (.string x))
    (sn : n.size ≤ 32) (hnd : KeysND F) (hl : F.length < 1000000) (hF : szs F + x.size ≤ 1000000000) (hx' : x' = if 0 ≤ k ∧ k < x.size then x.extract 0 k.toNat else x) :
    Calls Try.prog 73 #[.map (some b), .int .i64 k, ptr bd, ptr bn] w (Appl b w (appl F (.app n x'))) := by
  have hlook := hm.look1 (x := n) (by unfold maxLen; omega)
  have hu := look_size (F := F) (n := n)
  have hxs : x'.size ≤ x.size := by
    rw [hx']
    split
    · simp; omega
    · exact Nat.le_refl _
  obtain ⟨w2, hrun2, h5, h6, _⟩ := hm.put (G := appl F (.app n x')) hnd (by unfold maxLen; omega) (x := n) (y := (look F n).getD ⟨#[]⟩ ++ x') (by unfold maxLen; omega) (by rw [ByteArray.size_append]; unfold maxLen; omega) (by
    intro z
    rw [look_app n x' z])
  have H5 := Lib.hid h5
  have H6 := Lib.hid h6
  generalize (look F n).getD ⟨#[]⟩ = u at *
  by_cases hk : 0 ≤ k ∧ k < x.size
  · rw [if_pos hk] at hx'
    obtain ⟨k0, k1⟩ := hk
    subst hx'
    clear hm h5 h6 hnd hl hxs
    go_enter Try.func73, Try.ntmps73
    go_wp2
    go_end0
    exact ⟨rfl, H5.out, H6.out⟩
  · rw [if_neg hk] at hx'
    subst hx'
    clear hm h5 h6 hnd hl hxs
    by_cases h0 : 0 ≤ k
    · have h1 : (x'.size : Int) ≤ k := by omega
      clear hk
      go_enter Try.func73, Try.ntmps73
      go_wp2
      go_end0
      exact ⟨rfl, H5.out, H6.out⟩
    · have h1 : k < 0 := by omega
      have h2 : decide (0 ≤ k) = false := decide_eq_false h0
      clear hk h1
      go_enter Try.func73, Try.ntmps73
      go_wp2
      go_end0
      exact ⟨rfl, H5.out, H6.out⟩
end Go.Proofs.Ytlaodmpdngdhjaa
