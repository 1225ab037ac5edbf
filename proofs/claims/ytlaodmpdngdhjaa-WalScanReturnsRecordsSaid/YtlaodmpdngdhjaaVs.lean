/- Short rows; a log of records by the reference. -/
import Derived.Test.YtlaodmpdngdhjaaM3
namespace Go.Proofs.Ytlaodmpdngdhjaa
set_option linter.unusedVariables false
set_option linter.unusedSimpArgs false
open Go.RowKit

def Short (L : List ByteArray) : Prop := (∀ x ∈ L, x.size ≤ 200) ∧ L.length ≤ 20
instance (L : List ByteArray) : Decidable (Short L) := inferInstanceAs (Decidable (_ ∧ _))
set_option maxRecDepth 100000 in
set_option maxHeartbeats 4000000 in
theorem shorts_any (v : Value) (L : List ByteArray) (w : World) (h : RowS w v L) (hl : L.length ≤ 140737488355328) (hs : ∀ x ∈ L, x.size ≤ maxLen) :
    Calls Try.prog 19 #[v] w fun e w' => e = .returned (.bool (decide (Short L))) ∧ Below w.heap.size w w' := by
  obtain ⟨a, c, rfl⟩ := h.shape
  have H1 := Lib.hid h
  clear h
  have HSS := Lib.hid hs
  clear hs
  obtain ⟨n, hn⟩ : ∃ n, L.length = n := ⟨_, rfl⟩
  have HN := Lib.hid hn
  rw [hn] at H1 hl ⊢
  clear hn
  go_enter Try.func19, Try.ntmps19
  go_wp2_with fail
  go_loopw [3] (fun i wr => ∃ k q : Nat, k ≤ n ∧ i = .int .i64 k ∧ wr = w.drewN q ∧ Hid (∀ j, j < k → ∀ x, L[j]? = some x → x.size ≤ 200)) (fun i _ => n - (intOf i).toNat)
  case atStart => exact ⟨0, 0, Nat.zero_le _, rfl, rfl, Lib.hid (by intro j h; omega)⟩
  case round =>
    obtain ⟨k, q, hk, rfl, rfl, HA⟩ := hrel
    by_cases hlt : k < n
    · obtain ⟨x, hx⟩ : ∃ x, L[k]? = some x := ⟨L[k]'(by rw [HN.out]; exact hlt), by simp [HN.out, hlt]⟩
      obtain ⟨g1, o1, rfl, -, e1⟩ := H1.out.get hx
      have HX := Lib.hid hx
      have hxs : x.size ≤ maxLen := HSS.out x (List.mem_of_getElem? hx)
      clear hx
      by_cases he : 200 < x.size
      · have q1 : decide ((200 : Int) < (x.size : Int)) = true := decide_eq_true (by omega)
        have HF : Hid (decide (Short L) = false) := Lib.hid (decide_eq_false fun hsh => by
          have := hsh.1 x (List.mem_of_getElem? HX.out)
          omega)
        clear he
        go_wp2_with fail
        go_ret
        exact ⟨by rw [HF.out]; rfl, below_drewN (Below.refl _ _) _⟩
      · have q1 : decide ((200 : Int) < (x.size : Int)) = false := decide_eq_false (by omega)
        have HA2 : Hid (∀ j, j < k + 1 → ∀ x, L[j]? = some x → x.size ≤ 200) := Lib.hid (by
          intro j hj y hy
          by_cases e : j = k
          · subst e
            rw [HX.out] at hy
            cases hy
            omega
          · exact HA.out j (by omega) y hy)
        clear he
        go_wp2_with fail
        go_roundw
        case rel => exact ⟨k + 1, q, by omega, by go_num, rfl, HA2⟩
        case measure => simp [intOf]; omega
    · obtain rfl : k = n := by omega
      have HT : Hid (decide (Short L) = decide ((k : Int) ≤ 20)) := Lib.hid (by
        apply decide_eq_decide.2
        unfold Short
        rw [HN.out]
        constructor
        · intro h
          omega
        · intro h
          refine ⟨fun x hx => ?_, by omega⟩
          obtain ⟨j, hj, rfl⟩ := List.getElem_of_mem hx
          exact HA.out j (by rw [← HN.out]; exact hj) _ (by simp [hj]))
      go_wp2_with fail
      go_ret
      exact ⟨by rw [HT.out]; rfl, below_drewN (Below.refl _ _) _⟩
def jb (L : List ByteArray) : ByteArray := ⟨(jn 0 L).toArray⟩
theorem jb_step (L : List ByteArray) (k : Nat) (x : ByteArray) (h : L[k]? = some x) : jb (L.take k) ++ frm k x = jb (L.take (k + 1)) := by
  have hk : k < L.length := (List.getElem?_eq_some_iff.1 h).1
  have hx : L.take (k + 1) = L.take k ++ [x] := by
    rw [List.take_add_one, h]
    rfl
  apply ba_eq
  rw [ByteArray.data_append, Array.toList_append, hx]
  show jn 0 (L.take k) ++ frmL k x = jn 0 (L.take k ++ [x])
  rw [jn_append, List.length_take, Nat.min_eq_left (by omega)]
  simp [jn]
theorem jn_len (L : List ByteArray) : ∀ k, (∀ x ∈ L, x.size ≤ 200) → (jn k L).length ≤ 208 * L.length := by
  induction L with
  | nil => intro k _; simp [jn]
  | cons d r ih =>
    intro k h
    have h1 := ih (k + 1) fun x hx => h x (List.mem_cons_of_mem _ hx)
    have h2 := h d (List.mem_cons_self ..)
    simp only [jn, List.length_append, frmL_len, List.length_cons]
    omega
theorem jb_size (L : List ByteArray) (h : Short L) (k : Nat) : (jb (L.take k)).size ≤ 4160 := by
  show (jn 0 (L.take k)).toArray.size ≤ 4160
  rw [List.size_toArray]
  have h1 := jn_len (L.take k) 0 fun x hx => h.1 x (List.mem_of_mem_take hx)
  have h2 := List.length_take (i := k) (l := L)
  have h3 := h.2
  omega
theorem FrameIs_ok (k : Nat) (x : ByteArray) (h : x.size ≤ 65536) : FrameIs k x = (frm k x, 0) := by
  unfold FrameIs
  rw [if_neg (by omega), if_neg (by omega)]
  rfl
set_option maxRecDepth 100000 in
set_option maxHeartbeats 4000000 in
theorem join_any51 (v : Value) (L : List ByteArray) (w : World) (h : RowS w v L) (hs : Short L) :
    Calls Try.prog 51 #[v] w fun e w' => e = .returned (.string (jb L)) ∧ Below w.heap.size w w' := by
  obtain ⟨a, c, rfl⟩ := h.shape
  have H1 := Lib.hid h
  clear h
  obtain ⟨n, hn⟩ : ∃ n, L.length = n := ⟨_, rfl⟩
  have hl : n ≤ 20 := by rw [← hn]; exact hs.2
  have HN := Lib.hid hn
  have HSS := Lib.hid hs
  rw [hn] at H1 ⊢
  clear hn hs
  go_enter Try.func51, Try.ntmps51
  go_wp2_with fail
  go_loopw [4, 3] (fun i s wr => ∃ k : Nat, k ≤ n ∧ i = .int .i64 k ∧ s = .string (jb (L.take k)) ∧ Hid (Below w.heap.size w wr)) (fun i _ _ => n - (intOf i).toNat)
  case atStart => exact ⟨0, Nat.zero_le _, rfl, rfl, Lib.hid (Below.refl _ _)⟩
  case round =>
    obtain ⟨k, hk, rfl, rfl, HB⟩ := hrel
    by_cases hlt : k < n
    · obtain ⟨x, hx⟩ : ∃ x, L[k]? = some x := ⟨L[k]'(by rw [HN.out]; exact hlt), by simp [HN.out, hlt]⟩
      obtain ⟨g1, o1, rfl, hg1, e0⟩ := H1.out.get hx
      have e1 : wr.cell? ⟨g1, o1 + k, none⟩ = some (.string x) := by rw [HB.out.cell (p := ⟨g1, o1 + k, none⟩) hg1]; exact e0
      have hx2 : x.size ≤ 200 := HSS.out.1 x (List.mem_of_getElem? hx)
      have HST := Lib.hid (jb_step L k x hx)
      have HF := Lib.hid (rFrame_any k x wr (by constructor <;> omega) (by omega))
      rw [FrameIs_ok k x (by omega)] at HF
      obtain ⟨f, hf⟩ : ∃ f, frm k x = f := ⟨_, rfl⟩
      have hfs : f.size = x.size + 8 := by rw [← hf, frm_size]
      rw [hf] at HST HF
      obtain ⟨s, hs0⟩ : ∃ s, jb (L.take k) = s := ⟨_, rfl⟩
      obtain ⟨s2, hs2⟩ : ∃ s, jb (L.take (k + 1)) = s := ⟨_, rfl⟩
      have HS2 := Lib.hid hs2
      have hsum : s ++ f = s2 := by rw [← hs0, ← hs2]; exact HST.out
      have hss : s.size ≤ 4160 := by rw [← hs0]; exact jb_size L HSS.out k
      have hss2 : s2.size ≤ 4160 := by rw [← hs2]; exact jb_size L HSS.out (k + 1)
      rw [hs0]
      clear hx e0 hf hs0 hs2
      go_wp2_with fail
      refine HF.out.mono ?_
      rintro e w1 ⟨rfl, hb1⟩
      have HB1 := Lib.hid hb1
      clear hb1
      go_wp2_with fail
      go_roundw
      case rel => exact ⟨k + 1, by omega, by go_num, by rw [HS2.out], Lib.hid (HB.out.trans (HB1.out.mono HB.out.size))⟩
      case measure => simp [intOf]; omega
    · obtain rfl : k = n := by omega
      have HT : Hid (jb L = jb (L.take k)) := Lib.hid (by rw [List.take_of_length_le (by rw [HN.out]; exact Nat.le_refl _)])
      go_wp2_with fail
      go_ret
      exact ⟨by rw [HT.out]; rfl, HB.out⟩
end Go.Proofs.Ytlaodmpdngdhjaa
