/- A log that is cut off, plain. -/
import Derived.Test.YtlaodmpdngdhjaaVs
namespace Go.Proofs.Ytlaodmpdngdhjaa
set_option linter.unusedVariables false
set_option linter.unusedSimpArgs false
open Go.RowKit

/-- Where the record number k begins. -/
def el (L : List ByteArray) (k : Nat) : Nat := (jn 0 (L.take k)).length
theorem jb_len (L : List ByteArray) (k : Nat) : (jb (L.take k)).size = el L k := by
  show (jn 0 (L.take k)).toArray.size = _
  rw [List.size_toArray]
  rfl
theorem jb_all (L : List ByteArray) : (jb L).size = el L L.length := by
  rw [← jb_len, List.take_length]
theorem el_step (L : List ByteArray) (k : Nat) (x : ByteArray) (h : L[k]? = some x) : el L (k + 1) = el L k + (x.size + 8) := by
  have h1 := congrArg ByteArray.size (jb_step L k x h)
  rw [ByteArray.size_append, jb_len, jb_len, frm_size] at h1
  exact h1.symm
theorem el_split (L : List ByteArray) (k : Nat) (x : ByteArray) (h : L[k]? = some x) : ∃ Q, jn 0 L = jn 0 (L.take k) ++ (frmL k x ++ Q) := by
  have hk : k < L.length := (List.getElem?_eq_some_iff.1 h).1
  have hx : L = L.take k ++ (x :: L.drop (k + 1)) := by
    have h1 := (List.take_append_drop k L).symm
    rw [List.drop_eq_getElem_cons hk] at h1
    rw [List.getElem?_eq_getElem hk] at h
    cases h
    exact h1
  refine ⟨jn (k + 1) (L.drop (k + 1)), ?_⟩
  have h2 : jn 0 L = jn 0 (L.take k ++ (x :: L.drop (k + 1))) := congrArg (jn 0) hx
  rw [h2, jn_append, List.length_take, Nat.min_eq_left (by omega), Nat.zero_add]
  rfl
theorem ext_list (b : ByteArray) (n : Nat) : (b.extract 0 n).data.toList = b.data.toList.take n := by
  rw [ByteArray.data_extract, Array.toList_extract, List.extract_eq_take_drop, List.drop_zero, Nat.sub_zero]
theorem scan_part (L : List ByteArray) (h : Short L) (n k : Nat) (hn : n ≤ (jb L).size) (hk : k ≤ L.length) (h1 : el L k ≤ n) (h2 : k < L.length → n < el L (k + 1)) :
    scanR ((jb L).extract 0 n) = (L.take k, el L k, 0) := by
  have hd : ∀ d ∈ L.take k, d.size ≤ 65536 := fun d hd => by have := h.1 d (List.mem_of_mem_take hd); omega
  have hlen := h.2
  have hl : (L.take k).length = k := by rw [List.length_take, Nat.min_eq_left hk]
  by_cases hlt : k < L.length
  · obtain ⟨x, hx⟩ : ∃ x, L[k]? = some x := ⟨L[k]'hlt, by simp [hlt]⟩
    have hxs : x.size ≤ 200 := h.1 x (List.mem_of_getElem? hx)
    obtain ⟨Q, hQ⟩ := el_split L k x hx
    have h3 := h2 hlt
    rw [el_step L k x hx] at h3
    have hfl := frmL_len k x
    have hel : (jn 0 (L.take k)).length = el L k := rfl
    refine scanR_torn _ _ x ((frmL k x).take (n - el L k)) ((frmL k x).drop (n - el L k)) ?_ (by rw [hl, List.take_append_drop]) ?_ (by omega) hd (by omega)
    · rw [ext_list]
      show (jn 0 L).take n = _
      rw [hQ, List.take_append, List.take_of_length_le (by rw [hel]; exact h1), hel, List.take_append_of_le_length (by omega)]
    · intro e
      have := congrArg List.length e
      rw [List.length_drop, List.length_nil] at this
      omega
  · obtain rfl : k = L.length := by omega
    have hall := jb_all L
    have e : (jb L).extract 0 n = jb L := by
      apply ba_eq
      rw [ext_list, List.take_of_length_le]
      rw [ba_list]
      omega
    rw [e, List.take_length, scanR_join (jb L) L rfl (fun d hd => by have := h.1 d hd; omega) (by omega), hall]
end Go.Proofs.Ytlaodmpdngdhjaa
