/- Plain laws of the reader and the writer of elements: what is written is read back, and what is read was written so. -/
import Derived.Test.YtpcdbgfhlghocaaTq
namespace Go.Proofs.Ytpcdbgfhlghocaa
set_option linter.unusedVariables false
set_option linter.unusedSimpArgs false

theorem bt_list (s : ByteArray) (i : Nat) : bt s i = (s.data.toList.getD i 0).toNat := by
  unfold bt
  split
  · rename_i h
    rw [List.getD_eq_getElem?_getD, List.getElem?_eq_getElem (by simpa using h)]
    rfl
  · rename_i h
    rw [List.getD_eq_getElem?_getD, List.getElem?_eq_none (by simp; omega)]
    rfl
theorem size_list (s : ByteArray) : s.size = s.data.toList.length := by simp

theorem ext_list (X : ByteArray) (i j : Nat) : (X.extract i j).data.toList = (X.data.toList.take j).drop i := by simp [List.drop_take]
theorem take3 (A B C : List UInt8) : (A ++ (B ++ C)).take (A.length + B.length) = A ++ B := by
  rw [← List.append_assoc, show A.length + B.length = (A ++ B).length by simp, List.take_left]
theorem drop3 (A B C : List UInt8) : (A ++ (B ++ C)).drop (A.length + B.length) = C := by
  rw [← List.append_assoc, show A.length + B.length = (A ++ B).length by simp, List.drop_left]
theorem hdr_read {s : ByteArray} {t n : Nat} {tl : List UInt8} (ht : t < 256) (h31 : t % 32 ≠ 31) (hn : n ≤ 131072) (h : s.data.toList = hdr t n ++ tl) : rd s = fin s n (hdr t n).length := by
  have hb : ∀ i, bt s i = ((hdr t n ++ tl).getD i 0).toNat := fun i => by rw [bt_list, h]
  have hsz : s.size = (hdr t n).length + tl.length := by rw [size_list, h, List.length_append]
  have h0 : bt s 0 = t := by
    rw [hb]
    unfold hdr
    simp [b8_nat]
    omega
  unfold rd
  by_cases hA : n < 128
  · have hh : hdr t n = [b8 t, b8 n] := by unfold hdr; rw [if_pos hA]
    have h1 : bt s 1 = n := by rw [hb, hh]; simp [b8_nat]; omega
    rw [hh] at hsz ⊢
    simp only [List.length_cons, List.length_nil] at hsz ⊢
    rw [if_neg (by omega), h0, if_neg h31, if_neg (by omega), h1, if_neg (by omega), if_pos hA]
  by_cases hB : n < 256
  · have hh : hdr t n = [b8 t, 129, b8 n] := by unfold hdr; rw [if_neg hA, if_pos hB]
    have h1 : bt s 1 = 129 := by rw [hb, hh]; rfl
    have h2 : bt s 2 = n := by rw [hb, hh]; simp [b8_nat]; omega
    rw [hh] at hsz ⊢
    simp only [List.length_cons, List.length_nil] at hsz ⊢
    rw [if_neg (by omega), h0, if_neg h31, if_neg (by omega), h1, if_neg (by omega), if_neg (by omega), if_neg (by omega)]
    have hv : val s 1 = n := by simp [val, h2]
    unfold lg
    show (if val s 1 < least 1 ∨ 131072 < val s 1 then bad 6 else fin s (val s 1) (2 + 1)) = _
    rw [hv, if_neg (by unfold least; rw [if_pos rfl]; omega)]
  by_cases hC : n < 65536
  · have hh : hdr t n = [b8 t, 130, b8 (n / 256), b8 n] := by unfold hdr; rw [if_neg hA, if_neg hB, if_pos hC]
    have h1 : bt s 1 = 130 := by rw [hb, hh]; rfl
    have h2 : bt s 2 = n / 256 := by rw [hb, hh]; simp [b8_nat]; omega
    have h3 : bt s 3 = n % 256 := by rw [hb, hh]; simp [b8_nat]
    rw [hh] at hsz ⊢
    simp only [List.length_cons, List.length_nil] at hsz ⊢
    rw [if_neg (by omega), h0, if_neg h31, if_neg (by omega), h1, if_neg (by omega), if_neg (by omega), if_neg (by omega)]
    have hv : val s 2 = n := by simp [val, h2, h3]; omega
    unfold lg
    show (if val s 2 < least 2 ∨ 131072 < val s 2 then bad 6 else fin s (val s 2) (2 + 2)) = _
    rw [hv, if_neg (by unfold least; rw [if_neg (by omega), if_pos rfl]; omega)]
  · have hh : hdr t n = [b8 t, 131, b8 (n / 65536), b8 (n / 256), b8 n] := by unfold hdr; rw [if_neg hA, if_neg hB, if_neg hC]
    have h1 : bt s 1 = 131 := by rw [hb, hh]; rfl
    have h2 : bt s 2 = n / 65536 := by rw [hb, hh]; simp [b8_nat]; omega
    have h3 : bt s 3 = n / 256 % 256 := by rw [hb, hh]; simp [b8_nat]
    have h4 : bt s 4 = n % 256 := by rw [hb, hh]; simp [b8_nat]
    rw [hh] at hsz ⊢
    simp only [List.length_cons, List.length_nil] at hsz ⊢
    rw [if_neg (by omega), h0, if_neg h31, if_neg (by omega), h1, if_neg (by omega), if_neg (by omega), if_neg (by omega)]
    have hv : val s 3 = n := by simp [val, h2, h3, h4]; omega
    unfold lg
    show (if val s 3 < least 3 ∨ 131072 < val s 3 then bad 6 else fin s (val s 3) (2 + 3)) = _
    rw [hv, if_neg (by unfold least; rw [if_neg (by omega), if_neg (by omega)]; omega)]

theorem b8_bt (s : ByteArray) (i : Nat) (h : i < s.size) : s.data.toList[i]? = some (b8 (bt s i)) := by
  rw [List.getElem?_eq_getElem (by simpa using h)]
  congr 1
  apply UInt8.toNat_inj.1
  rw [b8_nat, Nat.mod_eq_of_lt (bt_lt s i), bt_list, List.getD_eq_getElem?_getD, List.getElem?_eq_getElem (by simpa using h)]
  rfl

theorem fin_ok {s : ByteArray} {n k : Nat} (h : (fin s n k).2.2.2.2 = 0) : k + n ≤ s.size := by
  unfold fin at h
  split at h
  · simp [bad] at h
  · omega

theorem list1 {L : List UInt8} {a : UInt8} (h : L[0]? = some a) : ∃ tl, L = a :: tl ∧ ∀ i, tl[i]? = L[i + 1]? := by
  cases L with
  | nil => simp at h
  | cons x r => simp at h; subst h; exact ⟨r, rfl, fun i => by simp⟩

theorem read_hdr {s : ByteArray} (h : (rd s).2.2.2.2 = 0) :
    ∃ n tl, n ≤ 131072 ∧ bt s 0 % 32 ≠ 31 ∧ s.data.toList = hdr (bt s 0) n ++ tl ∧ (hdr (bt s 0) n).length + n ≤ s.size := by
  unfold rd at h
  split at h
  · simp [bad] at h
  rename_i h0
  split at h
  · simp [bad] at h
  rename_i h31
  split at h
  · simp [bad] at h
  rename_i h2
  have e0 := b8_bt s 0 (by omega)
  have e1 := b8_bt s 1 (by omega)
  obtain ⟨L1, hL1, hi1⟩ := list1 e0
  rw [← hi1] at e1
  obtain ⟨L2, hL2, hi2⟩ := list1 e1
  have b1 := bt_lt s 1
  split at h
  · simp [bad] at h
  rename_i hn
  split at h
  · rename_i hA
    have hk := fin_ok h
    have hh : hdr (bt s 0) (bt s 1) = [b8 (bt s 0), b8 (bt s 1)] := by unfold hdr; rw [if_pos hA]
    exact ⟨bt s 1, L2, by omega, h31, by rw [hh, hL1, hL2]; rfl, by rw [hh]; exact hk⟩
  rename_i hA
  split at h
  · simp [bad] at h
  rename_i hs
  unfold lg at h
  split at h
  · simp [bad] at h
  rename_i hl
  have hk := fin_ok h
  have e2 := b8_bt s 2 (by omega)
  rw [← hi1, ← hi2] at e2
  obtain ⟨L3, hL3, hi3⟩ := list1 e2
  have b2 := bt_lt s 2
  have hc : bt s 1 = 129 ∨ bt s 1 = 130 ∨ bt s 1 = 131 := by omega
  rcases hc with hc | hc | hc
  · rw [hc] at hl hk hs hL2
    have hv : val s (129 - 128) = bt s 2 := by simp [val]
    rw [hv] at hl hk
    have hl1 : 128 ≤ bt s 2 := by unfold least at hl; simp at hl; omega
    have hh : hdr (bt s 0) (bt s 2) = [b8 (bt s 0), 129, b8 (bt s 2)] := by unfold hdr; rw [if_neg (by omega), if_pos (by omega)]
    exact ⟨bt s 2, L3, by omega, h31, by rw [hh, hL1, hL2, hL3]; rfl, by rw [hh]; exact hk⟩
  · rw [hc] at hl hk hs hL2
    have e3 := b8_bt s 3 (by omega)
    rw [← hi1, ← hi2, ← hi3] at e3
    obtain ⟨L4, hL4, hi4⟩ := list1 e3
    have b3 := bt_lt s 3
    have hv : val s (130 - 128) = bt s 2 * 256 + bt s 3 := by simp [val]
    rw [hv] at hl hk
    have hl1 : 256 ≤ bt s 2 * 256 + bt s 3 := by unfold least at hl; simp at hl; omega
    have hh : hdr (bt s 0) (bt s 2 * 256 + bt s 3) = [b8 (bt s 0), 130, b8 (bt s 2), b8 (bt s 3)] := by
      unfold hdr
      rw [if_neg (by omega), if_neg (by omega), if_pos (by omega)]
      rw [show (bt s 2 * 256 + bt s 3) / 256 = bt s 2 by omega]
      rw [show b8 (bt s 2 * 256 + bt s 3) = b8 (bt s 3) by apply UInt8.toNat_inj.1; rw [b8_nat, b8_nat]; omega]
    exact ⟨bt s 2 * 256 + bt s 3, L4, by omega, h31, by rw [hh, hL1, hL2, hL3, hL4]; rfl, by rw [hh]; exact hk⟩
  · rw [hc] at hl hk hs hL2
    have e3 := b8_bt s 3 (by omega)
    have e4 := b8_bt s 4 (by omega)
    rw [← hi1, ← hi2, ← hi3] at e3
    obtain ⟨L4, hL4, hi4⟩ := list1 e3
    rw [← hi1, ← hi2, ← hi3, ← hi4] at e4
    obtain ⟨L5, hL5, hi5⟩ := list1 e4
    have b3 := bt_lt s 3
    have b4 := bt_lt s 4
    have hv : val s (131 - 128) = (bt s 2 * 256 + bt s 3) * 256 + bt s 4 := by simp [val]
    rw [hv] at hl hk
    generalize hN : (bt s 2 * 256 + bt s 3) * 256 + bt s 4 = N at *
    have hl1 : 65536 ≤ N := by unfold least at hl; simp at hl; omega
    have hh : hdr (bt s 0) N = [b8 (bt s 0), 131, b8 (bt s 2), b8 (bt s 3), b8 (bt s 4)] := by
      unfold hdr
      rw [if_neg (by omega), if_neg (by omega), if_neg (by omega)]
      rw [show N / 65536 = bt s 2 by omega]
      rw [show b8 (N / 256) = b8 (bt s 3) by apply UInt8.toNat_inj.1; rw [b8_nat, b8_nat]; omega]
      rw [show b8 N = b8 (bt s 4) by apply UInt8.toNat_inj.1; rw [b8_nat, b8_nat]; omega]
    exact ⟨N, L5, by omega, h31, by rw [hh, hL1, hL2, hL3, hL4, hL5]; rfl, by rw [hh]; exact hk⟩

/-- What Read accepts, whole. -/
theorem read_ok {s : ByteArray} (h : (rd s).2.2.2.2 = 0) :
    ∃ n, n ≤ 131072 ∧ bt s 0 % 32 ≠ 31 ∧ (hdr (bt s 0) n).length + n ≤ s.size ∧ s.data.toList.take (hdr (bt s 0) n).length = hdr (bt s 0) n ∧ rd s = fin s n (hdr (bt s 0) n).length := by
  obtain ⟨n, tl, h1, h2, h3, h4⟩ := read_hdr h
  exact ⟨n, h1, h2, h4, by rw [h3]; simp, hdr_read (bt_lt s 0) h2 h1 h3⟩

theorem fin_eq {s : ByteArray} {n k : Nat} (h : k + n ≤ s.size) : fin s n k = (bt s 0, s.extract k (k + n), s.extract 0 (k + n), s.extract (k + n) s.size, 0) := by
  unfold fin
  rw [if_neg (by omega)]

theorem hdr_pos (t n : Nat) : 2 ≤ (hdr t n).length := by
  unfold hdr
  split
  · simp
  · split
    · simp
    · split <;> simp

theorem rest_lt {s : ByteArray} (h : (rd s).2.2.2.2 = 0) : (rd s).2.2.2.1.size + 2 ≤ s.size := by
  obtain ⟨n, _, _, h3, _, h5⟩ := read_ok h
  have := hdr_pos (bt s 0) n
  rw [h5, fin_eq h3]
  simp
  omega

/-- One: in rd's words. -/
def one (s : ByteArray) : Nat × ByteArray × ByteArray × Int :=
  if (rd s).2.2.2.2 ≠ 0 then (0, ⟨#[]⟩, ⟨#[]⟩, (rd s).2.2.2.2) else if (rd s).2.2.2.1.size ≠ 0 then (0, ⟨#[]⟩, ⟨#[]⟩, 4) else ((rd s).1, (rd s).2.1, (rd s).2.2.1, 0)
theorem one_ok {s : ByteArray} (h : (one s).2.2.2 = 0) : (rd s).2.2.2.2 = 0 ∧ (rd s).2.2.2.1.size = 0 ∧ one s = ((rd s).1, (rd s).2.1, (rd s).2.2.1, 0) := by
  unfold one at h
  split at h
  · rename_i h1; exact absurd h h1
  rename_i h1
  split at h
  · simp at h
  rename_i h2
  exact ⟨by simpa using h1, by simpa using h2, by unfold one; rw [if_neg h1, if_neg h2]⟩
theorem one_whole {s : ByteArray} (h : (one s).2.2.2 = 0) :
    ∃ n, n ≤ 131072 ∧ bt s 0 % 32 ≠ 31 ∧ (hdr (bt s 0) n).length + n = s.size ∧ s.data.toList.take (hdr (bt s 0) n).length = hdr (bt s 0) n ∧
      one s = (bt s 0, s.extract (hdr (bt s 0) n).length s.size, s, 0) := by
  obtain ⟨h1, h2, h3⟩ := one_ok h
  obtain ⟨n, a, b, c, d, e⟩ := read_ok h1
  rw [e, fin_eq c] at h2 h3
  simp at h2
  refine ⟨n, a, b, by omega, d, ?_⟩
  rw [h3]
  have hz : (hdr (bt s 0) n).length + n = s.size := by omega
  simp only [hz]
  congr 2
  rw [ByteArray.extract_zero_size]

theorem prefix_bad {b p : ByteArray} {k : Nat} (hk : k < b.size) (hp : p = b.extract 0 k) (h : (one b).2.2.2 = 0) : (one p).2.2.2 ≠ 0 := by
  intro hp0
  obtain ⟨n, a1, a2, a3, a4, a5⟩ := one_whole h
  obtain ⟨m, c1, c2, c3, c4, c5⟩ := one_whole hp0
  have hps : p.size = k := by subst hp; simp; omega
  have hpos := hdr_pos (bt p 0) m
  have hb0 : bt p 0 = bt b 0 := by
    have hpl : p.data.toList = b.data.toList.take k := by subst hp; simp
    rw [bt_list, bt_list, hpl, List.getD_eq_getElem?_getD, List.getElem?_take_of_lt (by omega), ← List.getD_eq_getElem?_getD]
  rw [hb0] at c2 c3 c4 hpos
  have hpl : p.data.toList = b.data.toList.take k := by subst hp; simp
  have hpre : b.data.toList.take (hdr (bt b 0) m).length = hdr (bt b 0) m := by
    rw [hpl, List.take_take, Nat.min_eq_left (by omega)] at c4
    exact c4
  have hr := hdr_read (s := b) (t := bt b 0) (n := m) (tl := b.data.toList.drop (hdr (bt b 0) m).length) (bt_lt _ _) c2 c1 (by
    conv => lhs; rw [← List.take_append_drop (hdr (bt b 0) m).length b.data.toList]
    rw [hpre])
  obtain ⟨o1, o2, o3⟩ := one_ok h
  rw [hr, fin_eq (by omega)] at o2
  simp at o2
  omega

theorem wrap_back {b : ByteArray} (h : (one b).2.2.2 = 0) : wrp (one b).1 [(one b).2.1] = (b, 0) ∧ (one b).2.2.1 = b := by
  obtain ⟨n, a1, a2, a3, a4, a5⟩ := one_whole h
  rw [a5]
  refine ⟨?_, rfl⟩
  show wrp (bt b 0 : Nat) [b.extract (hdr (bt b 0) n).length b.size] = (b, 0)
  have hlt := bt_lt b 0
  have htot : tot [b.extract (hdr (bt b 0) n).length b.size] = n := by simp [tot]; omega
  unfold wrp
  rw [if_neg (by omega), htot, if_neg (by omega)]
  congr 1
  apply ByteArray.ext
  apply Array.toList_inj.1
  simp only [cat, List.map_cons, List.map_nil, List.flatten_cons, List.flatten_nil, List.append_nil, Int.toNat_natCast]
  conv => rhs; rw [← List.take_append_drop (hdr (bt b 0) n).length b.data.toList]
  rw [a4]
  congr 1
  rw [ext_list]
  rw [List.take_of_length_le (by simp)]

theorem wrap_read {t : Nat} {c b : ByteArray} (ht : t < 256) (h31 : t % 32 ≠ 31) (hc : c.size ≤ 131072) :
    rd ((wrp t [c]).1 ++ b) = (t, c, (wrp t [c]).1, b, 0) ∧ (wrp t [c]).2 = 0 := by
  have htot : tot [c] = c.size := by simp [tot]
  have hw : wrp t [c] = (⟨(hdr t c.size ++ c.data.toList).toArray⟩, 0) := by
    unfold wrp
    rw [if_neg (by omega), htot, if_neg (by omega)]
    simp [cat]
  rw [hw]
  refine ⟨?_, rfl⟩
  have hl : ((⟨(hdr t c.size ++ c.data.toList).toArray⟩ : ByteArray) ++ b).data.toList = hdr t c.size ++ (c.data.toList ++ b.data.toList) := by
    simp [ByteArray.data_append]
  have h := hdr_read ht h31 hc hl
  rw [h]
  have hsz : ((⟨(hdr t c.size ++ c.data.toList).toArray⟩ : ByteArray) ++ b).size = (hdr t c.size).length + c.size + b.size := by
    rw [size_list, hl]; simp; omega
  rw [fin_eq (by omega)]
  have h0 : bt ((⟨(hdr t c.size ++ c.data.toList).toArray⟩ : ByteArray) ++ b) 0 = t := by
    rw [bt_list, hl]
    unfold hdr
    simp [b8_nat]
    omega
  rw [h0]
  generalize hX : (⟨(hdr t c.size ++ c.data.toList).toArray⟩ : ByteArray) ++ b = X at *
  have hcl : c.size = c.data.toList.length := size_list c
  refine Prod.ext rfl (Prod.ext ?_ (Prod.ext ?_ (Prod.ext ?_ rfl)))
  · apply ByteArray.ext
    apply Array.toList_inj.1
    show (X.extract _ _).data.toList = _
    rw [ext_list, hl, hcl, take3, List.drop_left]
  · apply ByteArray.ext
    apply Array.toList_inj.1
    show (X.extract _ _).data.toList = _
    rw [ext_list, hl, hcl, take3, List.drop_zero]
  · apply ByteArray.ext
    apply Array.toList_inj.1
    show (X.extract _ _).data.toList = _
    rw [ext_list, List.take_of_length_le (by simp), hl, hcl, drop3]
end Go.Proofs.Ytpcdbgfhlghocaa
