import Derived.Test.YtpcdbgfhlghocaaTc
namespace Go.Proofs.Ytpcdbgfhlghocaa
set_option linter.unusedVariables false
set_option linter.unusedSimpArgs false
open Go.RowKit

set_option maxHeartbeats 400000 in
theorem rwrap_bad (t : Int) (n : Nat) (a : Option Addr) (c : Nat) (w : World) (ht : t < 0 ∨ 255 < t ∨ t % 32 = 31) :
    Calls Try.prog 14 #[.int .i64 t, .slice a n c] w fun e w' => e = .returned (valW (⟨#[]⟩, 5)) ∧ w = w' := by
  by_cases h0 : t < 0
  · go_enter Try.func14, Try.ntmps14
    go_wp2
    go_ret2
    exact ⟨rfl, rfl⟩
  by_cases h1 : 255 < t
  · go_enter Try.func14, Try.ntmps14
    go_wp2
    go_ret2
    exact ⟨rfl, rfl⟩
  have h2 : (t % 32 == 31) = true := by rw [beq_iff_eq]; omega
  clear ht
  go_enter Try.func14, Try.ntmps14
  go_wp2
  go_ret2
  exact ⟨rfl, rfl⟩

theorem str_size (l : List UInt8) : (⟨l.toArray⟩ : ByteArray).size = l.length := by
  show l.toArray.size = _
  simp
theorem str_snoc (l : List UInt8) (x : ByteArray) : (⟨l.toArray⟩ : ByteArray) ++ x = ⟨(l ++ x.data.toList).toArray⟩ := by
  apply ByteArray.ext
  simp [ByteArray.data_append]

theorem own_lit2 (w : World) (base b : Nat) (C : Array Value) (hbb : b = w.heap.size) (hb : base ≤ w.heap.size) (hm : C.size ≤ maxLen) :
    (w.alloc (.cells C 5)).ownsRow base 5 1 (.slice (some ⟨b, 0, none⟩) C.size C.size) C.size C.toList := by
  subst hbb
  exact own_lit w base C hb hm
theorem hdr_1' {m N : Nat} (hm : m < 256) (h : N < 128) : byteVals (hdr m N) = [.int .u8 (m : Int), .int .u8 ((N : Int) % 256)] := by
  rw [hdr_1 hm h, Int.emod_eq_of_lt (a := (N : Int)) (by omega) (by omega)]
  rfl
theorem hdr_2' {m N : Nat} (hm : m < 256) (h1 : ¬ N < 128) (h : N < 256) : byteVals (hdr m N) = [.int .u8 (m : Int), .int .u8 129, .int .u8 ((N : Int) % 256)] := by
  rw [hdr_2 hm h1 h, Int.emod_eq_of_lt (a := (N : Int)) (by omega) (by omega)]
  rfl
theorem hdr_3' {m N : Nat} (hm : m < 256) (h1 : ¬ N < 256) (h : N < 65536) : byteVals (hdr m N) = [.int .u8 (m : Int), .int .u8 130, .int .u8 ((N : Int) / 256 % 256), .int .u8 ((N : Int) % 256)] := by
  rw [hdr_3 hm h1 h, wrap8, wrap8]
  rfl
theorem hdr_4' {m N : Nat} (hm : m < 256) (h1 : ¬ N < 65536) (h : N ≤ 131072) : byteVals (hdr m N) = [.int .u8 (m : Int), .int .u8 131, .int .u8 ((N : Int) / 65536 % 256), .int .u8 ((N : Int) / 256 % 256), .int .u8 ((N : Int) % 256)] := by
  rw [hdr_4 hm h1 h, wrap8, wrap8, wrap8]
  rfl

set_option maxRecDepth 100000 in
set_option maxHeartbeats 1000000 in
theorem rwrap_ok (m : Nat) (hm : m < 256) (hm31 : m % 32 ≠ 31) (n : Nat) (a : Option Addr) (c : Nat) (xs : List ByteArray) (w : World) (hrow : StrRow w a xs) (hn : n = xs.length) (hl : xs.length ≤ 140737488355328)
    (htot : tot xs ≤ 140737488355328) :
    Calls Try.prog 14 #[.int .i64 m, .slice a n c] w fun e w' => e = .returned (valW (wrp m xs)) ∧ Below w.heap.size w w' := by
  have hb : ((m : Int) % 32 == 31) = false := tag_no_u8 hm hm31
  have hwrp : wrp m xs = if 131072 < tot xs then (⟨#[]⟩, 6) else (⟨(hdr m (tot xs) ++ cat xs).toArray⟩, 0) := by
    unfold wrp
    rw [if_neg (by omega)]
    rfl
  have HW := Lib.hid hwrp
  have HR := Lib.hid hrow
  have HN := Lib.hid hn
  clear hwrp hrow hn hm31
  go_enter Try.func14, Try.ntmps14
  go_wp2
  go_loop [6, 8, 24] (fun s _ i => ∃ k : Nat, k ≤ n ∧ i = .int .i64 k ∧ s = .string ⟨(cat (xs.take k)).toArray⟩) (fun _ _ i => n - (intOf i).toNat)
  case atStart => exact ⟨0, Nat.zero_le _, rfl, rfl⟩
  case round =>
    obtain ⟨k, hk, rfl, rfl⟩ := hrel
    by_cases hlt : k < n
    · have hlen : k < xs.length := by rw [← HN.out]; exact hlt
      obtain ⟨x, hx⟩ : ∃ x, xs[k]? = some x := ⟨xs[k], by simp [hlen]⟩
      obtain ⟨bk, o, rfl, hbk, hcs⟩ : ∃ bk o, a = some ⟨bk, o, none⟩ ∧ bk < w.heap.size ∧ ∀ j x, xs[j]? = some x → w.cell? ⟨bk, o + j, none⟩ = some (.string x) := by
        rcases HR.out with h | h
        · rw [h] at hlen; simp at hlen
        · exact h
      have hck := hcs k x hx
      have hsn := cat_snoc xs k x hx
      have htt := tot_take xs (k + 1)
      have hl1 := cat_length (xs.take (k + 1))
      rw [hsn, List.length_append] at hl1
      have hl2 : x.data.toList.length = x.size := by simp
      have hcl : (cat (xs.take k)).length + x.size ≤ 140737488355328 := by omega
      clear hcs htt hl1 hl2
      have HSN := Lib.hid hsn
      clear hsn
      go_wp2
      go_round
      case rel => exact ⟨k + 1, by omega, by go_num, by rw [HSN.out, str_snoc]⟩
      case measure => simp [intOf]; omega
    · obtain rfl : k = n := by omega
      have hT2 : cat (xs.take k) = cat xs := by rw [HN.out, List.take_length]
      rw [hT2]
      obtain ⟨N, hN⟩ : ∃ N, tot xs = N := ⟨_, rfl⟩
      rw [hN] at htot
      have hcl : (cat xs).length = N := by rw [cat_length]; exact hN
      have hcz : (⟨(cat xs).toArray⟩ : ByteArray).size = N := by rw [str_size]; exact hcl
      have HNN : Hid (N = tot xs) := Lib.hid hN.symm
      have HTT := Lib.hid htot
      have HCL := Lib.hid hcl
      clear hT2 hN hk hlt hl hb
      by_cases hbig : 131072 < N
      · have hf : wrp m xs = (⟨#[]⟩, 6) := by rw [HW.out, ← HNN.out, if_pos hbig]
        have HF := Lib.hid hf
        have hD : decide (131072 < (N : Int)) = true := by simp; omega
        clear hf hm htot hbig hcl
        go_wp2
        go_ret2
        exact ⟨by rw [HF.out]; rfl, Below.refl _ _⟩
      have hD : decide (131072 < (N : Int)) = false := by simp; omega
      have hT : N ≤ 131072 := by omega
      have HEND := Lib.hid (cat_ends m xs k N HN.out HNN.out hT HW.out)
      have HT := Lib.hid hT
      have hs1 : (hdr m N).length ≤ 5 := hdr_len m N
      clear hbig
      by_cases hA : N < 128
      · have heq : byteVals (hdr m N) = [.int .u8 (m : Int), .int .u8 ((N : Int) % 256)] := hdr_1' hm hA
        have HEQ := Lib.hid heq
        have hA2 : decide (128 ≤ (N : Int)) = false := by simp; omega
        have hB2 : decide (256 ≤ (N : Int)) = false := by simp; omega
        have hC2 : decide (65536 ≤ (N : Int)) = false := by simp; omega
        clear heq hm htot hcl hA hT
        go_upto_region 19 with (fail)
        clear hA2 hB2 hC2
        have hown : (w.alloc (.cells #[.int .u8 (m : Int), .int .u8 ((N : Int) % 256)] 5)).ownsRow w.heap.size 5 1 (.slice (some ⟨w.heap.size, 0, none⟩) 2 2) 2 (byteVals (hdr m N)) := by
          rw [HEQ.out]
          exact own_lit2 w w.heap.size _ #[.int .u8 (m : Int), .int .u8 ((N : Int) % 256)] (by simp) (by simp) (small_len (by show 2 ≤ 100; omega))
        have hcv := conv_own hown (by omega)
        have hT := HT.out
        have hcl := HCL.out
        clear hown
        go_wp2
        go_ret2
        exact ⟨HEND.out, (Below.refl _ _).alloc (Nat.le_refl _) _⟩
      by_cases hB : N < 256
      · have heq : byteVals (hdr m N) = [.int .u8 (m : Int), .int .u8 129, .int .u8 ((N : Int) % 256)] := hdr_2' hm hA hB
        have HEQ := Lib.hid heq
        have hA2 : decide (128 ≤ (N : Int)) = true := by simp; omega
        have hB2 : decide (256 ≤ (N : Int)) = false := by simp; omega
        have hC2 : decide (65536 ≤ (N : Int)) = false := by simp; omega
        clear heq hm htot hcl hA hB hT
        go_upto_region 19 with (fail)
        clear hA2 hB2 hC2
        have hown : ((w.alloc (.cells #[.int .u8 (m : Int), .int .u8 ((N : Int) % 256)] 5)).alloc (.cells #[.int .u8 (m : Int), .int .u8 129, .int .u8 ((N : Int) % 256)] 5)).ownsRow w.heap.size 5 1 (.slice (some ⟨w.heap.size + 1, 0, none⟩) 3 3) 3 (byteVals (hdr m N)) := by
          rw [HEQ.out]
          exact own_lit2 (w.alloc (.cells #[.int .u8 (m : Int), .int .u8 ((N : Int) % 256)] 5)) w.heap.size _ #[.int .u8 (m : Int), .int .u8 129, .int .u8 ((N : Int) % 256)] (by simp) (by simp) (small_len (by show 3 ≤ 100; omega))
        have hcv := conv_own hown (by omega)
        have hT := HT.out
        have hcl := HCL.out
        clear hown
        go_wp2
        go_ret2
        exact ⟨HEND.out, ((Below.refl _ _).alloc (Nat.le_refl _) _).alloc (by simp) _⟩
      by_cases hC : N < 65536
      · have heq : byteVals (hdr m N) = [.int .u8 (m : Int), .int .u8 130, .int .u8 ((N : Int) / 256 % 256), .int .u8 ((N : Int) % 256)] := hdr_3' hm hB hC
        have HEQ := Lib.hid heq
        have hA2 : decide (128 ≤ (N : Int)) = true := by simp; omega
        have hB2 : decide (256 ≤ (N : Int)) = true := by simp; omega
        have hC2 : decide (65536 ≤ (N : Int)) = false := by simp; omega
        clear heq hm htot hcl hA hB hC hT
        go_upto_region 19 with (fail)
        clear hA2 hB2 hC2
        have hown : ((w.alloc (.cells #[.int .u8 (m : Int), .int .u8 ((N : Int) % 256)] 5)).alloc (.cells #[.int .u8 (m : Int), .int .u8 130, .int .u8 ((N : Int) / 256 % 256), .int .u8 ((N : Int) % 256)] 5)).ownsRow w.heap.size 5 1 (.slice (some ⟨w.heap.size + 1, 0, none⟩) 4 4) 4 (byteVals (hdr m N)) := by
          rw [HEQ.out]
          exact own_lit2 (w.alloc (.cells #[.int .u8 (m : Int), .int .u8 ((N : Int) % 256)] 5)) w.heap.size _ #[.int .u8 (m : Int), .int .u8 130, .int .u8 ((N : Int) / 256 % 256), .int .u8 ((N : Int) % 256)] (by simp) (by simp) (small_len (by show 4 ≤ 100; omega))
        have hcv := conv_own hown (by omega)
        have hT := HT.out
        have hcl := HCL.out
        clear hown
        go_wp2
        go_ret2
        exact ⟨HEND.out, ((Below.refl _ _).alloc (Nat.le_refl _) _).alloc (by simp) _⟩
      · have heq : byteVals (hdr m N) = [.int .u8 (m : Int), .int .u8 131, .int .u8 ((N : Int) / 65536 % 256), .int .u8 ((N : Int) / 256 % 256), .int .u8 ((N : Int) % 256)] := hdr_4' hm hC hT
        have HEQ := Lib.hid heq
        have hA2 : decide (128 ≤ (N : Int)) = true := by simp; omega
        have hB2 : decide (256 ≤ (N : Int)) = true := by simp; omega
        have hC2 : decide (65536 ≤ (N : Int)) = true := by simp; omega
        clear heq hm htot hcl hA hB hC hT
        go_upto_region 19 with (fail)
        clear hA2 hB2 hC2
        have hown : ((w.alloc (.cells #[.int .u8 (m : Int), .int .u8 ((N : Int) % 256)] 5)).alloc (.cells #[.int .u8 (m : Int), .int .u8 131, .int .u8 ((N : Int) / 65536 % 256), .int .u8 ((N : Int) / 256 % 256), .int .u8 ((N : Int) % 256)] 5)).ownsRow w.heap.size 5 1 (.slice (some ⟨w.heap.size + 1, 0, none⟩) 5 5) 5 (byteVals (hdr m N)) := by
          rw [HEQ.out]
          exact own_lit2 (w.alloc (.cells #[.int .u8 (m : Int), .int .u8 ((N : Int) % 256)] 5)) w.heap.size _ #[.int .u8 (m : Int), .int .u8 131, .int .u8 ((N : Int) / 65536 % 256), .int .u8 ((N : Int) / 256 % 256), .int .u8 ((N : Int) % 256)] (by simp) (by simp) (small_len (by show 5 ≤ 100; omega))
        have hcv := conv_own hown (by omega)
        have hT := HT.out
        have hcl := HCL.out
        clear hown
        go_wp2
        go_ret2
        exact ⟨HEND.out, ((Below.refl _ _).alloc (Nat.le_refl _) _).alloc (by simp) _⟩
end Go.Proofs.Ytpcdbgfhlghocaa
