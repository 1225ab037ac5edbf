import Derived.Test.YtpcdbgfhlghocaaTs
import Derived.Test.YtpcdbgfhlghocaaTv
import Derived.BigRegion
import Derived.Deep.OwnRows
namespace Go.Proofs.Ytpcdbgfhlghocaa
set_option linter.unusedVariables false
set_option linter.unusedSimpArgs false
open Go.RowKit

theorem zero_vals2 (n : Nat) : (madeCells #[Value.int .u8 0] n).toList = byteVals (List.replicate n 0) := by
  unfold madeCells byteVals
  apply List.ext_getElem
  · simp
  · intro i h1 h2
    have h3 : i % 1 = 0 := Nat.mod_one i
    simp [h3]

/-- A string out of a block of bytes. -/
theorem conv_block {W : World} {g n : Nat} {L : List UInt8} {C : Array Value} (hb : W.heap[g]? = some (.cells C 5)) (hC : C.toList = byteVals L) (hn : n = L.length) :
    (convert 30 9 (.slice (some ⟨g, 0, none⟩) n n)).run Try.prog W = .ok (.string ⟨L.toArray⟩) W := by
  subst hn
  exact run_convert_bytes_back (P := Try.prog) W 30 9 5 ⟨g, 0, none⟩ _ L Try.underlying30 Try.underlying5 Try.underlying9 fun j hj => by
    rw [show (⟨g, 0, none⟩ : Addr).add j = ⟨g, j, none⟩ by simp [Addr.add]; omega]
    unfold World.cell?
    rw [show W.heap[g]? = _ from hb]
    have h1 : (byteVals L)[j]? = some (.int .u8 (L[j].toNat : Int)) := by simp [byteVals, hj]
    rw [← hC] at h1
    simpa using h1

theorem ints_vals : ∀ (Z : List Int), (∀ z ∈ Z, 0 ≤ z ∧ z ≤ 255) → Z.map (Value.int .u8) = byteVals (Z.map fun z => UInt8.ofNat z.toNat)
  | [], _ => rfl
  | z :: Z, h => by
    have h1 := ints_vals Z fun y hy => h y (by simp [hy])
    have h2 := h z (by simp)
    unfold byteVals at *
    simp only [List.map_cons]
    rw [h1]
    congr 2
    simp
    omega
theorem conv_ints {W : World} {g : Nat} (Z : List Int) (hb : W.heap[g]? = some (.cells (Z.map (Value.int .u8)).toArray 5)) (hz : ∀ z ∈ Z, 0 ≤ z ∧ z ≤ 255) :
    ∃ S : ByteArray, S.size = Z.length ∧ ∀ W' : World, W'.heap[g]? = W.heap[g]? → (convert 30 9 (.slice (some ⟨g, 0, none⟩) Z.length Z.length)).run Try.prog W' = .ok (.string S) W' := by
  refine ⟨⟨(Z.map fun z => UInt8.ofNat z.toNat).toArray⟩, by rw [str_size, List.length_map], fun W' h => ?_⟩
  rw [hb] at h
  exact conv_block h (by simpa using ints_vals Z hz) (by simp)

theorem heap_alloc2 (W : World) (o : Obj) (g : Nat) (hg : g < W.heap.size) : (W.alloc o).heap[g]? = W.heap[g]? := Below.heap_alloc W o g hg

set_option maxRecDepth 100000 in
set_option maxHeartbeats 2000000 in
theorem heads_0 (tag form n hv cut : Nat) (h1 : tag ≤ 255) (h2 : form ≤ 255) (h3 : n ≤ 4294967295) (h4 : hv ≤ 65535) (h5 : cut ≤ 255) (w : World) (hf : form % 5 = 0) : Calls Try.prog 8 #[.int .u8 tag, .int .u8 form, .int .u32 n, .int .u16 hv, .int .u8 cut] w (Ok w w) := by
  obtain ⟨v, hv1, hv2⟩ : ∃ v : Nat, (n : Int) % 262144 = (v : Int) ∧ v < 262144 := ⟨n % 262144, by omega, by omega⟩
  have HV := Lib.hid hv2
  clear hv2
  have hfi : (form : Int) % 5 = 0 := by omega
  obtain ⟨M, hM, hM2⟩ : ∃ M : Nat, (hv : Int) % 700 = (M : Int) ∧ M < 700 := ⟨hv % 700, by omega, by omega⟩
  have hM3 : Int.tmod (hv : Int) 700 = (M : Int) := by rw [Int.tmod_eq_emod_of_nonneg (by omega)]; exact hM
  obtain ⟨K, hK, hK2⟩ : ∃ K : Nat, (cut : Int) % 9 = (K : Int) ∧ K < 9 := ⟨cut % 9, by omega, by omega⟩
  obtain ⟨W1, hW1⟩ : ∃ W1 : World, (w.alloc (.cells #[.int .u8 (tag : Int), .int .u8 ((v : Int) % 256)] 5)) = W1 := ⟨_, rfl⟩
  have hblk : W1.heap[w.heap.size]? = some (.cells (([((tag : Int)), ((v : Int) % 256)] : List Int).map (Value.int .u8)).toArray 5) := by rw [← hW1]; exact heap_alloc_new w _
  have hg : w.heap.size < W1.heap.size := by rw [← hW1]; simp
  have hbe : Below w.heap.size w W1 := by rw [← hW1]; exact (Below.refl _ _).alloc (Nat.le_refl _) _
  obtain ⟨S, hS, hSc⟩ := conv_ints [((tag : Int)), ((v : Int) % 256)] hblk (by
    intro z hz
    have := HV.out
    simp only [List.mem_cons, List.not_mem_nil, or_false] at hz
    rcases hz with rfl | rfl
    all_goals omega)
  have hS : S.size = 2 := hS
  obtain ⟨X, hX⟩ : ∃ X, Obj.cells (madeCells #[Value.int .u8 0] M) 5 = X := ⟨_, rfl⟩
  have hmk : ∀ W : World, (Instr.makeSlice 30 (.int .u16 (M : Int)) (.int .u16 (M : Int))).run Try.prog W = .ok (.slice (some ⟨W.heap.size, 0, none⟩) M M) (W.alloc X) := fun W => by
    rw [← hX]
    exact run_make_row' (P := Try.prog) 30 5 (.int .u8 0) 1 Try.underlying30 info5 rfl .u16 .u16 M (by omega) (by omega) W
  obtain ⟨S2, hS2⟩ : ∃ S2 : ByteArray, (⟨(List.replicate M 0).toArray⟩ : ByteArray) = S2 := ⟨_, rfl⟩
  have hS2s : S2.size = M := by rw [← hS2, str_size]; simp
  have hcv1 : (convert 30 9 (.slice (some ⟨w.heap.size, 0, none⟩) 2 2)).run Try.prog W1.drew = .ok (.string S) W1.drew := hSc W1.drew rfl
  have hcv2 : (convert 30 9 (.slice (some ⟨w.heap.size, 0, none⟩) 2 2)).run Try.prog (W1.alloc X).drew = .ok (.string S) (W1.alloc X).drew := hSc (W1.alloc X).drew (heap_alloc2 W1 X _ hg)
  have hcv3 : (convert 30 9 (.slice (some ⟨W1.heap.size, 0, none⟩) M M)).run Try.prog (W1.alloc X).drew = .ok (.string S2) (W1.alloc X).drew := by
    rw [← hS2]
    exact conv_block (C := madeCells #[Value.int .u8 0] M) (by rw [← hX]; exact heap_alloc_new W1 _) (zero_vals2 M) (by simp)
  have c1 := fun W => same_any (S ++ S2) W (by rw [ByteArray.size_append]; omega)
  have c2 := fun (j : Nat) W => same_any ((S ++ S2).extract 0 j) W (by simp; omega)
  have C1 := Lib.hid c1
  have C2 := Lib.hid c2
  have HB := Lib.hid hbe
  have HX := Lib.hid hX
  have HW := Lib.hid hW1
  clear hS2 hSc hblk hX hf c1 c2 hbe hW1 hg
  go_enter Try.func8, Try.ntmps8
  go_upto_region 12 with (fail)
  rw [HW.out]
  go_region
  all_goals
    clear hcv1 hcv2 hcv3 hmk
    go_wp2_with fail
    refine (awake_any _).mono ?_
    rintro e w2 ⟨rfl, hb2⟩
    have hB1 : Below w.heap.size w (W1.alloc X).drew := (HB.out.alloc HB.out.size _).drew
    have hB2 := hB1.trans (hb2.mono hB1.size)
    go_wp2_with fail
    refine (C1.out _).mono ?_
    rintro e w3 ⟨rfl, hb3⟩
    have hB3 := hB2.trans (hb3.mono hB2.size)
    go_wp2_with fail
    refine (C2.out _ _).mono ?_
    rintro e w4 ⟨rfl, hb4⟩
    go_wp2_with fail
    go_ret
    exact ⟨rfl, hB3.trans (hb4.mono hB3.size)⟩

set_option maxRecDepth 100000 in
set_option maxHeartbeats 2000000 in
theorem heads_1 (tag form n hv cut : Nat) (h1 : tag ≤ 255) (h2 : form ≤ 255) (h3 : n ≤ 4294967295) (h4 : hv ≤ 65535) (h5 : cut ≤ 255) (w : World) (hf : form % 5 = 1) : Calls Try.prog 8 #[.int .u8 tag, .int .u8 form, .int .u32 n, .int .u16 hv, .int .u8 cut] w (Ok w w) := by
  obtain ⟨v, hv1, hv2⟩ : ∃ v : Nat, (n : Int) % 262144 = (v : Int) ∧ v < 262144 := ⟨n % 262144, by omega, by omega⟩
  have HV := Lib.hid hv2
  clear hv2
  have hfi : (form : Int) % 5 = 1 := by omega
  obtain ⟨M, hM, hM2⟩ : ∃ M : Nat, (hv : Int) % 700 = (M : Int) ∧ M < 700 := ⟨hv % 700, by omega, by omega⟩
  have hM3 : Int.tmod (hv : Int) 700 = (M : Int) := by rw [Int.tmod_eq_emod_of_nonneg (by omega)]; exact hM
  obtain ⟨K, hK, hK2⟩ : ∃ K : Nat, (cut : Int) % 9 = (K : Int) ∧ K < 9 := ⟨cut % 9, by omega, by omega⟩
  obtain ⟨W1, hW1⟩ : ∃ W1 : World, ((w.alloc (.cells #[.int .u8 (tag : Int), .int .u8 ((v : Int) % 256)] 5)).alloc (.cells #[.int .u8 ((tag : Int)), .int .u8 (129), .int .u8 ((v : Int) % 256)] 5)) = W1 := ⟨_, rfl⟩
  have hblk : W1.heap[w.heap.size + 1]? = some (.cells (([((tag : Int)), (129), ((v : Int) % 256)] : List Int).map (Value.int .u8)).toArray 5) := by rw [← hW1]; have e := heap_alloc_new (w.alloc (.cells #[.int .u8 (tag : Int), .int .u8 ((v : Int) % 256)] 5)) (.cells (([((tag : Int)), (129), ((v : Int) % 256)] : List Int).map (Value.int .u8)).toArray 5); rw [World.size_alloc] at e; exact e
  have hg : w.heap.size + 1 < W1.heap.size := by rw [← hW1]; simp
  have hbe : Below w.heap.size w W1 := by rw [← hW1]; exact ((Below.refl _ _).alloc (Nat.le_refl _) _).alloc (by simp) _
  obtain ⟨S, hS, hSc⟩ := conv_ints [((tag : Int)), (129), ((v : Int) % 256)] hblk (by
    intro z hz
    have := HV.out
    simp only [List.mem_cons, List.not_mem_nil, or_false] at hz
    rcases hz with rfl | rfl | rfl
    all_goals omega)
  have hS : S.size = 3 := hS
  obtain ⟨X, hX⟩ : ∃ X, Obj.cells (madeCells #[Value.int .u8 0] M) 5 = X := ⟨_, rfl⟩
  have hmk : ∀ W : World, (Instr.makeSlice 30 (.int .u16 (M : Int)) (.int .u16 (M : Int))).run Try.prog W = .ok (.slice (some ⟨W.heap.size, 0, none⟩) M M) (W.alloc X) := fun W => by
    rw [← hX]
    exact run_make_row' (P := Try.prog) 30 5 (.int .u8 0) 1 Try.underlying30 info5 rfl .u16 .u16 M (by omega) (by omega) W
  obtain ⟨S2, hS2⟩ : ∃ S2 : ByteArray, (⟨(List.replicate M 0).toArray⟩ : ByteArray) = S2 := ⟨_, rfl⟩
  have hS2s : S2.size = M := by rw [← hS2, str_size]; simp
  have hcv1 : (convert 30 9 (.slice (some ⟨w.heap.size + 1, 0, none⟩) 3 3)).run Try.prog W1.drew = .ok (.string S) W1.drew := hSc W1.drew rfl
  have hcv2 : (convert 30 9 (.slice (some ⟨w.heap.size + 1, 0, none⟩) 3 3)).run Try.prog (W1.alloc X).drew = .ok (.string S) (W1.alloc X).drew := hSc (W1.alloc X).drew (heap_alloc2 W1 X _ hg)
  have hcv3 : (convert 30 9 (.slice (some ⟨W1.heap.size, 0, none⟩) M M)).run Try.prog (W1.alloc X).drew = .ok (.string S2) (W1.alloc X).drew := by
    rw [← hS2]
    exact conv_block (C := madeCells #[Value.int .u8 0] M) (by rw [← hX]; exact heap_alloc_new W1 _) (zero_vals2 M) (by simp)
  have c1 := fun W => same_any (S ++ S2) W (by rw [ByteArray.size_append]; omega)
  have c2 := fun (j : Nat) W => same_any ((S ++ S2).extract 0 j) W (by simp; omega)
  have C1 := Lib.hid c1
  have C2 := Lib.hid c2
  have HB := Lib.hid hbe
  have HX := Lib.hid hX
  have HW := Lib.hid hW1
  clear hS2 hSc hblk hX hf c1 c2 hbe hW1 hg
  go_enter Try.func8, Try.ntmps8
  go_upto_region 12 with (fail)
  rw [HW.out]
  go_region
  all_goals
    clear hcv1 hcv2 hcv3 hmk
    go_wp2_with fail
    refine (awake_any _).mono ?_
    rintro e w2 ⟨rfl, hb2⟩
    have hB1 : Below w.heap.size w (W1.alloc X).drew := (HB.out.alloc HB.out.size _).drew
    have hB2 := hB1.trans (hb2.mono hB1.size)
    go_wp2_with fail
    refine (C1.out _).mono ?_
    rintro e w3 ⟨rfl, hb3⟩
    have hB3 := hB2.trans (hb3.mono hB2.size)
    go_wp2_with fail
    refine (C2.out _ _).mono ?_
    rintro e w4 ⟨rfl, hb4⟩
    go_wp2_with fail
    go_ret
    exact ⟨rfl, hB3.trans (hb4.mono hB3.size)⟩

set_option maxRecDepth 100000 in
set_option maxHeartbeats 2000000 in
theorem heads_2 (tag form n hv cut : Nat) (h1 : tag ≤ 255) (h2 : form ≤ 255) (h3 : n ≤ 4294967295) (h4 : hv ≤ 65535) (h5 : cut ≤ 255) (w : World) (hf : form % 5 = 2) : Calls Try.prog 8 #[.int .u8 tag, .int .u8 form, .int .u32 n, .int .u16 hv, .int .u8 cut] w (Ok w w) := by
  obtain ⟨v, hv1, hv2⟩ : ∃ v : Nat, (n : Int) % 262144 = (v : Int) ∧ v < 262144 := ⟨n % 262144, by omega, by omega⟩
  have HV := Lib.hid hv2
  clear hv2
  have hfi : (form : Int) % 5 = 2 := by omega
  obtain ⟨M, hM, hM2⟩ : ∃ M : Nat, (hv : Int) % 700 = (M : Int) ∧ M < 700 := ⟨hv % 700, by omega, by omega⟩
  have hM3 : Int.tmod (hv : Int) 700 = (M : Int) := by rw [Int.tmod_eq_emod_of_nonneg (by omega)]; exact hM
  obtain ⟨K, hK, hK2⟩ : ∃ K : Nat, (cut : Int) % 9 = (K : Int) ∧ K < 9 := ⟨cut % 9, by omega, by omega⟩
  obtain ⟨W1, hW1⟩ : ∃ W1 : World, ((w.alloc (.cells #[.int .u8 (tag : Int), .int .u8 ((v : Int) % 256)] 5)).alloc (.cells #[.int .u8 ((tag : Int)), .int .u8 (130), .int .u8 ((v : Int) / 256 % 256), .int .u8 ((v : Int) % 256)] 5)) = W1 := ⟨_, rfl⟩
  have hblk : W1.heap[w.heap.size + 1]? = some (.cells (([((tag : Int)), (130), ((v : Int) / 256 % 256), ((v : Int) % 256)] : List Int).map (Value.int .u8)).toArray 5) := by rw [← hW1]; have e := heap_alloc_new (w.alloc (.cells #[.int .u8 (tag : Int), .int .u8 ((v : Int) % 256)] 5)) (.cells (([((tag : Int)), (130), ((v : Int) / 256 % 256), ((v : Int) % 256)] : List Int).map (Value.int .u8)).toArray 5); rw [World.size_alloc] at e; exact e
  have hg : w.heap.size + 1 < W1.heap.size := by rw [← hW1]; simp
  have hbe : Below w.heap.size w W1 := by rw [← hW1]; exact ((Below.refl _ _).alloc (Nat.le_refl _) _).alloc (by simp) _
  obtain ⟨S, hS, hSc⟩ := conv_ints [((tag : Int)), (130), ((v : Int) / 256 % 256), ((v : Int) % 256)] hblk (by
    intro z hz
    have := HV.out
    simp only [List.mem_cons, List.not_mem_nil, or_false] at hz
    rcases hz with rfl | rfl | rfl | rfl
    all_goals omega)
  have hS : S.size = 4 := hS
  obtain ⟨X, hX⟩ : ∃ X, Obj.cells (madeCells #[Value.int .u8 0] M) 5 = X := ⟨_, rfl⟩
  have hmk : ∀ W : World, (Instr.makeSlice 30 (.int .u16 (M : Int)) (.int .u16 (M : Int))).run Try.prog W = .ok (.slice (some ⟨W.heap.size, 0, none⟩) M M) (W.alloc X) := fun W => by
    rw [← hX]
    exact run_make_row' (P := Try.prog) 30 5 (.int .u8 0) 1 Try.underlying30 info5 rfl .u16 .u16 M (by omega) (by omega) W
  obtain ⟨S2, hS2⟩ : ∃ S2 : ByteArray, (⟨(List.replicate M 0).toArray⟩ : ByteArray) = S2 := ⟨_, rfl⟩
  have hS2s : S2.size = M := by rw [← hS2, str_size]; simp
  have hcv1 : (convert 30 9 (.slice (some ⟨w.heap.size + 1, 0, none⟩) 4 4)).run Try.prog W1.drew = .ok (.string S) W1.drew := hSc W1.drew rfl
  have hcv2 : (convert 30 9 (.slice (some ⟨w.heap.size + 1, 0, none⟩) 4 4)).run Try.prog (W1.alloc X).drew = .ok (.string S) (W1.alloc X).drew := hSc (W1.alloc X).drew (heap_alloc2 W1 X _ hg)
  have hcv3 : (convert 30 9 (.slice (some ⟨W1.heap.size, 0, none⟩) M M)).run Try.prog (W1.alloc X).drew = .ok (.string S2) (W1.alloc X).drew := by
    rw [← hS2]
    exact conv_block (C := madeCells #[Value.int .u8 0] M) (by rw [← hX]; exact heap_alloc_new W1 _) (zero_vals2 M) (by simp)
  have c1 := fun W => same_any (S ++ S2) W (by rw [ByteArray.size_append]; omega)
  have c2 := fun (j : Nat) W => same_any ((S ++ S2).extract 0 j) W (by simp; omega)
  have C1 := Lib.hid c1
  have C2 := Lib.hid c2
  have HB := Lib.hid hbe
  have HX := Lib.hid hX
  have HW := Lib.hid hW1
  clear hS2 hSc hblk hX hf c1 c2 hbe hW1 hg
  go_enter Try.func8, Try.ntmps8
  go_upto_region 12 with (fail)
  rw [HW.out]
  go_region
  all_goals
    clear hcv1 hcv2 hcv3 hmk
    go_wp2_with fail
    refine (awake_any _).mono ?_
    rintro e w2 ⟨rfl, hb2⟩
    have hB1 : Below w.heap.size w (W1.alloc X).drew := (HB.out.alloc HB.out.size _).drew
    have hB2 := hB1.trans (hb2.mono hB1.size)
    go_wp2_with fail
    refine (C1.out _).mono ?_
    rintro e w3 ⟨rfl, hb3⟩
    have hB3 := hB2.trans (hb3.mono hB2.size)
    go_wp2_with fail
    refine (C2.out _ _).mono ?_
    rintro e w4 ⟨rfl, hb4⟩
    go_wp2_with fail
    go_ret
    exact ⟨rfl, hB3.trans (hb4.mono hB3.size)⟩

set_option maxRecDepth 100000 in
set_option maxHeartbeats 2000000 in
theorem heads_3 (tag form n hv cut : Nat) (h1 : tag ≤ 255) (h2 : form ≤ 255) (h3 : n ≤ 4294967295) (h4 : hv ≤ 65535) (h5 : cut ≤ 255) (w : World) (hf : form % 5 = 3) : Calls Try.prog 8 #[.int .u8 tag, .int .u8 form, .int .u32 n, .int .u16 hv, .int .u8 cut] w (Ok w w) := by
  obtain ⟨v, hv1, hv2⟩ : ∃ v : Nat, (n : Int) % 262144 = (v : Int) ∧ v < 262144 := ⟨n % 262144, by omega, by omega⟩
  have HV := Lib.hid hv2
  clear hv2
  have hfi : (form : Int) % 5 = 3 := by omega
  obtain ⟨M, hM, hM2⟩ : ∃ M : Nat, (hv : Int) % 700 = (M : Int) ∧ M < 700 := ⟨hv % 700, by omega, by omega⟩
  have hM3 : Int.tmod (hv : Int) 700 = (M : Int) := by rw [Int.tmod_eq_emod_of_nonneg (by omega)]; exact hM
  obtain ⟨K, hK, hK2⟩ : ∃ K : Nat, (cut : Int) % 9 = (K : Int) ∧ K < 9 := ⟨cut % 9, by omega, by omega⟩
  obtain ⟨W1, hW1⟩ : ∃ W1 : World, ((w.alloc (.cells #[.int .u8 (tag : Int), .int .u8 ((v : Int) % 256)] 5)).alloc (.cells #[.int .u8 ((tag : Int)), .int .u8 (131), .int .u8 ((v : Int) / 65536), .int .u8 ((v : Int) / 256 % 256), .int .u8 ((v : Int) % 256)] 5)) = W1 := ⟨_, rfl⟩
  have hblk : W1.heap[w.heap.size + 1]? = some (.cells (([((tag : Int)), (131), ((v : Int) / 65536), ((v : Int) / 256 % 256), ((v : Int) % 256)] : List Int).map (Value.int .u8)).toArray 5) := by rw [← hW1]; have e := heap_alloc_new (w.alloc (.cells #[.int .u8 (tag : Int), .int .u8 ((v : Int) % 256)] 5)) (.cells (([((tag : Int)), (131), ((v : Int) / 65536), ((v : Int) / 256 % 256), ((v : Int) % 256)] : List Int).map (Value.int .u8)).toArray 5); rw [World.size_alloc] at e; exact e
  have hg : w.heap.size + 1 < W1.heap.size := by rw [← hW1]; simp
  have hbe : Below w.heap.size w W1 := by rw [← hW1]; exact ((Below.refl _ _).alloc (Nat.le_refl _) _).alloc (by simp) _
  obtain ⟨S, hS, hSc⟩ := conv_ints [((tag : Int)), (131), ((v : Int) / 65536), ((v : Int) / 256 % 256), ((v : Int) % 256)] hblk (by
    intro z hz
    have := HV.out
    simp only [List.mem_cons, List.not_mem_nil, or_false] at hz
    rcases hz with rfl | rfl | rfl | rfl | rfl
    all_goals omega)
  have hS : S.size = 5 := hS
  obtain ⟨X, hX⟩ : ∃ X, Obj.cells (madeCells #[Value.int .u8 0] M) 5 = X := ⟨_, rfl⟩
  have hmk : ∀ W : World, (Instr.makeSlice 30 (.int .u16 (M : Int)) (.int .u16 (M : Int))).run Try.prog W = .ok (.slice (some ⟨W.heap.size, 0, none⟩) M M) (W.alloc X) := fun W => by
    rw [← hX]
    exact run_make_row' (P := Try.prog) 30 5 (.int .u8 0) 1 Try.underlying30 info5 rfl .u16 .u16 M (by omega) (by omega) W
  obtain ⟨S2, hS2⟩ : ∃ S2 : ByteArray, (⟨(List.replicate M 0).toArray⟩ : ByteArray) = S2 := ⟨_, rfl⟩
  have hS2s : S2.size = M := by rw [← hS2, str_size]; simp
  have hcv1 : (convert 30 9 (.slice (some ⟨w.heap.size + 1, 0, none⟩) 5 5)).run Try.prog W1.drew = .ok (.string S) W1.drew := hSc W1.drew rfl
  have hcv2 : (convert 30 9 (.slice (some ⟨w.heap.size + 1, 0, none⟩) 5 5)).run Try.prog (W1.alloc X).drew = .ok (.string S) (W1.alloc X).drew := hSc (W1.alloc X).drew (heap_alloc2 W1 X _ hg)
  have hcv3 : (convert 30 9 (.slice (some ⟨W1.heap.size, 0, none⟩) M M)).run Try.prog (W1.alloc X).drew = .ok (.string S2) (W1.alloc X).drew := by
    rw [← hS2]
    exact conv_block (C := madeCells #[Value.int .u8 0] M) (by rw [← hX]; exact heap_alloc_new W1 _) (zero_vals2 M) (by simp)
  have c1 := fun W => same_any (S ++ S2) W (by rw [ByteArray.size_append]; omega)
  have c2 := fun (j : Nat) W => same_any ((S ++ S2).extract 0 j) W (by simp; omega)
  have C1 := Lib.hid c1
  have C2 := Lib.hid c2
  have HB := Lib.hid hbe
  have HX := Lib.hid hX
  have HW := Lib.hid hW1
  clear hS2 hSc hblk hX hf c1 c2 hbe hW1 hg
  go_enter Try.func8, Try.ntmps8
  go_upto_region 12 with (fail)
  rw [HW.out]
  go_region
  all_goals
    clear hcv1 hcv2 hcv3 hmk
    go_wp2_with fail
    refine (awake_any _).mono ?_
    rintro e w2 ⟨rfl, hb2⟩
    have hB1 : Below w.heap.size w (W1.alloc X).drew := (HB.out.alloc HB.out.size _).drew
    have hB2 := hB1.trans (hb2.mono hB1.size)
    go_wp2_with fail
    refine (C1.out _).mono ?_
    rintro e w3 ⟨rfl, hb3⟩
    have hB3 := hB2.trans (hb3.mono hB2.size)
    go_wp2_with fail
    refine (C2.out _ _).mono ?_
    rintro e w4 ⟨rfl, hb4⟩
    go_wp2_with fail
    go_ret
    exact ⟨rfl, hB3.trans (hb4.mono hB3.size)⟩

set_option maxRecDepth 100000 in
set_option maxHeartbeats 2000000 in
theorem heads_4 (tag form n hv cut : Nat) (h1 : tag ≤ 255) (h2 : form ≤ 255) (h3 : n ≤ 4294967295) (h4 : hv ≤ 65535) (h5 : cut ≤ 255) (w : World) (hf : form % 5 = 4) : Calls Try.prog 8 #[.int .u8 tag, .int .u8 form, .int .u32 n, .int .u16 hv, .int .u8 cut] w (Ok w w) := by
  obtain ⟨v, hv1, hv2⟩ : ∃ v : Nat, (n : Int) % 262144 = (v : Int) ∧ v < 262144 := ⟨n % 262144, by omega, by omega⟩
  have HV := Lib.hid hv2
  clear hv2
  have hfi : (form : Int) % 5 = 4 := by omega
  obtain ⟨M, hM, hM2⟩ : ∃ M : Nat, (hv : Int) % 700 = (M : Int) ∧ M < 700 := ⟨hv % 700, by omega, by omega⟩
  have hM3 : Int.tmod (hv : Int) 700 = (M : Int) := by rw [Int.tmod_eq_emod_of_nonneg (by omega)]; exact hM
  obtain ⟨K, hK, hK2⟩ : ∃ K : Nat, (cut : Int) % 9 = (K : Int) ∧ K < 9 := ⟨cut % 9, by omega, by omega⟩
  obtain ⟨W1, hW1⟩ : ∃ W1 : World, ((w.alloc (.cells #[.int .u8 (tag : Int), .int .u8 ((v : Int) % 256)] 5)).alloc (.cells #[.int .u8 ((tag : Int)), .int .u8 ((form : Int)), .int .u8 ((v : Int) / 16777216), .int .u8 ((v : Int) / 65536), .int .u8 ((v : Int) / 256 % 256), .int .u8 ((v : Int) % 256)] 5)) = W1 := ⟨_, rfl⟩
  have hblk : W1.heap[w.heap.size + 1]? = some (.cells (([((tag : Int)), ((form : Int)), ((v : Int) / 16777216), ((v : Int) / 65536), ((v : Int) / 256 % 256), ((v : Int) % 256)] : List Int).map (Value.int .u8)).toArray 5) := by rw [← hW1]; have e := heap_alloc_new (w.alloc (.cells #[.int .u8 (tag : Int), .int .u8 ((v : Int) % 256)] 5)) (.cells (([((tag : Int)), ((form : Int)), ((v : Int) / 16777216), ((v : Int) / 65536), ((v : Int) / 256 % 256), ((v : Int) % 256)] : List Int).map (Value.int .u8)).toArray 5); rw [World.size_alloc] at e; exact e
  have hg : w.heap.size + 1 < W1.heap.size := by rw [← hW1]; simp
  have hbe : Below w.heap.size w W1 := by rw [← hW1]; exact ((Below.refl _ _).alloc (Nat.le_refl _) _).alloc (by simp) _
  obtain ⟨S, hS, hSc⟩ := conv_ints [((tag : Int)), ((form : Int)), ((v : Int) / 16777216), ((v : Int) / 65536), ((v : Int) / 256 % 256), ((v : Int) % 256)] hblk (by
    intro z hz
    have := HV.out
    simp only [List.mem_cons, List.not_mem_nil, or_false] at hz
    rcases hz with rfl | rfl | rfl | rfl | rfl | rfl
    all_goals omega)
  have hS : S.size = 6 := hS
  obtain ⟨X, hX⟩ : ∃ X, Obj.cells (madeCells #[Value.int .u8 0] M) 5 = X := ⟨_, rfl⟩
  have hmk : ∀ W : World, (Instr.makeSlice 30 (.int .u16 (M : Int)) (.int .u16 (M : Int))).run Try.prog W = .ok (.slice (some ⟨W.heap.size, 0, none⟩) M M) (W.alloc X) := fun W => by
    rw [← hX]
    exact run_make_row' (P := Try.prog) 30 5 (.int .u8 0) 1 Try.underlying30 info5 rfl .u16 .u16 M (by omega) (by omega) W
  obtain ⟨S2, hS2⟩ : ∃ S2 : ByteArray, (⟨(List.replicate M 0).toArray⟩ : ByteArray) = S2 := ⟨_, rfl⟩
  have hS2s : S2.size = M := by rw [← hS2, str_size]; simp
  have hcv1 : (convert 30 9 (.slice (some ⟨w.heap.size + 1, 0, none⟩) 6 6)).run Try.prog W1.drew = .ok (.string S) W1.drew := hSc W1.drew rfl
  have hcv2 : (convert 30 9 (.slice (some ⟨w.heap.size + 1, 0, none⟩) 6 6)).run Try.prog (W1.alloc X).drew = .ok (.string S) (W1.alloc X).drew := hSc (W1.alloc X).drew (heap_alloc2 W1 X _ hg)
  have hcv3 : (convert 30 9 (.slice (some ⟨W1.heap.size, 0, none⟩) M M)).run Try.prog (W1.alloc X).drew = .ok (.string S2) (W1.alloc X).drew := by
    rw [← hS2]
    exact conv_block (C := madeCells #[Value.int .u8 0] M) (by rw [← hX]; exact heap_alloc_new W1 _) (zero_vals2 M) (by simp)
  have c1 := fun W => same_any (S ++ S2) W (by rw [ByteArray.size_append]; omega)
  have c2 := fun (j : Nat) W => same_any ((S ++ S2).extract 0 j) W (by simp; omega)
  have C1 := Lib.hid c1
  have C2 := Lib.hid c2
  have HB := Lib.hid hbe
  have HX := Lib.hid hX
  have HW := Lib.hid hW1
  clear hS2 hSc hblk hX hf c1 c2 hbe hW1 hg
  go_enter Try.func8, Try.ntmps8
  go_upto_region 12 with (fail)
  rw [HW.out]
  go_region
  all_goals
    clear hcv1 hcv2 hcv3 hmk
    go_wp2_with fail
    refine (awake_any _).mono ?_
    rintro e w2 ⟨rfl, hb2⟩
    have hB1 : Below w.heap.size w (W1.alloc X).drew := (HB.out.alloc HB.out.size _).drew
    have hB2 := hB1.trans (hb2.mono hB1.size)
    go_wp2_with fail
    refine (C1.out _).mono ?_
    rintro e w3 ⟨rfl, hb3⟩
    have hB3 := hB2.trans (hb3.mono hB2.size)
    go_wp2_with fail
    refine (C2.out _ _).mono ?_
    rintro e w4 ⟨rfl, hb4⟩
    go_wp2_with fail
    go_ret
    exact ⟨rfl, hB3.trans (hb4.mono hB3.size)⟩

theorem law_TlvHeads (tag form n hv cut : Nat) (h1 : tag ≤ 255) (h2 : form ≤ 255) (h3 : n ≤ 4294967295) (h4 : hv ≤ 65535) (h5 : cut ≤ 255) (w : World) : Calls Try.prog 8 #[.int .u8 tag, .int .u8 form, .int .u32 n, .int .u16 hv, .int .u8 cut] w (Ok w w) := by
  have hf : form % 5 = 0 ∨ form % 5 = 1 ∨ form % 5 = 2 ∨ form % 5 = 3 ∨ form % 5 = 4 := by omega
  rcases hf with hf | hf | hf | hf | hf
  · exact heads_0 tag form n hv cut h1 h2 h3 h4 h5 w hf
  · exact heads_1 tag form n hv cut h1 h2 h3 h4 h5 w hf
  · exact heads_2 tag form n hv cut h1 h2 h3 h4 h5 w hf
  · exact heads_3 tag form n hv cut h1 h2 h3 h4 h5 w hf
  · exact heads_4 tag form n hv cut h1 h2 h3 h4 h5 w hf
end Go.Proofs.Ytpcdbgfhlghocaa
