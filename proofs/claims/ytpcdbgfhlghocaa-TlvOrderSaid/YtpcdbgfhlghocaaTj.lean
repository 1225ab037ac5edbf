import Derived.Test.YtpcdbgfhlghocaaTi
namespace Go.Proofs.Ytpcdbgfhlghocaa
set_option linter.unusedVariables false
set_option linter.unusedSimpArgs false
open Go.RowKit

theorem zero_vals (n : Nat) : (madeCells (Value.int .u8 0).cells (n * 1)).toList = byteVals (List.replicate n 0) := by
  rw [Nat.mul_one]
  unfold madeCells byteVals
  apply List.ext_getElem
  · simp [Value.cells]
  · intro i h1 h2
    have h3 : i % 1 = 0 := Nat.mod_one i
    simp [Value.cells, h3]

/-- Wrap of two strings in new memory. -/
theorem wrap_two (t : Int) (x y : ByteArray) (hx : x.size ≤ maxLen) (hy : y.size ≤ maxLen) (w : World) (blk : Nat) (hb : blk = w.heap.size) :
    Calls Try.prog 13 #[.int .i64 t, .slice (some ⟨blk, 0, none⟩) 2 2] (w.alloc (.cells #[.string x, .string y] 9)) fun e w' => e = .returned (valW (wrp t [x, y])) ∧ Below (w.heap.size + 1) (w.alloc (.cells #[.string x, .string y] 9)) w' := by
  subst hb
  have h := wrap_any t 2 (some ⟨w.heap.size, 0, none⟩) 2 [x, y] (w.alloc (.cells #[.string x, .string y] 9)) (StrRow.lit w [x, y]) rfl (by simp) (by simp) (by intro z hz; simp at hz; rcases hz with rfl | rfl <;> assumption)
  simpa using h
theorem wrap_two_drew (t : Int) (x y : ByteArray) (hx : x.size ≤ maxLen) (hy : y.size ≤ maxLen) (w : World) (blk : Nat) (hb : blk = w.heap.size) :
    Calls Try.prog 13 #[.int .i64 t, .slice (some ⟨blk, 0, none⟩) 2 2] (w.alloc (.cells #[.string x, .string y] 9)).drew fun e w' => e = .returned (valW (wrp t [x, y])) ∧ Below (w.heap.size + 1) (w.alloc (.cells #[.string x, .string y] 9)).drew w' :=
  wrap_two t x y hx hy w.drew blk hb
theorem rwrap_one (t : Int) (x : ByteArray) (hx : x.size ≤ 140737488355328) (w : World) (blk : Nat) (hb : blk = w.heap.size) :
    Calls Try.prog 14 #[.int .i64 t, .slice (some ⟨blk, 0, none⟩) 1 1] (w.alloc (.cells #[.string x] 9)) fun e w' => e = .returned (valW (wrp t [x])) ∧ Below (w.heap.size + 1) (w.alloc (.cells #[.string x] 9)) w' := by
  subst hb
  have h := rwrap_any t 1 (some ⟨w.heap.size, 0, none⟩) 1 [x] (w.alloc (.cells #[.string x] 9)) (StrRow.lit w [x]) rfl (by simp) (by simp [tot]; exact hx)
  simpa using h

/-- What Wrap answers for a string in two halves. -/
theorem wrp_halves (t : Int) (C : ByteArray) (k : Nat) (hk : k ≤ C.size) : wrp t [C.extract 0 k, C.extract k C.size] = wrp t [C] := by
  have h1 : tot [C.extract 0 k, C.extract k C.size] = tot [C] := by simp [tot]; omega
  have h2 : cat [C.extract 0 k, C.extract k C.size] = cat [C] := by
    simp only [cat, List.map_cons, List.map_nil, List.flatten_cons, List.flatten_nil, List.append_nil]
    rw [ext_list, ext_list, List.drop_zero, List.take_of_length_le (l := C.data.toList) (i := C.size) (by simp), List.take_append_drop]
  unfold wrp
  rw [h1, h2]

theorem wrap_one_read (C : ByteArray) (h : C.size ≤ 131072) : ∃ S, wrp 4 [C] = (S, 0) ∧ one S = (4, C, S, 0) ∧ S.size ≤ 200000 := by
  obtain ⟨r1, r2⟩ := wrap_read (t := 4) (c := C) (b := ⟨#[]⟩) (by omega) (by omega) h
  refine ⟨(wrp 4 [C]).1, Prod.ext rfl r2, ?_, ?_⟩
  · have e : (wrp ((4 : Nat) : Int) [C]).1 ++ (⟨#[]⟩ : ByteArray) = (wrp 4 [C]).1 := by
      apply ByteArray.ext
      simp [ByteArray.data_append]
    rw [e] at r1
    unfold one
    rw [r1]
    rw [if_neg (by simp), if_neg (show ¬ ((⟨#[]⟩ : ByteArray).size ≠ 0) by decide)]
    rfl
  · unfold wrp
    have htot : tot [C] = C.size := by simp [tot]
    rw [if_neg (by omega), if_neg (by omega), str_size, List.length_append, cat_length]
    have := hdr_len (4 : Int).toNat (tot [C])
    omega

theorem info5' : (Try.prog.info? 5).map (fun i => (i.zero, i.size, i.bytes)) = some (some (.int .u8 0), 1, 1) := by kernel_rfl

set_option maxRecDepth 100000 in
set_option maxHeartbeats 2000000 in
theorem long_0 (a b : Nat) (ha : a ≤ 255) (hb : b ≤ 255) (w : World) (h4 : a % 4 = 0) : Calls Try.prog 4 #[.int .u8 a, .int .u8 b] w (Ok w w) := by
  obtain ⟨i0, hi, hz0, hz1, hz2⟩ := info_parts info5
  have h4i : (a : Int) % 4 = 0 := by omega
  obtain ⟨N, hN, hN2⟩ : ∃ N : Nat, 125 + (b : Int) % 5 = (N : Int) ∧ N ≤ 140000 := ⟨125 + b % 5, by omega, by omega⟩
  obtain ⟨C, hC, hCs⟩ : ∃ C : ByteArray, (⟨(List.replicate N 0).toArray⟩ : ByteArray) = C ∧ C.size = N := ⟨_, rfl, by rw [str_size]; simp⟩
  have hN3 : 0 < N := by omega
  obtain ⟨Q, hQ⟩ : ∃ Q : Nat, N / 2 = Q := ⟨_, rfl⟩
  have hCN : Q ≤ C.size := by omega
  have hq1 : Int.tdiv (N : Int) 2 = (Q : Int) := by rw [Int.tdiv_eq_ediv_of_nonneg (by omega)]; omega
  have hq2 : (N : Int) / 2 = (Q : Int) := by omega
  have hq3 : IntKind.i64.wrap (Q : Int) = (Q : Int) := wraps_i64 _ (by omega) (by omega)
  have hCl : C.size ≤ 140000 := by omega
  have hhalf := wrp_halves 4 C Q hCN
  have c1 := fun W blk h => wrap_two_drew 4 (C.extract 0 Q) (C.extract Q C.size) (by simp; unfold maxLen; omega) (by simp; unfold maxLen; omega) W blk h
  have c2 := fun W blk h => rwrap_one 4 C (by omega) W blk h
  rw [hhalf] at c1
  have HC := Lib.hid hC
  clear hC hhalf ha hb hQ
  have hbig : ¬ 131072 < N := by omega
  obtain ⟨S, hR, hO, hSz⟩ := wrap_one_read C (by omega)
  have c3 := fun W => one_any S W (by unfold maxLen; omega)
  rw [hO] at c3
  rw [hR] at c1 c2
  unfold valW at c1 c2
  unfold valO at c3
  have C1 := Lib.hid c1
  have C2 := Lib.hid c2
  have C3 := Lib.hid c3
  clear c1 c2 c3 hR hO hCs
  go_enter Try.func4, Try.ntmps4
  go_wp2_with (at_make; go_loud (refine wpList_make_full _ rfl _ _ 30 rfl (w.heap.size + 1) 5 i0 (.int .u8 0) 1 Try.underlying30 hi hz0 hz1 .i64 .i64 _ _ N rfl rfl rfl rfl (by rw [hz2]; omega) (by unfold maxLen; omega) (by simp) ?_); intro w1 hown1 hg1; have hcv : (convert 30 9 (.slice (some ⟨w.heap.size + 1, 0, none⟩) N N)).run Try.prog w1 = .ok (.string C) w1 := by have h := conv_own (l := List.replicate N 0) (by rw [← zero_vals]; exact hown1) (by omega); rw [HC.out] at h; simpa using h)
  clear hN h4i h4
  have hb1 : Below w.heap.size w w1 := ((Below.refl _ _).alloc (Nat.le_refl _) _).grown hg1 (by simp) (fun k hk => by cases hk)
  clear hown1 hg1 hcv
  have hs1 : ∀ W, (Instr.slice 9 (.string C) none (some (.int .i64 (Q : Int))) none).run Try.prog W = .ok (.string (C.extract 0 Q)) W := fun W => by rw [run_slice_string_to_if (P := Try.prog) W 9 C .i64 (Q : Int) Try.underlying9, if_pos (by omega)]; rfl
  have hs2 : ∀ W, (Instr.slice 9 (.string C) (some (.int .i64 (Q : Int))) none none).run Try.prog W = .ok (.string (C.extract Q C.size)) W := fun W => by rw [run_slice_string_from_if (P := Try.prog) W 9 C .i64 (Q : Int) Try.underlying9, if_pos (by omega)]; rfl
  go_region_with (go_at_call 13; refine (C1.out _ _ (by simp)).mono ?_; rintro e w2 ⟨rfl, hb2⟩)
  clear hs1 hs2 hq1 hq2 hq3
  have hb2' : Below w.heap.size w w2 := (hb1.alloc hb1.size _).drew.trans (hb2.mono (by have := hb1.size; omega))
  go_wp2_with fail
  refine (C2.out _ _ (by simp)).mono ?_
  rintro e w3 ⟨rfl, hb3⟩
  have hb3' : Below w.heap.size w w3 := (hb2'.alloc hb2'.size _).trans (hb3.mono (by have := hb2'.size; simp; omega))
  go_wp2_with fail
  refine (C3.out _).mono ?_
  rintro e w4 ⟨rfl, hb4⟩
  have hb4' : Below w.heap.size w w4 := hb3'.trans (hb4.mono hb3'.size)
  go_wp2_with fail
  refine (awake_any _).mono ?_
  rintro e w5 ⟨rfl, hb5⟩
  obtain ⟨hc5, hf5⟩ := bcell hb5
  go_wp2_with fail
  go_ret
  exact ⟨rfl, (hb4'.alloc hb4'.size _).trans (hb5.mono (by have := hb4'.size; simp; omega))⟩

set_option maxRecDepth 100000 in
set_option maxHeartbeats 2000000 in
theorem long_1 (a b : Nat) (ha : a ≤ 255) (hb : b ≤ 255) (w : World) (h4 : a % 4 = 1) : Calls Try.prog 4 #[.int .u8 a, .int .u8 b] w (Ok w w) := by
  obtain ⟨i0, hi, hz0, hz1, hz2⟩ := info_parts info5
  have h4i : (a : Int) % 4 = 1 := by omega
  obtain ⟨N, hN, hN2⟩ : ∃ N : Nat, 253 + (b : Int) % 5 = (N : Int) ∧ N ≤ 140000 := ⟨253 + b % 5, by omega, by omega⟩
  obtain ⟨C, hC, hCs⟩ : ∃ C : ByteArray, (⟨(List.replicate N 0).toArray⟩ : ByteArray) = C ∧ C.size = N := ⟨_, rfl, by rw [str_size]; simp⟩
  have hN3 : 0 < N := by omega
  obtain ⟨Q, hQ⟩ : ∃ Q : Nat, N / 2 = Q := ⟨_, rfl⟩
  have hCN : Q ≤ C.size := by omega
  have hq1 : Int.tdiv (N : Int) 2 = (Q : Int) := by rw [Int.tdiv_eq_ediv_of_nonneg (by omega)]; omega
  have hq2 : (N : Int) / 2 = (Q : Int) := by omega
  have hq3 : IntKind.i64.wrap (Q : Int) = (Q : Int) := wraps_i64 _ (by omega) (by omega)
  have hCl : C.size ≤ 140000 := by omega
  have hhalf := wrp_halves 4 C Q hCN
  have c1 := fun W blk h => wrap_two_drew 4 (C.extract 0 Q) (C.extract Q C.size) (by simp; unfold maxLen; omega) (by simp; unfold maxLen; omega) W blk h
  have c2 := fun W blk h => rwrap_one 4 C (by omega) W blk h
  rw [hhalf] at c1
  have HC := Lib.hid hC
  clear hC hhalf ha hb hQ
  have hbig : ¬ 131072 < N := by omega
  obtain ⟨S, hR, hO, hSz⟩ := wrap_one_read C (by omega)
  have c3 := fun W => one_any S W (by unfold maxLen; omega)
  rw [hO] at c3
  rw [hR] at c1 c2
  unfold valW at c1 c2
  unfold valO at c3
  have C1 := Lib.hid c1
  have C2 := Lib.hid c2
  have C3 := Lib.hid c3
  clear c1 c2 c3 hR hO hCs
  go_enter Try.func4, Try.ntmps4
  go_wp2_with (at_make; go_loud (refine wpList_make_full _ rfl _ _ 30 rfl (w.heap.size + 1) 5 i0 (.int .u8 0) 1 Try.underlying30 hi hz0 hz1 .i64 .i64 _ _ N rfl rfl rfl rfl (by rw [hz2]; omega) (by unfold maxLen; omega) (by simp) ?_); intro w1 hown1 hg1; have hcv : (convert 30 9 (.slice (some ⟨w.heap.size + 1, 0, none⟩) N N)).run Try.prog w1 = .ok (.string C) w1 := by have h := conv_own (l := List.replicate N 0) (by rw [← zero_vals]; exact hown1) (by omega); rw [HC.out] at h; simpa using h)
  clear hN h4i h4
  have hb1 : Below w.heap.size w w1 := ((Below.refl _ _).alloc (Nat.le_refl _) _).grown hg1 (by simp) (fun k hk => by cases hk)
  clear hown1 hg1 hcv
  have hs1 : ∀ W, (Instr.slice 9 (.string C) none (some (.int .i64 (Q : Int))) none).run Try.prog W = .ok (.string (C.extract 0 Q)) W := fun W => by rw [run_slice_string_to_if (P := Try.prog) W 9 C .i64 (Q : Int) Try.underlying9, if_pos (by omega)]; rfl
  have hs2 : ∀ W, (Instr.slice 9 (.string C) (some (.int .i64 (Q : Int))) none none).run Try.prog W = .ok (.string (C.extract Q C.size)) W := fun W => by rw [run_slice_string_from_if (P := Try.prog) W 9 C .i64 (Q : Int) Try.underlying9, if_pos (by omega)]; rfl
  go_region_with (go_at_call 13; refine (C1.out _ _ (by simp)).mono ?_; rintro e w2 ⟨rfl, hb2⟩)
  clear hs1 hs2 hq1 hq2 hq3
  have hb2' : Below w.heap.size w w2 := (hb1.alloc hb1.size _).drew.trans (hb2.mono (by have := hb1.size; omega))
  go_wp2_with fail
  refine (C2.out _ _ (by simp)).mono ?_
  rintro e w3 ⟨rfl, hb3⟩
  have hb3' : Below w.heap.size w w3 := (hb2'.alloc hb2'.size _).trans (hb3.mono (by have := hb2'.size; simp; omega))
  go_wp2_with fail
  refine (C3.out _).mono ?_
  rintro e w4 ⟨rfl, hb4⟩
  have hb4' : Below w.heap.size w w4 := hb3'.trans (hb4.mono hb3'.size)
  go_wp2_with fail
  refine (awake_any _).mono ?_
  rintro e w5 ⟨rfl, hb5⟩
  obtain ⟨hc5, hf5⟩ := bcell hb5
  go_wp2_with fail
  go_ret
  exact ⟨rfl, (hb4'.alloc hb4'.size _).trans (hb5.mono (by have := hb4'.size; simp; omega))⟩

set_option maxRecDepth 100000 in
set_option maxHeartbeats 2000000 in
theorem long_2 (a b : Nat) (ha : a ≤ 255) (hb : b ≤ 255) (w : World) (h4 : a % 4 = 2) : Calls Try.prog 4 #[.int .u8 a, .int .u8 b] w (Ok w w) := by
  obtain ⟨i0, hi, hz0, hz1, hz2⟩ := info_parts info5
  have h4i : (a : Int) % 4 = 2 := by omega
  obtain ⟨N, hN, hN2⟩ : ∃ N : Nat, 65533 + (b : Int) % 5 = (N : Int) ∧ N ≤ 140000 := ⟨65533 + b % 5, by omega, by omega⟩
  obtain ⟨C, hC, hCs⟩ : ∃ C : ByteArray, (⟨(List.replicate N 0).toArray⟩ : ByteArray) = C ∧ C.size = N := ⟨_, rfl, by rw [str_size]; simp⟩
  have hN3 : 0 < N := by omega
  obtain ⟨Q, hQ⟩ : ∃ Q : Nat, N / 2 = Q := ⟨_, rfl⟩
  have hCN : Q ≤ C.size := by omega
  have hq1 : Int.tdiv (N : Int) 2 = (Q : Int) := by rw [Int.tdiv_eq_ediv_of_nonneg (by omega)]; omega
  have hq2 : (N : Int) / 2 = (Q : Int) := by omega
  have hq3 : IntKind.i64.wrap (Q : Int) = (Q : Int) := wraps_i64 _ (by omega) (by omega)
  have hCl : C.size ≤ 140000 := by omega
  have hhalf := wrp_halves 4 C Q hCN
  have c1 := fun W blk h => wrap_two_drew 4 (C.extract 0 Q) (C.extract Q C.size) (by simp; unfold maxLen; omega) (by simp; unfold maxLen; omega) W blk h
  have c2 := fun W blk h => rwrap_one 4 C (by omega) W blk h
  rw [hhalf] at c1
  have HC := Lib.hid hC
  clear hC hhalf ha hb hQ
  have hbig : ¬ 131072 < N := by omega
  obtain ⟨S, hR, hO, hSz⟩ := wrap_one_read C (by omega)
  have c3 := fun W => one_any S W (by unfold maxLen; omega)
  rw [hO] at c3
  rw [hR] at c1 c2
  unfold valW at c1 c2
  unfold valO at c3
  have C1 := Lib.hid c1
  have C2 := Lib.hid c2
  have C3 := Lib.hid c3
  clear c1 c2 c3 hR hO hCs
  go_enter Try.func4, Try.ntmps4
  go_wp2_with (at_make; go_loud (refine wpList_make_full _ rfl _ _ 30 rfl (w.heap.size + 1) 5 i0 (.int .u8 0) 1 Try.underlying30 hi hz0 hz1 .i64 .i64 _ _ N rfl rfl rfl rfl (by rw [hz2]; omega) (by unfold maxLen; omega) (by simp) ?_); intro w1 hown1 hg1; have hcv : (convert 30 9 (.slice (some ⟨w.heap.size + 1, 0, none⟩) N N)).run Try.prog w1 = .ok (.string C) w1 := by have h := conv_own (l := List.replicate N 0) (by rw [← zero_vals]; exact hown1) (by omega); rw [HC.out] at h; simpa using h)
  clear hN h4i h4
  have hb1 : Below w.heap.size w w1 := ((Below.refl _ _).alloc (Nat.le_refl _) _).grown hg1 (by simp) (fun k hk => by cases hk)
  clear hown1 hg1 hcv
  have hs1 : ∀ W, (Instr.slice 9 (.string C) none (some (.int .i64 (Q : Int))) none).run Try.prog W = .ok (.string (C.extract 0 Q)) W := fun W => by rw [run_slice_string_to_if (P := Try.prog) W 9 C .i64 (Q : Int) Try.underlying9, if_pos (by omega)]; rfl
  have hs2 : ∀ W, (Instr.slice 9 (.string C) (some (.int .i64 (Q : Int))) none none).run Try.prog W = .ok (.string (C.extract Q C.size)) W := fun W => by rw [run_slice_string_from_if (P := Try.prog) W 9 C .i64 (Q : Int) Try.underlying9, if_pos (by omega)]; rfl
  go_region_with (go_at_call 13; refine (C1.out _ _ (by simp)).mono ?_; rintro e w2 ⟨rfl, hb2⟩)
  clear hs1 hs2 hq1 hq2 hq3
  have hb2' : Below w.heap.size w w2 := (hb1.alloc hb1.size _).drew.trans (hb2.mono (by have := hb1.size; omega))
  go_wp2_with fail
  refine (C2.out _ _ (by simp)).mono ?_
  rintro e w3 ⟨rfl, hb3⟩
  have hb3' : Below w.heap.size w w3 := (hb2'.alloc hb2'.size _).trans (hb3.mono (by have := hb2'.size; simp; omega))
  go_wp2_with fail
  refine (C3.out _).mono ?_
  rintro e w4 ⟨rfl, hb4⟩
  have hb4' : Below w.heap.size w w4 := hb3'.trans (hb4.mono hb3'.size)
  go_wp2_with fail
  refine (awake_any _).mono ?_
  rintro e w5 ⟨rfl, hb5⟩
  obtain ⟨hc5, hf5⟩ := bcell hb5
  go_wp2_with fail
  go_ret
  exact ⟨rfl, (hb4'.alloc hb4'.size _).trans (hb5.mono (by have := hb4'.size; simp; omega))⟩

set_option maxRecDepth 100000 in
set_option maxHeartbeats 2000000 in
theorem long_3 (a b : Nat) (ha : a ≤ 255) (hb : b ≤ 255) (w : World) (h4 : a % 4 = 3) : Calls Try.prog 4 #[.int .u8 a, .int .u8 b] w (Ok w w) := by
  obtain ⟨i0, hi, hz0, hz1, hz2⟩ := info_parts info5
  have h4i : (a : Int) % 4 = 3 := by omega
  obtain ⟨N, hN, hN2⟩ : ∃ N : Nat, 131070 + (b : Int) % 5 = (N : Int) ∧ N ≤ 140000 := ⟨131070 + b % 5, by omega, by omega⟩
  obtain ⟨C, hC, hCs⟩ : ∃ C : ByteArray, (⟨(List.replicate N 0).toArray⟩ : ByteArray) = C ∧ C.size = N := ⟨_, rfl, by rw [str_size]; simp⟩
  have hN3 : 0 < N := by omega
  obtain ⟨Q, hQ⟩ : ∃ Q : Nat, N / 2 = Q := ⟨_, rfl⟩
  have hCN : Q ≤ C.size := by omega
  have hq1 : Int.tdiv (N : Int) 2 = (Q : Int) := by rw [Int.tdiv_eq_ediv_of_nonneg (by omega)]; omega
  have hq2 : (N : Int) / 2 = (Q : Int) := by omega
  have hq3 : IntKind.i64.wrap (Q : Int) = (Q : Int) := wraps_i64 _ (by omega) (by omega)
  have hCl : C.size ≤ 140000 := by omega
  have hhalf := wrp_halves 4 C Q hCN
  have c1 := fun W blk h => wrap_two_drew 4 (C.extract 0 Q) (C.extract Q C.size) (by simp; unfold maxLen; omega) (by simp; unfold maxLen; omega) W blk h
  have c2 := fun W blk h => rwrap_one 4 C (by omega) W blk h
  rw [hhalf] at c1
  have HC := Lib.hid hC
  clear hC hhalf ha hb hQ
  by_cases hbig : 131072 < N
  · have hR : wrp 4 [C] = (⟨#[]⟩, 6) := by
      unfold wrp
      rw [if_neg (by omega), if_pos (by simp [tot]; omega)]
    rw [hR] at c1 c2
    unfold valW at c1 c2
    have C1 := Lib.hid c1
    have C2 := Lib.hid c2
    clear c1 c2 hR hCs
    go_enter Try.func4, Try.ntmps4
    go_wp2_with (at_make; go_loud (refine wpList_make_full _ rfl _ _ 30 rfl (w.heap.size + 1) 5 i0 (.int .u8 0) 1 Try.underlying30 hi hz0 hz1 .i64 .i64 _ _ N rfl rfl rfl rfl (by rw [hz2]; omega) (by unfold maxLen; omega) (by simp) ?_); intro w1 hown1 hg1; have hcv : (convert 30 9 (.slice (some ⟨w.heap.size + 1, 0, none⟩) N N)).run Try.prog w1 = .ok (.string C) w1 := by have h := conv_own (l := List.replicate N 0) (by rw [← zero_vals]; exact hown1) (by omega); rw [HC.out] at h; simpa using h)
    clear hN h4i h4
    have hb1 : Below w.heap.size w w1 := ((Below.refl _ _).alloc (Nat.le_refl _) _).grown hg1 (by simp) (fun k hk => by cases hk)
    clear hown1 hg1 hcv
    have hs1 : ∀ W, (Instr.slice 9 (.string C) none (some (.int .i64 (Q : Int))) none).run Try.prog W = .ok (.string (C.extract 0 Q)) W := fun W => by rw [run_slice_string_to_if (P := Try.prog) W 9 C .i64 (Q : Int) Try.underlying9, if_pos (by omega)]; rfl
    have hs2 : ∀ W, (Instr.slice 9 (.string C) (some (.int .i64 (Q : Int))) none none).run Try.prog W = .ok (.string (C.extract Q C.size)) W := fun W => by rw [run_slice_string_from_if (P := Try.prog) W 9 C .i64 (Q : Int) Try.underlying9, if_pos (by omega)]; rfl
    go_region_with (go_at_call 13; refine (C1.out _ _ (by simp)).mono ?_; rintro e w2 ⟨rfl, hb2⟩)
    clear hs1 hs2 hq1 hq2 hq3
    have hb2' : Below w.heap.size w w2 := (hb1.alloc hb1.size _).drew.trans (hb2.mono (by have := hb1.size; omega))
    go_wp2_with fail
    refine (C2.out _ _ (by simp)).mono ?_
    rintro e w3 ⟨rfl, hb3⟩
    have hb3' : Below w.heap.size w w3 := (hb2'.alloc hb2'.size _).trans (hb3.mono (by have := hb2'.size; simp; omega))
    go_wp2_with fail
    refine (awake_any _).mono ?_
    rintro e w4 ⟨rfl, hb4⟩
    go_wp2_with fail
    go_ret
    exact ⟨by show Ending.returned (.bool (decide (131072 < (N : Int)))) = _; rw [decide_eq_true (by omega)], hb3'.trans (hb4.mono hb3'.size)⟩
  · obtain ⟨S, hR, hO, hSz⟩ := wrap_one_read C (by omega)
    have c3 := fun W => one_any S W (by unfold maxLen; omega)
    rw [hO] at c3
    rw [hR] at c1 c2
    unfold valW at c1 c2
    unfold valO at c3
    have C1 := Lib.hid c1
    have C2 := Lib.hid c2
    have C3 := Lib.hid c3
    clear c1 c2 c3 hR hO hCs
    go_enter Try.func4, Try.ntmps4
    go_wp2_with (at_make; go_loud (refine wpList_make_full _ rfl _ _ 30 rfl (w.heap.size + 1) 5 i0 (.int .u8 0) 1 Try.underlying30 hi hz0 hz1 .i64 .i64 _ _ N rfl rfl rfl rfl (by rw [hz2]; omega) (by unfold maxLen; omega) (by simp) ?_); intro w1 hown1 hg1; have hcv : (convert 30 9 (.slice (some ⟨w.heap.size + 1, 0, none⟩) N N)).run Try.prog w1 = .ok (.string C) w1 := by have h := conv_own (l := List.replicate N 0) (by rw [← zero_vals]; exact hown1) (by omega); rw [HC.out] at h; simpa using h)
    clear hN h4i h4
    have hb1 : Below w.heap.size w w1 := ((Below.refl _ _).alloc (Nat.le_refl _) _).grown hg1 (by simp) (fun k hk => by cases hk)
    clear hown1 hg1 hcv
    have hs1 : ∀ W, (Instr.slice 9 (.string C) none (some (.int .i64 (Q : Int))) none).run Try.prog W = .ok (.string (C.extract 0 Q)) W := fun W => by rw [run_slice_string_to_if (P := Try.prog) W 9 C .i64 (Q : Int) Try.underlying9, if_pos (by omega)]; rfl
    have hs2 : ∀ W, (Instr.slice 9 (.string C) (some (.int .i64 (Q : Int))) none none).run Try.prog W = .ok (.string (C.extract Q C.size)) W := fun W => by rw [run_slice_string_from_if (P := Try.prog) W 9 C .i64 (Q : Int) Try.underlying9, if_pos (by omega)]; rfl
    go_region_with (go_at_call 13; refine (C1.out _ _ (by simp)).mono ?_; rintro e w2 ⟨rfl, hb2⟩)
    clear hs1 hs2 hq1 hq2 hq3
    have hb2' : Below w.heap.size w w2 := (hb1.alloc hb1.size _).drew.trans (hb2.mono (by have := hb1.size; omega))
    go_wp2_with fail
    refine (C2.out _ _ (by simp)).mono ?_
    rintro e w3 ⟨rfl, hb3⟩
    have hb3' : Below w.heap.size w w3 := (hb2'.alloc hb2'.size _).trans (hb3.mono (by have := hb2'.size; simp; omega))
    go_wp2_with fail
    refine (C3.out _).mono ?_
    rintro e w4 ⟨rfl, hb4⟩
    have hb4' : Below w.heap.size w w4 := hb3'.trans (hb4.mono hb3'.size)
    go_wp2_with fail
    refine (awake_any _).mono ?_
    rintro e w5 ⟨rfl, hb5⟩
    obtain ⟨hc5, hf5⟩ := bcell hb5
    go_wp2_with fail
    go_ret
    exact ⟨rfl, (hb4'.alloc hb4'.size _).trans (hb5.mono (by have := hb4'.size; simp; omega))⟩

theorem law_TlvLong (a b : Nat) (ha : a ≤ 255) (hb : b ≤ 255) (w : World) : Calls Try.prog 4 #[.int .u8 a, .int .u8 b] w (Ok w w) := by
  have h4 : a % 4 = 0 ∨ a % 4 = 1 ∨ a % 4 = 2 ∨ a % 4 = 3 := by omega
  rcases h4 with h4 | h4 | h4 | h4
  · exact long_0 a b ha hb w h4
  · exact long_1 a b ha hb w h4
  · exact long_2 a b ha hb w h4
  · exact long_3 a b ha hb w h4
end Go.Proofs.Ytpcdbgfhlghocaa
