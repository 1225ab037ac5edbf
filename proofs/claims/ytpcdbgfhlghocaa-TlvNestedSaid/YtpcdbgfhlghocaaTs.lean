import Derived.Test.YtpcdbgfhlghocaaTo
namespace Go.Proofs.Ytpcdbgfhlghocaa
set_option linter.unusedVariables false
set_option linter.unusedSimpArgs false
open Go.RowKit

theorem lst_len : ∀ (n : Nat) (acc : List El) (s : ByteArray), (lst n acc s).1.length ≤ acc.length + s.size
  | 0, acc, s => by simp [lst]
  | n + 1, acc, s => by
    by_cases h : s.size = 0
    · rw [lst_stop h]; simp
    by_cases he : (rd s).2.2.2.2 = 0
    · rw [lst_step h he]
      have := lst_len n (acc ++ [((rd s).1, (rd s).2.1, (rd s).2.2.1)]) (rd s).2.2.2.1
      have h2 := (rd_sizes he).2.2
      simp at this
      omega
    · rw [lst_err h he]; simp
theorem list_len (s : ByteArray) : (list s).1.length ≤ s.size := by
  have := lst_len (s.size + 1) [] s
  simpa [list] using this
set_option maxRecDepth 100000 in
set_option maxHeartbeats 2000000 in
/-- 'same': every reader agrees with its definition. -/
theorem same_any (s : ByteArray) (w : World) (hs : s.size ≤ 1000000) : Calls Try.prog 17 #[.string s] w (Ok w w) := by
  have hm : s.size ≤ maxLen := by unfold maxLen; omega
  have c1 := fun W => read_any s W hm
  have c2 := fun W => rread_any s W hm
  have c3 := fun W => one_any s W hm
  have c4 := fun W => rone_any s W hm
  have c5 := fun W => list_any s W hs
  have c6 := fun W => rlist_any s W hs
  have c7 := fun W => check_any s W hm
  have c8 := fun W => rcheckall_any s W hm
  have hll : (list s).1.length ≤ 2000000 := by have := list_len s; omega
  unfold valR at c1 c2
  unfold valO at c3 c4
  generalize rd s = r1 at *
  generalize one s = r2 at *
  generalize check s = r4 at *
  generalize list s = r3 at *
  obtain ⟨t1, x1, y1, z1, e1⟩ := r1
  obtain ⟨t2, x2, y2, e2⟩ := r2
  obtain ⟨l, e3⟩ := r3
  have C1 := Lib.hid c1
  have C2 := Lib.hid c2
  have C3 := Lib.hid c3
  have C4 := Lib.hid c4
  have C5 := Lib.hid c5
  have C6 := Lib.hid c6
  have C7 := Lib.hid c7
  have C8 := Lib.hid c8
  clear c1 c2 c3 c4 c5 c6 c7 c8 hm hs
  go_enter Try.func17, Try.ntmps17
  go_wp2_with fail
  refine (C1.out _).mono ?_
  rintro e w1 ⟨rfl, hb1⟩
  go_wp2_with fail
  refine (C2.out _).mono ?_
  rintro e w2 ⟨rfl, hb2⟩
  obtain ⟨hc2, hf2⟩ := bcell hb2
  have hz2 : w1.heap.size < w2.heap.size := by have := hb2.size; simp at this; omega
  go_wp2_with fail
  refine (C3.out _).mono ?_
  rintro e w3 ⟨rfl, hb3⟩
  obtain ⟨hc3, hf3⟩ := bcell hb3
  have hz3 : w2.heap.size < w3.heap.size := by have := hb3.size; simp at this; omega
  have hz3' : w1.heap.size < w3.heap.size := by omega
  have a0 : w3.cell? ⟨w1.heap.size, 0, none⟩ = some (.int .i64 (t1 : Int)) := by go_simp
  have a1 : w3.cell? ⟨w1.heap.size, 1, none⟩ = some (.string x1) := by go_simp
  have a2 : w3.cell? ⟨w1.heap.size, 2, none⟩ = some (.string y1) := by go_simp
  have b0 : w3.cell? ⟨w2.heap.size, 0, none⟩ = some (.int .i64 (t1 : Int)) := by go_simp
  have b1 : w3.cell? ⟨w2.heap.size, 1, none⟩ = some (.string x1) := by go_simp
  have b2 : w3.cell? ⟨w2.heap.size, 2, none⟩ = some (.string y1) := by go_simp
  have f0 : ∀ j, w3.frozen? ⟨w1.heap.size, j, none⟩ = false := fun j => by go_simp
  have f1 : ∀ j, w3.frozen? ⟨w2.heap.size, j, none⟩ = false := fun j => by go_simp
  clear hc2 hf2 hc3 hf3
  go_wp2_with fail
  refine (C4.out _).mono ?_
  rintro e w4 ⟨rfl, hb4⟩
  obtain ⟨hc4, hf4⟩ := bcell hb4
  have hz4 : w3.heap.size ≤ w4.heap.size := by have := hb4.size; simpa using this
  have hz4' : w2.heap.size < w4.heap.size := by omega
  have hz4'' : w1.heap.size < w4.heap.size := by omega
  have d0 : w4.cell? ⟨w1.heap.size, 0, none⟩ = some (.int .i64 (t2 : Int)) := by rw [hc4 _ _ (by simpa using hz3')]; go_simp
  have d1 : w4.cell? ⟨w1.heap.size, 1, none⟩ = some (.string x2) := by rw [hc4 _ _ (by simpa using hz3')]; go_simp
  have d2 : w4.cell? ⟨w1.heap.size, 2, none⟩ = some (.string y2) := by rw [hc4 _ _ (by simpa using hz3')]; go_simp
  have k0 : w4.cell? ⟨w2.heap.size, 0, none⟩ = some (.int .i64 (t1 : Int)) := by rw [hc4 _ _ (by simpa using hz3)]; go_simp
  have k1 : w4.cell? ⟨w2.heap.size, 1, none⟩ = some (.string x1) := by rw [hc4 _ _ (by simpa using hz3)]; go_simp
  have k2 : w4.cell? ⟨w2.heap.size, 2, none⟩ = some (.string y1) := by rw [hc4 _ _ (by simpa using hz3)]; go_simp
  have g1 : ∀ j, w4.frozen? ⟨w2.heap.size, j, none⟩ = false := fun j => by rw [hf4 _ _ (by simpa using hz3)]; go_simp
  clear hc4 hf4 a0 a1 a2 b0 b1 b2 f0 f1
  have hB1 : Below w.heap.size w w1 := hb1
  have hB2 : Below w.heap.size w w2 := (hB1.alloc hB1.size _).trans (hb2.mono (by have := hB1.size; simp; omega))
  have hB3 : Below w.heap.size w w3 := (hB2.alloc hB2.size _).trans (hb3.mono (by have := hB2.size; simp; omega))
  have hB4 : Below w.heap.size w w4 := by
    have hs1 := hB1.size
    have hs2 := hB2.size
    have hs3 := hB3.size
    refine Below.trans ?_ (hb4.mono (by simpa using hs3))
    exact (((hB3.setCell (by simpa using hs1) _).setCell (by simpa using hs1) _).setCell (by simpa using hs1) _)
  have hS2 := hB2.size
  clear hB1 hB2 hB3 hb1 hb2 hb3 hb4
  go_wp2_with fail
  clear d0 d1 d2 k0 k1 k2 g1
  refine (C5.out _).mono ?_
  rintro e w5 ⟨v1, rfl, ho1, hb5⟩
  have hB5 : Below w.heap.size w w5 := by
    have hs2 := hS2
    refine Below.trans ?_ (hb5.mono (by have := hB4.size; simpa using this))
    exact (((hB4.setCell (by simpa using hs2) _).setCell (by simpa using hs2) _).setCell (by simpa using hs2) _)
  go_wp2_with fail
  refine (C6.out _).mono ?_
  rintro e w6 ⟨v2, rfl, ho2, hb6⟩
  have hB6 : Below w.heap.size w w6 := hB5.trans (hb6.mono hB5.size)
  have ho1' := ho1.kept (grown_of_below hb6) (Classical.em _)
  go_wp2_with fail
  refine (same_el l _ _ v1 v2 _ hll ho1' ho2).mono ?_
  rintro e w7 ⟨rfl, hb7⟩
  have hB7 : Below w.heap.size w w7 := hB6.trans (hb7.mono hB6.size)
  go_wp2_with fail
  refine (C7.out _).mono ?_
  rintro e w8 ⟨rfl, hb8⟩
  have hB8 : Below w.heap.size w w8 := hB7.trans (hb8.mono hB7.size)
  go_wp2_with fail
  refine (C8.out _).mono ?_
  rintro e w9 ⟨rfl, hb9⟩
  go_wp2_with fail
  go_ret
  exact ⟨rfl, hB8.trans (hb9.mono hB8.size)⟩
end Go.Proofs.Ytpcdbgfhlghocaa
