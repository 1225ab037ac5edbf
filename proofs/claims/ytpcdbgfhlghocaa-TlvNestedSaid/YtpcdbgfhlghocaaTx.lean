import Derived.Test.YtpcdbgfhlghocaaTs
import Derived.Test.YtpcdbgfhlghocaaTw
namespace Go.Proofs.Ytpcdbgfhlghocaa
set_option linter.unusedVariables false
set_option linter.unusedSimpArgs false
open Go.RowKit

/-- A slice of ints in memory. -/
def IntRow (w : World) (a : Option Addr) (xs : List Int) : Prop :=
  xs = [] ∨ ∃ bk o, a = some ⟨bk, o, none⟩ ∧ bk < w.heap.size ∧ ∀ j (hj : j < xs.length), w.cell? ⟨bk, o + j, none⟩ = some (.int .i64 xs[j])

theorem IntRow.below {w w' : World} {B : Nat} {a : Option Addr} {L : List Int} (h : IntRow w a L) (hb : Below w.heap.size w w') : IntRow w' a L := by
  rcases h with h | ⟨bk, o, ha, hbk, hc⟩
  · exact Or.inl h
  · refine Or.inr ⟨bk, o, ha, Nat.lt_of_lt_of_le hbk hb.size, fun j hj => ?_⟩
    rw [hb.cell (p := ⟨bk, o + j, none⟩) hbk]
    exact hc j hj

/-- A deck in memory: made after w0, over a slice of w0. -/
structure DeckAt (w0 w : World) (b : Nat) (a : Option Addr) (n c : Nat) : Prop where
  base : w0.heap.size ≤ b
  here : b < w.heap.size
  below : Below w0.heap.size w0 w
  cells : ∃ k : Nat, k ≤ n ∧ w.heap[b]? = some (.cells #[.slice a n c, .int .i64 k] 62 (0, 0))

/-- What a call leaves: a number below m, and the deck. -/
def Drawn (w0 : World) (b : Nat) (a : Option Addr) (n c : Nat) (m : Int) (w : World) (e : Ending) (w' : World) : Prop :=
  ∃ r : Int, e = .returned (.int .i64 r) ∧ 0 ≤ r ∧ r < m ∧ DeckAt w0 w' b a n c ∧ Below b w w' ∧ w'.heap.size = w.heap.size

theorem next_math (x m : Int) (hm : 1 ≤ m) (hm2 : m ≤ 9000000000000000000) (hx1 : -9223372036854775808 ≤ x) (hx2 : x ≤ 9223372036854775807) :
    ∃ y z : Int, Int.tmod x m = y ∧ -m < y ∧ y < m ∧ Int.tmod (y + m) m = z ∧ 0 ≤ z ∧ z < m := by
  refine ⟨_, _, rfl, ?_, ?_, rfl, ?_, ?_⟩
  · have h := Int.natAbs_tmod x m
    have h2 : x.natAbs % m.natAbs < m.natAbs := Nat.mod_lt _ (by omega)
    omega
  · exact Int.tmod_lt_of_pos _ (by omega)
  · apply Int.tmod_nonneg
    have h := Int.natAbs_tmod x m
    have h2 : x.natAbs % m.natAbs < m.natAbs := Nat.mod_lt _ (by omega)
    omega
  · exact Int.tmod_lt_of_pos _ (by omega)

theorem deck_set {w : World} {b : Nat} {x y : Value} {T : TypeId} (h : w.heap[b]? = some (.cells #[x, y] T (0, 0))) (q q' : Nat) (v : Value) :
    (((w.drewN q).setCell ⟨b, 1, none⟩ v).drewN q').heap[b]? = some (.cells #[x, v] T (0, 0)) := by
  show ((w.drewN q).setCell ⟨b, 1, none⟩ v).heap[b]? = _
  have h2 : (w.drewN q).heap[b]? = some (.cells #[x, y] T (0, 0)) := h
  simp [World.setCell, Array.getElem?_modify, h2]
  exact ⟨_, h, rfl⟩
set_option maxRecDepth 100000 in
set_option maxHeartbeats 1000000 in
theorem next_any (w0 w : World) (b : Nat) (a : Option Addr) (n c : Nat) (xs : List Int) (m : Int) (hd : DeckAt w0 w b a n c) (hrow : IntRow w0 a xs) (hn : n = xs.length) (hnl : n ≤ 9000000000000000000)
    (hx : ∀ x ∈ xs, -9223372036854775808 ≤ x ∧ x ≤ 9223372036854775807) (hm : 1 ≤ m) (hm2 : m ≤ 4000000000000000000) :
    Calls Try.prog 35 #[.pointer (some ⟨b, 0, none⟩), .int .i64 m] w (Drawn w0 b a n c m w) := by
  obtain ⟨hbase, hhere, hbel, k, hk, hblk⟩ := hd
  have c0 : w.cell? ⟨b, 0, none⟩ = some (.slice a n c) := by unfold World.cell?; rw [show w.heap[b]? = _ from hblk]; rfl
  have c1 : w.cell? ⟨b, 1, none⟩ = some (.int .i64 (k : Int)) := by unfold World.cell?; rw [show w.heap[b]? = _ from hblk]; rfl
  have f1 : w.frozen? ⟨b, 1, none⟩ = false := by unfold World.frozen?; rw [show w.heap[b]? = _ from hblk]; rfl
  have HBL := Lib.hid hblk
  have HB := Lib.hid hbel
  have HN := Lib.hid hn
  have HX := Lib.hid hx
  have HBA := Lib.hid hbase
  have HH := Lib.hid hhere
  by_cases hkn : k < n
  · obtain ⟨bk, o, rfl, hbk, hcs⟩ : ∃ bk o, a = some ⟨bk, o, none⟩ ∧ bk < w0.heap.size ∧ ∀ j (hj : j < xs.length), w0.cell? ⟨bk, o + j, none⟩ = some (.int .i64 xs[j]) := by
      rcases hrow with h | h
      · rw [h] at hn; simp at hn; omega
      · exact h
    have hxm : xs[k]'(by omega) ∈ xs := List.getElem_mem _
    obtain ⟨x, hxk⟩ : ∃ x, xs[k]'(by omega) = x := ⟨_, rfl⟩
    rw [hxk] at hxm
    have hxr := hx x hxm
    have cx : w.cell? ⟨bk, o + k, none⟩ = some (.int .i64 x) := by
      rw [hbel.cell (p := ⟨bk, o + k, none⟩) hbk, hcs k (by omega), hxk]
    have hne : bk ≠ b := by omega
    obtain ⟨y, z, hy, hy1, hy2, hz, hz1, hz2⟩ := next_math x m hm (by omega) hxr.1 hxr.2
    clear hcs hxk hxm hx hn hblk hbel hrow hbase hhere
    have hw1 : IntKind.i64.wrap (y + m) = y + m := by rw [IntKind.wrap_i64]; omega
    have hw2 : IntKind.i64.wrap y = y := by rw [IntKind.wrap_i64]; omega
    have hw3 : IntKind.i64.wrap z = z := by rw [IntKind.wrap_i64]; omega
    go_enter Try.func35, Try.ntmps35
    go_wp2_with fail
    go_quiet (fail)
    go_wp2_with fail
    have hk1 : IntKind.i64.wrap ((k : Int) + 1 - 1) = (k : Int) := by rw [IntKind.wrap_i64]; omega
    go_quiet (fail)
    go_wp2_with fail
    go_ret
    refine ⟨z, rfl, hz1, hz2, ⟨HBA.out, ?_, ?_, k + 1, by omega, ?_⟩, ?_, ?_⟩
    · have := HH.out; simpa using this
    · exact below_drewN ((below_drewN HB.out _).setCell HBA.out _) _
    · exact deck_set HBL.out _ _ _
    · exact below_drewN ((below_drewN (Below.refl _ _) _).setCell (p := ⟨b, 1, none⟩) (Nat.le_refl _) _) _
    · simp
  · have hge : n ≤ k := by omega
    go_enter Try.func35, Try.ntmps35
    go_wp2_with fail
    go_quiet (fail)
    go_wp2_with fail
    go_ret
    refine ⟨0, rfl, by omega, by omega, ⟨HBA.out, ?_, below_drewN HB.out _, k, hk, ?_⟩, below_drewN (Below.refl _ _) _, ?_⟩
    · have := HH.out; simpa using this
    · exact HBL.out
    · simp
set_option maxHeartbeats 400000 in
theorem new_any (a : Option Addr) (n c : Nat) (w : World) :
    Calls Try.prog 21 #[.slice a n c] w fun e w' => e = .returned (.pointer (some ⟨w.heap.size, 0, none⟩)) ∧ w.alloc (.cells #[.slice a n c, .int .i64 0] 62) = w' := by
  go_enter Try.func21, Try.ntmps21
  go_wp2
  go_ret
  exact ⟨rfl, rfl⟩

/-- What Damage answers: some string that is no longer than one byte more. -/
def Damaged (w0 : World) (s : ByteArray) (w : World) (e : Ending) (w' : World) : Prop :=
  ∃ S : ByteArray, e = .returned (.string S) ∧ S.size ≤ s.size + 1 ∧ Below w0.heap.size w0 w'

theorem DeckAt.later {w0 w w' : World} {b : Nat} {a : Option Addr} {n c : Nat} (h : DeckAt w0 w b a n c) (hb : Below w.heap.size w w') : DeckAt w0 w' b a n c := by
  obtain ⟨h1, h2, h3, k, hk, h4⟩ := h
  refine ⟨h1, Nat.lt_of_lt_of_le h2 hb.size, h3.trans (hb.mono h3.size), k, hk, ?_⟩
  rw [hb.block b h2]; exact h4

set_option maxRecDepth 100000 in
set_option maxHeartbeats 2000000 in
theorem damage_any (w0 w : World) (b : Nat) (a : Option Addr) (n c : Nat) (xs : List Int) (s : ByteArray) (hd : DeckAt w0 w b a n c) (hrow : IntRow w0 a xs) (hn : n = xs.length) (hnl : n ≤ 9000000000000000000)
    (hx : ∀ x ∈ xs, -9223372036854775808 ≤ x ∧ x ≤ 9223372036854775807) (hs : s.size ≤ 1000000) :
    Calls Try.prog 20 #[.pointer (some ⟨b, 0, none⟩), .string s] w (Damaged w0 s w) := by
  by_cases hz : s.size = 0
  · have hz1 := empty_list hz
    have HD := Lib.hid hd
    clear hz hd hrow hn hnl hx
    go_enter Try.func20, Try.ntmps20
    go_wp2_with fail
    go_ret
    exact ⟨s, rfl, by omega, HD.out.below⟩
  have hz1 := ne_list (s := s) (by omega)
  have N1 := Lib.hid (fun W m (h : DeckAt w0 W b a n c) h1 h2 => next_any w0 W b a n c xs m h hrow hn hnl hx h1 h2)
  have HD := Lib.hid hd
  clear hd hrow hn hnl hx
  go_enter Try.func20, Try.ntmps20
  go_wp2_with fail
  refine (N1.out _ _ HD.out (by omega) (by omega)).mono ?_
  rintro e w1 ⟨r1, rfl, hr1, hr2, hd1, -, -⟩
  obtain ⟨K, rfl⟩ := Int.eq_ofNat_of_zero_le hr1
  have HD1 := Lib.hid hd1
  clear hd1
  go_wp2_with fail
  refine (N1.out _ _ HD1.out (by omega) (by omega)).mono ?_
  rintro e w2 ⟨r2, rfl, hr3, hr4, hd2, -, -⟩
  obtain ⟨C, hC, hCc⟩ := conv_ints (W := w2.alloc (.cells #[.int .u8 r2] 5)) (g := w2.heap.size) [r2] (heap_alloc_new w2 _) (by intro z hz; simp at hz; omega)
  have hC1 : C.size = 1 := hC
  have hcv := hCc (w2.alloc (.cells #[.int .u8 r2] 5)) rfl
  have hcv : (convert 30 9 (.slice (some ⟨w2.heap.size, 0, none⟩) 1 1)).run Try.prog (w2.alloc (.cells #[.int .u8 r2] 5)) = .ok (.string C) (w2.alloc (.cells #[.int .u8 r2] 5)) := hcv
  have hd3 := hd2.later (w' := w2.alloc (.cells #[.int .u8 r2] 5)) ((Below.refl _ _).alloc (Nat.le_refl _) _)
  have HD3 := Lib.hid hd3
  clear hd2 hd3 hCc hC
  go_wp2_with fail
  refine (N1.out _ 5 HD3.out (by omega) (by omega)).mono ?_
  rintro e w3 ⟨r3, rfl, hr5, hr6, hd4, -, -⟩
  have HD4 := Lib.hid hd4
  clear hd4 hcv
  obtain ⟨A, hA⟩ : ∃ A, s.extract 0 K = A := ⟨_, rfl⟩
  obtain ⟨D, hD⟩ : ∃ D, s.extract (K + 1) s.size = D := ⟨_, rfl⟩
  obtain ⟨E, hE⟩ : ∃ E, s.extract K s.size = E := ⟨_, rfl⟩
  have hA1 : A.size = K := by rw [← hA]; simp; omega
  have hD1 : D.size + K + 1 = s.size := by rw [← hD]; simp; omega
  have hE1 : E.size + K = s.size := by rw [← hE]; simp; omega
  have hs1 : ∀ W, (Instr.slice 9 (.string s) none (some (.int .i64 (K : Int))) none).run Try.prog W = .ok (.string A) W := fun W => by rw [run_slice_string_to_if (P := Try.prog) W 9 s .i64 (K : Int) Try.underlying9, if_pos (by omega), ← hA]; rfl
  have hs2 : ∀ W, (Instr.slice 9 (.string s) (some (.int .i64 ((K : Int) + 1))) none none).run Try.prog W = .ok (.string D) W := fun W => by rw [run_slice_string_from_if (P := Try.prog) W 9 s .i64 ((K : Int) + 1) Try.underlying9, if_pos (by omega), ← hD]; rfl
  have hs3 : ∀ W, (Instr.slice 9 (.string s) (some (.int .i64 (K : Int))) none none).run Try.prog W = .ok (.string E) W := fun W => by rw [run_slice_string_from_if (P := Try.prog) W 9 s .i64 (K : Int) Try.underlying9, if_pos (by omega), ← hE]; rfl
  have hk1 : IntKind.i64.wrap ((K : Int) + 1) = (K : Int) + 1 := by rw [IntKind.wrap_i64]; omega
  have HA := Lib.hid hA1
  have HDD := Lib.hid hD1
  have HE := Lib.hid hE1
  have HC1 := Lib.hid hC1
  have b1 : A.size ≤ 1000000 := by omega
  have b2 : D.size ≤ 1000000 := by omega
  have b3 : E.size ≤ 1000000 := by omega
  have b4 : C.size ≤ 1000000 := by omega
  clear hA hD hE hA1 hD1 hE1 hC1
  have hr : r3 = 0 ∨ r3 = 1 ∨ r3 = 2 ∨ r3 = 3 ∨ r3 = 4 := by omega
  rcases hr with rfl | rfl | rfl | rfl | rfl
  · go_wp2_with fail
    go_quiet (fail)
    go_wp2_with fail
    go_ret
    exact ⟨(A ++ C) ++ D, rfl, by simp only [ByteArray.size_append]; have := HA.out; have := HDD.out; have := HC1.out; omega, below_drewN HD4.out.below _⟩
  · go_wp2_with fail
    go_quiet (fail)
    go_wp2_with fail
    go_ret
    exact ⟨(A ++ C) ++ E, rfl, by simp only [ByteArray.size_append]; have := HA.out; have := HE.out; have := HC1.out; omega, below_drewN HD4.out.below _⟩
  · go_wp2_with fail
    go_quiet (fail)
    go_wp2_with fail
    go_ret
    exact ⟨A ++ D, rfl, by simp only [ByteArray.size_append]; have := HA.out; have := HDD.out; omega, below_drewN HD4.out.below _⟩
  · go_wp2_with fail
    go_ret
    exact ⟨A, rfl, by have := HA.out; omega, HD4.out.below⟩
  · go_wp2_with fail
    go_ret
    exact ⟨s, rfl, by omega, HD4.out.below⟩
end Go.Proofs.Ytpcdbgfhlghocaa
