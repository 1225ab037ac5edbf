/- A disk that the call itself made; Small; awake. -/
import Derived.Test.YtlaodmpdngdhjaaDq
import Derived.BigQuiet
namespace Go.Proofs.Ytlaodmpdngdhjaa
set_option linter.unusedVariables false
set_option linter.unusedSimpArgs false
open Go.RowKit Go.Maps Go.WideMaps

theorem Good.append {s : St} {M : Nat} (h : Good s M) (n b : ByteArray) : Good (s.append n b).1 (M + b.size + 1) := by
  unfold St.append
  split
  · exact h.mono (by omega)
  · split
    · exact h.mono (by omega)
    · split
      · exact h.mono (by omega)
      · exact h.push (c := .app n b) trivial
theorem Good.rename {s : St} {M : Nat} (h : Good s M) (x y : ByteArray) : Good (s.rename x y).1 (M + 1) := by
  unfold St.rename
  split
  · exact h.mono (by omega)
  · split
    · exact h.mono (by omega)
    · split
      · exact h.mono (by omega)
      · rename_i h3
        exact h.push (c := .ren x y) (by simpa [okc, St.has] using h3)
theorem Good.remove {s : St} {M : Nat} (h : Good s M) (x : ByteArray) : Good (s.remove x).1 (M + 1) := by
  unfold St.remove
  split
  · exact h.mono (by omega)
  · split
    · exact h.mono (by omega)
    · split
      · exact h.mono (by omega)
      · exact h.push (c := .del x) trivial
theorem Good.fuse {s : St} {M : Nat} (h : Good s M) (n : Int) (hn : n < 9223372036854775808) : Good (s.fuse n) M := by
  unfold St.fuse
  split
  · exact h
  · refine ⟨h.nd, h.ren, ?_, ?_, ?_, h.cap, h.wt⟩
    · show decide (n = 0) = decide (max n (-1) = 0)
      congr 1
      simp only [eq_iff_iff]
      omega
    · show -1 ≤ max n (-1); omega
    · show max n (-1) < _; omega
theorem csz_torn (c : Chg) (k : Int) : ssz (torn c k) ≤ csz c ∧ (torn c k).length ≤ 1 := by
  cases c with
  | app n b =>
    show ssz (if 0 < k then [Chg.app n (b.extract 0 (min k.toNat b.size))] else []) ≤ _ ∧ (if 0 < k then [Chg.app n (b.extract 0 (min k.toNat b.size))] else []).length ≤ 1
    split
    · simp [ssz, csz]; exact Nat.min_le_right _ _
    · simp [ssz]
  | ren x y => simp [torn, ssz]
  | del n => simp [torn, ssz]
theorem Good.crash {s : St} {M : Nat} (h : Good s M) (k bytes : Int) : Good (s.crash k bytes) M := by
  obtain ⟨K, hK⟩ : ∃ K, s.keep k = K := ⟨_, rfl⟩
  have hKl : K ≤ s.ops.length := by rw [← hK]; unfold St.keep; omega
  have ef := crash_files s k bytes hK
  have hp := nd_fold (l := s.ops.take K) h.nd
  have h1 := szs_fold s.files (s.ops.take K)
  have h2 := len_fold s.files (s.ops.take K)
  have hl : (s.ops.take K).length = K := by rw [List.length_take]; omega
  refine ⟨by rw [ef]; exact nd_fold hp _, trivial, rfl, by show (-1 : Int) ≤ -1; omega, by show (-1 : Int) < _; omega, h.cap, ?_⟩
  have e0 : (s.crash k bytes).ops = [] := rfl
  rw [e0, ef]
  have hs : ssz s.ops = ssz (s.ops.take K) + ssz (s.ops.drop K) := by
    conv => lhs; rw [← List.take_append_drop K s.ops]
    unfold ssz
    rw [List.map_append, List.sum_append]
  have hw := h.wt
  cases hc : s.ops[K]? with
  | none =>
    simp only [List.foldl_nil]
    have : ssz ([] : List Chg) = 0 := rfl
    simp only [List.length_nil]
    omega
  | some c =>
    have hlt : K < s.ops.length := (List.getElem?_eq_some_iff.1 hc).1
    have hd : csz c ≤ ssz (s.ops.drop K) := by
      unfold ssz
      refine le_sum_mem (List.mem_map.2 ⟨c, ?_, rfl⟩)
      rw [List.drop_eq_getElem_cons hlt]
      rw [List.getElem?_eq_getElem hlt] at hc
      cases hc
      exact List.mem_cons_self
    obtain ⟨t1, t2⟩ := csz_torn c bytes
    have h3 := szs_fold ((s.ops.take K).foldl appl s.files) (torn c bytes)
    have h4 := len_fold ((s.ops.take K).foldl appl s.files) (torn c bytes)
    have : ssz ([] : List Chg) = 0 := rfl
    simp only [List.length_nil]
    omega

/-- A disk that lies in blocks of the call's own. -/
def Fresh (w : World) (d : Nat) (s : St) (w' : World) : Prop := ∃ rw ro, DiskAt w' d s rw ro ∧ (∀ b, rw b → w.heap.size ≤ b) ∧ Below w.heap.size w w'
theorem Kept.toBelow {w w1 w2 : World} {rw ro rw' ro' : Nat → Prop} (k : Kept w1 w2 rw ro rw' ro') (hr : ∀ b, rw b → w.heap.size ≤ b) (h : Below w.heap.size w w1) : Below w.heap.size w w2 :=
  h.trans ⟨k.os, k.tape, k.output, k.size, fun b hb => k.block b (Nat.lt_of_lt_of_le hb h.size) fun e => by have := hr b e; omega⟩
theorem Fresh.call {w w1 : World} {d : Nat} {s s' : St} {f : Nat} {args : Array Value} {v : Value} (h : Fresh w d s w1) (hc : ∀ rw ro, DiskAt w1 d s rw ro → Calls Try.prog f args w1 (Meth w1 d s' rw ro v)) :
    Calls Try.prog f args w1 fun e w2 => e = .returned v ∧ Hid (Fresh w d s' w2) := by
  obtain ⟨rw, ro, h1, h2, h3⟩ := h
  refine (hc rw ro h1).mono ?_
  rintro e w2 ⟨rfl, rw', ro', h4, h5⟩
  exact ⟨rfl, rw', ro', h4, fun b hb => (h5.rw1 b hb).elim (h2 b) fun hq => Nat.le_trans h3.size hq, h5.toBelow h2 h3⟩
theorem Fresh.below {w w1 w2 : World} {d : Nat} {s : St} (h : Fresh w d s w1) (hb : Below w1.heap.size w1 w2) : Fresh w d s w2 := by
  obtain ⟨rw, ro, h1, h2, h3⟩ := h
  exact ⟨rw, ro, h1.below hb, h2, h3.trans (hb.mono h3.size)⟩
theorem Fresh.toBelow {w w1 : World} {d : Nat} {s : St} (h : Fresh w d s w1) : Below w.heap.size w w1 := by
  obtain ⟨rw, ro, h1, h2, h3⟩ := h
  exact h3
theorem Fresh.made {w w1 w2 : World} {d : Nat} {s : St} (h : DiskAt w2 d s (fun b => b = d) fun _ => False) (hd : w.heap.size ≤ d) (hb : Below w.heap.size w w2) : Fresh w d s w2 :=
  ⟨_, _, h, fun b e => by rw [e]; exact hd, hb⟩
theorem fresh_new (cap : Int) (w : World) (h1 : -9223372036854775808 ≤ cap) (h2 : cap < 9223372036854775808) :
    Calls Try.prog 21 #[.int .i64 cap] w fun e w' => e = .returned (ptr w.heap.size) ∧ Hid (Fresh w w.heap.size (St.new cap) w') ∧ w.heap.size < w'.heap.size := by
  refine (new_any cap w h1 h2).mono ?_
  rintro e w' ⟨rfl, h3, h4, h5⟩
  exact ⟨rfl, Fresh.made (w1 := w) h3 (Nat.le_refl _) h4, h5⟩
section
variable {w w1 : World} {d : Nat} {s : St} {M : Nat}
theorem Fresh.append (h : Fresh w d s w1) (hg : Good s M) (hM : M ≤ 500000) {n b : ByteArray} (hn : n.size ≤ maxLen) (hb : b.size ≤ 500000) :
    Calls Try.prog 31 #[ptr d, .string n, .string b] w1 fun e w2 => e = .returned (.int .i64 (s.append n b).2) ∧ Hid (Fresh w d (s.append n b).1 w2) :=
  h.call fun rw ro h => append_any d s rw ro M n b w1 h hg hM hn hb
theorem Fresh.rename (h : Fresh w d s w1) (hg : Good s M) (hM : M ≤ 500000) {x y : ByteArray} (hx : x.size ≤ maxLen) (hy : y.size ≤ maxLen) :
    Calls Try.prog 41 #[ptr d, .string x, .string y] w1 fun e w2 => e = .returned (.int .i64 (s.rename x y).2) ∧ Hid (Fresh w d (s.rename x y).1 w2) :=
  h.call fun rw ro h => rename_any d s rw ro M x y w1 h hg hM hx hy
theorem Fresh.remove (h : Fresh w d s w1) (hg : Good s M) (hM : M ≤ 500000) {x : ByteArray} (hx : x.size ≤ maxLen) :
    Calls Try.prog 42 #[ptr d, .string x] w1 fun e w2 => e = .returned (.int .i64 (s.remove x).2) ∧ Hid (Fresh w d (s.remove x).1 w2) :=
  h.call fun rw ro h => remove_any d s rw ro M x w1 h hg hM hx
theorem Fresh.sync (h : Fresh w d s w1) (hg : Good s M) (hM : M ≤ 500000) :
    Calls Try.prog 32 #[ptr d] w1 fun e w2 => e = .returned (.int .i64 s.sync.2) ∧ Hid (Fresh w d s.sync.1 w2) :=
  h.call fun rw ro h => sync_any d s rw ro M w1 h hg hM
theorem Fresh.fuse (h : Fresh w d s w1) (hg : Good s M) (hM : M ≤ 500000) {n : Int} (hn : -9223372036854775808 ≤ n ∧ n < 9223372036854775808) :
    Calls Try.prog 26 #[ptr d, .int .i64 n] w1 fun e w2 => e = .returned (.tuple #[]) ∧ Hid (Fresh w d (s.fuse n) w2) :=
  h.call fun rw ro h => fuse_any d s rw ro M n w1 h hg hM hn
theorem Fresh.crash (h : Fresh w d s w1) (hg : Good s M) (hM : M ≤ 500000) {k b : Int} (hk : -9223372036854775808 ≤ k ∧ k < 9223372036854775808) (hb : -9223372036854775808 ≤ b ∧ b < 9223372036854775808) :
    Calls Try.prog 28 #[ptr d, .int .i64 k, .int .i64 b] w1 fun e w2 => e = .returned (.tuple #[]) ∧ Hid (Fresh w d (s.crash k b) w2) :=
  h.call fun rw ro h => crash_any d s rw ro M k b w1 h hg hM hk hb
theorem Fresh.read (h : Fresh w d s w1) (hg : Good s M) (hM : M ≤ 500000) {n : ByteArray} (hn : n.size ≤ maxLen) :
    Calls Try.prog 33 #[ptr d, .string n] w1 fun e w2 => e = .returned (.tuple #[.string (s.read n).1, .int .i64 (s.read n).2]) ∧ w2 = w1 := by
  obtain ⟨rw, ro, h1, h2, h3⟩ := h
  exact read_any d s rw ro M n w1 h1 hg hM hn
theorem Fresh.pending (h : Fresh w d s w1) :
    Calls Try.prog 39 #[ptr d] w1 fun e w2 => e = .returned (.int .i64 s.ops.length) ∧ w2 = w1 := by
  obtain ⟨rw, ro, h1, h2, h3⟩ := h
  exact pending_any d s rw ro w1 h1
theorem Fresh.names (h : Fresh w d s w1) (hg : Good s M) (hM : M ≤ 500000) :
    Calls Try.prog 45 #[ptr d] w1 fun e w2 => ∃ v, e = .returned v ∧ w2.ownsRow w1.heap.size 9 1 v s.names.length (strs s.names) ∧ Below w1.heap.size w1 w2 ∧ Fresh w d s w2 := by
  have hh := h
  obtain ⟨rw, ro, h1, h2, h3⟩ := h
  refine (names_any d s rw ro M w1 h1 hg hM).mono ?_
  rintro e w2 ⟨v, rfl, h4, h5⟩
  exact ⟨v, rfl, h4, h5, hh.below h5⟩
end
theorem small_any (a n : Int) (w : World) (h1 : -9223372036854775808 ≤ a) (h2 : a < 9223372036854775808) (h3 : 0 < n) (h4 : n ≤ 1000000) :
    Calls Try.prog 25 #[.int .i64 a, .int .i64 n] w fun e w' => e = .returned (.int .i64 (a % n)) ∧ w' = w := by
  have hz : (n == 0) = false := by rw [beq_eq_false_iff_ne]; omega
  have b1 := Int.tmod_lt_of_pos a h3
  have b2 := Int.lt_tmod_of_pos a h3
  have m1 := Int.emod_nonneg a (show n ≠ 0 by omega)
  have m2 := Int.emod_lt_of_pos a h3
  have hc : a.tmod n = a % n ∨ a.tmod n = a % n - n := by
    rw [Int.tmod_eq_emod]
    split
    · left; simp
    · right
      have : (n.natAbs : Int) = n := by omega
      rw [this]
  have e : (a.tmod n + n) % n = a % n := by
    rw [Int.add_emod_right]
    rcases hc with h | h
    · rw [h, Int.emod_emod]
    · rw [h, Int.sub_emod, Int.emod_self, Int.emod_emod, Int.sub_zero, Int.emod_emod]
  clear hc m1 m2
  have HE := Lib.hid e
  clear e
  go_enter Try.func25, Try.ntmps25
  go_wp2_with fail
  go_ret
  exact ⟨by rw [← HE.out]; rfl, rfl⟩
def aw0 : St := St.new 10
def aw1 : St := (aw0.append ⟨#[97]⟩ ⟨#[120, 121]⟩).1
def aw2 : St := aw1.sync.1
def aw3 : St := (aw2.append ⟨#[97]⟩ ⟨#[122]⟩).1
def aw4 : St := (aw3.append ⟨#[98]⟩ ⟨#[49, 50, 51, 52, 53]⟩).1
def aw5 : St := aw4.crash 1 3
theorem aw_facts : (aw0.append ⟨#[97]⟩ ⟨#[120, 121]⟩).2 = 0 ∧ aw1.sync.2 = 0 ∧ aw4.ops.length = 2 ∧ aw5.read ⟨#[97]⟩ = (⟨#[120, 121, 122]⟩, 0) ∧ aw5.read ⟨#[98]⟩ = (⟨#[49, 50, 51]⟩, 0) ∧ aw5.names.length = 2 := by
  refine ⟨by kernel_rfl, by kernel_rfl, by kernel_rfl, by kernel_rfl, by kernel_rfl, by kernel_rfl⟩
theorem aw_good : Good aw0 0 ∧ Good aw1 10 ∧ Good aw2 10 ∧ Good aw3 20 ∧ Good aw4 30 ∧ Good aw5 30 := by
  have h0 : Good aw0 0 := St.new_good 10 (by decide)
  have h1 : Good aw1 10 := (h0.append _ _).mono (by decide)
  have h2 : Good aw2 10 := h1.sync
  have h3 : Good aw3 20 := (h2.append _ _).mono (by decide)
  have h4 : Good aw4 30 := (h3.append _ _).mono (by decide)
  exact ⟨h0, h1, h2, h3, h4, h4.crash _ _⟩
set_option maxRecDepth 100000 in
set_option maxHeartbeats 4000000 in
/-- The first example of the chapter. -/
theorem awake_any (w : World) : Calls Try.prog 30 #[] w fun e w' => e = .returned (.bool true) ∧ Below w.heap.size w w' := by
  obtain ⟨f1, f2, f3, f4, f5, f6⟩ := aw_facts
  obtain ⟨g0, g1, g2, g3, g4, g5⟩ := aw_good
  have HN := Lib.hid (fresh_new 10 w (by omega) (by omega))
  go_enter Try.func30, Try.ntmps30
  go_wp2_with fail
  refine HN.out.mono ?_
  rintro e w1 ⟨rfl, F0', hlt⟩
  have F0 : Hid (Fresh w w.heap.size aw0 w1) := F0'
  have A1 := Lib.hid (F0.out.append (n := ⟨#[97]⟩) (b := ⟨#[120, 121]⟩) g0 (by omega) (by decide) (by decide))
  rw [f1] at A1
  go_wp2_with fail
  refine A1.out.mono ?_
  rintro e w2 ⟨rfl, F1'⟩
  have F1 : Hid (Fresh w w.heap.size aw1 w2) := F1'
  have A2 := Lib.hid (F1.out.sync g1 (by omega))
  rw [f2] at A2
  go_wp2_with fail
  refine A2.out.mono ?_
  rintro e w3 ⟨rfl, F2'⟩
  have F2 : Hid (Fresh w w.heap.size aw2 w3) := F2'
  have A3 := Lib.hid (F2.out.append (n := ⟨#[97]⟩) (b := ⟨#[122]⟩) g2 (by omega) (by decide) (by decide))
  go_wp2_with fail
  refine A3.out.mono ?_
  rintro e w4 ⟨rfl, F3'⟩
  have F3 : Hid (Fresh w w.heap.size aw3 w4) := F3'
  have A4 := Lib.hid (F3.out.append (n := ⟨#[98]⟩) (b := ⟨#[49, 50, 51, 52, 53]⟩) g3 (by omega) (by decide) (by decide))
  go_wp2_with fail
  refine A4.out.mono ?_
  rintro e w5 ⟨rfl, F4'⟩
  have F4 : Hid (Fresh w w.heap.size aw4 w5) := F4'
  have A5 := Lib.hid F4.out.pending
  rw [f3] at A5
  go_wp2_with fail
  refine A5.out.mono ?_
  rintro e w5' ⟨rfl, hw⟩
  subst hw
  have A6 := Lib.hid (F4.out.crash (k := 1) (b := 3) g4 (by omega) (by omega) (by omega))
  go_wp2_with fail
  refine A6.out.mono ?_
  rintro e w6 ⟨rfl, F5'⟩
  have F5 : Hid (Fresh w w.heap.size aw5 w6) := F5'
  have A7 := Lib.hid (F5.out.read (n := ⟨#[97]⟩) g5 (by omega) (by decide))
  have A8 := Lib.hid (F5.out.read (n := ⟨#[98]⟩) g5 (by omega) (by decide))
  rw [f4] at A7
  rw [f5] at A8
  have A9 := Lib.hid (F5.out.names g5 (by omega))
  rw [f6] at A9
  clear F0' F1' F2' F3' F4' F5'
  go_wp2_with fail
  refine A7.out.mono ?_
  rintro e w7 ⟨rfl, hw⟩
  subst hw
  go_wp2_with fail
  refine A8.out.mono ?_
  rintro e w8 ⟨rfl, hw⟩
  subst hw
  go_wp2_with fail
  refine A9.out.mono ?_
  rintro e w9 ⟨v, rfl, hr, hb, F6⟩
  obtain ⟨a, cap, rfl⟩ := own_slice hr
  have HB := Lib.hid F6.toBelow
  clear hr hb F6
  go_wp2_with fail
  go_ret
  exact ⟨rfl, HB.out⟩
end Go.Proofs.Ytlaodmpdngdhjaa
