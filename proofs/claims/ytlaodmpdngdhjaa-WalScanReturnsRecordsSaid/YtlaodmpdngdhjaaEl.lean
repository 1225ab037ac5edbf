/- Same; agree. -/
import Derived.Test.YtlaodmpdngdhjaaEk
namespace Go.Proofs.Ytlaodmpdngdhjaa
set_option linter.unusedVariables false
set_option linter.unusedSimpArgs false
open Go.RowKit

/-- A slice of these strings, to be read. -/
def RowS (w : World) (v : Value) (L : List ByteArray) : Prop :=
  (L = [] ∧ ∃ a c, v = .slice a 0 c) ∨ ∃ g o c, v = .slice (some ⟨g, o, none⟩) L.length c ∧ g < w.heap.size ∧ ∀ j x, L[j]? = some x → w.cell? ⟨g, o + j, none⟩ = some (.string x)
theorem RowS.shape {w : World} {v : Value} {L : List ByteArray} (h : RowS w v L) : ∃ a c, v = .slice a L.length c := by
  rcases h with ⟨rfl, a, c, rfl⟩ | ⟨g, o, c, rfl, _⟩
  · exact ⟨a, c, rfl⟩
  · exact ⟨_, _, rfl⟩
theorem RowS.get {w : World} {a : Option Addr} {n c : Nat} {L : List ByteArray} (h : RowS w (.slice a n c) L) {j : Nat} {x : ByteArray} (hj : L[j]? = some x) :
    ∃ g o, a = some ⟨g, o, none⟩ ∧ g < w.heap.size ∧ w.cell? ⟨g, o + j, none⟩ = some (.string x) := by
  rcases h with ⟨rfl, _⟩ | ⟨g, o, c', h1, h2, h3⟩
  · simp at hj
  · cases h1
    exact ⟨g, o, rfl, h2, h3 j x hj⟩
theorem RowS.of_own {w : World} {base : Nat} {v : Value} {n : Nat} {L : List ByteArray} (h : w.ownsRow base 9 1 v n (strs L)) (hn : n = L.length) : RowS w v L := by
  subst hn
  rcases srow_shape h with ⟨rfl, h0⟩ | ⟨g, c, rfl, h1, h2, h3, h4, h5⟩
  · exact .inl ⟨List.eq_nil_of_length_eq_zero h0, none, 0, rfl⟩
  · exact .inr ⟨g, 0, c, rfl, h2, fun j x hj => by rw [Nat.zero_add]; exact h5 j _ (by simp [strs, hj])⟩
theorem RowS.below {w w' : World} {v : Value} {L : List ByteArray} (h : RowS w v L) (hb : Below w.heap.size w w') : RowS w' v L := by
  rcases h with h | ⟨g, o, c, h1, h2, h3⟩
  · exact .inl h
  · exact .inr ⟨g, o, c, h1, Nat.lt_of_lt_of_le h2 hb.size, fun j x hj => by rw [hb.cell (p := ⟨g, o + j, none⟩) h2]; exact h3 j x hj⟩
set_option maxRecDepth 100000 in
set_option maxHeartbeats 2000000 in
theorem same_any (v1 v2 : Value) (L1 L2 : List ByteArray) (w : World) (h1 : RowS w v1 L1) (h2 : RowS w v2 L2) (l1 : L1.length ≤ 1000000) (l2 : L2.length ≤ 1000000) :
    Calls Try.prog 29 #[v1, v2] w fun e w' => e = .returned (.bool (decide (L1 = L2))) ∧ Below w.heap.size w w' := by
  obtain ⟨a1, c1, rfl⟩ := h1.shape
  obtain ⟨a2, c2, rfl⟩ := h2.shape
  have H1 := Lib.hid h1
  have H2 := Lib.hid h2
  clear h1 h2
  by_cases hl : L1.length = L2.length
  · obtain ⟨n, hn⟩ : ∃ n, L1.length = n := ⟨_, rfl⟩
    have HN1 := Lib.hid hn
    have HN2 : Hid (L2.length = n) := Lib.hid (by rw [← hl]; exact hn)
    rw [hn] at H1 l1 ⊢
    rw [HN2.out] at H2 l2 ⊢
    clear hl hn
    go_enter Try.func29, Try.ntmps29
    go_wp2_with fail
    go_loopw [5] (fun i wr => ∃ k q : Nat, k ≤ n ∧ i = .int .i64 k ∧ wr = w.drewN q ∧ Hid (∀ j, j < k → L1[j]? = L2[j]?)) (fun i _ => n - (intOf i).toNat)
    case atStart => exact ⟨0, 0, Nat.zero_le _, rfl, rfl, Lib.hid (by intro j h; omega)⟩
    case round =>
      obtain ⟨k, q, hk, rfl, rfl, HA⟩ := hrel
      by_cases hlt : k < n
      · obtain ⟨x, hx⟩ : ∃ x, L1[k]? = some x := ⟨L1[k]'(by rw [HN1.out]; exact hlt), by simp [HN1.out, hlt]⟩
        obtain ⟨y, hy⟩ : ∃ y, L2[k]? = some y := ⟨L2[k]'(by rw [HN2.out]; exact hlt), by simp [HN2.out, hlt]⟩
        obtain ⟨g1, o1, rfl, -, e1⟩ := H1.out.get hx
        obtain ⟨g2, o2, rfl, -, e2⟩ := H2.out.get hy
        have HX := Lib.hid hx
        have HY := Lib.hid hy
        clear hx hy
        by_cases he : x = y
        · have HA2 : Hid (∀ j, j < k + 1 → L1[j]? = L2[j]?) := Lib.hid (by
            intro j hj
            by_cases e : j = k
            · rw [e, HX.out, HY.out, he]
            · exact HA.out j (by omega))
          subst he
          go_wp2_with fail
          go_quiet (fail)
          go_wp2_with fail
          go_roundw
          case rel => exact ⟨k + 1, q + nq, by omega, by go_num, by simp, HA2⟩
          case measure => simp [intOf]; omega
        · have HF : Hid (decide (L1 = L2) = false) := Lib.hid (decide_eq_false (by
            intro e
            have := HX.out
            rw [e, HY.out] at this
            exact he (Option.some.inj this).symm))
          have hb : x.toList ≠ y.toList := fun e => he (by apply ByteArray.ext; rw [ByteArray.toList_eq, ByteArray.toList_eq] at e; exact Array.toList_inj.1 e)
          have hb2 : (x.toList == y.toList) = false := by rw [beq_eq_false_iff_ne]; exact hb
          have hb3 : (x.toList != y.toList) = true := by rw [bne_iff_ne]; exact hb
          clear he
          go_wp2_with fail
          go_quiet (fail)
          go_wp2_with fail
          go_ret
          exact ⟨by rw [HF.out]; rfl, below_drewN (below_drewN (Below.refl _ _) _) _⟩
      · obtain rfl : k = n := by omega
        have HT : Hid (decide (L1 = L2) = true) := Lib.hid (decide_eq_true (by
          apply List.ext_getElem?
          intro j
          by_cases hj : j < k
          · exact HA.out j hj
          · rw [List.getElem?_eq_none (by rw [HN1.out]; omega), List.getElem?_eq_none (by rw [HN2.out]; omega)]))
        go_wp2_with fail
        go_ret
        exact ⟨by rw [HT.out]; rfl, below_drewN (Below.refl _ _) _⟩
  · have HF : Hid (decide (L1 = L2) = false) := Lib.hid (decide_eq_false fun e => hl (by rw [e]))
    have hb : ((L1.length : Int) == (L2.length : Int)) = false := by rw [beq_eq_false_iff_ne]; omega
    have hb3 : ((L1.length : Int) != (L2.length : Int)) = true := by rw [bne_iff_ne]; omega
    clear hl
    go_enter Try.func29, Try.ntmps29
    go_wp2_with fail
    go_ret
    exact ⟨by rw [HF.out]; rfl, Below.refl _ _⟩
theorem Two.names {w : World} {d r : Nat} {s t : St} {rw ro : Nat → Prop} (h : Two w d s r t rw ro) {M : Nat} (gs : Good s M) (hM : M ≤ 500000) :
    Calls Try.prog 45 #[ptr d] w fun e w' => ∃ v, e = .returned v ∧ RowS w' v s.names ∧ Below w.heap.size w w' := by
  obtain ⟨rwd, rod, rwr, ror, hd, _⟩ := h
  refine (names_any d s rwd rod M w hd gs hM).mono ?_
  rintro e w' ⟨v, rfl, h1, h2⟩
  exact ⟨v, rfl, RowS.of_own h1 rfl, h2⟩
theorem Two.rnames {w : World} {d r : Nat} {s t : St} {rw ro : Nat → Prop} (h : Two w d s r t rw ro) {M : Nat} (gt : Good t M) (hM : M ≤ 500000) :
    Calls Try.prog 48 #[ptr r] w fun e w' => ∃ v, e = .returned v ∧ RowS w' v t.names ∧ Below w.heap.size w w' := by
  obtain ⟨rwd, rod, rwr, ror, _, hr, _⟩ := h
  refine (rnames_any r t rwr ror M w hr gt hM).mono ?_
  rintro e w' ⟨v, rfl, h1, h2⟩
  exact ⟨v, rfl, RowS.of_own h1 rfl, h2⟩
theorem Two.read {w : World} {d r : Nat} {s t : St} {rw ro : Nat → Prop} (h : Two w d s r t rw ro) {M : Nat} (gs : Good s M) (hM : M ≤ 500000) {x : ByteArray} (hx : x.size ≤ maxLen) :
    Calls Try.prog 33 #[ptr d, .string x] w fun e w' => e = .returned (.tuple #[.string (s.read x).1, .int .i64 (s.read x).2]) ∧ w' = w := by
  obtain ⟨rwd, rod, rwr, ror, hd, _⟩ := h
  exact read_any d s rwd rod M x w hd gs hM hx
theorem Two.rread {w : World} {d r : Nat} {s t : St} {rw ro : Nat → Prop} (h : Two w d s r t rw ro) {M : Nat} (gt : Good t M) (hM : M ≤ 500000) {x : ByteArray} (hx : x.size ≤ maxLen) :
    Calls Try.prog 60 #[ptr r, .string x] w fun e w' => e = .returned (.tuple #[.string (t.read x).1, .int .i64 (t.read x).2]) ∧ Below w.heap.size w w' := by
  obtain ⟨rwd, rod, rwr, ror, _, hr, _⟩ := h
  exact rread_any r t rwr ror M x w hr gt hM hx
theorem Two.pending {w : World} {d r : Nat} {s t : St} {rw ro : Nat → Prop} (h : Two w d s r t rw ro) :
    Calls Try.prog 39 #[ptr d] w fun e w' => e = .returned (.int .i64 s.ops.length) ∧ w' = w := by
  obtain ⟨rwd, rod, rwr, ror, hd, _⟩ := h
  exact pending_any d s rwd rod w hd
theorem Two.ops {w : World} {d r : Nat} {s t : St} {rw ro : Nat → Prop} (h : Two w d s r t rw ro) : ∃ a c, w.cell? ⟨r, 2, none⟩ = some (.slice a t.ops.length c) ∧ r < w.heap.size := by
  obtain ⟨rwd, rod, rwr, ror, _, ⟨vf, vp, hr⟩, _⟩ := h
  obtain ⟨a, c, rfl⟩ := own_slice hr.row
  exact ⟨a, c, (row_cells hr.blk).1 2, heap_lt hr.blk⟩
end Go.Proofs.Ytlaodmpdngdhjaa
