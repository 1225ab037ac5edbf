/- The reference's disk in memory; ValidFile, spend, All. -/
import Derived.Test.YtlaodmpdngdhjaaEc
namespace Go.Proofs.Ytlaodmpdngdhjaa
set_option linter.unusedVariables false
set_option linter.unusedSimpArgs false
open Go.RowKit

def rcells (s : St) (vf vp : Value) : Array Value := #[.int .i64 s.cap, vf, vp, .int .i64 s.left, .bool s.off]
/-- Block r is a reference's disk in this state. -/
structure RefIs (w : World) (r : Nat) (s : St) (rw ro : Nat → Prop) (vf vp : Value) : Prop where
  blk : w.heap[r]? = some (.cells (rcells s vf vp) 99 (0, 0))
  fls : RowF w vf s.files
  row : w.ownsRow 0 110 3 vp s.ops.length (s.ops.flatMap ocells)
  rwr : rw r
  rwp : ∀ b, vp.ownBlock = some b → rw b
  rof : ∀ b, vf.ownBlock = some b → ro b
  lt : ∀ b, rw b ∨ ro b → b < w.heap.size
  dis : ∀ b, rw b → ro b → False
def RefAt (w : World) (r : Nat) (s : St) (rw ro : Nat → Prop) : Prop := ∃ vf vp, RefIs w r s rw ro vf vp
theorem RefIs.kept {w w' : World} {r : Nat} {s : St} {rw ro : Nat → Prop} {vf vp : Value} (h : RefIs w r s rw ro vf vp) (hk : ∀ b, rw b ∨ ro b → w'.heap[b]? = w.heap[b]?) (hs : w.heap.size ≤ w'.heap.size) : RefIs w' r s rw ro vf vp :=
  ⟨by rw [hk r (.inl h.rwr)]; exact h.blk, h.fls.kept (fun g e => hk g (.inr (h.rof g e))) hs, row_kept h.row fun g e => hk g (.inl (h.rwp g e)), h.rwr, h.rwp, h.rof, fun b hb => Nat.lt_of_lt_of_le (h.lt b hb) hs, h.dis⟩
theorem RefAt.kept {w w' : World} {r : Nat} {s : St} {rw ro : Nat → Prop} (h : RefAt w r s rw ro) (hk : ∀ b, rw b ∨ ro b → w'.heap[b]? = w.heap[b]?) (hs : w.heap.size ≤ w'.heap.size) : RefAt w' r s rw ro := by
  obtain ⟨vf, vp, h⟩ := h
  exact ⟨vf, vp, h.kept hk hs⟩
theorem RefAt.lt {w : World} {r : Nat} {s : St} {rw ro : Nat → Prop} (h : RefAt w r s rw ro) (b : Nat) (hb : rw b ∨ ro b) : b < w.heap.size := by
  obtain ⟨vf, vp, h⟩ := h
  exact h.lt b hb
theorem RefAt.below {w w' : World} {r : Nat} {s : St} {rw ro : Nat → Prop} (h : RefAt w r s rw ro) (hb : Below w.heap.size w w') : RefAt w' r s rw ro :=
  h.kept (fun b hr => hb.block b (h.lt b hr)) hb.size
def RMeth (w : World) (r : Nat) (s' : St) (rw ro : Nat → Prop) (v : Value) (e : Ending) (w' : World) : Prop :=
  e = .returned v ∧ ∃ rw' ro', RefAt w' r s' rw' ro' ∧ Kept w w' rw ro rw' ro'
theorem RMeth.mk {w w' : World} {d : Nat} {s : St} {rw ro : Nat → Prop} (v : Value) (h : RefAt w d s rw ro) (hb : Below w.heap.size w w') : RMeth w d s rw ro v (.returned v) w' :=
  ⟨rfl, rw, ro, h.below hb, Kept.below hb⟩
theorem RMeth.after {w w1 w' : World} {d : Nat} {s : St} {rw ro rw1 ro1 : Nat → Prop} {v : Value} {e : Ending} (k : Kept w w1 rw ro rw1 ro1) (h : RMeth w1 d s rw1 ro1 v e w') : RMeth w d s rw ro v e w' := by
  obtain ⟨h1, rw', ro', h2, h3⟩ := h
  exact ⟨h1, rw', ro', h2, k.trans h3⟩
theorem ocells_form (c : Chg) : ∃ x y z, ocells c = [x, y, z] ∧ x.oneCell' = true ∧ y.oneCell' = true ∧ z.oneCell' = true := by
  cases c <;> exact ⟨_, _, _, rfl, rfl, rfl, rfl⟩
theorem flat3 : ∀ {l : List Chg} {k : Nat} {c : Chg}, l[k]? = some c → ∀ {x y z : Value}, ocells c = [x, y, z] → (l.flatMap ocells)[k * 3]? = some x ∧ (l.flatMap ocells)[k * 3 + 1]? = some y ∧ (l.flatMap ocells)[k * 3 + 2]? = some z
  | [], k, c, h, _, _, _, _ => by simp at h
  | d :: r, 0, c, h, x, y, z, e => by
    simp only [List.getElem?_cons_zero, Option.some.injEq] at h
    subst h
    simp [e]
  | d :: r, k + 1, c, h, x, y, z, e => by
    have h2 := flat3 (l := r) (k := k) (c := c) (by simpa using h) e
    obtain ⟨p, q, s, hd, _⟩ := ocells_form d
    have e1 : (k + 1) * 3 = k * 3 + 3 := by omega
    have e2 : (k + 1) * 3 + 1 = (k * 3 + 1) + 3 := by omega
    have e3 : (k + 1) * 3 + 2 = (k * 3 + 2) + 3 := by omega
    rw [e3, e2, e1, List.flatMap_cons, hd]
    simpa using h2
theorem olen (l : List Chg) : (l.flatMap ocells).length = l.length * 3 := by
  induction l with
  | nil => rfl
  | cons c r ih =>
    obtain ⟨x, y, z, e, _⟩ := ocells_form c
    rw [List.flatMap_cons, List.length_append, ih, e]
    simp
    omega
theorem row3 {w : World} {base : Nat} {e : TypeId} {v : Value} {n : Nat} {l : List Chg} (h : w.ownsRow base e 3 v n (l.flatMap ocells)) {k : Nat} {c : Chg} (hk : l[k]? = some c) {x y z : Value} (ho : ocells c = [x, y, z]) :
    ∃ g cap, v = .slice (some ⟨g, 0, none⟩) n cap ∧ n ≤ cap ∧ g < w.heap.size ∧ w.cell? ⟨g, k * 3, none⟩ = some x ∧ w.cell? ⟨g, k * 3 + 1, none⟩ = some y ∧ w.cell? ⟨g, k * 3 + 2, none⟩ = some z := by
  obtain ⟨h1, h2, h3⟩ := flat3 hk ho
  have hh := h
  obtain ⟨hlen, ⟨_, h0⟩ | ⟨g, cap, cur, rfl, hg, hblk, hn, hcap, hsz, htk⟩⟩ := h
  · subst h0
    have : l.flatMap ocells = [] := List.eq_nil_of_length_eq_zero (by simpa using hlen)
    rw [this] at h1
    simp at h1
  · have a1 := hh.cells (g := g) rfl _ _ h1
    have a2 := hh.cells (g := g) rfl _ _ h2
    have a3 := hh.cells (g := g) rfl _ _ h3
    rw [Addr.add_lit, Nat.zero_add] at a1 a2 a3
    exact ⟨g, cap, rfl, hn, heap_lt hblk, a1, a2, a3⟩
set_option maxHeartbeats 2000000 in
/-- 'certpathref21.ValidFile'. -/
theorem validf_any (s : ByteArray) (w : World) (hs : s.size ≤ maxLen) : Calls Try.prog 83 #[.string s] w fun e w' => e = .returned (.bool (valid s)) ∧ w' = w := by
  unfold maxLen at hs
  go_enter Try.func83, Try.ntmps83
  go_wp2_with fail
  go_loop [3] (fun i => ∃ k : Nat, k ≤ s.size ∧ i = .int .i64 k ∧ Hid (∀ j, j < k → okN (bt s j) = true)) (fun i => s.size - (intOf i).toNat)
  case atStart => exact ⟨0, Nat.zero_le _, rfl, Lib.hid (by intro j h; omega)⟩
  case round =>
    obtain ⟨k, hk, rfl, HA⟩ := hrel
    by_cases hlt : k < s.size
    · have hg := bt_get s k hlt
      obtain ⟨c, hc⟩ : ∃ c, bt s k = c := ⟨_, rfl⟩
      rw [hc] at hg
      rcases okN_cases c with ⟨ho, hcs⟩ | ⟨ho, n1, n2, hcs⟩
      · have HK : Hid (∀ j, j < k + 1 → okN (bt s j) = true) := Lib.hid (by
          intro j hj
          by_cases e : j = k
          · rw [e, hc]; exact ho
          · exact HA.out j (by omega))
        clear ho hc
        rcases hcs with h | h | h | h
        · have a1 : decide ((97 : Int) ≤ (c : Int)) = true := decide_eq_true (by omega)
          have a2 : decide ((c : Int) ≤ 122) = true := decide_eq_true (by omega)
          go_wp2_with fail
          go_round
          case rel => exact ⟨k + 1, by omega, by go_num, HK⟩
          case measure => simp [intOf]; omega
        · have a1 : decide ((97 : Int) ≤ (c : Int)) = false := decide_eq_false (by omega)
          have a2 : decide ((48 : Int) ≤ (c : Int)) = true := decide_eq_true (by omega)
          have a3 : decide ((c : Int) ≤ 57) = true := decide_eq_true (by omega)
          go_wp2_with fail
          all_goals
            go_round
            case rel => exact ⟨k + 1, by omega, by go_num, HK⟩
            case measure => simp [intOf]; omega
        all_goals
          subst h
          go_wp2_with fail
          go_round
          case rel => exact ⟨k + 1, by omega, by go_num, HK⟩
          case measure => simp [intOf]; omega
      · have HR := Lib.hid (valid_no hlt (by rw [hc]; exact ho))
        have e1 : ((c : Int) == 45) = false := by rw [beq_eq_false_iff_ne]; omega
        have e2 : ((c : Int) == 46) = false := by rw [beq_eq_false_iff_ne]; omega
        clear ho hc
        rcases hcs with h | h | h
        · have a0 : decide ((97 : Int) ≤ (c : Int)) = false := decide_eq_false (by omega)
          have a1 : decide ((48 : Int) ≤ (c : Int)) = false := decide_eq_false (by omega)
          go_wp2_with fail
          go_ret
          exact ⟨by rw [HR.out]; rfl, rfl⟩
        · have a0 : decide ((97 : Int) ≤ (c : Int)) = false := decide_eq_false (by omega)
          have a1 : decide ((48 : Int) ≤ (c : Int)) = true := decide_eq_true (by omega)
          have a2 : decide ((c : Int) ≤ 57) = false := decide_eq_false (by omega)
          go_wp2_with fail
          go_ret
          exact ⟨by rw [HR.out]; rfl, rfl⟩
        · have a0 : decide ((97 : Int) ≤ (c : Int)) = true := decide_eq_true (by omega)
          have a1 : decide ((c : Int) ≤ 122) = false := decide_eq_false (by omega)
          have a2 : decide ((48 : Int) ≤ (c : Int)) = true := decide_eq_true (by omega)
          have a3 : decide ((c : Int) ≤ 57) = false := decide_eq_false (by omega)
          go_wp2_with fail
          go_ret
          exact ⟨by rw [HR.out]; rfl, rfl⟩
    · obtain rfl : k = s.size := by omega
      have HR : Hid (valid s = decide (1 ≤ s.size ∧ s.size ≤ 32)) := Lib.hid (valid_all HA.out)
      by_cases h1 : 1 ≤ s.size
      · by_cases h2 : s.size ≤ 32
        · have HR2 : Hid (valid s = true) := Lib.hid (by rw [HR.out]; simp [h1, h2])
          have d0 : decide ((1 : Int) ≤ (s.size : Int)) = true := decide_eq_true (by omega)
          have d1 : decide ((s.size : Int) ≤ 32) = true := decide_eq_true (by omega)
          go_wp2_with fail
          go_ret
          exact ⟨by rw [HR2.out]; rfl, rfl⟩
        · have HR2 : Hid (valid s = false) := Lib.hid (by rw [HR.out]; simp [h1, h2])
          have d0 : decide ((1 : Int) ≤ (s.size : Int)) = true := decide_eq_true (by omega)
          have d1 : decide ((s.size : Int) ≤ 32) = false := decide_eq_false (by omega)
          go_wp2_with fail
          go_ret
          exact ⟨by rw [HR2.out]; rfl, rfl⟩
      · have HR2 : Hid (valid s = false) := Lib.hid (by rw [HR.out]; simp [h1])
        have d1 : decide ((1 : Int) ≤ (s.size : Int)) = false := decide_eq_false (by omega)
        go_wp2_with fail
        go_ret
        exact ⟨by rw [HR2.out]; rfl, rfl⟩
set_option maxHeartbeats 1000000 in
/-- 'spend'. -/
theorem spend_any (r : Nat) (s : St) (vf vp : Value) (w : World) (h : w.heap[r]? = some (.cells (rcells s vf vp) 99 (0, 0))) (hhi : s.left < 9223372036854775808) :
    Calls Try.prog 86 #[ptr r] w fun e w' => e = .returned (.tuple #[]) ∧ w'.heap[r]? = some (.cells (rcells s.spend vf vp) 99 (0, 0)) ∧ Turn r w w' := by
  obtain ⟨hc, hfz⟩ := row_cells h
  have k3 : w.cell? ⟨r, 3, none⟩ = some (.int .i64 s.left) := hc 3
  have k4 : w.cell? ⟨r, 4, none⟩ = some (.bool s.off) := hc 4
  have f3 := hfz 3
  have f4 := hfz 4
  have H := Lib.hid h
  clear h hc hfz
  by_cases hl : 0 < s.left
  · have hsp : s.spend = { s with left := s.left - 1, off := decide (s.left - 1 = 0) } := by unfold St.spend; rw [if_pos hl]
    have HSP := Lib.hid hsp
    have hwr : IntKind.i64.wrap (s.left - 1) = s.left - 1 := by rw [IntKind.wrap_i64]; omega
    clear hsp
    go_enter Try.func86, Try.ntmps86
    go_wp2_with fail
    go_end0
    refine ⟨rfl, ?_, (set_turn _ _ _ _).trans (set_turn _ _ _ _)⟩
    rw [set_heap (set_heap H.out 3 _) 4 _, HSP.out]
    simp [rcells]
    try rfl
  · have hsp : s.spend = s := by unfold St.spend; rw [if_neg hl]
    have HSP := Lib.hid hsp
    clear hsp
    go_enter Try.func86, Try.ntmps86
    go_wp2_with fail
    go_end0
    exact ⟨rfl, by rw [HSP.out]; exact H.out, Turn.refl _ _⟩
end Go.Proofs.Ytlaodmpdngdhjaa
