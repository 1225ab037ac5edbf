/- The reference's files in memory; where. -/
import Derived.Test.YtlaodmpdngdhjaaDv
import Derived.Test.YtlaodmpdngdhjaaDap
namespace Go.Proofs.Ytlaodmpdngdhjaa
set_option linter.unusedVariables false
set_option linter.unusedSimpArgs false
open Go.RowKit

/-- The cells of files. -/
def fcells (F : List File) : List Value := F.flatMap fun p => [.string p.1, .string p.2]
theorem fcells_length (F : List File) : (fcells F).length = F.length * 2 := by
  induction F with
  | nil => rfl
  | cons p r ih => simp only [fcells, List.flatMap_cons, List.length_append, List.length_cons, List.length_nil] at *; omega
theorem fcells_append (F G : List File) : fcells (F ++ G) = fcells F ++ fcells G := by simp [fcells]
theorem fcells_one (F : List File) : ∀ u ∈ fcells F, u.oneCell' = true := by
  intro u hu
  obtain ⟨p, _, hp⟩ := List.mem_flatMap.1 hu
  simp at hp
  rcases hp with rfl | rfl <;> rfl
theorem fcells_get {F : List File} {k : Nat} {p : File} (h : F[k]? = some p) : (fcells F)[k * 2]? = some (.string p.1) ∧ (fcells F)[k * 2 + 1]? = some (.string p.2) := by
  induction F generalizing k with
  | nil => simp at h
  | cons q r ih =>
    cases k with
    | zero =>
      simp only [List.getElem?_cons_zero, Option.some.injEq] at h
      subst h
      simp [fcells]
    | succ k =>
      have := ih (k := k) (by simpa using h)
      have e1 : (k + 1) * 2 = k * 2 + 2 := by omega
      have e2 : (k + 1) * 2 + 1 = k * 2 + 1 + 2 := by omega
      rw [e2, e1]
      simpa [fcells] using this
/-- A slice of these files, to be read. -/
def RowF (w : World) (v : Value) (F : List File) : Prop :=
  (v = .slice none 0 0 ∧ F = []) ∨ ∃ g cap, v = .slice (some ⟨g, 0, none⟩) F.length cap ∧ F.length ≤ cap ∧ g < w.heap.size ∧ ∀ j u, (fcells F)[j]? = some u → w.cell? ⟨g, j, none⟩ = some u
theorem RowF.shape {w : World} {v : Value} {F : List File} (h : RowF w v F) : ∃ a cap, v = .slice a F.length cap ∧ F.length ≤ cap := by
  rcases h with ⟨rfl, rfl⟩ | ⟨g, cap, rfl, h1, _⟩
  · exact ⟨none, 0, rfl, Nat.le_refl _⟩
  · exact ⟨_, _, rfl, h1⟩
theorem RowF.get {w : World} {a : Option Addr} {n cap : Nat} {F : List File} (h : RowF w (.slice a n cap) F) {k : Nat} {p : File} (hk : F[k]? = some p) :
    ∃ g, a = some ⟨g, 0, none⟩ ∧ n = F.length ∧ g < w.heap.size ∧ w.cell? ⟨g, k * 2, none⟩ = some (.string p.1) ∧ w.cell? ⟨g, k * 2 + 1, none⟩ = some (.string p.2) := by
  rcases h with ⟨_, rfl⟩ | ⟨g, cap', h1, h2, h3, h4⟩
  · simp at hk
  · cases h1
    obtain ⟨e1, e2⟩ := fcells_get hk
    exact ⟨g, rfl, rfl, h3, h4 _ _ e1, h4 _ _ e2⟩
theorem RowF.kept {w w' : World} {v : Value} {F : List File} (h : RowF w v F) (hk : ∀ g, v.ownBlock = some g → w'.heap[g]? = w.heap[g]?) (hs : w.heap.size ≤ w'.heap.size) : RowF w' v F := by
  rcases h with h | ⟨g, cap, rfl, h1, h2, h3⟩
  · exact .inl h
  · exact .inr ⟨g, cap, rfl, h1, Nat.lt_of_lt_of_le h2 hs, fun j u hu => by rw [World.cell?_of_block (hk g rfl)]; exact h3 j u hu⟩
theorem RowF.below {w w' : World} {v : Value} {F : List File} (h : RowF w v F) (hb : Below w.heap.size w w') : RowF w' v F := by
  refine h.kept (fun g e => hb.block g ?_) hb.size
  rcases h with ⟨rfl, _⟩ | ⟨g', cap, rfl, h1, h2, h3⟩
  · cases e
  · obtain rfl : g' = g := by simpa [Value.ownBlock] using e
    exact h2
theorem RowF.of_own {w : World} {base : Nat} {e : TypeId} {v : Value} {n : Nat} {F : List File} (h : w.ownsRow base e 2 v n (fcells F)) : RowF w v F ∧ n = F.length := by
  have hl : n = F.length := by have := h.1; rw [fcells_length] at this; omega
  refine ⟨?_, hl⟩
  subst hl
  have hh := h
  rcases h.2 with ⟨rfl, h0⟩ | ⟨g, cap, cur, rfl, hg, hb, h1, h2, h3, h4⟩
  · exact .inl ⟨rfl, List.eq_nil_of_length_eq_zero h0⟩
  · refine .inr ⟨g, cap, rfl, h1, (Array.getElem?_eq_some_iff.1 hb).1, fun j u hu => ?_⟩
    have := hh.cells (g := g) rfl j u hu
    rwa [Addr.add_lit, Nat.zero_add] at this
theorem RowF.src {w : World} {v : Value} {F : List File} (h : RowF w v F) : Src w 2 v F.length (fcells F) := by
  rcases h with ⟨rfl, rfl⟩ | ⟨g, cap, rfl, h1, h2, h3⟩
  · exact .inl ⟨rfl, rfl, rfl⟩
  · exact .inr ⟨_, _, rfl, fcells_length F, fun j u hu => by rw [Addr.add_lit, Nat.zero_add]; exact h3 j u hu⟩
/-- The place of a file as the reference tells it. -/
def whr (F : List File) (x : ByteArray) : Int := if idx F x < F.length then (idx F x : Int) else -1
theorem whr_at {F : List File} {x : ByteArray} {k : Nat} (h1 : ∀ j p, j < k → F[j]? = some p → p.1 ≠ x) {p : File} (hk : F[k]? = some p) (hp : p.1 = x) : whr F x = k := by
  have e : idx F x = k := by
    induction F generalizing k with
    | nil => simp at hk
    | cons q r ih =>
      rw [idx_cons]
      cases k with
      | zero =>
        simp only [List.getElem?_cons_zero, Option.some.injEq] at hk
        subst hk
        rw [if_pos hp]
      | succ k =>
        rw [if_neg (h1 0 q (by omega) rfl)]
        rw [ih (k := k) (fun j p hj hp => h1 (j + 1) p (by omega) (by simpa using hp)) (by simpa using hk)]
  have hlt := (List.getElem?_eq_some_iff.1 hk).1
  unfold whr
  rw [e, if_pos hlt]
theorem whr_none {F : List File} {x : ByteArray} (h1 : ∀ j p, j < F.length → F[j]? = some p → p.1 ≠ x) : whr F x = -1 := by
  have e : ¬ idx F x < F.length := by
    intro h
    have := (look_some h).1
    exact h1 (idx F x) _ h (by simp) this
  unfold whr
  rw [if_neg e]
theorem whr_lt (F : List File) (x : ByteArray) : (whr F x < 0) ↔ ¬ idx F x < F.length := by
  unfold whr
  split
  · constructor
    · intro h; omega
    · intro h; omega
  · constructor
    · intro h; assumption
    · intro h; omega
set_option maxRecDepth 100000 in
set_option maxHeartbeats 1000000 in
theorem where_any (v : Value) (F : List File) (x : ByteArray) (w : World) (h : RowF w v F) (hl : F.length ≤ 1000000) :
    Calls Try.prog 85 #[v, .string x] w fun e w' => e = .returned (.int .i64 (whr F x)) ∧ w' = w := by
  obtain ⟨a, cap, rfl, hcap⟩ := h.shape
  have HR := Lib.hid h
  obtain ⟨n, hn⟩ : ∃ n, F.length = n := ⟨_, rfl⟩
  have HN := Lib.hid hn
  rw [hn] at HR hl ⊢
  clear h hn hcap
  go_enter Try.func85, Try.ntmps85
  go_wp2_with fail
  go_loop [5] (fun i => ∃ k : Nat, k ≤ n ∧ i = .int .i64 k ∧ Hid (∀ j p, j < k → F[j]? = some p → p.1 ≠ x)) (fun i => n - (intOf i).toNat)
  case atStart => exact ⟨0, Nat.zero_le _, rfl, Lib.hid (by intro j p h; omega)⟩
  case round =>
    obtain ⟨k, hk, rfl, HA⟩ := hrel
    by_cases hlt : k < n
    · obtain ⟨p, hp⟩ : ∃ p, F[k]? = some p := ⟨F[k]'(by rw [HN.out]; exact hlt), by simp [HN.out, hlt]⟩
      obtain ⟨g, rfl, _, hg, c0, _⟩ := HR.out.get hp
      have HP := Lib.hid hp
      clear hp
      by_cases he : p.1 = x
      · have HW : Hid (whr F x = k) := Lib.hid (whr_at HA.out HP.out he)
        rw [he] at c0
        go_wp2_with fail
        go_ret
        exact ⟨by rw [HW.out]; rfl, rfl⟩
      · obtain ⟨y, hy⟩ : ∃ y, p.1 = y := ⟨_, rfl⟩
        rw [hy] at c0 he
        have hb : y.toList ≠ x.toList := fun e => he (by apply ByteArray.ext; rw [ByteArray.toList_eq, ByteArray.toList_eq] at e; exact Array.toList_inj.1 e)
        have hb2 : (y.toList == x.toList) = false := by rw [beq_eq_false_iff_ne]; exact hb
        have HA2 : Hid (∀ j p, j < k + 1 → F[j]? = some p → p.1 ≠ x) := Lib.hid (by
          intro j q hj hq
          by_cases e : j = k
          · subst e
            rw [HP.out] at hq
            cases hq
            rw [hy]; exact he
          · exact HA.out j q (by omega) hq)
        go_wp2_with fail
        go_round
        case rel => exact ⟨k + 1, by omega, by go_num, HA2⟩
        case measure => simp [intOf]; omega
    · obtain rfl : k = n := by omega
      have HW : Hid (whr F x = -1) := Lib.hid (whr_none (by rw [HN.out]; exact HA.out))
      go_wp2_with fail
      go_ret
      exact ⟨by rw [HW.out]; rfl, rfl⟩
end Go.Proofs.Ytlaodmpdngdhjaa
