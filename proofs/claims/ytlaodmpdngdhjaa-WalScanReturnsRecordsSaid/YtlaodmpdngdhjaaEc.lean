/- apply: the files behind a change (printed by ec.py). -/
import Derived.Test.YtlaodmpdngdhjaaEb
import Derived.Deep.RegionWith
import Derived.Deep.Cut
namespace Go.Proofs.Ytlaodmpdngdhjaa
set_option linter.unusedVariables false
set_option linter.unusedSimpArgs false
open Go.RowKit

/-- The cells of a change as the reference keeps it. -/
def ocells : Chg → List Value
  | .app n b => [.int .i64 1, .string n, .string b]
  | .ren x y => [.int .i64 2, .string x, .string y]
  | .del n => [.int .i64 3, .string n, .string ⟨#[]⟩]
def RowOwn (w : World) (G : List File) (e : Ending) (w' : World) : Prop :=
  ∃ v', e = .returned v' ∧ w'.ownsRow w.heap.size 107 2 v' G.length (fcells G) ∧ Below w.heap.size w w'
theorem fcells_modify (F : List File) (i : Nat) (b : ByteArray) {p : File} (h : F[i]? = some p) : fcells (F.modify i fun p => (p.1, p.2 ++ b)) = (fcells F).set (i * 2 + 1) (.string (p.2 ++ b)) := by
  induction F generalizing i with
  | nil => simp at h
  | cons q r ih =>
    cases i with
    | zero =>
      simp only [List.getElem?_cons_zero, Option.some.injEq] at h
      subst h
      simp [fcells]
    | succ i =>
      have e : (i + 1) * 2 + 1 = i * 2 + 1 + 2 := by omega
      rw [e]
      have := ih i (by simpa using h)
      simp only [fcells] at this
      simp [fcells, this]
theorem row_mono' {w : World} {base base' : Nat} {e : TypeId} {size : Nat} {v : Value} {n : Nat} {xs : List Value} (h : w.ownsRow base e size v n xs) (hb : base' ≤ base) : w.ownsRow base' e size v n xs :=
  ⟨h.1, h.2.imp id fun ⟨g, cap, cur, h1, h2, h3⟩ => ⟨g, cap, cur, h1, Nat.le_trans hb h2, h3⟩⟩
theorem cells_new' (w : World) (l : List Value) (t : TypeId) : ∀ j u, l[j]? = some u → (w.alloc (.cells l.toArray t)).cell? ((⟨w.heap.size, 0, none⟩ : Addr).add j) = some u := by
  intro j u hu
  rw [Addr.add_lit, Nat.zero_add, (row_cells (heap_alloc_new w (.cells l.toArray t))).1 j]
  simpa using hu
theorem le_sum_mem' : ∀ {l : List Nat} {x : Nat}, x ∈ l → x ≤ l.sum
  | y :: r, x, h => by
    rw [List.sum_cons]
    rcases List.mem_cons.1 h with rfl | h
    · omega
    · have := le_sum_mem' h; omega
theorem whr_nonneg {F : List File} {x : ByteArray} (h : idx F x < F.length) : whr F x = (idx F x : Int) := by
  unfold whr
  rw [if_pos h]
theorem whr_neg {F : List File} {x : ByteArray} (h : ¬ idx F x < F.length) : whr F x = -1 := by
  unfold whr
  rw [if_neg h]
set_option maxRecDepth 100000 in
set_option maxHeartbeats 2000000 in
theorem apply_new (v : Value) (F : List File) (n b : ByteArray) (w : World) (h : RowF w v F) (hl : F.length ≤ 1000000) (hi : ¬ idx F n < F.length) :
    Calls Try.prog 90 #[v, .agg #[.int .i64 1, .string n, .string b]] w (RowOwn w (F ++ [(n, b)])) := by
  obtain ⟨i0, hf, hf0, hf1, hf2⟩ := info_parts info107
  have HSRC := Lib.hid h.src
  obtain ⟨a, cap, rfl, hcap⟩ := h.shape
  have HR := Lib.hid h
  clear h
  have OA : Hid (((w.alloc (.cells #[.int .i64 1, .string n, .string b] 110)).alloc (.cells #[] 107)).ownsRow w.heap.size 107 2 (.slice (some ⟨w.heap.size + 1, 0, none⟩) 0 0) 0 []) := Lib.hid (by
    have := World.ownsRow_made (base := w.heap.size) (e := 107) (size := 2) (w.alloc (.cells #[.int .i64 1, .string n, .string b] 110)) #[] 0 (by simp) (Nat.zero_le _) (by simp)
    simpa using this)
  have BA : Hid (Below w.heap.size w ((w.alloc (.cells #[.int .i64 1, .string n, .string b] 110)).alloc (.cells #[] 107))) := Lib.hid (((Below.refl _ _).alloc (Nat.le_refl _) _).alloc (by simp) _)
  have SA : Hid (Src ((w.alloc (.cells #[.int .i64 1, .string n, .string b] 110)).alloc (.cells #[] 107)) 2 (.slice a F.length cap) F.length (fcells F)) := Lib.hid (HR.out.below BA.out).src
  have hflen : (fcells F).length = F.length * 2 := fcells_length F
  go_enter Try.func90, Try.ntmps90
  go_upto_region 2 with (at_builtin; go_loud (refine wpList_app rfl (.tmp 8) (.tmp 9) 96 rfl w.heap.size 107 i0 (.agg #[.string ⟨#[]⟩, .string ⟨#[]⟩]) 2 32 Try.underlying96 hf hf0 hf1 hf2 rfl (by omega) (.slice (some ⟨w.heap.size + 1, 0, none⟩) 0 0) 0 [] rfl OA.out (.slice a F.length cap) F.length (fcells F) rfl SA.out (fcells_one F) (by unfold maxLen; omega) (by omega) (by simp; omega) ?_; intro v1 w1 o1 g1 q1))
  have B1 : Hid (Below w.heap.size w w1) := Lib.hid (BA.out.grown g1.out (by simp; omega) (by intro k hk; simp [Value.ownBlock] at hk; omega))
  have O1 : Hid (w1.ownsRow w.heap.size 107 2 v1 F.length (fcells F)) := Lib.hid (by have := o1.out; rw [Nat.zero_add, List.nil_append] at this; exact this)
  have HBX : Hid (w1.heap[w.heap.size]? = some (.cells #[.int .i64 1, .string n, .string b] 110 (0, 0))) := Lib.hid (by
    rw [g1.out.block w.heap.size (by simp; omega) (by simp [Value.ownBlock]), Below.heap_alloc _ _ _ (by simp)]
    exact heap_alloc_new w _)
  have R1 : Hid (RowF w1 v1 F) := Lib.hid (RowF.of_own O1.out).1
  have x0 : w1.cell? ⟨w.heap.size, 0, none⟩ = some (.int .i64 1) := (row_cells HBX.out).1 0
  have x1 : w1.cell? ⟨w.heap.size, 1, none⟩ = some (.string n) := (row_cells HBX.out).1 1
  have x2 : w1.cell? ⟨w.heap.size, 2, none⟩ = some (.string b) := (row_cells HBX.out).1 2
  obtain ⟨a1, cap1, hv1, hcap1⟩ := R1.out.shape
  subst hv1
  have HWH := Lib.hid (where_any _ F n w1 R1.out hl)
  clear o1 g1 q1 OA BA SA
  rw [whr_neg hi] at HWH
  have hE : Hid (fcells (F ++ [(n, b)]) = fcells F ++ [.string n, .string b]) := Lib.hid (by rw [fcells_append]; rfl)
  have hEl : Hid ((F ++ [(n, b)]).length = F.length + 1) := Lib.hid (by simp)
  go_wp2_with fail
  refine HWH.out.mono ?_
  rintro e w1' ⟨rfl, hw1⟩
  subst hw1
  go_wp2_with (at_builtin; go_loud (refine wpList_app rfl (.tmp 26) (.tmp 32) 96 rfl w.heap.size 107 i0 (.agg #[.string ⟨#[]⟩, .string ⟨#[]⟩]) 2 32 Try.underlying96 hf hf0 hf1 hf2 rfl (by omega) (.slice a1 F.length cap1) F.length (fcells F) rfl (O1.out.alloc _) (.slice (some ⟨w1'.heap.size, 0, none⟩) 1 1) 1 [.string n, .string b] rfl (.inr ⟨_, _, rfl, rfl, cells_new' w1' [.string n, .string b] 107⟩) (by intro u hu; simp at hu; rcases hu with rfl | rfl <;> rfl) (by unfold maxLen; omega) (by omega) (by have := B1.out.size; simp; omega) ?_; intro v2 w2 o2 g2 q2))
  go_ret
  refine ⟨v2, rfl, by rw [hE.out, hEl.out]; exact o2.out, (B1.out.alloc B1.out.size _).grown g2.out (by have := B1.out.size; simp; omega) (fun k hk => (O1.out.lt k hk).1)⟩
set_option maxRecDepth 100000 in
set_option maxHeartbeats 2000000 in
theorem apply_grow (v : Value) (F : List File) (n b : ByteArray) (i : Nat) (w : World) (h : RowF w v F) (hl : F.length ≤ 1000000) (hi : idx F n = i) (hi2 : i < F.length) (hz : szs F + b.size ≤ 1000000000) :
    Calls Try.prog 90 #[v, .agg #[.int .i64 1, .string n, .string b]] w (RowOwn w (F.modify i fun p => (p.1, p.2 ++ b))) := by
  obtain ⟨i0, hf, hf0, hf1, hf2⟩ := info_parts info107
  have HSRC := Lib.hid h.src
  obtain ⟨a, cap, rfl, hcap⟩ := h.shape
  have HR := Lib.hid h
  clear h
  have OA : Hid (((w.alloc (.cells #[.int .i64 1, .string n, .string b] 110)).alloc (.cells #[] 107)).ownsRow w.heap.size 107 2 (.slice (some ⟨w.heap.size + 1, 0, none⟩) 0 0) 0 []) := Lib.hid (by
    have := World.ownsRow_made (base := w.heap.size) (e := 107) (size := 2) (w.alloc (.cells #[.int .i64 1, .string n, .string b] 110)) #[] 0 (by simp) (Nat.zero_le _) (by simp)
    simpa using this)
  have BA : Hid (Below w.heap.size w ((w.alloc (.cells #[.int .i64 1, .string n, .string b] 110)).alloc (.cells #[] 107))) := Lib.hid (((Below.refl _ _).alloc (Nat.le_refl _) _).alloc (by simp) _)
  have SA : Hid (Src ((w.alloc (.cells #[.int .i64 1, .string n, .string b] 110)).alloc (.cells #[] 107)) 2 (.slice a F.length cap) F.length (fcells F)) := Lib.hid (HR.out.below BA.out).src
  have hflen : (fcells F).length = F.length * 2 := fcells_length F
  go_enter Try.func90, Try.ntmps90
  go_upto_region 2 with (at_builtin; go_loud (refine wpList_app rfl (.tmp 8) (.tmp 9) 96 rfl w.heap.size 107 i0 (.agg #[.string ⟨#[]⟩, .string ⟨#[]⟩]) 2 32 Try.underlying96 hf hf0 hf1 hf2 rfl (by omega) (.slice (some ⟨w.heap.size + 1, 0, none⟩) 0 0) 0 [] rfl OA.out (.slice a F.length cap) F.length (fcells F) rfl SA.out (fcells_one F) (by unfold maxLen; omega) (by omega) (by simp; omega) ?_; intro v1 w1 o1 g1 q1))
  have B1 : Hid (Below w.heap.size w w1) := Lib.hid (BA.out.grown g1.out (by simp; omega) (by intro k hk; simp [Value.ownBlock] at hk; omega))
  have O1 : Hid (w1.ownsRow w.heap.size 107 2 v1 F.length (fcells F)) := Lib.hid (by have := o1.out; rw [Nat.zero_add, List.nil_append] at this; exact this)
  have HBX : Hid (w1.heap[w.heap.size]? = some (.cells #[.int .i64 1, .string n, .string b] 110 (0, 0))) := Lib.hid (by
    rw [g1.out.block w.heap.size (by simp; omega) (by simp [Value.ownBlock]), Below.heap_alloc _ _ _ (by simp)]
    exact heap_alloc_new w _)
  have R1 : Hid (RowF w1 v1 F) := Lib.hid (RowF.of_own O1.out).1
  have x0 : w1.cell? ⟨w.heap.size, 0, none⟩ = some (.int .i64 1) := (row_cells HBX.out).1 0
  have x1 : w1.cell? ⟨w.heap.size, 1, none⟩ = some (.string n) := (row_cells HBX.out).1 1
  have x2 : w1.cell? ⟨w.heap.size, 2, none⟩ = some (.string b) := (row_cells HBX.out).1 2
  obtain ⟨a1, cap1, hv1, hcap1⟩ := R1.out.shape
  subst hv1
  have HWH := Lib.hid (where_any _ F n w1 R1.out hl)
  clear o1 g1 q1 OA BA SA
  rw [whr_nonneg (by rw [hi]; exact hi2), hi] at HWH
  obtain ⟨p, hp⟩ : ∃ p, F[i]? = some p := ⟨F[i], by simp [hi2]⟩
  obtain ⟨g, rfl, _, hg, _, c1⟩ := R1.out.get hp
  have hE := Lib.hid (fcells_modify F i b hp)
  have hEl : Hid ((F.modify i fun p => (p.1, p.2 ++ b)).length = F.length) := Lib.hid (by simp)
  have hps : p.2.size ≤ szs F := by
    unfold szs
    obtain ⟨hlt, rfl⟩ := List.getElem?_eq_some_iff.1 hp
    exact le_sum_mem' (List.mem_map.2 ⟨_, List.getElem_mem hlt, rfl⟩)
  obtain ⟨y, hy⟩ : ∃ y, p.2 = y := ⟨_, rfl⟩
  rw [hy] at c1 hps hE
  have hfz := O1.out.frozenAt (i * 2 + 1)
  clear hp hi hy
  go_wp2_with fail
  refine HWH.out.mono ?_
  rintro e w1' ⟨rfl, hw1⟩
  subst hw1
  go_wp2_with fail
  go_region_with fail
  all_goals
    go_wp2_with fail
    go_ret
    have ST := (O1.out.drew).stored (i * 2 + 1) (.string (y ++ b))
    refine ⟨_, rfl, by rw [hE.out, hEl.out]; exact ST.1, (Below.drew B1.out).setCell ?_ _⟩
    exact (O1.out.lt g rfl).1
set_option maxRecDepth 100000 in
set_option maxHeartbeats 2000000 in
theorem apply_keep2 (v : Value) (F : List File) (x y : ByteArray) (w : World) (h : RowF w v F) (hl : F.length ≤ 1000000) (hi : ¬ idx F x < F.length) :
    Calls Try.prog 90 #[v, .agg #[.int .i64 2, .string x, .string y]] w (RowOwn w (F)) := by
  obtain ⟨i0, hf, hf0, hf1, hf2⟩ := info_parts info107
  have HSRC := Lib.hid h.src
  obtain ⟨a, cap, rfl, hcap⟩ := h.shape
  have HR := Lib.hid h
  clear h
  have OA : Hid (((w.alloc (.cells #[.int .i64 2, .string x, .string y] 110)).alloc (.cells #[] 107)).ownsRow w.heap.size 107 2 (.slice (some ⟨w.heap.size + 1, 0, none⟩) 0 0) 0 []) := Lib.hid (by
    have := World.ownsRow_made (base := w.heap.size) (e := 107) (size := 2) (w.alloc (.cells #[.int .i64 2, .string x, .string y] 110)) #[] 0 (by simp) (Nat.zero_le _) (by simp)
    simpa using this)
  have BA : Hid (Below w.heap.size w ((w.alloc (.cells #[.int .i64 2, .string x, .string y] 110)).alloc (.cells #[] 107))) := Lib.hid (((Below.refl _ _).alloc (Nat.le_refl _) _).alloc (by simp) _)
  have SA : Hid (Src ((w.alloc (.cells #[.int .i64 2, .string x, .string y] 110)).alloc (.cells #[] 107)) 2 (.slice a F.length cap) F.length (fcells F)) := Lib.hid (HR.out.below BA.out).src
  have hflen : (fcells F).length = F.length * 2 := fcells_length F
  go_enter Try.func90, Try.ntmps90
  go_upto_region 2 with (at_builtin; go_loud (refine wpList_app rfl (.tmp 8) (.tmp 9) 96 rfl w.heap.size 107 i0 (.agg #[.string ⟨#[]⟩, .string ⟨#[]⟩]) 2 32 Try.underlying96 hf hf0 hf1 hf2 rfl (by omega) (.slice (some ⟨w.heap.size + 1, 0, none⟩) 0 0) 0 [] rfl OA.out (.slice a F.length cap) F.length (fcells F) rfl SA.out (fcells_one F) (by unfold maxLen; omega) (by omega) (by simp; omega) ?_; intro v1 w1 o1 g1 q1))
  have B1 : Hid (Below w.heap.size w w1) := Lib.hid (BA.out.grown g1.out (by simp; omega) (by intro k hk; simp [Value.ownBlock] at hk; omega))
  have O1 : Hid (w1.ownsRow w.heap.size 107 2 v1 F.length (fcells F)) := Lib.hid (by have := o1.out; rw [Nat.zero_add, List.nil_append] at this; exact this)
  have HBX : Hid (w1.heap[w.heap.size]? = some (.cells #[.int .i64 2, .string x, .string y] 110 (0, 0))) := Lib.hid (by
    rw [g1.out.block w.heap.size (by simp; omega) (by simp [Value.ownBlock]), Below.heap_alloc _ _ _ (by simp)]
    exact heap_alloc_new w _)
  have R1 : Hid (RowF w1 v1 F) := Lib.hid (RowF.of_own O1.out).1
  have x0 : w1.cell? ⟨w.heap.size, 0, none⟩ = some (.int .i64 2) := (row_cells HBX.out).1 0
  have x1 : w1.cell? ⟨w.heap.size, 1, none⟩ = some (.string x) := (row_cells HBX.out).1 1
  have x2 : w1.cell? ⟨w.heap.size, 2, none⟩ = some (.string y) := (row_cells HBX.out).1 2
  obtain ⟨a1, cap1, hv1, hcap1⟩ := R1.out.shape
  subst hv1
  have HWH := Lib.hid (where_any _ F x w1 R1.out hl)
  clear o1 g1 q1 OA BA SA
  rw [whr_neg hi] at HWH
  go_wp2_with fail
  refine HWH.out.mono ?_
  rintro e w1' ⟨rfl, hw1⟩
  subst hw1
  go_wp2_with fail
  go_ret
  exact ⟨_, rfl, O1.out, B1.out⟩
set_option maxRecDepth 100000 in
set_option maxHeartbeats 2000000 in
theorem apply_keep3 (v : Value) (F : List File) (n y : ByteArray) (w : World) (h : RowF w v F) (hl : F.length ≤ 1000000) (hi : ¬ idx F n < F.length) :
    Calls Try.prog 90 #[v, .agg #[.int .i64 3, .string n, .string y]] w (RowOwn w (F)) := by
  obtain ⟨i0, hf, hf0, hf1, hf2⟩ := info_parts info107
  have HSRC := Lib.hid h.src
  obtain ⟨a, cap, rfl, hcap⟩ := h.shape
  have HR := Lib.hid h
  clear h
  have OA : Hid (((w.alloc (.cells #[.int .i64 3, .string n, .string y] 110)).alloc (.cells #[] 107)).ownsRow w.heap.size 107 2 (.slice (some ⟨w.heap.size + 1, 0, none⟩) 0 0) 0 []) := Lib.hid (by
    have := World.ownsRow_made (base := w.heap.size) (e := 107) (size := 2) (w.alloc (.cells #[.int .i64 3, .string n, .string y] 110)) #[] 0 (by simp) (Nat.zero_le _) (by simp)
    simpa using this)
  have BA : Hid (Below w.heap.size w ((w.alloc (.cells #[.int .i64 3, .string n, .string y] 110)).alloc (.cells #[] 107))) := Lib.hid (((Below.refl _ _).alloc (Nat.le_refl _) _).alloc (by simp) _)
  have SA : Hid (Src ((w.alloc (.cells #[.int .i64 3, .string n, .string y] 110)).alloc (.cells #[] 107)) 2 (.slice a F.length cap) F.length (fcells F)) := Lib.hid (HR.out.below BA.out).src
  have hflen : (fcells F).length = F.length * 2 := fcells_length F
  go_enter Try.func90, Try.ntmps90
  go_upto_region 2 with (at_builtin; go_loud (refine wpList_app rfl (.tmp 8) (.tmp 9) 96 rfl w.heap.size 107 i0 (.agg #[.string ⟨#[]⟩, .string ⟨#[]⟩]) 2 32 Try.underlying96 hf hf0 hf1 hf2 rfl (by omega) (.slice (some ⟨w.heap.size + 1, 0, none⟩) 0 0) 0 [] rfl OA.out (.slice a F.length cap) F.length (fcells F) rfl SA.out (fcells_one F) (by unfold maxLen; omega) (by omega) (by simp; omega) ?_; intro v1 w1 o1 g1 q1))
  have B1 : Hid (Below w.heap.size w w1) := Lib.hid (BA.out.grown g1.out (by simp; omega) (by intro k hk; simp [Value.ownBlock] at hk; omega))
  have O1 : Hid (w1.ownsRow w.heap.size 107 2 v1 F.length (fcells F)) := Lib.hid (by have := o1.out; rw [Nat.zero_add, List.nil_append] at this; exact this)
  have HBX : Hid (w1.heap[w.heap.size]? = some (.cells #[.int .i64 3, .string n, .string y] 110 (0, 0))) := Lib.hid (by
    rw [g1.out.block w.heap.size (by simp; omega) (by simp [Value.ownBlock]), Below.heap_alloc _ _ _ (by simp)]
    exact heap_alloc_new w _)
  have R1 : Hid (RowF w1 v1 F) := Lib.hid (RowF.of_own O1.out).1
  have x0 : w1.cell? ⟨w.heap.size, 0, none⟩ = some (.int .i64 3) := (row_cells HBX.out).1 0
  have x1 : w1.cell? ⟨w.heap.size, 1, none⟩ = some (.string n) := (row_cells HBX.out).1 1
  have x2 : w1.cell? ⟨w.heap.size, 2, none⟩ = some (.string y) := (row_cells HBX.out).1 2
  obtain ⟨a1, cap1, hv1, hcap1⟩ := R1.out.shape
  subst hv1
  have HWH := Lib.hid (where_any _ F n w1 R1.out hl)
  clear o1 g1 q1 OA BA SA
  rw [whr_neg hi] at HWH
  go_wp2_with fail
  refine HWH.out.mono ?_
  rintro e w1' ⟨rfl, hw1⟩
  subst hw1
  go_wp2_with fail
  go_ret
  exact ⟨_, rfl, O1.out, B1.out⟩
set_option maxRecDepth 100000 in
set_option maxHeartbeats 2000000 in
theorem apply_same (v : Value) (F : List File) (x : ByteArray) (i : Nat) (w : World) (h : RowF w v F) (hl : F.length ≤ 1000000) (hi : idx F x = i) (hi2 : i < F.length) :
    Calls Try.prog 90 #[v, .agg #[.int .i64 2, .string x, .string x]] w (RowOwn w (F)) := by
  obtain ⟨i0, hf, hf0, hf1, hf2⟩ := info_parts info107
  have HSRC := Lib.hid h.src
  obtain ⟨a, cap, rfl, hcap⟩ := h.shape
  have HR := Lib.hid h
  clear h
  have OA : Hid (((w.alloc (.cells #[.int .i64 2, .string x, .string x] 110)).alloc (.cells #[] 107)).ownsRow w.heap.size 107 2 (.slice (some ⟨w.heap.size + 1, 0, none⟩) 0 0) 0 []) := Lib.hid (by
    have := World.ownsRow_made (base := w.heap.size) (e := 107) (size := 2) (w.alloc (.cells #[.int .i64 2, .string x, .string x] 110)) #[] 0 (by simp) (Nat.zero_le _) (by simp)
    simpa using this)
  have BA : Hid (Below w.heap.size w ((w.alloc (.cells #[.int .i64 2, .string x, .string x] 110)).alloc (.cells #[] 107))) := Lib.hid (((Below.refl _ _).alloc (Nat.le_refl _) _).alloc (by simp) _)
  have SA : Hid (Src ((w.alloc (.cells #[.int .i64 2, .string x, .string x] 110)).alloc (.cells #[] 107)) 2 (.slice a F.length cap) F.length (fcells F)) := Lib.hid (HR.out.below BA.out).src
  have hflen : (fcells F).length = F.length * 2 := fcells_length F
  go_enter Try.func90, Try.ntmps90
  go_upto_region 2 with (at_builtin; go_loud (refine wpList_app rfl (.tmp 8) (.tmp 9) 96 rfl w.heap.size 107 i0 (.agg #[.string ⟨#[]⟩, .string ⟨#[]⟩]) 2 32 Try.underlying96 hf hf0 hf1 hf2 rfl (by omega) (.slice (some ⟨w.heap.size + 1, 0, none⟩) 0 0) 0 [] rfl OA.out (.slice a F.length cap) F.length (fcells F) rfl SA.out (fcells_one F) (by unfold maxLen; omega) (by omega) (by simp; omega) ?_; intro v1 w1 o1 g1 q1))
  have B1 : Hid (Below w.heap.size w w1) := Lib.hid (BA.out.grown g1.out (by simp; omega) (by intro k hk; simp [Value.ownBlock] at hk; omega))
  have O1 : Hid (w1.ownsRow w.heap.size 107 2 v1 F.length (fcells F)) := Lib.hid (by have := o1.out; rw [Nat.zero_add, List.nil_append] at this; exact this)
  have HBX : Hid (w1.heap[w.heap.size]? = some (.cells #[.int .i64 2, .string x, .string x] 110 (0, 0))) := Lib.hid (by
    rw [g1.out.block w.heap.size (by simp; omega) (by simp [Value.ownBlock]), Below.heap_alloc _ _ _ (by simp)]
    exact heap_alloc_new w _)
  have R1 : Hid (RowF w1 v1 F) := Lib.hid (RowF.of_own O1.out).1
  have x0 : w1.cell? ⟨w.heap.size, 0, none⟩ = some (.int .i64 2) := (row_cells HBX.out).1 0
  have x1 : w1.cell? ⟨w.heap.size, 1, none⟩ = some (.string x) := (row_cells HBX.out).1 1
  have x2 : w1.cell? ⟨w.heap.size, 2, none⟩ = some (.string x) := (row_cells HBX.out).1 2
  obtain ⟨a1, cap1, hv1, hcap1⟩ := R1.out.shape
  subst hv1
  have HWH := Lib.hid (where_any _ F x w1 R1.out hl)
  clear o1 g1 q1 OA BA SA
  rw [whr_nonneg (by rw [hi]; exact hi2), hi] at HWH
  clear hi
  go_wp2_with fail
  refine HWH.out.mono ?_
  rintro e w1' ⟨rfl, hw1⟩
  subst hw1
  go_wp2_with fail
  go_ret
  exact ⟨_, rfl, O1.out, B1.out⟩
set_option maxRecDepth 100000 in
set_option maxHeartbeats 2000000 in
theorem apply_del (v : Value) (F : List File) (n y : ByteArray) (i : Nat) (w : World) (h : RowF w v F) (hl : F.length ≤ 1000000) (hi : idx F n = i) (hi2 : i < F.length) :
    Calls Try.prog 90 #[v, .agg #[.int .i64 3, .string n, .string y]] w (RowOwn w (F.eraseIdx i)) := by
  obtain ⟨i0, hf, hf0, hf1, hf2⟩ := info_parts info107
  have HSRC := Lib.hid h.src
  obtain ⟨a, cap, rfl, hcap⟩ := h.shape
  have HR := Lib.hid h
  clear h
  have OA : Hid (((w.alloc (.cells #[.int .i64 3, .string n, .string y] 110)).alloc (.cells #[] 107)).ownsRow w.heap.size 107 2 (.slice (some ⟨w.heap.size + 1, 0, none⟩) 0 0) 0 []) := Lib.hid (by
    have := World.ownsRow_made (base := w.heap.size) (e := 107) (size := 2) (w.alloc (.cells #[.int .i64 3, .string n, .string y] 110)) #[] 0 (by simp) (Nat.zero_le _) (by simp)
    simpa using this)
  have BA : Hid (Below w.heap.size w ((w.alloc (.cells #[.int .i64 3, .string n, .string y] 110)).alloc (.cells #[] 107))) := Lib.hid (((Below.refl _ _).alloc (Nat.le_refl _) _).alloc (by simp) _)
  have SA : Hid (Src ((w.alloc (.cells #[.int .i64 3, .string n, .string y] 110)).alloc (.cells #[] 107)) 2 (.slice a F.length cap) F.length (fcells F)) := Lib.hid (HR.out.below BA.out).src
  have hflen : (fcells F).length = F.length * 2 := fcells_length F
  go_enter Try.func90, Try.ntmps90
  go_upto_region 2 with (at_builtin; go_loud (refine wpList_app rfl (.tmp 8) (.tmp 9) 96 rfl w.heap.size 107 i0 (.agg #[.string ⟨#[]⟩, .string ⟨#[]⟩]) 2 32 Try.underlying96 hf hf0 hf1 hf2 rfl (by omega) (.slice (some ⟨w.heap.size + 1, 0, none⟩) 0 0) 0 [] rfl OA.out (.slice a F.length cap) F.length (fcells F) rfl SA.out (fcells_one F) (by unfold maxLen; omega) (by omega) (by simp; omega) ?_; intro v1 w1 o1 g1 q1))
  have B1 : Hid (Below w.heap.size w w1) := Lib.hid (BA.out.grown g1.out (by simp; omega) (by intro k hk; simp [Value.ownBlock] at hk; omega))
  have O1 : Hid (w1.ownsRow w.heap.size 107 2 v1 F.length (fcells F)) := Lib.hid (by have := o1.out; rw [Nat.zero_add, List.nil_append] at this; exact this)
  have HBX : Hid (w1.heap[w.heap.size]? = some (.cells #[.int .i64 3, .string n, .string y] 110 (0, 0))) := Lib.hid (by
    rw [g1.out.block w.heap.size (by simp; omega) (by simp [Value.ownBlock]), Below.heap_alloc _ _ _ (by simp)]
    exact heap_alloc_new w _)
  have R1 : Hid (RowF w1 v1 F) := Lib.hid (RowF.of_own O1.out).1
  have x0 : w1.cell? ⟨w.heap.size, 0, none⟩ = some (.int .i64 3) := (row_cells HBX.out).1 0
  have x1 : w1.cell? ⟨w.heap.size, 1, none⟩ = some (.string n) := (row_cells HBX.out).1 1
  have x2 : w1.cell? ⟨w.heap.size, 2, none⟩ = some (.string y) := (row_cells HBX.out).1 2
  obtain ⟨a1, cap1, hv1, hcap1⟩ := R1.out.shape
  subst hv1
  have HWH := Lib.hid (where_any _ F n w1 R1.out hl)
  clear o1 g1 q1 OA BA SA
  rw [whr_nonneg (by rw [hi]; exact hi2), hi] at HWH
  clear hi
  go_wp2_with fail
  refine HWH.out.mono ?_
  rintro e w1' ⟨rfl, hw1⟩
  subst hw1
  have HWO := Lib.hid (without_any _ F i _ R1.out hi2 hl)
  go_wp2_with fail
  refine HWO.out.mono ?_
  rintro e w2 ⟨v2, rfl, o2, b2⟩
  have O2 : Hid (w2.ownsRow w.heap.size 107 2 v2 (F.eraseIdx i).length (fcells (F.eraseIdx i))) := Lib.hid (row_mono' o2 B1.out.size)
  have B2 : Hid (Below w.heap.size w w2) := Lib.hid (B1.out.trans (b2.mono B1.out.size))
  clear o2 b2
  go_wp2_with fail
  go_ret
  exact ⟨v2, rfl, O2.out, B2.out⟩
set_option maxRecDepth 100000 in
set_option maxHeartbeats 2000000 in
theorem apply_ren1 (v : Value) (F : List File) (x y : ByteArray) (i : Nat) (p : File) (G : List File) (j : Nat) (w : World) (h : RowF w v F) (hl : F.length ≤ 1000000) (hi : idx F x = i) (hi2 : i < F.length) (hxy : x ≠ y) (hp : F[i]? = some p) (hG : G = F.eraseIdx i) (hj : idx G y = j) (hj2 : j < G.length) :
    Calls Try.prog 90 #[v, .agg #[.int .i64 2, .string x, .string y]] w (RowOwn w (G.eraseIdx j ++ [(y, p.2)])) := by
  obtain ⟨i0, hf, hf0, hf1, hf2⟩ := info_parts info107
  have HSRC := Lib.hid h.src
  obtain ⟨a, cap, rfl, hcap⟩ := h.shape
  have HR := Lib.hid h
  clear h
  have OA : Hid (((w.alloc (.cells #[.int .i64 2, .string x, .string y] 110)).alloc (.cells #[] 107)).ownsRow w.heap.size 107 2 (.slice (some ⟨w.heap.size + 1, 0, none⟩) 0 0) 0 []) := Lib.hid (by
    have := World.ownsRow_made (base := w.heap.size) (e := 107) (size := 2) (w.alloc (.cells #[.int .i64 2, .string x, .string y] 110)) #[] 0 (by simp) (Nat.zero_le _) (by simp)
    simpa using this)
  have BA : Hid (Below w.heap.size w ((w.alloc (.cells #[.int .i64 2, .string x, .string y] 110)).alloc (.cells #[] 107))) := Lib.hid (((Below.refl _ _).alloc (Nat.le_refl _) _).alloc (by simp) _)
  have SA : Hid (Src ((w.alloc (.cells #[.int .i64 2, .string x, .string y] 110)).alloc (.cells #[] 107)) 2 (.slice a F.length cap) F.length (fcells F)) := Lib.hid (HR.out.below BA.out).src
  have hflen : (fcells F).length = F.length * 2 := fcells_length F
  go_enter Try.func90, Try.ntmps90
  go_upto_region 2 with (at_builtin; go_loud (refine wpList_app rfl (.tmp 8) (.tmp 9) 96 rfl w.heap.size 107 i0 (.agg #[.string ⟨#[]⟩, .string ⟨#[]⟩]) 2 32 Try.underlying96 hf hf0 hf1 hf2 rfl (by omega) (.slice (some ⟨w.heap.size + 1, 0, none⟩) 0 0) 0 [] rfl OA.out (.slice a F.length cap) F.length (fcells F) rfl SA.out (fcells_one F) (by unfold maxLen; omega) (by omega) (by simp; omega) ?_; intro v1 w1 o1 g1 q1))
  have B1 : Hid (Below w.heap.size w w1) := Lib.hid (BA.out.grown g1.out (by simp; omega) (by intro k hk; simp [Value.ownBlock] at hk; omega))
  have O1 : Hid (w1.ownsRow w.heap.size 107 2 v1 F.length (fcells F)) := Lib.hid (by have := o1.out; rw [Nat.zero_add, List.nil_append] at this; exact this)
  have HBX : Hid (w1.heap[w.heap.size]? = some (.cells #[.int .i64 2, .string x, .string y] 110 (0, 0))) := Lib.hid (by
    rw [g1.out.block w.heap.size (by simp; omega) (by simp [Value.ownBlock]), Below.heap_alloc _ _ _ (by simp)]
    exact heap_alloc_new w _)
  have R1 : Hid (RowF w1 v1 F) := Lib.hid (RowF.of_own O1.out).1
  have x0 : w1.cell? ⟨w.heap.size, 0, none⟩ = some (.int .i64 2) := (row_cells HBX.out).1 0
  have x1 : w1.cell? ⟨w.heap.size, 1, none⟩ = some (.string x) := (row_cells HBX.out).1 1
  have x2 : w1.cell? ⟨w.heap.size, 2, none⟩ = some (.string y) := (row_cells HBX.out).1 2
  obtain ⟨a1, cap1, hv1, hcap1⟩ := R1.out.shape
  subst hv1
  have HWH := Lib.hid (where_any _ F x w1 R1.out hl)
  clear o1 g1 q1 OA BA SA
  rw [whr_nonneg (by rw [hi]; exact hi2), hi] at HWH
  have hb : x.toList ≠ y.toList := fun e => hxy (by apply ByteArray.ext; rw [ByteArray.toList_eq, ByteArray.toList_eq] at e; exact Array.toList_inj.1 e)
  have hb2 : (x.toList == y.toList) = false := by rw [beq_eq_false_iff_ne]; exact hb
  obtain ⟨g, rfl, _, hg, _, c1⟩ := R1.out.get hp
  obtain ⟨z, hz⟩ : ∃ z, p.2 = z := ⟨_, rfl⟩
  rw [hz] at c1
  have HZ := Lib.hid hz
  have HGL := Lib.hid hG
  have hGl : G.length ≤ 1000000 := by rw [hG, List.length_eraseIdx]; split <;> omega
  clear hi hb hz hp hG
  go_wp2_with fail
  refine HWH.out.mono ?_
  rintro e w1' ⟨rfl, hw1⟩
  subst hw1
  have HWO := Lib.hid (without_any _ F i _ R1.out hi2 hl)
  rw [← HGL.out] at HWO
  have hlt1 : w.heap.size < w1'.heap.size := heap_lt HBX.out
  go_wp2_with fail
  refine HWO.out.mono ?_
  rintro e w2 ⟨v2, rfl, o2, b2⟩
  have O2 : Hid (w2.ownsRow w.heap.size 107 2 v2 G.length (fcells G)) := Lib.hid (row_mono' o2 B1.out.size)
  have B2 : Hid (Below w.heap.size w w2) := Lib.hid (B1.out.trans (b2.mono B1.out.size))
  have y2 : w2.cell? ⟨w.heap.size, 2, none⟩ = some (.string y) := (b2.cell (p := ⟨w.heap.size, 2, none⟩) hlt1).trans x2
  have R2 : Hid (RowF w2 v2 G) := Lib.hid (RowF.of_own O2.out).1
  have hlt2 : w.heap.size < w2.heap.size := Nat.lt_of_lt_of_le hlt1 b2.size
  obtain ⟨a2, cap2, hv2, hcap2⟩ := R2.out.shape
  subst hv2
  have HW2 := Lib.hid (where_any _ G y w2 R2.out hGl)
  clear o2 b2
  rw [whr_nonneg (by rw [hj]; exact hj2), hj] at HW2
  clear hj
  have HWO2 := Lib.hid (without_any _ G j _ R2.out hj2 hGl)
  obtain ⟨G', hG'⟩ : ∃ G', G.eraseIdx j = G' := ⟨_, rfl⟩
  have hGl' : G'.length ≤ 1000000 := by rw [← hG', List.length_eraseIdx]; split <;> omega
  rw [hG'] at HWO2
  have HGE := Lib.hid hG'
  clear hG'
  go_wp2_with fail
  refine HW2.out.mono ?_
  rintro e w2' ⟨rfl, hw2⟩
  subst hw2
  go_wp2_with fail
  refine HWO2.out.mono ?_
  rintro e w3 ⟨v3, rfl, o3, b3⟩
  have O3 : Hid (w3.ownsRow w.heap.size 107 2 v3 G'.length (fcells G')) := Lib.hid (row_mono' o3 B2.out.size)
  have B3 : Hid (Below w.heap.size w w3) := Lib.hid (B2.out.trans (b3.mono B2.out.size))
  have y3 : w3.cell? ⟨w.heap.size, 2, none⟩ = some (.string y) := (b3.cell (p := ⟨w.heap.size, 2, none⟩) hlt2).trans y2
  have R3 : Hid (RowF w3 v3 G') := Lib.hid (RowF.of_own O3.out).1
  obtain ⟨a3, cap3, hv3, hcap3⟩ := R3.out.shape
  subst hv3
  clear o3 b3
  go_wp2_with (at_builtin; go_loud (refine wpList_app rfl (.tmp 85) (.tmp 90) 96 rfl w.heap.size 107 i0 (.agg #[.string ⟨#[]⟩, .string ⟨#[]⟩]) 2 32 Try.underlying96 hf hf0 hf1 hf2 rfl (by omega) (.slice a3 G'.length cap3) G'.length (fcells G') rfl (O3.out.alloc _) (.slice (some ⟨w3.heap.size, 0, none⟩) 1 1) 1 [.string y, .string z] rfl (.inr ⟨_, _, rfl, rfl, cells_new' w3 [.string y, .string z] 107⟩) (by intro u hu; simp at hu; rcases hu with rfl | rfl <;> rfl) (by unfold maxLen; omega) (by omega) (by have := B3.out.size; simp; omega) ?_; intro v9 w9 o9 g9 q9))
  go_ret
  refine ⟨v9, rfl, ?_, (B3.out.alloc B3.out.size _).grown g9.out (by have := B3.out.size; simp; omega) (fun k hk => (O3.out.lt k hk).1)⟩
  rw [HGE.out]; rw [List.length_append, fcells_append, HZ.out]
  exact o9.out
set_option maxRecDepth 100000 in
set_option maxHeartbeats 2000000 in
theorem apply_ren0 (v : Value) (F : List File) (x y : ByteArray) (i : Nat) (p : File) (G : List File) (w : World) (h : RowF w v F) (hl : F.length ≤ 1000000) (hi : idx F x = i) (hi2 : i < F.length) (hxy : x ≠ y) (hp : F[i]? = some p) (hG : G = F.eraseIdx i) (hj : ¬ idx G y < G.length) :
    Calls Try.prog 90 #[v, .agg #[.int .i64 2, .string x, .string y]] w (RowOwn w (G ++ [(y, p.2)])) := by
  obtain ⟨i0, hf, hf0, hf1, hf2⟩ := info_parts info107
  have HSRC := Lib.hid h.src
  obtain ⟨a, cap, rfl, hcap⟩ := h.shape
  have HR := Lib.hid h
  clear h
  have OA : Hid (((w.alloc (.cells #[.int .i64 2, .string x, .string y] 110)).alloc (.cells #[] 107)).ownsRow w.heap.size 107 2 (.slice (some ⟨w.heap.size + 1, 0, none⟩) 0 0) 0 []) := Lib.hid (by
    have := World.ownsRow_made (base := w.heap.size) (e := 107) (size := 2) (w.alloc (.cells #[.int .i64 2, .string x, .string y] 110)) #[] 0 (by simp) (Nat.zero_le _) (by simp)
    simpa using this)
  have BA : Hid (Below w.heap.size w ((w.alloc (.cells #[.int .i64 2, .string x, .string y] 110)).alloc (.cells #[] 107))) := Lib.hid (((Below.refl _ _).alloc (Nat.le_refl _) _).alloc (by simp) _)
  have SA : Hid (Src ((w.alloc (.cells #[.int .i64 2, .string x, .string y] 110)).alloc (.cells #[] 107)) 2 (.slice a F.length cap) F.length (fcells F)) := Lib.hid (HR.out.below BA.out).src
  have hflen : (fcells F).length = F.length * 2 := fcells_length F
  go_enter Try.func90, Try.ntmps90
  go_upto_region 2 with (at_builtin; go_loud (refine wpList_app rfl (.tmp 8) (.tmp 9) 96 rfl w.heap.size 107 i0 (.agg #[.string ⟨#[]⟩, .string ⟨#[]⟩]) 2 32 Try.underlying96 hf hf0 hf1 hf2 rfl (by omega) (.slice (some ⟨w.heap.size + 1, 0, none⟩) 0 0) 0 [] rfl OA.out (.slice a F.length cap) F.length (fcells F) rfl SA.out (fcells_one F) (by unfold maxLen; omega) (by omega) (by simp; omega) ?_; intro v1 w1 o1 g1 q1))
  have B1 : Hid (Below w.heap.size w w1) := Lib.hid (BA.out.grown g1.out (by simp; omega) (by intro k hk; simp [Value.ownBlock] at hk; omega))
  have O1 : Hid (w1.ownsRow w.heap.size 107 2 v1 F.length (fcells F)) := Lib.hid (by have := o1.out; rw [Nat.zero_add, List.nil_append] at this; exact this)
  have HBX : Hid (w1.heap[w.heap.size]? = some (.cells #[.int .i64 2, .string x, .string y] 110 (0, 0))) := Lib.hid (by
    rw [g1.out.block w.heap.size (by simp; omega) (by simp [Value.ownBlock]), Below.heap_alloc _ _ _ (by simp)]
    exact heap_alloc_new w _)
  have R1 : Hid (RowF w1 v1 F) := Lib.hid (RowF.of_own O1.out).1
  have x0 : w1.cell? ⟨w.heap.size, 0, none⟩ = some (.int .i64 2) := (row_cells HBX.out).1 0
  have x1 : w1.cell? ⟨w.heap.size, 1, none⟩ = some (.string x) := (row_cells HBX.out).1 1
  have x2 : w1.cell? ⟨w.heap.size, 2, none⟩ = some (.string y) := (row_cells HBX.out).1 2
  obtain ⟨a1, cap1, hv1, hcap1⟩ := R1.out.shape
  subst hv1
  have HWH := Lib.hid (where_any _ F x w1 R1.out hl)
  clear o1 g1 q1 OA BA SA
  rw [whr_nonneg (by rw [hi]; exact hi2), hi] at HWH
  have hb : x.toList ≠ y.toList := fun e => hxy (by apply ByteArray.ext; rw [ByteArray.toList_eq, ByteArray.toList_eq] at e; exact Array.toList_inj.1 e)
  have hb2 : (x.toList == y.toList) = false := by rw [beq_eq_false_iff_ne]; exact hb
  obtain ⟨g, rfl, _, hg, _, c1⟩ := R1.out.get hp
  obtain ⟨z, hz⟩ : ∃ z, p.2 = z := ⟨_, rfl⟩
  rw [hz] at c1
  have HZ := Lib.hid hz
  have HGL := Lib.hid hG
  have hGl : G.length ≤ 1000000 := by rw [hG, List.length_eraseIdx]; split <;> omega
  clear hi hb hz hp hG
  go_wp2_with fail
  refine HWH.out.mono ?_
  rintro e w1' ⟨rfl, hw1⟩
  subst hw1
  have HWO := Lib.hid (without_any _ F i _ R1.out hi2 hl)
  rw [← HGL.out] at HWO
  have hlt1 : w.heap.size < w1'.heap.size := heap_lt HBX.out
  go_wp2_with fail
  refine HWO.out.mono ?_
  rintro e w2 ⟨v2, rfl, o2, b2⟩
  have O2 : Hid (w2.ownsRow w.heap.size 107 2 v2 G.length (fcells G)) := Lib.hid (row_mono' o2 B1.out.size)
  have B2 : Hid (Below w.heap.size w w2) := Lib.hid (B1.out.trans (b2.mono B1.out.size))
  have y2 : w2.cell? ⟨w.heap.size, 2, none⟩ = some (.string y) := (b2.cell (p := ⟨w.heap.size, 2, none⟩) hlt1).trans x2
  have R2 : Hid (RowF w2 v2 G) := Lib.hid (RowF.of_own O2.out).1
  have hlt2 : w.heap.size < w2.heap.size := Nat.lt_of_lt_of_le hlt1 b2.size
  obtain ⟨a2, cap2, hv2, hcap2⟩ := R2.out.shape
  subst hv2
  have HW2 := Lib.hid (where_any _ G y w2 R2.out hGl)
  clear o2 b2
  rw [whr_neg hj] at HW2
  go_wp2_with fail
  refine HW2.out.mono ?_
  rintro e w2' ⟨rfl, hw2⟩
  subst hw2
  go_wp2_with (at_builtin; go_loud (refine wpList_app rfl (.tmp 85) (.tmp 90) 96 rfl w.heap.size 107 i0 (.agg #[.string ⟨#[]⟩, .string ⟨#[]⟩]) 2 32 Try.underlying96 hf hf0 hf1 hf2 rfl (by omega) (.slice a2 G.length cap2) G.length (fcells G) rfl (O2.out.alloc _) (.slice (some ⟨w2'.heap.size, 0, none⟩) 1 1) 1 [.string y, .string z] rfl (.inr ⟨_, _, rfl, rfl, cells_new' w2' [.string y, .string z] 107⟩) (by intro u hu; simp at hu; rcases hu with rfl | rfl <;> rfl) (by unfold maxLen; omega) (by omega) (by have := B2.out.size; simp; omega) ?_; intro v9 w9 o9 g9 q9))
  go_ret
  refine ⟨v9, rfl, ?_, (B2.out.alloc B2.out.size _).grown g9.out (by have := B2.out.size; simp; omega) (fun k hk => (O2.out.lt k hk).1)⟩
  rw [List.length_append, fcells_append, HZ.out]
  exact o9.out
theorem getD_some {F : List File} {i : Nat} {p : File} (h : F[i]? = some p) (d : File) : F.getD i d = p := by
  rw [List.getD_eq_getElem?_getD, h]
  rfl
/-- 'certpathref21.apply'. -/
theorem apply_any (v : Value) (F : List File) (c : Chg) (w : World) (h : RowF w v F) (hl : F.length ≤ 1000000) (hz : szs F + csz c ≤ 1000000000) :
    Calls Try.prog 90 #[v, .agg (ocells c).toArray] w (RowOwn w (appl F c)) := by
  cases c with
  | app n b =>
    by_cases hi : idx F n < F.length
    · have e : appl F (.app n b) = F.modify (idx F n) fun p => (p.1, p.2 ++ b) := by simp only [appl]; rw [if_pos hi]
      rw [e]
      exact apply_grow v F n b _ w h hl rfl hi hz
    · have e : appl F (.app n b) = F ++ [(n, b)] := by simp only [appl]; rw [if_neg hi]
      rw [e]
      exact apply_new v F n b w h hl hi
  | ren x y =>
    by_cases hi : idx F x < F.length
    · by_cases hxy : x = y
      · subst hxy
        have e : appl F (.ren x x) = F := by simp only [appl]; rw [if_neg (by simp)]
        rw [e]
        exact apply_same v F x _ w h hl rfl hi
      · obtain ⟨p, hp⟩ : ∃ p, F[idx F x]? = some p := ⟨F[idx F x], by simp [hi]⟩
        have e : appl F (.ren x y) = drop1 (F.eraseIdx (idx F x)) y ++ [(y, p.2)] := by simp only [appl]; rw [if_pos ⟨hi, hxy⟩, getD_some hp]
        by_cases hj : idx (F.eraseIdx (idx F x)) y < (F.eraseIdx (idx F x)).length
        · have e2 : drop1 (F.eraseIdx (idx F x)) y = (F.eraseIdx (idx F x)).eraseIdx (idx (F.eraseIdx (idx F x)) y) := by unfold drop1; rw [if_pos hj]
          rw [e, e2]
          exact apply_ren1 v F x y _ p _ _ w h hl rfl hi hxy hp rfl rfl hj
        · have e2 : drop1 (F.eraseIdx (idx F x)) y = F.eraseIdx (idx F x) := by unfold drop1; rw [if_neg hj]
          rw [e, e2]
          exact apply_ren0 v F x y _ p _ w h hl rfl hi hxy hp rfl hj
    · have e : appl F (.ren x y) = F := by simp only [appl]; rw [if_neg (fun h => hi h.1)]
      rw [e]
      exact apply_keep2 v F x y w h hl hi
  | del n =>
    by_cases hi : idx F n < F.length
    · have e : appl F (.del n) = F.eraseIdx (idx F n) := by simp only [appl]; unfold drop1; rw [if_pos hi]
      rw [e]
      exact apply_del v F n _ _ w h hl rfl hi
    · have e : appl F (.del n) = F := by simp only [appl]; unfold drop1; rw [if_neg hi]
      rw [e]
      exact apply_keep3 v F n _ w h hl hi
end Go.Proofs.Ytlaodmpdngdhjaa
