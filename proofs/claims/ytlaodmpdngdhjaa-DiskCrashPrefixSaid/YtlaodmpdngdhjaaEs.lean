/- The reference's Copy (printed by es.py). -/
import Derived.Test.YtlaodmpdngdhjaaEq
import Derived.Deep.RegionHeld3
namespace Go.Proofs.Ytlaodmpdngdhjaa
set_option linter.unusedVariables false
set_option linter.unusedSimpArgs false
open Go.RowKit

theorem osrc {w : World} {base : Nat} {e : TypeId} {v : Value} {n : Nat} {l : List Chg} (h : w.ownsRow base e 3 v n (l.flatMap ocells)) : Src w 3 v n (l.flatMap ocells) := by
  have hh := h
  rcases h.2 with ⟨rfl, rfl⟩ | ⟨g, cap, cur, rfl, hg, hb, h1, h2, h3, h4⟩
  · have : l.flatMap ocells = [] := List.eq_nil_of_length_eq_zero (by simpa using h.1)
    exact .inl ⟨rfl, rfl, this⟩
  · exact .inr ⟨_, _, rfl, h.1, fun j u hu => by
      have := hh.cells (g := g) rfl j u hu
      exact this⟩
theorem ocells_one (l : List Chg) : ∀ u ∈ l.flatMap ocells, u.oneCell' = true := by
  intro u hu
  obtain ⟨c, _, hc⟩ := List.mem_flatMap.1 hu
  cases c <;> simp [ocells] at hc <;> rcases hc with rfl | rfl | rfl <;> rfl
theorem own_empty {w : World} {g base : Nat} {e : TypeId} {size : Nat} (h : w.heap[g]? = some (.cells #[] e (0, 0))) (hb : base ≤ g) : w.ownsRow base e size (.slice (some ⟨g, 0, none⟩) 0 0) 0 [] :=
  ⟨by simp, .inr ⟨g, 0, #[], rfl, hb, h, Nat.le_refl _, Nat.zero_le _, by simp, by simp⟩⟩
theorem after_alloc {w : World} {g : Nat} {o X : Obj} (h : w.heap[g]? = some o) : (w.alloc X).heap[g]? = some o := by
  rw [Below.heap_alloc _ _ _ (heap_lt h)]
  exact h
theorem sec {x : World} (w : World) (A B : Obj) (hx : x.heap = (w.heap.push A).push B) : x.heap[w.heap.size + 1]? = some B := by
  rw [hx]
  have h : ((w.heap.push A).push B)[(w.heap.push A).size]? = some B := Array.getElem?_push_size
  simpa using h
theorem fir {x : World} (w : World) (A B : Obj) (hx : x.heap = (w.heap.push A).push B) : x.heap[w.heap.size]? = some A := by
  rw [hx, Array.getElem?_push_lt (by simp)]
  simp
theorem one_ {x : World} (w : World) (A : Obj) (hx : x.heap = w.heap.push A) : x.heap[w.heap.size]? = some A := by
  rw [hx]
  simp
theorem grow_keep {w w' : World} {g b n c : Nat} {o : Obj} (hg : w.grownBy w' (Value.slice (some ⟨g, 0, none⟩) n c).ownBlock) (h : w.heap[b]? = some o) (hne : g ≠ b) : w'.heap[b]? = some o := by
  rw [hg.block b (heap_lt h) (by simp [Value.ownBlock]; omega)]
  exact h
/-- step_appB, with where the new row lies. -/
theorem step_appC {P : Program} {w w0 : World} {ops : Array Oper} {o : Oper} {a : Act} {K : Act → World → Prop} {Q : Exit → Act → World → Prop} {E : Prop} (hgd : o.guard = none) (s x : Operand) (t : TypeId)
    (ho : o.op = .call { callee := .builtin .append, args := #[s, x], argTypes := #[t, t] })
    (base : Nat) (e : TypeId) (i : TypeInfo) (z : Value) (size bytes : Nat) (ht : P.underlying t = some (.slice e)) (hi : P.info? e = some i) (hz : i.zero = some z)
    (hsize : i.size = size) (hby : i.bytes = bytes) (hzs : z.cells.size = size) (hsz : 0 < size)
    (v : Value) (n : Nat) (xs : List Value) (hs : a.eval s = v) (hown : w.ownsRow base e size v n xs)
    (vx : Value) (m : Nat) (news : List Value) (hx : a.eval x = vx) (hsrc : Src w size vx m news) (h1 : ∀ u ∈ news, u.oneCell' = true)
    (h63 : n + m ≤ maxLen) (hbytes : (n + m) * bytes ≤ 140737488355328) (hB : base ≤ w0.heap.size) (hbel : Below base w0 w)
    (h : ∀ v' w', Hid (w'.ownsRow base e size v' (n + m) (xs ++ news)) → Hid (w.grownBy w' v.ownBlock) → Hid (Below base w0 w') → Hid (v'.ownBlock = v.ownBlock ∨ v'.ownBlock = some w.heap.size) → K (a.put o.dst v') w') :
    if Region.wanted o (yielded ops a.tmps) = true then Oper.wp P o a w K Q else E :=
  step_app hgd s x t ho base e i z size bytes ht hi hz hsize hby hzs hsz v n xs hs hown vx m news hx hsrc h1 h63 hbytes (Nat.le_trans hB hbel.size) fun v' w' h2 h3 h4 =>
    h v' w' h2 h3 (Lib.hid (hbel.grown h3.out (Nat.le_trans hB hbel.size) fun k hk => (hown.lt k hk).1)) h4
theorem rcopy_pack {w wa wo : World} {s : St} {vf vp : Value} (hb : Below w.heap.size w wo) (hf : wa.ownsRow w.heap.size 107 2 vf s.files.length (fcells s.files)) (hk : ∀ g, vf.ownBlock = some g → wo.heap[g]? = wa.heap[g]?) (hz : wa.heap.size ≤ wo.heap.size)
    (ho : wo.ownsRow w.heap.size 110 3 vp s.ops.length (s.ops.flatMap ocells)) (hne : ∀ b, vf.ownBlock = some b → vp.ownBlock = some b → False) :
    ∃ rwc roc, RefAt (wo.alloc (.cells (rcells s vf vp) 99)) wo.heap.size s rwc roc ∧ (∀ b, rwc b ∨ roc b → w.heap.size ≤ b) ∧ Below w.heap.size w (wo.alloc (.cells (rcells s vf vp) 99)) := by
  have hB : w.heap.size ≤ wo.heap.size := hb.size
  have hf' := row_kept hf hk
  have T : Below wo.heap.size wo (wo.alloc (.cells (rcells s vf vp) 99)) := (Below.refl _ _).alloc (Nat.le_refl _) _
  refine ⟨fun b => b = wo.heap.size ∨ vp.ownBlock = some b, fun b => vf.ownBlock = some b, ⟨vf, vp, ⟨heap_alloc_new _ _, ((RowF.of_own hf').1).below T, ?_, .inl rfl, fun b e => .inr e, fun b e => e, ?_, ?_⟩⟩, ?_, hb.alloc hB _⟩
  · exact row_mono (row_kept ho fun g e => T.block g (ho.lt g e).2) (Nat.zero_le _)
  · rintro b ((rfl | e) | e)
    · simp
    · have := (ho.lt b e).2; simp; omega
    · have := (hf'.lt b e).2; simp; omega
  · rintro b (rfl | e) e2
    · have := (hf'.lt _ e2).2; omega
    · exact hne b e2 e
  · rintro b ((rfl | e) | e)
    · exact hB
    · exact (ho.lt b e).1
    · exact (hf'.lt b e).1
theorem RefIs.rows {w w' : World} {r : Nat} {s : St} {rw ro : Nat → Prop} {vf vp : Value} (h : RefIs w r s rw ro vf vp) (hb : Below w.heap.size w w') : RefIs w' r s rw ro vf vp :=
  h.kept (fun b hb2 => hb.block b (h.lt b hb2)) hb.size
set_option maxRecDepth 100000 in
set_option maxHeartbeats 8000000 in
theorem rcopy_any (r : Nat) (s : St) (rw ro : Nat → Prop) (M : Nat) (w : World) (h : RefAt w r s rw ro) (gs : Good s M) (hM : M ≤ 500000) :
    Calls Try.prog 44 #[ptr r] w fun e w' => ∃ c, e = .returned (ptr c) ∧ ∃ rwc roc, RefAt w' c s rwc roc ∧ (∀ b, rwc b ∨ roc b → w.heap.size ≤ b) ∧ Below w.heap.size w w' := by
  obtain ⟨i7, f7, f70, f71, f72⟩ := info_parts info107
  obtain ⟨i10, f10, f100, f101, f102⟩ := info_parts info110
  obtain ⟨vf, vp, h⟩ := h
  have hops : s.ops.length ≤ 500000 := by have := gs.wt; omega
  have hfl : s.files.length ≤ 500000 := by have := gs.wt; omega
  obtain ⟨af, cf, rfl, hcf⟩ := h.fls.shape
  obtain ⟨ap, cp, rfl⟩ := own_slice h.row
  have HD := Lib.hid h
  have hc := (row_cells h.blk).1
  have k0 : w.cell? ⟨r, 0, none⟩ = some (.int .i64 s.cap) := hc 0
  have k1 : w.cell? ⟨r, 1, none⟩ = some (.slice af s.files.length cf) := hc 1
  have k2 : w.cell? ⟨r, 2, none⟩ = some (.slice ap s.ops.length cp) := hc 2
  have k3 : w.cell? ⟨r, 3, none⟩ = some (.int .i64 s.left) := hc 3
  have k4 : w.cell? ⟨r, 4, none⟩ = some (.bool s.off) := hc 4
  have hr := heap_lt h.blk
  clear h gs hc
  go_enter Try.func44, Try.ntmps44
  go_upto_region 1 with fail
  go_region_held3 (fun w' => w'.cell? ⟨r, 0, none⟩ = some (.int .i64 s.cap) ∧ w'.cell? ⟨r, 1, none⟩ = some (.slice af s.files.length cf) ∧ w'.cell? ⟨r, 2, none⟩ = some (.slice ap s.ops.length cp) ∧ w'.cell? ⟨r, 3, none⟩ = some (.int .i64 s.left) ∧ w'.cell? ⟨r, 4, none⟩ = some (.bool s.off))
    (first | exact ⟨woy0, woy1, woy2, woy3, woy4⟩ | exact ⟨way0, way1, way2, way3, way4⟩ | go_keep)
    (first
    | (
      refine' step_appC rfl (.tmp 7) (.tmp 11) 96 rfl w.heap.size 107 i7 (.agg #[.string ⟨#[]⟩, .string ⟨#[]⟩]) 2 32 Try.underlying96 f7 f70 f71 f72 rfl (by omega) _ 0 [] (by simp [Act.eval, Act.put] <;> rfl) ?_ (.slice af s.files.length cf) s.files.length (fcells s.files) (by simp [Act.eval, Act.put]) ?_ (fcells_one _) (by unfold maxLen; omega) (by omega) (Nat.le_refl _) ?_ ?_
      · first | exact own_empty (one_ w (.cells #[] 107) rfl) (Nat.le_refl _) | exact own_empty (fir w (.cells #[] 107) (.cells #[] 110) rfl) (Nat.le_refl _) | exact own_empty (sec w (.cells #[] 110) (.cells #[] 107) rfl) (Nat.le_succ _) | exact own_empty (grow_keep go.out (fir w (.cells #[] 107) (.cells #[] 110) rfl) (by omega)) (Nat.le_refl _) | exact own_empty (grow_keep go.out (sec w (.cells #[] 110) (.cells #[] 107) rfl) (by omega)) (Nat.le_succ _) | exact own_empty (heap_alloc_new wo (.cells #[] 107)) bo.out.size
      · (refine (fun hbel => (HD.out.rows hbel).fls.src) (?_ : Below w.heap.size w _); first | exact (Below.drew (Below.refl w.heap.size w)).alloc (Nat.le_refl _) (.cells #[] 107) | exact ((Below.drew (Below.refl w.heap.size w)).alloc (Nat.le_refl _) (.cells #[] 107)).alloc (by simp) (.cells #[] 110) | exact ((Below.drew (Below.refl w.heap.size w)).alloc (Nat.le_refl _) (.cells #[] 110)).alloc (by simp) (.cells #[] 107) | exact bo.out | exact bo.out.alloc bo.out.size _)
      · first | exact (Below.drew (Below.refl w.heap.size w)).alloc (Nat.le_refl _) (.cells #[] 107) | exact ((Below.drew (Below.refl w.heap.size w)).alloc (Nat.le_refl _) (.cells #[] 107)).alloc (by simp) (.cells #[] 110) | exact ((Below.drew (Below.refl w.heap.size w)).alloc (Nat.le_refl _) (.cells #[] 110)).alloc (by simp) (.cells #[] 107) | exact bo.out | exact bo.out.alloc bo.out.size _
      intro vwa wa oa ga ba oah; obtain ⟨awa, cwa, ewa⟩ := own_slice oa.out; subst ewa; have way0 := (ba.out.cell (p := ⟨r, 0, none⟩) hr).trans k0; have way1 := (ba.out.cell (p := ⟨r, 1, none⟩) hr).trans k1; have way2 := (ba.out.cell (p := ⟨r, 2, none⟩) hr).trans k2; have way3 := (ba.out.cell (p := ⟨r, 3, none⟩) hr).trans k3; have way4 := (ba.out.cell (p := ⟨r, 4, none⟩) hr).trans k4)
    | (
      refine' step_appC rfl (.tmp 13) (.tmp 17) 97 rfl w.heap.size 110 i10 (.agg #[.int .i64 0, .string ⟨#[]⟩, .string ⟨#[]⟩]) 3 40 Try.underlying97 f10 f100 f101 f102 rfl (by omega) _ 0 [] (by simp [Act.eval, Act.put] <;> rfl) ?_ (.slice ap s.ops.length cp) s.ops.length (s.ops.flatMap ocells) (by simp [Act.eval, Act.put]) ?_ (ocells_one _) (by unfold maxLen; omega) (by omega) (Nat.le_refl _) ?_ ?_
      · first | exact own_empty (one_ w (.cells #[] 110) rfl) (Nat.le_refl _) | exact own_empty (fir w (.cells #[] 110) (.cells #[] 107) rfl) (Nat.le_refl _) | exact own_empty (sec w (.cells #[] 107) (.cells #[] 110) rfl) (Nat.le_succ _) | exact own_empty (grow_keep ga.out (fir w (.cells #[] 110) (.cells #[] 107) rfl) (by omega)) (Nat.le_refl _) | exact own_empty (grow_keep ga.out (sec w (.cells #[] 107) (.cells #[] 110) rfl) (by omega)) (Nat.le_succ _) | exact own_empty (heap_alloc_new wa (.cells #[] 110)) ba.out.size
      · (refine (fun hbel => osrc (HD.out.rows hbel).row) (?_ : Below w.heap.size w _); first | exact (Below.drew (Below.refl w.heap.size w)).alloc (Nat.le_refl _) (.cells #[] 110) | exact ((Below.drew (Below.refl w.heap.size w)).alloc (Nat.le_refl _) (.cells #[] 107)).alloc (by simp) (.cells #[] 110) | exact ((Below.drew (Below.refl w.heap.size w)).alloc (Nat.le_refl _) (.cells #[] 110)).alloc (by simp) (.cells #[] 107) | exact ba.out | exact ba.out.alloc ba.out.size _)
      · first | exact (Below.drew (Below.refl w.heap.size w)).alloc (Nat.le_refl _) (.cells #[] 110) | exact ((Below.drew (Below.refl w.heap.size w)).alloc (Nat.le_refl _) (.cells #[] 107)).alloc (by simp) (.cells #[] 110) | exact ((Below.drew (Below.refl w.heap.size w)).alloc (Nat.le_refl _) (.cells #[] 110)).alloc (by simp) (.cells #[] 107) | exact ba.out | exact ba.out.alloc ba.out.size _
      intro vwo wo oo go bo ooh; obtain ⟨awo, cwo, ewo⟩ := own_slice oo.out; subst ewo; have woy0 := (bo.out.cell (p := ⟨r, 0, none⟩) hr).trans k0; have woy1 := (bo.out.cell (p := ⟨r, 1, none⟩) hr).trans k1; have woy2 := (bo.out.cell (p := ⟨r, 2, none⟩) hr).trans k2; have woy3 := (bo.out.cell (p := ⟨r, 3, none⟩) hr).trans k3; have woy4 := (bo.out.cell (p := ⟨r, 4, none⟩) hr).trans k4))
  all_goals
    go_wp2_with fail
    go_ret
    have oa' := oa.out
    have oo' := oo.out
    have oah' := oah.out
    have ooh' := ooh.out
    rw [Nat.zero_add, List.nil_append] at oa' oo'
    simp only [Nat.zero_add] at oah' ooh'
    have p1 := fun b e => (oa'.lt b e).2
    have p2 := fun b e => (oo'.lt b e).2
    have p3 := go.out.size
    have p4 := ga.out.size
    simp at p3 p4
    refine ⟨wo.heap.size, rfl, ?_⟩
    refine rcopy_pack (wa := wa) (wo := wo) (vf := .slice awa s.files.length cwa) (vp := .slice awo s.ops.length cwo) bo.out oa' ?_ ?_ oo' ?_
    · intro g e
      have hl := p1 g e
      rw [e] at oah'
      have hw := go.out.block g (by (try simp); omega) (by simp [Value.ownBlock] at oah' ⊢; omega)
      rw [hw]
      try exact Below.heap_alloc _ _ _ hl
    · omega
    · intro b e1 e2
      have hl := p1 b e1
      rw [e1] at oah'
      rw [e2] at ooh'
      simp [Value.ownBlock] at oah' ooh'
      omega
end Go.Proofs.Ytlaodmpdngdhjaa
