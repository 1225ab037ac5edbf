import Derived.Test.YtpcdbgfhlghocaaUa
import Derived.Deep.RegionLaw
import Derived.Maps.AppendAt
import Derived.Laws.OwnMore
namespace Go.Proofs.Ytpcdbgfhlghocaa
set_option linter.unusedVariables false
set_option linter.unusedSimpArgs false
open Go.RowKit

/-- What an append takes its new cells from: a nil slice, or cells in memory. -/
def Src (w : World) (size : Nat) (v : Value) (m : Nat) (news : List Value) : Prop :=
  (v = .slice none 0 0 ∧ m = 0 ∧ news = []) ∨ ∃ ad c, v = .slice (some ad) m c ∧ news.length = m * size ∧ ∀ j u, news[j]? = some u → w.cell? (ad.add j) = some u

theorem run_append_src {P : Program} (w : World) (base : Nat) (t ty e : TypeId) (i : TypeInfo) (z : Value) (size bytes : Nat) (ht : P.underlying t = some (.slice e)) (hi : P.info? e = some i) (hz : i.zero = some z)
    (hsize : i.size = size) (hby : i.bytes = bytes) (hzs : z.cells.size = size) (hsz : 0 < size)
    (v : Value) (n : Nat) (xs : List Value) (hown : w.ownsRow base e size v n xs)
    (vx : Value) (m : Nat) (news : List Value) (hs : Src w size vx m news) (h1 : ∀ u ∈ news, u.oneCell' = true)
    (h63 : n + m ≤ maxLen) (hbytes : (n + m) * bytes ≤ 140737488355328) (hbase : base ≤ w.heap.size) :
    ∃ v' w', (Builtin.append_ #[t, t] ty #[v, vx]).run P w = .ok v' w' ∧ w'.ownsRow base e size v' (n + m) (xs ++ news) ∧ w.grownBy w' v.ownBlock ∧ (v'.ownBlock = v.ownBlock ∨ v'.ownBlock = some w.heap.size) := by
  rcases hs with ⟨rfl, rfl, rfl⟩ | ⟨ad, c, rfl, hl, hnews⟩
  · exact ⟨v, w, run_append_owned_none (P := P) (w := w) base t ty e i size ht hi v n xs hown, by rw [List.append_nil]; exact hown, ⟨rfl, rfl, rfl, Nat.le_refl _, fun _ _ _ => rfl⟩, .inl rfl⟩
  · obtain ⟨v', w', h2, h3, h4, _, h5⟩ := run_append_own_at (P := P) w base t ty e i z size bytes ht hi hz hsize hby hzs hsz v n xs hown ad m c news hl hnews h1 h63 hbytes hbase
    exact ⟨v', w', h2, h3, h4, h5⟩

/-- append onto a slice of the call's own, as a step of a region that draws. -/
theorem step_app {P : Program} {w : World} {ops : Array Oper} {o : Oper} {a : Act} {K : Act → World → Prop} {Q : Exit → Act → World → Prop} {E : Prop} (hgd : o.guard = none) (s x : Operand) (t : TypeId)
    (ho : o.op = .call { callee := .builtin .append, args := #[s, x], argTypes := #[t, t] })
    (base : Nat) (e : TypeId) (i : TypeInfo) (z : Value) (size bytes : Nat) (ht : P.underlying t = some (.slice e)) (hi : P.info? e = some i) (hz : i.zero = some z)
    (hsize : i.size = size) (hby : i.bytes = bytes) (hzs : z.cells.size = size) (hsz : 0 < size)
    (v : Value) (n : Nat) (xs : List Value) (hs : a.eval s = v) (hown : w.ownsRow base e size v n xs)
    (vx : Value) (m : Nat) (news : List Value) (hx : a.eval x = vx) (hsrc : Src w size vx m news) (h1 : ∀ u ∈ news, u.oneCell' = true)
    (h63 : n + m ≤ maxLen) (hbytes : (n + m) * bytes ≤ 140737488355328) (hbase : base ≤ w.heap.size)
    (h : ∀ v' w', Hid (w'.ownsRow base e size v' (n + m) (xs ++ news)) → Hid (w.grownBy w' v.ownBlock) → Hid (v'.ownBlock = v.ownBlock ∨ v'.ownBlock = some w.heap.size) → K (a.put o.dst v') w') :
    if Region.wanted o (yielded ops a.tmps) = true then Oper.wp P o a w K Q else E := by
  have hw : Region.wanted o (yielded ops a.tmps) = true := by simp [Region.wanted, hgd]
  rw [if_pos hw]
  obtain ⟨v', w', hr, h2, h3, h4⟩ := run_append_src (P := P) w base t o.type e i z size bytes ht hi hz hsize hby hzs hsz v n xs hown vx m news hsrc h1 h63 hbytes hbase
  unfold Oper.wp execOp
  simp only [ho, resolve, invoke, builtin, Sem.run_bind, Sem.run_pure, Result.andThen_ok, List.map_toArray, List.map_cons, List.map_nil, hs, hx, hr]
  exact h v' w' (Lib.hid h2) (Lib.hid h3) (Lib.hid h4)
/-- The same with the frame carried. -/
theorem step_appB {P : Program} {w w0 : World} {ops : Array Oper} {o : Oper} {a : Act} {K : Act → World → Prop} {Q : Exit → Act → World → Prop} {E : Prop} (hgd : o.guard = none) (s x : Operand) (t : TypeId)
    (ho : o.op = .call { callee := .builtin .append, args := #[s, x], argTypes := #[t, t] })
    (base : Nat) (e : TypeId) (i : TypeInfo) (z : Value) (size bytes : Nat) (ht : P.underlying t = some (.slice e)) (hi : P.info? e = some i) (hz : i.zero = some z)
    (hsize : i.size = size) (hby : i.bytes = bytes) (hzs : z.cells.size = size) (hsz : 0 < size)
    (v : Value) (n : Nat) (xs : List Value) (hs : a.eval s = v) (hown : w.ownsRow base e size v n xs)
    (vx : Value) (m : Nat) (news : List Value) (hx : a.eval x = vx) (hsrc : Src w size vx m news) (h1 : ∀ u ∈ news, u.oneCell' = true)
    (h63 : n + m ≤ maxLen) (hbytes : (n + m) * bytes ≤ 140737488355328) (hB : base ≤ w0.heap.size) (hbel : Below base w0 w)
    (h : ∀ v' w', Hid (w'.ownsRow base e size v' (n + m) (xs ++ news)) → Hid (w.grownBy w' v.ownBlock) → Hid (Below base w0 w') → K (a.put o.dst v') w') :
    if Region.wanted o (yielded ops a.tmps) = true then Oper.wp P o a w K Q else E :=
  step_app hgd s x t ho base e i z size bytes ht hi hz hsize hby hzs hsz v n xs hs hown vx m news hx hsrc h1 h63 hbytes (Nat.le_trans hB hbel.size) fun v' w' h2 h3 _ =>
    h v' w' h2 h3 (Lib.hid (hbel.grown h3.out (Nat.le_trans hB hbel.size) fun k hk => (hown.lt k hk).1))
/-- The same, in a plain region. -/
theorem wpList_app {P : Program} {w : World} {ops : Array Oper} {rest : List Oper} {o : Oper} {a : Act} {Q : Exit → Act → World → Prop} (hgd : o.guard = none) (s x : Operand) (t : TypeId)
    (ho : o.op = .call { callee := .builtin .append, args := #[s, x], argTypes := #[t, t] })
    (base : Nat) (e : TypeId) (i : TypeInfo) (z : Value) (size bytes : Nat) (ht : P.underlying t = some (.slice e)) (hi : P.info? e = some i) (hz : i.zero = some z)
    (hsize : i.size = size) (hby : i.bytes = bytes) (hzs : z.cells.size = size) (hsz : 0 < size)
    (v : Value) (n : Nat) (xs : List Value) (hs : a.eval s = v) (hown : w.ownsRow base e size v n xs)
    (vx : Value) (m : Nat) (news : List Value) (hx : a.eval x = vx) (hsrc : Src w size vx m news) (h1 : ∀ u ∈ news, u.oneCell' = true)
    (h63 : n + m ≤ maxLen) (hbytes : (n + m) * bytes ≤ 140737488355328) (hbase : base ≤ w.heap.size)
    (h : ∀ v' w', Hid (w'.ownsRow base e size v' (n + m) (xs ++ news)) → Hid (w.grownBy w' v.ownBlock) → Hid (v'.ownBlock = v.ownBlock ∨ v'.ownBlock = some w.heap.size) → wpList P ops Q rest (a.put o.dst v') w') : wpList P ops Q (o :: rest) a w := by
  refine wpList_plain hgd fun K hK => ?_
  obtain ⟨v', w', hr, h2, h3, h4⟩ := run_append_src (P := P) w base t o.type e i z size bytes ht hi hz hsize hby hzs hsz v n xs hown vx m news hsrc h1 h63 hbytes hbase
  unfold Oper.wp execOp
  simp only [ho, resolve, invoke, builtin, Sem.run_bind, Sem.run_pure, Result.andThen_ok, List.map_toArray, List.map_cons, List.map_nil, hs, hx, hr]
  exact hK _ _ (h v' w' (Lib.hid h2) (Lib.hid h3) (Lib.hid h4))
theorem info9 : (Try.prog.info? 9).map (fun i => (i.zero, i.size, i.bytes)) = some (some (.string ⟨#[]⟩), 1, 16) := by kernel_rfl

/-- The insertion sort of the reference. -/
def leqB (x y : ByteArray) : Bool := Op.bytesLess x.toList y.toList || x.toList == y.toList
def insB (x : ByteArray) (l : List ByteArray) : List ByteArray := l.takeWhile (fun y => leqB y x) ++ [x] ++ l.dropWhile (fun y => leqB y x)
def srtB (l : List ByteArray) : List ByteArray := l.foldl (fun s x => insB x s) []
theorem srtB_snoc (l : List ByteArray) (k : Nat) (x : ByteArray) (h : l[k]? = some x) : srtB (l.take (k + 1)) = insB x (srtB (l.take k)) := by
  unfold srtB
  rw [List.take_add_one, h]
  simp
theorem insB_length (x : ByteArray) (l : List ByteArray) : (insB x l).length = l.length + 1 := by
  have h := congrArg List.length (List.takeWhile_append_dropWhile (p := fun y => leqB y x) (l := l))
  simp only [List.length_append] at h
  simp only [insB, List.length_append, List.length_cons, List.length_nil]
  omega
theorem srtB_length (l : List ByteArray) : (srtB l).length = l.length := by
  have : ∀ (l s : List ByteArray), (l.foldl (fun s x => insB x s) s).length = s.length + l.length := by
    intro l
    induction l with
    | nil => intro s; rfl
    | cons x r ih => intro s; rw [List.foldl_cons, ih, insB_length, List.length_cons]; omega
  rw [srtB, this]; simp
/-- The place that the inner loop has found is where the new one goes. -/
theorem insB_at {x : ByteArray} {l : List ByteArray} {k : Nat} (hk : k ≤ l.length) (h1 : ∀ j y, j < k → l[j]? = some y → leqB y x = true) (h2 : ∀ y, l[k]? = some y → leqB y x = false) :
    insB x l = l.take k ++ [x] ++ l.drop k := by
  have e1 : l.takeWhile (fun y => leqB y x) = l.take k ∧ l.dropWhile (fun y => leqB y x) = l.drop k := by
    induction l generalizing k with
    | nil => simp
    | cons y r ih =>
      cases k with
      | zero =>
        have := h2 y rfl
        simp [List.takeWhile_cons, List.dropWhile_cons, this]
      | succ k =>
        have h0 := h1 0 y (by omega) rfl
        obtain ⟨e2, e3⟩ := ih (k := k) (by simpa using hk) (fun j z hj hz => h1 (j + 1) z (by omega) (by simpa using hz)) (fun z hz => h2 z (by simpa using hz))
        simp [List.takeWhile_cons, List.dropWhile_cons, h0, e2, e3]
  rw [insB, e1.1, e1.2]
theorem cat_append (a b : List ByteArray) : cat (a ++ b) = cat a ++ cat b := by simp [cat]
theorem tot_append (a b : List ByteArray) : tot (a ++ b) = tot a + tot b := by simp [tot]
theorem insB_perm (x : ByteArray) (l : List ByteArray) : (insB x l).Perm (x :: l) := by
  have h := List.takeWhile_append_dropWhile (p := fun y => leqB y x) (l := l)
  unfold insB
  have h2 : (l.takeWhile (fun y => leqB y x) ++ [x] ++ l.dropWhile (fun y => leqB y x)).Perm (x :: (l.takeWhile (fun y => leqB y x) ++ l.dropWhile (fun y => leqB y x))) := by
    rw [List.append_assoc]
    exact List.perm_middle
  rwa [h] at h2
theorem srtB_perm (l : List ByteArray) : (srtB l).Perm l := by
  have : ∀ (l s : List ByteArray), (l.foldl (fun s x => insB x s) s).Perm (s ++ l) := by
    intro l
    induction l with
    | nil => intro s; simp
    | cons x r ih =>
      intro s
      rw [List.foldl_cons]
      refine (ih (insB x s)).trans ?_
      refine ((insB_perm x s).append_right r).trans ?_
      exact List.perm_middle.symm
  simpa [srtB] using this l []
theorem perm_tot {a b : List ByteArray} (h : a.Perm b) : tot a = tot b := by
  unfold tot
  exact (h.map _).sum_nat
end Go.Proofs.Ytpcdbgfhlghocaa
