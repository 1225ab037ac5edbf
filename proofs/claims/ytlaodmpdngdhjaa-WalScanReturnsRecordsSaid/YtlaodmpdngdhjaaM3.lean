/- Joined texts: Vg Vh Vi Vj Vk Vl Vm Vn Vo Vp Vq. -/
import Derived.Test.YtlaodmpdngdhjaaM2
import Derived.Test.YtlaodmpdngdhjaaEq
import Derived.Lib.SlicesS
/- The plain log; a disk beside blocks of the call's own. -/
namespace Go.Proofs.Ytlaodmpdngdhjaa
set_option linter.unusedVariables false
set_option linter.unusedSimpArgs false
open Go.RowKit

structure Lg where
  name : ByteArray
  count : Nat
  size : Nat
  dead : Bool
def lcells (L : Lg) (d : Nat) : Array Value := #[.string L.name, .int .i64 L.count, .int .i64 L.size, ptr d, .bool L.dead]
abbrev lobj (L : Lg) (d : Nat) : Obj := .cells (lcells L d) 84 (0, 0)
def sfx : ByteArray := ⟨#[46, 110, 101, 119]⟩
def St.replace (s : St) (n b : ByteArray) : St × Int :=
  if (s.append (n ++ sfx) b).2 ≠ 0 then s.append (n ++ sfx) b
  else if (s.append (n ++ sfx) b).1.sync.2 ≠ 0 then (s.append (n ++ sfx) b).1.sync
  else if ((s.append (n ++ sfx) b).1.sync.1.rename (n ++ sfx) n).2 ≠ 0 then (s.append (n ++ sfx) b).1.sync.1.rename (n ++ sfx) n
  else ((s.append (n ++ sfx) b).1.sync.1.rename (n ++ sfx) n).1.sync
structure LR where
  s : St
  L : Lg
  e : Int
def lapp (s : St) (L : Lg) (data : ByteArray) : LR :=
  if L.dead then ⟨s, L, 28⟩
  else if 65536 < data.size ∨ 4096 ≤ L.count then ⟨s, L, 2⟩
  else if (s.append L.name (frm L.count data)).2 = 0 then ⟨(s.append L.name (frm L.count data)).1, ⟨L.name, L.count + 1, L.size + (data.size + 8), false⟩, 0⟩
  else ⟨(s.append L.name (frm L.count data)).1, { L with dead := true }, (s.append L.name (frm L.count data)).2⟩
def lsync (s : St) (L : Lg) : LR :=
  if L.dead then ⟨s, L, 28⟩ else ⟨s.sync.1, { L with dead := decide (s.sync.2 ≠ 0) }, s.sync.2⟩
def lreset (s : St) (L : Lg) (data : ByteArray) : LR :=
  if L.dead then ⟨s, L, 28⟩
  else if 65536 < data.size then ⟨s, L, 2⟩
  else if (s.replace L.name (frm 0 data)).2 = 0 then ⟨(s.replace L.name (frm 0 data)).1, ⟨L.name, 1, data.size + 8, false⟩, 0⟩
  else ⟨(s.replace L.name (frm 0 data)).1, { L with dead := true }, (s.replace L.name (frm 0 data)).2⟩
/-- What Open does behind a scan that went well. -/
def rmOld (s : St) (n : ByteArray) : St × Int := if s.off = false ∧ s.has (n ++ sfx) then s.remove (n ++ sfx) else (s, 0)
def fixUp (s : St) (n b : ByteArray) (k : Nat) : St × Int := if k < b.size then s.replace n (b.extract 0 k) else s.sync
structure OR where
  s : St
  recs : List ByteArray
  size : Nat
  e : Int
def lopen (s : St) (n : ByteArray) : OR :=
  if (s.read n).2 ≠ 0 ∧ (s.read n).2 ≠ 23 then ⟨s, [], 0, (s.read n).2⟩
  else if 28 < n.size then ⟨s, [], 0, 14⟩
  else if (scanR (s.read n).1).2.2 ≠ 0 then ⟨s, [], 0, (scanR (s.read n).1).2.2⟩
  else if (rmOld s n).2 ≠ 0 then ⟨(rmOld s n).1, [], 0, (rmOld s n).2⟩
  else if (fixUp (rmOld s n).1 n (s.read n).1 (scanR (s.read n).1).2.1).2 ≠ 0 then
    ⟨(fixUp (rmOld s n).1 n (s.read n).1 (scanR (s.read n).1).2.1).1, [], 0, (fixUp (rmOld s n).1 n (s.read n).1 (scanR (s.read n).1).2.1).2⟩
  else ⟨(fixUp (rmOld s n).1 n (s.read n).1 (scanR (s.read n).1).2.1).1, (scanR (s.read n).1).1, (scanR (s.read n).1).2.1, 0⟩

/-- A family of assertions that holds a disk of the program's. -/
structure DSys (d : Nat) (D : St → World → (Nat → Prop) → (Nat → Prop) → Prop) : Prop where
  kept : ∀ {s w w' rw ro}, D s w rw ro → (∀ b, rw b ∨ ro b → w'.heap[b]? = w.heap[b]?) → w.heap.size ≤ w'.heap.size → D s w' rw ro
  lt : ∀ {s w rw ro}, D s w rw ro → ∀ b, rw b ∨ ro b → b < w.heap.size
  call : ∀ {s s' w rw ro} {f : Nat} {args : Array Value} {v : Value}, D s w rw ro → (∀ rwd rod, DiskAt w d s rwd rod → Calls Try.prog f args w (Meth w d s' rwd rod v)) →
    Calls Try.prog f args w fun e w' => e = .returned v ∧ ∃ rw' ro', D s' w' rw' ro' ∧ Kept w w' rw ro rw' ro'
  at_ : ∀ {s w rw ro}, D s w rw ro → ∃ rwd rod, DiskAt w d s rwd rod
theorem dsys_disk (d : Nat) : DSys d fun s w rw ro => DiskAt w d s rw ro :=
  ⟨fun h hk hs => h.kept hk hs, fun h => h.ltro, fun h hc => hc _ _ h, fun h => ⟨_, _, h⟩⟩
theorem Two.kept {w w' : World} {d r : Nat} {s t : St} {rw ro : Nat → Prop} (h : Two w d s r t rw ro) (hk : ∀ b, rw b ∨ ro b → w'.heap[b]? = w.heap[b]?) (hs : w.heap.size ≤ w'.heap.size) : Two w' d s r t rw ro := by
  obtain ⟨rwd, rod, rwr, ror, hd, hr, h1, h2, h3, h4⟩ := h
  refine ⟨rwd, rod, rwr, ror, hd.kept (fun b hb => hk b ?_) hs, hr.kept (fun b hb => hk b ?_) hs, h1, h2, h3, h4⟩
  · exact hb.imp (fun h => (h3 b).2 (.inl h)) fun h => (h4 b).2 (.inl h)
  · exact hb.imp (fun h => (h3 b).2 (.inr h)) fun h => (h4 b).2 (.inr h)
theorem dsys_two (d r : Nat) (t : St) : DSys d fun s w rw ro => Two w d s r t rw ro :=
  ⟨fun h hk hs => h.kept hk hs, fun h => h.lt, fun h hc => h.disk hc, fun h => by obtain ⟨rwd, rod, rwr, ror, hd, _⟩ := h; exact ⟨_, _, hd⟩⟩
/-- An assertion in blocks of the call's own, beside other such blocks that are known whole. -/
def Sys (base : World) (P : World → (Nat → Prop) → (Nat → Prop) → Prop) (X : List (Nat × Obj)) (w : World) : Prop :=
  ∃ rw ro, P w rw ro ∧ (∀ b, rw b → base.heap.size ≤ b) ∧ Below base.heap.size base w ∧ ∀ p ∈ X, w.heap[p.1]? = some p.2 ∧ ¬ rw p.1 ∧ ¬ ro p.1 ∧ base.heap.size ≤ p.1
section
variable {base w w' : World} {d : Nat} {D : St → World → (Nat → Prop) → (Nat → Prop) → Prop} {s s' : St} {X : List (Nat × Obj)} {f : Nat} {args : Array Value} {v : Value}
theorem Sys.toBelow {P} (h : Sys base P X w) : Below base.heap.size base w := by
  obtain ⟨rw, ro, h1, h2, h3, h4⟩ := h
  exact h3
theorem Sys.get {P} (h : Sys base P X w) {p : Nat × Obj} (hp : p ∈ X) : w.heap[p.1]? = some p.2 := by
  obtain ⟨rw, ro, h1, h2, h3, h4⟩ := h
  exact (h4 p hp).1
theorem Sys.below (hD : DSys d D) (h : Sys base (D s) X w) (hb : Below w.heap.size w w') : Sys base (D s) X w' := by
  obtain ⟨rw, ro, h1, h2, h3, h4⟩ := h
  refine ⟨rw, ro, hD.kept h1 (fun b hr => hb.block b (hD.lt h1 b hr)) hb.size, h2, h3.trans (hb.mono h3.size), fun p hp => ?_⟩
  obtain ⟨g1, g2⟩ := h4 p hp
  exact ⟨by rw [hb.block _ (heap_lt g1)]; exact g1, g2⟩
theorem Sys.keptX {P P' : World → (Nat → Prop) → (Nat → Prop) → Prop} {rw ro rw' ro' : Nat → Prop} (h2 : ∀ b, rw b → base.heap.size ≤ b) (h3 : Below base.heap.size base w)
    (h4 : ∀ p ∈ X, w.heap[p.1]? = some p.2 ∧ ¬ rw p.1 ∧ ¬ ro p.1 ∧ base.heap.size ≤ p.1) (hp : P' w' rw' ro') (hk : Kept w w' rw ro rw' ro') : Sys base P' X w' := by
  refine ⟨rw', ro', hp, fun b hb => (hk.rw1 b hb).elim (h2 b) fun hq => Nat.le_trans h3.size hq, hk.toBelow h2 h3, fun p hpx => ?_⟩
  obtain ⟨g1, g2, g3, g4⟩ := h4 p hpx
  have hl := heap_lt g1
  exact ⟨by rw [hk.block _ hl g2]; exact g1, fun hq => (hk.rw1 _ hq).elim g2 fun hq => by omega, fun hq => (hk.ro1 _ hq).elim g3 fun hq => by omega, g4⟩
theorem Sys.call (hD : DSys d D) (h : Sys base (D s) X w) (hc : ∀ rwd rod, DiskAt w d s rwd rod → Calls Try.prog f args w (Meth w d s' rwd rod v)) :
    Calls Try.prog f args w fun e w' => e = .returned v ∧ Hid (Sys base (D s') X w') := by
  obtain ⟨rw, ro, h1, h2, h3, h4⟩ := h
  refine (hD.call h1 hc).mono ?_
  rintro e w' ⟨rfl, rw', ro', hp, hk⟩
  exact ⟨rfl, Sys.keptX (P := D s) h2 h3 h4 hp hk⟩
theorem Sys.disk (hD : DSys d D) (h : Sys base (D s) X w) : ∃ rwd rod, DiskAt w d s rwd rod := by
  obtain ⟨rw, ro, h1, h2, h3, h4⟩ := h
  exact hD.at_ h1
/-- A turn of one of the extra blocks. -/
theorem Sys.turn (hD : DSys d D) {b : Nat} {o o' : Obj} (h : Sys base (D s) ((b, o) :: X) w) (T : Turn b w w') (ho : w'.heap[b]? = some o') (hX : ∀ p ∈ X, p.1 ≠ b) : Sys base (D s) ((b, o') :: X) w' := by
  obtain ⟨rw, ro, h1, h2, h3, h4⟩ := h
  obtain ⟨g1, g2, g3, g4⟩ := h4 _ (List.mem_cons_self ..)
  refine ⟨rw, ro, hD.kept h1 (fun c hr => T.block c (by rintro rfl; exact hr.elim g2 g3)) (Nat.le_of_eq T.size.symm), h2, h3.trans (T.toBelow g4), fun p hp => ?_⟩
  rcases List.mem_cons.1 hp with rfl | hp
  · exact ⟨ho, g2, g3, g4⟩
  · obtain ⟨k1, k2⟩ := h4 p (List.mem_cons_of_mem _ hp)
    exact ⟨by rw [T.block _ (hX p hp)]; exact k1, k2⟩
/-- A new block. -/
theorem Sys.alloc (hD : DSys d D) (o : Obj) (h : Sys base (D s) X w) : Sys base (D s) ((w.heap.size, o) :: X) (w.alloc o) := by
  have hb : Below w.heap.size w (w.alloc o) := (Below.refl _ _).alloc (Nat.le_refl _) _
  have h' := h.below hD hb
  obtain ⟨rw, ro, h1, h2, h3, h4⟩ := h
  refine ⟨rw, ro, hD.kept h1 (fun b hr => hb.block b (hD.lt h1 b hr)) hb.size, h2, h3.trans (hb.mono h3.size), fun p hp => ?_⟩
  rcases List.mem_cons.1 hp with rfl | hp
  · exact ⟨heap_alloc_new _ _, fun hq => by have := hD.lt h1 _ (.inl hq); omega, fun hq => by have := hD.lt h1 _ (.inr hq); omega, h3.size⟩
  · obtain ⟨k1, k2⟩ := h4 p hp
    exact ⟨by rw [hb.block _ (heap_lt k1)]; exact k1, k2⟩
theorem Sys.drop {P} {p : Nat × Obj} (h : Sys base P (p :: X) w) : Sys base P X w := by
  obtain ⟨rw, ro, h1, h2, h3, h4⟩ := h
  exact ⟨rw, ro, h1, h2, h3, fun q hq => h4 q (List.mem_cons_of_mem _ hq)⟩
theorem Sys.perm {P} {Y : List (Nat × Obj)} (h : Sys base P X w) (hY : ∀ p ∈ Y, p ∈ X) : Sys base P Y w := by
  obtain ⟨rw, ro, h1, h2, h3, h4⟩ := h
  exact ⟨rw, ro, h1, h2, h3, fun q hq => h4 q (hY q hq)⟩
end
end Go.Proofs.Ytlaodmpdngdhjaa

/- Small methods of the log. -/
namespace Go.Proofs.Ytlaodmpdngdhjaa
set_option linter.unusedVariables false
set_option linter.unusedSimpArgs false
open Go.RowKit

theorem len_any (b d : Nat) (L : Lg) (w : World) (h : w.heap[b]? = some (lobj L d)) : Calls Try.prog 54 #[ptr b] w fun e w' => e = .returned (.int .i64 L.count) ∧ w' = w := by
  have k1 : w.cell? ⟨b, 1, none⟩ = some (.int .i64 L.count) := (row_cells h).1 1
  clear h
  go_enter Try.func54, Try.ntmps54
  go_wp2_with fail
  go_ret
  exact ⟨rfl, rfl⟩
theorem len_nil (w : World) : Calls Try.prog 54 #[.pointer none] w fun e w' => e = .returned (.int .i64 0) ∧ w' = w := by
  go_enter Try.func54, Try.ntmps54
  go_wp2_with fail
  go_ret
  exact ⟨rfl, rfl⟩
theorem size_any (b d : Nat) (L : Lg) (w : World) (h : w.heap[b]? = some (lobj L d)) : Calls Try.prog 55 #[ptr b] w fun e w' => e = .returned (.int .i64 L.size) ∧ w' = w := by
  have k1 : w.cell? ⟨b, 2, none⟩ = some (.int .i64 L.size) := (row_cells h).1 2
  clear h
  go_enter Try.func55, Try.ntmps55
  go_wp2_with fail
  go_ret
  exact ⟨rfl, rfl⟩
theorem size_nil (w : World) : Calls Try.prog 55 #[.pointer none] w fun e w' => e = .returned (.int .i64 0) ∧ w' = w := by
  go_enter Try.func55, Try.ntmps55
  go_wp2_with fail
  go_ret
  exact ⟨rfl, rfl⟩
theorem next_any (b d : Nat) (L : Lg) (x : ByteArray) (w : World) (h : w.heap[b]? = some (lobj L d)) (hc : L.count ≤ 1000000) (hx : x.size ≤ 65536) :
    Calls Try.prog 63 #[ptr b, .string x] w fun e w' => e = .returned (.string (frm L.count x)) ∧ Below w.heap.size w w' := by
  have k1 : w.cell? ⟨b, 1, none⟩ = some (.int .i64 L.count) := (row_cells h).1 1
  have HF := Lib.hid (frame_any L.count x w (by omega) hx)
  clear h
  go_enter Try.func63, Try.ntmps63
  go_wp2_with fail
  refine HF.out.mono ?_
  rintro e w1 ⟨rfl, hb⟩
  have HB := Lib.hid hb
  clear hb
  go_wp2_with fail
  go_ret
  exact ⟨rfl, HB.out⟩
theorem grown_any (b d : Nat) (L : Lg) (x : ByteArray) (w : World) (h : w.heap[b]? = some (lobj L d)) (hc : L.count ≤ 1000000) (hs : L.size ≤ 1000000000) (hx : x.size ≤ 1000000) :
    Calls Try.prog 65 #[ptr b, .string x] w fun e w' => e = .returned (.tuple #[]) ∧ w'.heap[b]? = some (lobj { L with count := L.count + 1, size := L.size + x.size } d) ∧ Turn b w w' := by
  have k1 : w.cell? ⟨b, 1, none⟩ = some (.int .i64 L.count) := (row_cells h).1 1
  have k2 : w.cell? ⟨b, 2, none⟩ = some (.int .i64 L.size) := (row_cells h).1 2
  have f1 := (row_cells h).2 1
  have f2 := (row_cells h).2 2
  have H := Lib.hid h
  clear h
  go_enter Try.func65, Try.ntmps65
  go_wp2_with fail
  go_end0
  refine ⟨rfl, ?_, (set_turn _ _ _ _).trans (set_turn _ _ _ _)⟩
  rw [set_heap (set_heap H.out 1 _) 2 _]
  rfl
theorem result_any (b d : Nat) (L : Lg) (x : Int) (w : World) (h : w.heap[b]? = some (lobj L d)) :
    Calls Try.prog 64 #[ptr b, .int .i64 x] w fun e w' => e = .returned (.int .i64 x) ∧ w'.heap[b]? = some (lobj { L with dead := decide (x ≠ 0) } d) ∧ Turn b w w' := by
  have k4 : w.cell? ⟨b, 4, none⟩ = some (.bool L.dead) := (row_cells h).1 4
  have f4 := (row_cells h).2 4
  have H := Lib.hid h
  clear h
  go_enter Try.func64, Try.ntmps64
  go_wp2_with fail
  go_ret
  refine ⟨rfl, ?_, set_turn _ _ _ _⟩
  rw [set_heap H.out 4 _]
  by_cases h0 : x = 0
  · subst h0; rfl
  · have : (x != 0) = true := by rw [bne_iff_ne]; exact h0
    rw [this, decide_eq_true h0]
    rfl
end Go.Proofs.Ytlaodmpdngdhjaa

/- replace. -/
namespace Go.Proofs.Ytlaodmpdngdhjaa
set_option linter.unusedVariables false
set_option linter.unusedSimpArgs false
open Go.RowKit

section
variable {base w : World} {d : Nat} {D : St → World → (Nat → Prop) → (Nat → Prop) → Prop} {s : St} {M : Nat} {X : List (Nat × Obj)}
theorem Sys.append (hD : DSys d D) (h : Sys base (D s) X w) (hg : Good s M) (hM : M ≤ 500000) {n b : ByteArray} (hn : n.size ≤ maxLen) (hb : b.size ≤ 500000) :
    Calls Try.prog 31 #[ptr d, .string n, .string b] w fun e w' => e = .returned (.int .i64 (s.append n b).2) ∧ Hid (Sys base (D (s.append n b).1) X w') :=
  h.call hD fun rw ro h => append_any d s rw ro M n b w h hg hM hn hb
theorem Sys.rename (hD : DSys d D) (h : Sys base (D s) X w) (hg : Good s M) (hM : M ≤ 500000) {x y : ByteArray} (hx : x.size ≤ maxLen) (hy : y.size ≤ maxLen) :
    Calls Try.prog 41 #[ptr d, .string x, .string y] w fun e w' => e = .returned (.int .i64 (s.rename x y).2) ∧ Hid (Sys base (D (s.rename x y).1) X w') :=
  h.call hD fun rw ro h => rename_any d s rw ro M x y w h hg hM hx hy
theorem Sys.remove (hD : DSys d D) (h : Sys base (D s) X w) (hg : Good s M) (hM : M ≤ 500000) {x : ByteArray} (hx : x.size ≤ maxLen) :
    Calls Try.prog 42 #[ptr d, .string x] w fun e w' => e = .returned (.int .i64 (s.remove x).2) ∧ Hid (Sys base (D (s.remove x).1) X w') :=
  h.call hD fun rw ro h => remove_any d s rw ro M x w h hg hM hx
theorem Sys.sync (hD : DSys d D) (h : Sys base (D s) X w) (hg : Good s M) (hM : M ≤ 500000) :
    Calls Try.prog 32 #[ptr d] w fun e w' => e = .returned (.int .i64 s.sync.2) ∧ Hid (Sys base (D s.sync.1) X w') :=
  h.call hD fun rw ro h => sync_any d s rw ro M w h hg hM
theorem Sys.fuse (hD : DSys d D) (h : Sys base (D s) X w) (hg : Good s M) (hM : M ≤ 500000) {n : Int} (hn : fits64 n) :
    Calls Try.prog 26 #[ptr d, .int .i64 n] w fun e w' => e = .returned (.tuple #[]) ∧ Hid (Sys base (D (s.fuse n)) X w') :=
  h.call hD fun rw ro h => fuse_any d s rw ro M n w h hg hM hn
theorem Sys.crash (hD : DSys d D) (h : Sys base (D s) X w) (hg : Good s M) (hM : M ≤ 500000) {k b : Int} (hk : fits64 k) (hb : fits64 b) :
    Calls Try.prog 28 #[ptr d, .int .i64 k, .int .i64 b] w fun e w' => e = .returned (.tuple #[]) ∧ Hid (Sys base (D (s.crash k b)) X w') :=
  h.call hD fun rw ro h => crash_any d s rw ro M k b w h hg hM hk hb
theorem Sys.read (hD : DSys d D) (h : Sys base (D s) X w) (hg : Good s M) (hM : M ≤ 500000) {n : ByteArray} (hn : n.size ≤ maxLen) :
    Calls Try.prog 33 #[ptr d, .string n] w fun e w' => e = .returned (.tuple #[.string (s.read n).1, .int .i64 (s.read n).2]) ∧ w' = w := by
  obtain ⟨rwd, rod, h1⟩ := h.disk hD
  exact read_any d s rwd rod M n w h1 hg hM hn
theorem Sys.pending (hD : DSys d D) (h : Sys base (D s) X w) :
    Calls Try.prog 39 #[ptr d] w fun e w' => e = .returned (.int .i64 s.ops.length) ∧ w' = w := by
  obtain ⟨rwd, rod, h1⟩ := h.disk hD
  exact pending_any d s rwd rod w h1
theorem Sys.names (hD : DSys d D) (h : Sys base (D s) X w) (hg : Good s M) (hM : M ≤ 500000) :
    Calls Try.prog 45 #[ptr d] w fun e w' => ∃ v, e = .returned v ∧ w'.ownsRow w.heap.size 9 1 v s.names.length (strs s.names) ∧ Below w.heap.size w w' := by
  obtain ⟨rwd, rod, h1⟩ := h.disk hD
  exact names_any d s rwd rod M w h1 hg hM
end
theorem Good.replace {s : St} {M : Nat} (h : Good s M) (n b : ByteArray) : Good (s.replace n b).1 (M + b.size + 2) := by
  have h1 := h.append (n ++ sfx) b
  have h2 := h1.sync
  have h3 := h2.rename (n ++ sfx) n
  have h4 := h3.sync
  unfold St.replace
  split
  · exact h1.mono (by omega)
  · split
    · exact h2.mono (by omega)
    · split
      · exact h3.mono (by omega)
      · exact h4.mono (by omega)
theorem lcell {base w : World} {P : World → (Nat → Prop) → (Nat → Prop) → Prop} {b d : Nat} {L : Lg} {X : List (Nat × Obj)} (h : Sys base P ((b, lobj L d) :: X) w) :
    w.cell? ⟨b, 0, none⟩ = some (.string L.name) ∧ w.cell? ⟨b, 3, none⟩ = some (ptr d) ∧ w.cell? ⟨b, 4, none⟩ = some (.bool L.dead) ∧ w.cell? ⟨b, 1, none⟩ = some (.int .i64 L.count) ∧ w.cell? ⟨b, 2, none⟩ = some (.int .i64 L.size) := by
  have hb := h.get (List.mem_cons_self ..)
  exact ⟨(row_cells hb).1 0, (row_cells hb).1 3, (row_cells hb).1 4, (row_cells hb).1 1, (row_cells hb).1 2⟩
set_option maxRecDepth 100000 in
set_option maxHeartbeats 4000000 in
theorem replace_any {d : Nat} {D : St → World → (Nat → Prop) → (Nat → Prop) → Prop} (hD : DSys d D) (base w : World) (s : St) (M lb : Nat) (L : Lg) (X : List (Nat × Obj)) (b : ByteArray)
    (h : Sys base (D s) ((lb, lobj L d) :: X) w) (hg : Good s M) (hM : M + b.size + 3 ≤ 500000) (hn : L.name.size ≤ 1000) :
    Calls Try.prog 62 #[ptr lb, .string b] w fun e w' => e = .returned (.int .i64 (s.replace L.name b).2) ∧ Hid (Sys base (D (s.replace L.name b).1) ((lb, lobj L d) :: X) w') := by
  have HS := Lib.hid h
  have HD := Lib.hid hD
  have HG := Lib.hid hg
  obtain ⟨c0, c3, _, _, _⟩ := lcell h
  obtain ⟨nm, hnm⟩ : ∃ nm, L.name = nm := ⟨_, rfl⟩
  rw [hnm] at c0 hn ⊢
  have HNM := Lib.hid hnm
  obtain ⟨tm, htm⟩ : ∃ tm, nm ++ sfx = tm := ⟨_, rfl⟩
  have htm' : nm ++ (⟨#[46, 110, 101, 119]⟩ : ByteArray) = tm := htm
  have hts : tm.size ≤ maxLen := by rw [← htm, ByteArray.size_append]; unfold maxLen; have : sfx.size = 4 := rfl; omega
  have hns : nm.size ≤ maxLen := by unfold maxLen; omega
  have HTM := Lib.hid htm
  obtain ⟨p1, e1, hp1⟩ : ∃ p1 e1, s.append tm b = (p1, e1) := ⟨_, _, rfl⟩
  have HP1 := Lib.hid hp1
  have g1 : Good p1 (M + b.size + 1) := by have := hg.append tm b; rw [hp1] at this; exact this
  have A1 := Lib.hid fun (w : World) (h : Sys base (D s) ((lb, lobj L d) :: X) w) => h.append hD hg (by omega) hts (b := b) (by omega)
  rw [hp1] at A1
  have HG1 := Lib.hid g1
  obtain ⟨p2, e2, hp2⟩ : ∃ p2 e2, p1.sync = (p2, e2) := ⟨_, _, rfl⟩
  have HP2 := Lib.hid hp2
  have g2 : Good p2 (M + b.size + 1) := by have := g1.sync; rw [hp2] at this; exact this
  have A2 := Lib.hid fun (w : World) (h : Sys base (D p1) ((lb, lobj L d) :: X) w) => h.sync hD g1 (by omega)
  rw [hp2] at A2
  obtain ⟨p3, e3, hp3⟩ : ∃ p3 e3, p2.rename tm nm = (p3, e3) := ⟨_, _, rfl⟩
  have HP3 := Lib.hid hp3
  have g3 : Good p3 (M + b.size + 2) := by have := g2.rename tm nm; rw [hp3] at this; exact this
  have A3 := Lib.hid fun (w : World) (h : Sys base (D p2) ((lb, lobj L d) :: X) w) => h.rename hD g2 (by omega) hts hns
  rw [hp3] at A3
  obtain ⟨p4, e4, hp4⟩ : ∃ p4 e4, p3.sync = (p4, e4) := ⟨_, _, rfl⟩
  have HP4 := Lib.hid hp4
  have A4 := Lib.hid fun (w : World) (h : Sys base (D p3) ((lb, lobj L d) :: X) w) => h.sync hD g3 (by omega)
  rw [hp4] at A4
  have HR : Hid (s.replace nm b = if e1 ≠ 0 then (p1, e1) else if e2 ≠ 0 then (p2, e2) else if e3 ≠ 0 then (p3, e3) else (p4, e4)) := Lib.hid (by
    unfold St.replace
    rw [htm, hp1]
    dsimp only
    rw [hp2]
    dsimp only
    rw [hp3]
    dsimp only
    rw [hp4])
  have hd0 : w.drew.cell? ⟨lb, 0, none⟩ = some (.string nm) := c0
  clear h hD hg hnm htm hp1 hp2 hp3 hp4 g1 g2 g3 hM hns hts
  go_enter Try.func62, Try.ntmps62
  go_upto_region 1 with fail
  go_region_with
    ((go_at_call 31; refine (A1.out _ (HS.out.below HD.out (Below.drew (Below.refl _ _)))).mono ?_; rintro e w1 ⟨rfl, S1⟩; have y0 : w1.cell? ⟨lb, 0, none⟩ = some (.string nm) := (by rw [← HNM.out]; exact (lcell S1.out).1); have y3 := (lcell S1.out).2.1))
  all_goals
    by_cases h1 : e1 = 0
    · subst h1
      have HR1 : Hid (s.replace nm b = if e2 ≠ 0 then (p2, e2) else if e3 ≠ 0 then (p3, e3) else (p4, e4)) := Lib.hid (by rw [HR.out, if_neg (by decide)])
      go_wp2_with fail
      refine (A2.out _ S1.out).mono ?_
      rintro e w2 ⟨rfl, S2⟩
      clear c0 c3 hd0 y0 y3
      by_cases h2 : e2 = 0
      · subst h2
        have HR2 : Hid (s.replace nm b = if e3 ≠ 0 then (p3, e3) else (p4, e4)) := Lib.hid (by rw [HR1.out, if_neg (by decide)])
        have c0 : w2.cell? ⟨lb, 0, none⟩ = some (.string nm) := by rw [← HNM.out]; exact (lcell S2.out).1
        have c3 := (lcell S2.out).2.1
        have hd0 : w2.drew.cell? ⟨lb, 0, none⟩ = some (.string nm) := c0
        go_wp2_with fail
        go_region_held3 (fun w' => w'.cell? ⟨lb, 0, none⟩ = some (.string nm) ∧ w'.cell? ⟨lb, 3, none⟩ = some (ptr d)) (first | exact ⟨y0, y3⟩ | go_keep)
          ((go_at_call 41; refine (A3.out _ (S2.out.below HD.out (Below.drew (Below.refl _ _)))).mono ?_; rintro e w3 ⟨rfl, S3⟩; have y0 : w3.cell? ⟨lb, 0, none⟩ = some (.string nm) := (by rw [← HNM.out]; exact (lcell S3.out).1); have y3 := (lcell S3.out).2.1))
        all_goals
          by_cases h3 : e3 = 0
          · subst h3
            have HR3 : Hid (s.replace nm b = (p4, e4)) := Lib.hid (by rw [HR2.out, if_neg (by decide)])
            go_wp2_with fail
            refine (A4.out _ S3.out).mono ?_
            rintro e w4 ⟨rfl, S4⟩
            go_wp2_with fail
            go_ret
            rw [HR3.out]
            exact ⟨rfl, S4⟩
          · have hb : (e3 != 0) = true := by rw [bne_iff_ne]; exact h3
            have HR3 : Hid (s.replace nm b = (p3, e3)) := Lib.hid (by rw [HR2.out, if_pos h3])
            clear h3
            go_wp2_with fail
            go_ret
            rw [HR3.out]
            exact ⟨rfl, S3⟩
      · have hb : (e2 != 0) = true := by rw [bne_iff_ne]; exact h2
        have HR2 : Hid (s.replace nm b = (p2, e2)) := Lib.hid (by rw [HR1.out, if_pos h2])
        clear h2
        go_wp2_with fail
        go_ret
        rw [HR2.out]
        exact ⟨rfl, S2⟩
    · have hb : (e1 != 0) = true := by rw [bne_iff_ne]; exact h1
      have HR1 : Hid (s.replace nm b = (p1, e1)) := Lib.hid (by rw [HR.out, if_pos h1])
      clear h1
      go_wp2_with fail
      go_ret
      rw [HR1.out]
      exact ⟨rfl, S1⟩
end Go.Proofs.Ytlaodmpdngdhjaa

/- Append, Sync, Reset of the log. -/
namespace Go.Proofs.Ytlaodmpdngdhjaa
set_option linter.unusedVariables false
set_option linter.unusedSimpArgs false
open Go.RowKit

def LMeth (base : World) (D : St → World → (Nat → Prop) → (Nat → Prop) → Prop) (lb d : Nat) (X : List (Nat × Obj)) (r : LR) (e : Ending) (w' : World) : Prop :=
  e = .returned (.int .i64 r.e) ∧ Hid (Sys base (D r.s) ((lb, lobj r.L d) :: X) w')
set_option maxRecDepth 100000 in
set_option maxHeartbeats 4000000 in
theorem lappend_any {d : Nat} {D : St → World → (Nat → Prop) → (Nat → Prop) → Prop} (hD : DSys d D) (base w : World) (s : St) (M lb : Nat) (L : Lg) (X : List (Nat × Obj)) (x : ByteArray)
    (h : Sys base (D s) ((lb, lobj L d) :: X) w) (hg : Good s M) (hM : M + x.size + 20 ≤ 500000) (hn : L.name.size ≤ 1000) (hsz : L.size ≤ 100000000) (hX : ∀ p ∈ X, p.1 ≠ lb) :
    Calls Try.prog 23 #[ptr lb, .string x] w (LMeth base D lb d X (lapp s L x)) := by
  have HS := Lib.hid h
  have HD := Lib.hid hD
  have HG := Lib.hid hg
  have HX := Lib.hid hX
  obtain ⟨c0, c3, c4, c1, c2⟩ := lcell h
  have hns : L.name.size ≤ maxLen := by unfold maxLen; omega
  have HNS := Lib.hid hns
  cases hdead : L.dead with
  | true =>
    have HR : Hid (lapp s L x = ⟨s, L, 28⟩) := Lib.hid (by unfold lapp; rw [if_pos hdead])
    rw [hdead] at c4
    clear h hD hg hX c0 c1 c2 c3 hns
    go_enter Try.func23, Try.ntmps23
    go_wp2_with fail
    go_ret
    rw [HR.out]
    exact ⟨rfl, HS⟩
  | false =>
    rw [hdead] at c4
    by_cases hx : 65536 < x.size
    · have HR : Hid (lapp s L x = ⟨s, L, 2⟩) := Lib.hid (by unfold lapp; rw [if_neg (by rw [hdead]; decide), if_pos (.inl hx)])
      clear h hD hg hX c0 c1 c2 c3 hns
      go_enter Try.func23, Try.ntmps23
      go_wp2_with fail
      go_ret
      rw [HR.out]
      exact ⟨rfl, HS⟩
    · by_cases hc : 4096 ≤ L.count
      · have HR : Hid (lapp s L x = ⟨s, L, 2⟩) := Lib.hid (by unfold lapp; rw [if_neg (by rw [hdead]; decide), if_pos (.inr hc)])
        have hxI : ¬ (65536 : Int) < (x.size : Int) := by omega
        have hcI : (4096 : Int) ≤ (L.count : Int) := by omega
        clear h hD hg hX c0 c2 c3 hns
        go_enter Try.func23, Try.ntmps23
        go_wp2_with fail
        go_ret
        rw [HR.out]
        exact ⟨rfl, HS⟩
      · obtain ⟨f, hf⟩ : ∃ f, frm L.count x = f := ⟨_, rfl⟩
        have hfs : f.size = x.size + 8 := by rw [← hf]; exact frm_size _ _
        have hb := HS.out.get (List.mem_cons_self ..)
        have HN := Lib.hid (next_any lb d L x w hb (by omega) (by omega))
        rw [hf] at HN
        obtain ⟨p1, e1, hp1⟩ : ∃ p1 e1, s.append L.name f = (p1, e1) := ⟨_, _, rfl⟩
        have A1 := Lib.hid fun (w : World) (h : Sys base (D s) ((lb, lobj L d) :: X) w) => h.append hD hg (by omega) hns (b := f) (by omega)
        rw [hp1] at A1
        have HR : Hid (lapp s L x = if e1 = 0 then ⟨p1, ⟨L.name, L.count + 1, L.size + (x.size + 8), false⟩, 0⟩ else ⟨p1, { L with dead := true }, e1⟩) := Lib.hid (by
          unfold lapp
          rw [if_neg (by rw [hdead]; decide), if_neg (by rintro (h | h); exact hx h; exact hc h), hf, hp1])
        have HFS := Lib.hid hfs
        have hxI : ¬ (65536 : Int) < (x.size : Int) := by omega
        have hcI : ¬ (4096 : Int) ≤ (L.count : Int) := by omega
        have hxd : decide ((65536 : Int) < (x.size : Int)) = false := decide_eq_false hxI
        have hcd : decide ((4096 : Int) ≤ (L.count : Int)) = false := decide_eq_false hcI
        have hcc : L.count ≤ 4096 := by omega
        have hff : f.size ≤ 70000 := by omega
        clear h hD hg hX c0 c2 c3 hns hf hfs hb hp1 hx hc
        go_enter Try.func23, Try.ntmps23
        go_wp2_with fail
        refine HN.out.mono ?_
        rintro e w1 ⟨rfl, hb1⟩
        have S0 := Lib.hid (HS.out.below HD.out hb1)
        obtain ⟨c0, c3, c4', c1', c2⟩ := lcell S0.out
        clear hb1 c1 c4 c1' c4'
        go_wp2_with fail
        go_region_held3 (fun w' => w'.cell? ⟨lb, 0, none⟩ = some (.string L.name) ∧ w'.cell? ⟨lb, 3, none⟩ = some (ptr d)) (first | exact ⟨z0, z3⟩ | exact ⟨y0, y3⟩ | go_keep)
          (first
          | (go_at_call 31; refine (A1.out _ (S0.out.below HD.out (Below.drew (Below.refl _ _)))).mono ?_; rintro e w2 ⟨rfl, S1⟩; have y0 := (lcell S1.out).1; have y3 := (lcell S1.out).2.1)
          | (go_at_call 64; refine (result_any lb d L e1 _ (S1.out.get (List.mem_cons_self ..))).mono ?_; rintro e w3 ⟨rfl, hb3, T3⟩; have S2 := Lib.hid (S1.out.turn HD.out T3 hb3 HX.out); have z0 := (lcell S2.out).1; have z3 := (lcell S2.out).2.1; clear hb3 T3))
        all_goals
          by_cases h1 : e1 = 0
          · subst h1
            have HGR := Lib.hid (grown_any lb d { L with dead := decide ((0 : Int) ≠ 0) } f w3 (S2.out.get (List.mem_cons_self ..)) (by show L.count ≤ _; omega) (by show L.size ≤ _; omega) (by omega))
            have HR1 : Hid (lapp s L x = ⟨p1, ⟨L.name, L.count + 1, L.size + (x.size + 8), false⟩, 0⟩) := Lib.hid (by rw [HR.out, if_pos rfl])
            clear c0 c3 c2 y0 y3 z0 z3
            go_wp2_with fail
            refine HGR.out.mono ?_
            rintro e w4 ⟨rfl, hb4, T4⟩
            have S3 := Lib.hid (S2.out.turn HD.out T4 hb4 HX.out)
            clear hb4 T4
            go_wp2_with fail
            go_ret
            rw [HR1.out]
            refine ⟨rfl, Lib.hid ?_⟩
            have := S3.out
            rw [HFS.out] at this
            exact this
          · have hb : (e1 == 0) = false := by rw [beq_eq_false_iff_ne]; exact h1
            have HR1 : Hid (lapp s L x = ⟨p1, { L with dead := true }, e1⟩) := Lib.hid (by rw [HR.out, if_neg h1])
            have HE : Hid (decide (e1 ≠ 0) = true) := Lib.hid (decide_eq_true h1)
            clear h1 c0 c3 c2 y0 y3 z0 z3
            go_wp2_with fail
            go_ret
            rw [HR1.out]
            refine ⟨rfl, Lib.hid ?_⟩
            have := S2.out
            rw [HE.out] at this
            exact this
end Go.Proofs.Ytlaodmpdngdhjaa

/- Sync, Reset of the log; nil logs. -/
namespace Go.Proofs.Ytlaodmpdngdhjaa
set_option linter.unusedVariables false
set_option linter.unusedSimpArgs false
open Go.RowKit

theorem lapp_nil (x : ByteArray) (w : World) : Calls Try.prog 23 #[.pointer none, .string x] w fun e w' => e = .returned (.int .i64 28) ∧ w' = w := by
  go_enter Try.func23, Try.ntmps23
  go_wp2_with fail
  go_ret
  exact ⟨rfl, rfl⟩
theorem lsync_nil (w : World) : Calls Try.prog 24 #[.pointer none] w fun e w' => e = .returned (.int .i64 28) ∧ w' = w := by
  go_enter Try.func24, Try.ntmps24
  go_wp2_with fail
  go_ret
  exact ⟨rfl, rfl⟩
theorem lreset_nil (x : ByteArray) (w : World) : Calls Try.prog 27 #[.pointer none, .string x] w fun e w' => e = .returned (.int .i64 28) ∧ w' = w := by
  go_enter Try.func27, Try.ntmps27
  go_wp2_with fail
  go_ret
  exact ⟨rfl, rfl⟩
set_option maxRecDepth 100000 in
set_option maxHeartbeats 4000000 in
theorem lsync_any {d : Nat} {D : St → World → (Nat → Prop) → (Nat → Prop) → Prop} (hD : DSys d D) (base w : World) (s : St) (M lb : Nat) (L : Lg) (X : List (Nat × Obj))
    (h : Sys base (D s) ((lb, lobj L d) :: X) w) (hg : Good s M) (hM : M ≤ 500000) (hX : ∀ p ∈ X, p.1 ≠ lb) :
    Calls Try.prog 24 #[ptr lb] w (LMeth base D lb d X (lsync s L)) := by
  have HS := Lib.hid h
  have HD := Lib.hid hD
  have HX := Lib.hid hX
  obtain ⟨c0, c3, c4, c1, c2⟩ := lcell h
  cases hdead : L.dead with
  | true =>
    have HR : Hid (lsync s L = ⟨s, L, 28⟩) := Lib.hid (by unfold lsync; rw [if_pos hdead])
    rw [hdead] at c4
    clear h hD hg hX c0 c1 c2 c3
    go_enter Try.func24, Try.ntmps24
    go_wp2_with fail
    go_ret
    rw [HR.out]
    exact ⟨rfl, HS⟩
  | false =>
    rw [hdead] at c4
    have HR : Hid (lsync s L = ⟨s.sync.1, { L with dead := decide (s.sync.2 ≠ 0) }, s.sync.2⟩) := Lib.hid (by unfold lsync; rw [if_neg (by rw [hdead]; decide)])
    have A1 := Lib.hid (h.sync hD hg hM)
    obtain ⟨p, e1, hp⟩ : ∃ p e1, s.sync = (p, e1) := ⟨_, _, rfl⟩
    rw [hp] at HR A1
    clear h hD hg hX c0 c1 c2 hp
    go_enter Try.func24, Try.ntmps24
    go_wp2_with fail
    refine A1.out.mono ?_
    rintro e w1 ⟨rfl, S1⟩
    have HRS := Lib.hid (result_any lb d L e1 w1 (S1.out.get (List.mem_cons_self ..)))
    go_wp2_with fail
    refine HRS.out.mono ?_
    rintro e w2 ⟨rfl, hb, T⟩
    have S2 := Lib.hid (S1.out.turn HD.out T hb HX.out)
    clear hb T
    go_wp2_with fail
    go_ret
    rw [HR.out]
    exact ⟨rfl, S2⟩
set_option maxRecDepth 100000 in
set_option maxHeartbeats 4000000 in
theorem lreset_any {d : Nat} {D : St → World → (Nat → Prop) → (Nat → Prop) → Prop} (hD : DSys d D) (base w : World) (s : St) (M lb : Nat) (L : Lg) (X : List (Nat × Obj)) (x : ByteArray)
    (h : Sys base (D s) ((lb, lobj L d) :: X) w) (hg : Good s M) (hM : M + x.size + 20 ≤ 500000) (hn : L.name.size ≤ 1000) (hX : ∀ p ∈ X, p.1 ≠ lb) :
    Calls Try.prog 27 #[ptr lb, .string x] w (LMeth base D lb d X (lreset s L x)) := by
  have HS := Lib.hid h
  have HD := Lib.hid hD
  have HX := Lib.hid hX
  obtain ⟨c0, c3, c4, c1, c2⟩ := lcell h
  cases hdead : L.dead with
  | true =>
    have HR : Hid (lreset s L x = ⟨s, L, 28⟩) := Lib.hid (by unfold lreset; rw [if_pos hdead])
    rw [hdead] at c4
    clear h hD hg hX c0 c1 c2 c3
    go_enter Try.func27, Try.ntmps27
    go_wp2_with fail
    go_ret
    rw [HR.out]
    exact ⟨rfl, HS⟩
  | false =>
    rw [hdead] at c4
    by_cases hx : 65536 < x.size
    · have HR : Hid (lreset s L x = ⟨s, L, 2⟩) := Lib.hid (by unfold lreset; rw [if_neg (by rw [hdead]; decide), if_pos hx])
      clear h hD hg hX c0 c1 c2 c3
      go_enter Try.func27, Try.ntmps27
      go_wp2_with fail
      go_ret
      rw [HR.out]
      exact ⟨rfl, HS⟩
    · obtain ⟨f, hf⟩ : ∃ f, frm 0 x = f := ⟨_, rfl⟩
      have hfs : f.size = x.size + 8 := by rw [← hf]; exact frm_size _ _
      have HF := Lib.hid (frame_any 0 x w (by omega) (by omega))
      rw [hf] at HF
      have HF' : Hid (Calls Try.prog 68 #[.int .i64 0, .string x] w fun e w' => e = .returned (.string f) ∧ Below w.heap.size w w') := HF
      obtain ⟨p1, e1, hp1⟩ : ∃ p1 e1, s.replace L.name f = (p1, e1) := ⟨_, _, rfl⟩
      have A1 := Lib.hid fun (w : World) (h : Sys base (D s) ((lb, lobj L d) :: X) w) => replace_any hD base w s M lb L X f h hg (by omega) hn
      rw [hp1] at A1
      have HR : Hid (lreset s L x = if e1 = 0 then ⟨p1, ⟨L.name, 1, x.size + 8, false⟩, 0⟩ else ⟨p1, { L with dead := true }, e1⟩) := Lib.hid (by
        unfold lreset
        rw [if_neg (by rw [hdead]; decide), if_neg hx, hf, hp1])
      have HFS := Lib.hid hfs
      have hff : f.size ≤ 70000 := by omega
      have hxI : ¬ (65536 : Int) < (x.size : Int) := by omega
      clear h hD hg hX c0 c1 c2 c3 hf hfs hp1 hx HF hM
      go_enter Try.func27, Try.ntmps27
      go_wp2_with fail
      refine HF'.out.mono ?_
      rintro e w1 ⟨rfl, hb1⟩
      have S0 := Lib.hid (HS.out.below HD.out hb1)
      clear hb1 c4
      go_wp2_with fail
      refine (A1.out _ S0.out).mono ?_
      rintro e w2 ⟨rfl, S1⟩
      have HRS := Lib.hid (result_any lb d L e1 w2 (S1.out.get (List.mem_cons_self ..)))
      go_wp2_with fail
      refine HRS.out.mono ?_
      rintro e w3 ⟨rfl, hb3, T3⟩
      have S2 := Lib.hid (S1.out.turn HD.out T3 hb3 HX.out)
      clear hb3 T3
      by_cases h1 : e1 = 0
      · subst h1
        have HR1 : Hid (lreset s L x = ⟨p1, ⟨L.name, 1, x.size + 8, false⟩, 0⟩) := Lib.hid (by rw [HR.out, if_pos rfl])
        obtain ⟨c0, c3, c4, c1, c2⟩ := lcell S2.out
        have hb2 := S2.out.get (List.mem_cons_self ..)
        have f1 := (row_cells hb2).2 1
        have f2 := (row_cells hb2).2 2
        have HB2 := Lib.hid hb2
        have hGR : ∀ W : World, W.heap[lb]? = some (lobj ⟨L.name, 0, 0, false⟩ d) → Calls Try.prog 65 #[ptr lb, .string f] W fun e w' => e = .returned (.tuple #[]) ∧ w'.heap[lb]? = some (lobj ⟨L.name, 1, x.size + 8, false⟩ d) ∧ Turn lb W w' := fun W hW => by
          have := grown_any lb d ⟨L.name, 0, 0, false⟩ f W hW (Nat.zero_le _) (Nat.zero_le _) (by omega)
          simp only [Nat.zero_add, HFS.out] at this
          exact this
        have HGR := Lib.hid hGR
        have hW : ((w3.setCell ⟨lb, 1, none⟩ (.int .i64 0)).setCell ⟨lb, 2, none⟩ (.int .i64 0)).heap[lb]? = some (lobj ⟨L.name, 0, 0, false⟩ d) := by
          rw [set_heap (set_heap HB2.out 1 _) 2 _]
          rfl
        have S3 := Lib.hid (S2.out.turn HD.out ((set_turn w3 lb 1 (.int .i64 0)).trans (set_turn _ lb 2 (.int .i64 0))) hW HX.out)
        have HW := Lib.hid hW
        clear hb2 hGR hW c0 c3 c4
        go_wp2_with fail
        refine (HGR.out _ HW.out).mono ?_
        rintro e w4 ⟨rfl, hb4, T4⟩
        have S4 := Lib.hid (S3.out.turn HD.out T4 hb4 HX.out)
        clear hb4 T4
        go_wp2_with fail
        go_ret
        rw [HR1.out]
        exact ⟨rfl, S4⟩
      · have hb : (e1 == 0) = false := by rw [beq_eq_false_iff_ne]; exact h1
        have HR1 : Hid (lreset s L x = ⟨p1, { L with dead := true }, e1⟩) := Lib.hid (by rw [HR.out, if_neg h1])
        have HE : Hid (decide (e1 ≠ 0) = true) := Lib.hid (decide_eq_true h1)
        clear h1
        go_wp2_with fail
        go_ret
        rw [HR1.out]
        refine ⟨rfl, Lib.hid ?_⟩
        have := S2.out
        rw [HE.out] at this
        exact this
end Go.Proofs.Ytlaodmpdngdhjaa

/- wal.Open. -/
namespace Go.Proofs.Ytlaodmpdngdhjaa
set_option linter.unusedVariables false
set_option linter.unusedSimpArgs false
open Go.RowKit

theorem contains_any (v : Value) (L : List ByteArray) (x : ByteArray) (w : World) (h : RowS w v L) (hl : L.length ≤ 1000000) :
    Calls Try.prog 61 #[v, .string x] w fun e w' => e = .returned (.bool (Lib.containsS L x)) ∧ w' = w := by
  rcases h with ⟨rfl, a, c, rfl⟩ | ⟨g, o, c, rfl, hg, hc⟩
  · exact Try.slices_Contains_string_empty a c x w
  · have := Try.slices_Contains_string g o L.length c L x w (Nat.le_refl _) (by omega) (fun j hj => hc j _ (by rw [List.getElem?_eq_getElem hj, List.getD_eq_getElem?_getD, List.getElem?_eq_getElem hj]; rfl))
    rw [List.take_length] at this
    exact this
theorem names_has {s : St} (h : s.off = false) (x : ByteArray) : Lib.containsS s.names x = decide (s.has x) := by
  rw [Bool.eq_iff_iff, Lib.containsS_iff, decide_eq_true_eq]
  unfold St.names
  rw [if_neg (by rw [h]; decide), (srtB_perm _).mem_iff, ← look_mem, ← has_look, decide_eq_true_eq]
/-- A slice of strings in one block that is known whole (or none). -/
def rowX (v : Value) (L : List ByteArray) (Y : List (Nat × Obj)) : Prop :=
  (v = .slice none 0 0 ∧ L = [] ∧ Y = []) ∨ ∃ (g cap : Nat) (cur : Array Value), v = .slice (some ⟨g, 0, none⟩) L.length cap ∧ Y = [(g, .cells cur 9 (0, 0))] ∧ ∀ (j : Nat) (x : ByteArray), L[j]? = some x → cur[j]? = some (Value.string x)
theorem rowX.rowS {base w : World} {P : World → (Nat → Prop) → (Nat → Prop) → Prop} {v : Value} {L : List ByteArray} {X Y : List (Nat × Obj)} (h : rowX v L Y) (hs : Sys base P X w) (hY : ∀ p ∈ Y, p ∈ X) : RowS w v L := by
  rcases h with ⟨rfl, rfl, _⟩ | ⟨g, cap, cur, rfl, rfl, hc⟩
  · exact .inl ⟨rfl, none, 0, rfl⟩
  · have hb := hs.get (hY _ (List.mem_cons_self ..))
    exact .inr ⟨g, 0, cap, rfl, heap_lt hb, fun j x hj => by rw [Nat.zero_add, (row_cells hb).1 j]; exact hc j x hj⟩
theorem rowX.shape {v : Value} {L : List ByteArray} {Y : List (Nat × Obj)} (h : rowX v L Y) : ∃ a c, v = .slice a L.length c := by
  rcases h with ⟨rfl, rfl, _⟩ | ⟨g, cap, cur, rfl, rfl, hc⟩
  · exact ⟨none, 0, rfl⟩
  · exact ⟨_, _, rfl⟩
/-- A row that a callee made, as an extra block. -/
theorem Sys.row {base w w' : World} {d : Nat} {D : St → World → (Nat → Prop) → (Nat → Prop) → Prop} {s : St} {X : List (Nat × Obj)} {v : Value} {L : List ByteArray} (hD : DSys d D) (h : Sys base (D s) X w) (hb : Below w.heap.size w w')
    (ho : w'.ownsRow w.heap.size 9 1 v L.length (strs L)) : ∃ Y, rowX v L Y ∧ Sys base (D s) (Y ++ X) w' ∧ ∀ p ∈ Y, w.heap.size ≤ p.1 := by
  have h' := h.below hD hb
  rcases ho.2 with ⟨rfl, h0⟩ | ⟨g, cap, cur, rfl, hg, hblk, h1, h2, h3, h4⟩
  · exact ⟨[], .inl ⟨rfl, List.eq_nil_of_length_eq_zero h0, rfl⟩, h', by simp⟩
  · refine ⟨[(g, .cells cur 9 (0, 0))], .inr ⟨g, cap, cur, rfl, rfl, fun j x hj => ?_⟩, ?_, by simpa using hg⟩
    · have e : (strs L)[j]? = some (.string x) := by simp [strs, hj]
      have := ho.cells (g := g) rfl j _ e
      rw [Addr.add_lit, Nat.zero_add, (row_cells hblk).1 j] at this
      exact this
    · obtain ⟨rw, ro, p1, p2, p3, p4⟩ := h
      refine ⟨rw, ro, hD.kept p1 (fun b hr => hb.block b (hD.lt p1 b hr)) hb.size, p2, p3.trans (hb.mono p3.size), fun p hp => ?_⟩
      rcases List.mem_cons.1 hp with rfl | hp
      · exact ⟨hblk, fun hq => by have := hD.lt p1 _ (.inl hq); simp at this; omega, fun hq => by have := hD.lt p1 _ (.inr hq); simp at this; omega, Nat.le_trans p3.size hg⟩
      · obtain ⟨k1, k2⟩ := p4 p hp
        exact ⟨by rw [hb.block _ (heap_lt k1)]; exact k1, k2⟩
/-- What Open hands back. -/
def OpenOut (base w : World) (D : St → World → (Nat → Prop) → (Nat → Prop) → Prop) (d : Nat) (X : List (Nat × Obj)) (n : ByteArray) (r : OR) (e : Ending) (w' : World) : Prop :=
  (r.e ≠ 0 ∧ e = .returned (.tuple #[.pointer none, .slice none 0 0, .int .i64 r.e]) ∧ Sys base (D r.s) X w') ∨
  (r.e = 0 ∧ ∃ v Y, e = .returned (.tuple #[ptr w.heap.size, v, .int .i64 0]) ∧ rowX v r.recs Y ∧ Sys base (D r.s) ((w.heap.size, lobj ⟨n, r.recs.length, r.size, false⟩ d) :: (Y ++ X)) w' ∧ ∀ p ∈ Y, w.heap.size < p.1)
theorem OpenOut.bad {base w : World} {D : St → World → (Nat → Prop) → (Nat → Prop) → Prop} {d : Nat} {X : List (Nat × Obj)} {n : ByteArray} {r : OR} {w' : World} (s : St) (e : Int) (hr : r = ⟨s, [], 0, e⟩) (he : e ≠ 0) (hs : Sys base (D s) X w') :
    OpenOut base w D d X n r (.returned (.tuple #[.pointer none, .slice none 0 0, .int .i64 e])) w' := by
  subst hr
  exact .inl ⟨he, rfl, hs⟩
end Go.Proofs.Ytlaodmpdngdhjaa

/- wal.Open, walked (printed by vm.py). -/
namespace Go.Proofs.Ytlaodmpdngdhjaa
set_option linter.unusedVariables false
set_option linter.unusedSimpArgs false
open Go.RowKit

theorem read_23 {s : St} {n : ByteArray} (h : (s.read n).2 = 23) : (s.read n).1 = ⟨#[]⟩ := by
  unfold St.read at *
  split
  · rfl
  · split
    · rfl
    · split
      · rfl
      · rename_i h1 h2 h3
        rw [if_neg h1, if_neg h2, if_neg h3] at h
        exact absurd h (by show ¬ ((0 : Int) = 23); decide)
theorem read_on {s : St} {n : ByteArray} (h : (s.read n).2 = 0 ∨ (s.read n).2 = 23) : s.off = false := by
  cases ho : s.off with
  | false => rfl
  | true =>
    exfalso
    unfold St.read at h
    rw [if_pos ho] at h
    rcases h with h | h <;> exact absurd h (by decide)
theorem read_size {s : St} {M : Nat} (hg : Good s M) (n : ByteArray) : (s.read n).1.size ≤ M := by
  unfold St.read
  split
  · exact Nat.zero_le _
  · split
    · exact Nat.zero_le _
    · split
      · exact Nat.zero_le _
      · have h1 := look_size (F := s.all) (n := n)
        have h2 := hg.szAll
        show ((look s.all n).getD ⟨#[]⟩).size ≤ M
        omega
theorem scn_le (b : ByteArray) : ∀ (m i : Nat) (l : List ByteArray) (l' : List ByteArray) (k : Nat), b.size - i ≤ m → i ≤ b.size → 8 * l.length ≤ i → scn b i l = some (l', k) → k ≤ b.size ∧ 8 * l'.length ≤ k := by
  intro m
  induction m with
  | zero =>
    intro i l l' k hm hi hl h
    rw [scn_short (by omega)] at h
    cases h
    exact ⟨hi, hl⟩
  | succ m ih =>
    intro i l l' k hm hi hl h
    by_cases h4 : b.size - i < 4
    · rw [scn_short h4] at h
      cases h
      exact ⟨hi, hl⟩
    · by_cases hb : 65536 < val4 b i
      · rw [scn_big h4 hb] at h
        cases h
      · by_cases hc : b.size - i < 8 + val4 b i
        · rw [scn_cut h4 hb hc] at h
          cases h
          exact ⟨hi, hl⟩
        · by_cases he : b.extract i (i + 8 + val4 b i) ≠ frm l.length (b.extract (i + 8) (i + 8 + val4 b i)) ∨ l.length = 4096
          · rw [scn_bad h4 hb hc he] at h
            cases h
          · rw [scn_step h4 hb hc (Classical.not_not.1 fun h => he (.inl h)) (fun h => he (.inr h))] at h
            exact ih _ _ _ _ (by omega) (by omega) (by rw [List.length_append]; simp only [List.length_cons, List.length_nil]; omega) h
theorem scanR_le (b : ByteArray) : (scanR b).2.1 ≤ b.size ∧ 8 * (scanR b).1.length ≤ (scanR b).2.1 := by
  unfold scanR
  cases h : scn b 0 [] with
  | none => exact ⟨Nat.zero_le _, Nat.le_refl _⟩
  | some p =>
    obtain ⟨l, k⟩ := p
    exact scn_le b b.size 0 [] l k (by omega) (Nat.zero_le _) (Nat.le_refl _) h
set_option maxRecDepth 100000 in
set_option maxHeartbeats 8000000 in
theorem open_any {d : Nat} {D : St → World → (Nat → Prop) → (Nat → Prop) → Prop} (hD : DSys d D) (base w : World) (s : St) (M : Nat) (X : List (Nat × Obj)) (n : ByteArray)
    (h : Sys base (D s) X w) (hg : Good s M) (hM : 2 * M + 100 ≤ 500000) (hn : n.size ≤ 1000) :
    Calls Try.prog 22 #[ptr d, .string n] w (OpenOut base w D d X n (lopen s n)) := by
  have HD := Lib.hid hD
  have HG := Lib.hid hg
  have hS0 := Sys.alloc hD (lobj ⟨n, 0, 0, false⟩ d) h
  have HX : Hid (∀ p ∈ X, p.1 ≠ w.heap.size) := Lib.hid fun p hp => by have := heap_lt (h.get hp); omega
  have hns : n.size ≤ maxLen := by unfold maxLen; omega
  have HNS := Lib.hid hns
  obtain ⟨tm, htm⟩ : ∃ tm, n ++ sfx = tm := ⟨_, rfl⟩
  have htm' : n ++ (⟨#[46, 110, 101, 119]⟩ : ByteArray) = tm := htm
  have hts : tm.size ≤ maxLen := by rw [← htm, ByteArray.size_append]; unfold maxLen; have : sfx.size = 4 := rfl; omega
  have HTS := Lib.hid hts
  have HTM := Lib.hid htm
  obtain ⟨b0, e0, hr⟩ : ∃ b0 e0, s.read n = (b0, e0) := ⟨_, _, rfl⟩
  have hb0M : b0.size ≤ M := by have := read_size hg n; rw [hr] at this; exact this
  have HBM := Lib.hid hb0M
  have h23 : e0 = 23 → b0 = ⟨#[]⟩ := fun h => by have := read_23 (s := s) (n := n); rw [hr] at this; exact this h
  have hoff : e0 = 0 ∨ e0 = 23 → s.off = false := fun h => read_on (n := n) (by rw [hr]; exact h)
  have HOFF := Lib.hid hoff
  have HRD := Lib.hid hr
  obtain ⟨lb, hlb⟩ : ∃ lb, w.heap.size = lb := ⟨_, rfl⟩
  obtain ⟨w0, hw0⟩ : ∃ w0, w.alloc (lobj ⟨n, 0, 0, false⟩ d) = w0 := ⟨_, rfl⟩
  rw [hw0, hlb] at hS0
  rw [hlb] at HX
  have HLB := Lib.hid hlb
  have hz0 : lb < w0.heap.size := heap_lt (hS0.get (List.mem_cons_self ..))
  have HS0 := Lib.hid hS0
  have A0 := Lib.hid (hS0.read hD hg (by omega) hns)
  rw [hr] at A0
  have HM := Lib.hid hM
  have HH := Lib.hid h
  obtain ⟨rec, k9, e9, hsc⟩ : ∃ rec k9 e9, scanR b0 = (rec, k9, e9) := ⟨_, _, _, rfl⟩
  have hle := scanR_le b0
  rw [hsc] at hle
  dsimp only at hle
  have HLE := Lib.hid hle
  have HSC := Lib.hid hsc
  have ASC := Lib.hid fun W => scan_any b0 W (by omega)
  obtain ⟨sr, er, hrm⟩ : ∃ sr er, rmOld s n = (sr, er) := ⟨_, _, rfl⟩
  have HRM := Lib.hid hrm
  obtain ⟨sf, ef, hfx⟩ : ∃ sf ef, fixUp sr n b0 k9 = (sf, ef) := ⟨_, _, rfl⟩
  have HFX := Lib.hid hfx
  have HR : Hid (lopen s n = if e0 ≠ 0 ∧ e0 ≠ 23 then ⟨s, [], 0, e0⟩ else if 28 < n.size then ⟨s, [], 0, 14⟩ else if e9 ≠ 0 then ⟨s, [], 0, e9⟩ else if er ≠ 0 then ⟨sr, [], 0, er⟩ else if ef ≠ 0 then ⟨sf, [], 0, ef⟩ else ⟨sf, rec, k9, 0⟩) := Lib.hid (by
    unfold lopen
    rw [hr]
    dsimp only
    rw [hsc]
    dsimp only
    rw [hrm]
    dsimp only
    rw [hfx])
  clear h hD hg hS0 hns htm hts hr hoff hM hb0M hle hsc hrm hfx
  go_enter Try.func22, Try.ntmps22
  go_upto_region 2 with fail
  show Code.wp _ _ _ _ (w.alloc (lobj ⟨n, 0, 0, false⟩ d))
  rw [hw0]
  clear hw0 hlb
  go_wp2_with fail
  refine A0.out.mono ?_
  rintro e w1 ⟨rfl, hw1⟩
  have hw1' := hw1.symm
  subst hw1'
  clear hw1
  by_cases hbad : e0 ≠ 0 ∧ e0 ≠ 23
  · obtain ⟨hb1, hb2⟩ := hbad
    have q1 : (e0 == 23) = false := by rw [beq_eq_false_iff_ne]; exact hb2
    have q2 : (e0 != 0) = true := by rw [bne_iff_ne]; exact hb1
    have HR1 : Hid (lopen s n = ⟨s, [], 0, e0⟩) := Lib.hid (by rw [HR.out, if_pos ⟨hb1, hb2⟩])
    have HB1 := Lib.hid hb1
    clear hb1 hb2
    go_wp2_with fail
    go_ret3
    exact OpenOut.bad s e0 HR1.out HB1.out HS0.out.drop
  · have hok : e0 = 0 ∨ e0 = 23 := by
      by_cases h0 : e0 = 0
      · exact .inl h0
      · exact .inr (Classical.not_not.1 fun h => hbad ⟨h0, h⟩)
    have HR1 : Hid (lopen s n = if 28 < n.size then ⟨s, [], 0, 14⟩ else if e9 ≠ 0 then ⟨s, [], 0, e9⟩ else if er ≠ 0 then ⟨sr, [], 0, er⟩ else if ef ≠ 0 then ⟨sf, [], 0, ef⟩ else ⟨sf, rec, k9, 0⟩) := Lib.hid (by rw [HR.out, if_neg hbad])
    have HOF : Hid (s.off = false) := Lib.hid (HOFF.out hok)
    clear hbad
    rcases hok with rfl | rfl
    case' inl =>
      clear h23
      go_upto_region 7 with fail
    case' inr =>
      have hb23 := h23 rfl
      clear h23
      go_upto_region 7 with fail
      rw [← hb23]
      have HB23 := Lib.hid hb23
      clear hb23
    all_goals
      by_cases hn28 : 28 < n.size
      · have HR2 : Hid (lopen s n = ⟨s, [], 0, 14⟩) := Lib.hid (by rw [HR1.out, if_pos hn28])
        go_wp2_with fail
        go_ret3
        exact OpenOut.bad s 14 HR2.out (by decide) HS0.out.drop
      · have HR2 : Hid (lopen s n = if e9 ≠ 0 then ⟨s, [], 0, e9⟩ else if er ≠ 0 then ⟨sr, [], 0, er⟩ else if ef ≠ 0 then ⟨sf, [], 0, ef⟩ else ⟨sf, rec, k9, 0⟩) := Lib.hid (by rw [HR1.out, if_neg hn28])
        go_wp2_with fail
        refine (ASC.out _).mono ?_
        rintro e w2 ⟨v9, rfl, ho9, hb9⟩
        rw [HSC.out] at ho9
        have S1 := Lib.hid (HS0.out.below HD.out hb9)
        rw [HSC.out]
        dsimp only at ho9 ⊢
        by_cases h9 : e9 = 0
        · subst h9
          have HR3 : Hid (lopen s n = if er ≠ 0 then ⟨sr, [], 0, er⟩ else if ef ≠ 0 then ⟨sf, [], 0, ef⟩ else ⟨sf, rec, k9, 0⟩) := Lib.hid (by rw [HR2.out, if_neg (by decide)])
          obtain ⟨Y, hrow, hSY, hYl⟩ := HS0.out.row HD.out hb9 ho9
          have hle := HLE.out
          have S1' : Hid (Sys base (D s) ((lb, lobj ⟨n, 0, 0, false⟩ d) :: (Y ++ X)) w2) := Lib.hid (hSY.perm fun p hp => by
            rcases List.mem_cons.1 hp with rfl | hp
            · exact List.mem_append_right _ (List.mem_cons_self ..)
            · rcases List.mem_append.1 hp with hp | hp
              · exact List.mem_append_left _ hp
              · exact List.mem_append_right _ (List.mem_cons_of_mem _ hp))
          have HX2 : Hid (∀ p ∈ Y ++ X, p.1 ≠ lb) := Lib.hid fun p hp => by
            rcases List.mem_append.1 hp with hp | hp
            · have := hYl p hp; omega
            · exact HX.out p hp
          have HYL := Lib.hid hYl
          have hbl := S1'.out.get (List.mem_cons_self ..)
          have t1 : w2.cell? ⟨lb, 1, none⟩ = some (.int .i64 0) := (row_cells hbl).1 1
          have t2 : w2.cell? ⟨lb, 2, none⟩ = some (.int .i64 0) := (row_cells hbl).1 2
          have u1 := (row_cells hbl).2 1
          have u2 := (row_cells hbl).2 2
          obtain ⟨a9, c9, hv9⟩ := hrow.shape
          have HROW := Lib.hid hrow
          obtain ⟨wt, hwt⟩ : ∃ wt, (w2.setCell ⟨lb, 1, none⟩ (.int .i64 rec.length)).setCell ⟨lb, 2, none⟩ (.int .i64 k9) = wt := ⟨_, rfl⟩
          have hbt : wt.heap[lb]? = some (lobj ⟨n, rec.length, k9, false⟩ d) := by
            rw [← hwt, set_heap (set_heap hbl 1 _) 2 _]
            rfl
          have S2 : Hid (Sys base (D s) ((lb, lobj ⟨n, rec.length, k9, false⟩ d) :: (Y ++ X)) wt) := Lib.hid (S1'.out.turn HD.out (by rw [← hwt]; exact (set_turn _ _ _ _).trans (set_turn _ _ _ _)) hbt HX2.out)
          have HWT := Lib.hid hwt
          have HNA := Lib.hid (S2.out.names HD.out HG.out (by have := HM.out; omega))
          have hnl : s.names.length ≤ 1000000 := by have := names_len HG.out; have := HM.out; omega
          have HNL := Lib.hid hnl
          subst hv9
          clear hrow hSY hYl hbl hwt hbt hb9 ho9 hle hnl
          go_upto_region 13 with fail
          rw [HWT.out]
          clear t1 t2 u1 u2
          go_wp2_with fail
          refine HNA.out.mono ?_
          rintro e w4 ⟨v4, rfl, ho4, hb4⟩
          have S3 := Lib.hid (S2.out.below HD.out hb4)
          have HCT := contains_any v4 s.names tm w4 (RowS.of_own ho4 rfl) HNL.out
          rw [names_has HOF.out] at HCT
          have HCT := Lib.hid HCT
          clear ho4 hb4
          by_cases hh : s.has tm
          · rw [decide_eq_true hh] at HCT
            have hrm2 : rmOld s n = s.remove tm := by unfold rmOld; rw [HTM.out, if_pos ⟨HOF.out, hh⟩]
            have HA5 := Lib.hid (S3.out.remove HD.out HG.out (by have := HM.out; omega) HTS.out)
            rw [← hrm2, HRM.out] at HA5
            have HGR : Hid (Good sr (M + 1)) := Lib.hid (by have := HG.out.remove tm; rw [← hrm2, HRM.out] at this; exact this)
            clear hh hrm2
            go_wp2_with fail
            refine HCT.out.mono ?_
            rintro e w5 ⟨rfl, hw5⟩
            have hw5' := hw5.symm
            subst hw5'
            clear hw5
            go_wp2_with fail
            refine HA5.out.mono ?_
            rintro e w6 ⟨rfl, S4⟩
            by_cases h5 : er = 0
            · subst h5
              have HR4 : Hid (lopen s n = if ef ≠ 0 then ⟨sf, [], 0, ef⟩ else ⟨sf, rec, k9, 0⟩) := Lib.hid (by rw [HR3.out, if_neg (by decide)])
              by_cases hk : k9 < b0.size
              · have hle := HLE.out
                have hkI : (k9 : Int) < (b0.size : Int) := by omega
                have hkI2 : (k9 : Int) ≤ (b0.size : Int) := by omega
                have hxs : (b0.extract 0 k9).size ≤ M := by have := HBM.out; simp; omega
                have HA6 := Lib.hid (replace_any HD.out base w6 sr (M + 1) lb ⟨n, rec.length, k9, false⟩ (Y ++ X) (b0.extract 0 k9) S4.out HGR.out (by have := HM.out; omega) hn)
                have hfx2 : fixUp sr n b0 k9 = sr.replace n (b0.extract 0 k9) := by unfold fixUp; rw [if_pos hk]
                dsimp only at HA6
                rw [← hfx2, HFX.out] at HA6
                clear hle hxs hfx2 hk
                go_wp2_with fail
                refine HA6.out.mono ?_
                rintro e w7 ⟨rfl, S5⟩
                by_cases h6 : ef = 0
                · subst h6
                  have HR5 : Hid (lopen s n = ⟨sf, rec, k9, 0⟩) := Lib.hid (by rw [HR4.out, if_neg (by decide)])
                  go_wp2_with fail
                  go_ret3
                  refine .inr ⟨by rw [HR5.out], .slice a9 rec.length c9, Y, by rw [HLB.out]; rfl, by rw [HR5.out]; exact HROW.out, by rw [HLB.out, HR5.out]; exact S5.out, fun p hp => ?_⟩
                  have := HYL.out p hp
                  rw [HLB.out]
                  omega
                · have q6 : (ef != 0) = true := by rw [bne_iff_ne]; exact h6
                  have HR5 : Hid (lopen s n = ⟨sf, [], 0, ef⟩) := Lib.hid (by rw [HR4.out, if_pos h6])
                  have H6 := Lib.hid h6
                  clear h6
                  go_wp2_with fail
                  go_ret3
                  exact OpenOut.bad sf ef HR5.out H6.out (S5.out.perm fun p hp => List.mem_cons_of_mem _ (List.mem_append_right _ hp))
              · have hkI : ¬ (k9 : Int) < (b0.size : Int) := by omega
                have HA6 := Lib.hid (S4.out.sync HD.out HGR.out (by have := HM.out; omega))
                have hfx2 : fixUp sr n b0 k9 = sr.sync := by unfold fixUp; rw [if_neg hk]
                rw [← hfx2, HFX.out] at HA6
                clear hfx2 hk
                go_wp2_with fail
                refine HA6.out.mono ?_
                rintro e w7 ⟨rfl, S5⟩
                by_cases h6 : ef = 0
                · subst h6
                  have HR5 : Hid (lopen s n = ⟨sf, rec, k9, 0⟩) := Lib.hid (by rw [HR4.out, if_neg (by decide)])
                  go_wp2_with fail
                  go_ret3
                  refine .inr ⟨by rw [HR5.out], .slice a9 rec.length c9, Y, by rw [HLB.out]; rfl, by rw [HR5.out]; exact HROW.out, by rw [HLB.out, HR5.out]; exact S5.out, fun p hp => ?_⟩
                  have := HYL.out p hp
                  rw [HLB.out]
                  omega
                · have q6 : (ef != 0) = true := by rw [bne_iff_ne]; exact h6
                  have HR5 : Hid (lopen s n = ⟨sf, [], 0, ef⟩) := Lib.hid (by rw [HR4.out, if_pos h6])
                  have H6 := Lib.hid h6
                  clear h6
                  go_wp2_with fail
                  go_ret3
                  exact OpenOut.bad sf ef HR5.out H6.out (S5.out.perm fun p hp => List.mem_cons_of_mem _ (List.mem_append_right _ hp))
            · have q5 : (er != 0) = true := by rw [bne_iff_ne]; exact h5
              have HR4 : Hid (lopen s n = ⟨sr, [], 0, er⟩) := Lib.hid (by rw [HR3.out, if_pos h5])
              have H5 := Lib.hid h5
              clear h5
              go_wp2_with fail
              go_ret3
              exact OpenOut.bad sr er HR4.out H5.out (S4.out.perm fun p hp => List.mem_cons_of_mem _ (List.mem_append_right _ hp))
          · rw [decide_eq_false hh] at HCT
            have hrm2 : rmOld s n = (s, 0) := by unfold rmOld; rw [HTM.out, if_neg (fun h => hh h.2)]
            obtain ⟨rfl, rfl⟩ : s = sr ∧ 0 = er := by have := HRM.out; rw [hrm2] at this; exact ⟨congrArg Prod.fst this, congrArg Prod.snd this⟩
            have HGR : Hid (Good s (M + 1)) := Lib.hid (HG.out.mono (by omega))
            have HR4 : Hid (lopen s n = if ef ≠ 0 then ⟨sf, [], 0, ef⟩ else ⟨sf, rec, k9, 0⟩) := Lib.hid (by rw [HR3.out, if_neg (by decide)])
            clear hh hrm2
            go_wp2_with fail
            refine HCT.out.mono ?_
            rintro e w5 ⟨rfl, hw5⟩
            have hw5' := hw5.symm
            subst hw5'
            clear hw5
            have S4 := S3
            by_cases hk : k9 < b0.size
            · have hle := HLE.out
              have hkI : (k9 : Int) < (b0.size : Int) := by omega
              have hkI2 : (k9 : Int) ≤ (b0.size : Int) := by omega
              have hxs : (b0.extract 0 k9).size ≤ M := by have := HBM.out; simp; omega
              have HA6 := Lib.hid (replace_any HD.out base w4 s (M + 1) lb ⟨n, rec.length, k9, false⟩ (Y ++ X) (b0.extract 0 k9) S4.out HGR.out (by have := HM.out; omega) hn)
              have hfx2 : fixUp s n b0 k9 = s.replace n (b0.extract 0 k9) := by unfold fixUp; rw [if_pos hk]
              dsimp only at HA6
              rw [← hfx2, HFX.out] at HA6
              clear hle hxs hfx2 hk
              go_wp2_with fail
              refine HA6.out.mono ?_
              rintro e w7 ⟨rfl, S5⟩
              by_cases h6 : ef = 0
              · subst h6
                have HR5 : Hid (lopen s n = ⟨sf, rec, k9, 0⟩) := Lib.hid (by rw [HR4.out, if_neg (by decide)])
                go_wp2_with fail
                go_ret3
                refine .inr ⟨by rw [HR5.out], .slice a9 rec.length c9, Y, by rw [HLB.out]; rfl, by rw [HR5.out]; exact HROW.out, by rw [HLB.out, HR5.out]; exact S5.out, fun p hp => ?_⟩
                have := HYL.out p hp
                rw [HLB.out]
                omega
              · have q6 : (ef != 0) = true := by rw [bne_iff_ne]; exact h6
                have HR5 : Hid (lopen s n = ⟨sf, [], 0, ef⟩) := Lib.hid (by rw [HR4.out, if_pos h6])
                have H6 := Lib.hid h6
                clear h6
                go_wp2_with fail
                go_ret3
                exact OpenOut.bad sf ef HR5.out H6.out (S5.out.perm fun p hp => List.mem_cons_of_mem _ (List.mem_append_right _ hp))
            · have hkI : ¬ (k9 : Int) < (b0.size : Int) := by omega
              have HA6 := Lib.hid (S4.out.sync HD.out HGR.out (by have := HM.out; omega))
              have hfx2 : fixUp s n b0 k9 = s.sync := by unfold fixUp; rw [if_neg hk]
              rw [← hfx2, HFX.out] at HA6
              clear hfx2 hk
              go_wp2_with fail
              refine HA6.out.mono ?_
              rintro e w7 ⟨rfl, S5⟩
              by_cases h6 : ef = 0
              · subst h6
                have HR5 : Hid (lopen s n = ⟨sf, rec, k9, 0⟩) := Lib.hid (by rw [HR4.out, if_neg (by decide)])
                go_wp2_with fail
                go_ret3
                refine .inr ⟨by rw [HR5.out], .slice a9 rec.length c9, Y, by rw [HLB.out]; rfl, by rw [HR5.out]; exact HROW.out, by rw [HLB.out, HR5.out]; exact S5.out, fun p hp => ?_⟩
                have := HYL.out p hp
                rw [HLB.out]
                omega
              · have q6 : (ef != 0) = true := by rw [bne_iff_ne]; exact h6
                have HR5 : Hid (lopen s n = ⟨sf, [], 0, ef⟩) := Lib.hid (by rw [HR4.out, if_pos h6])
                have H6 := Lib.hid h6
                clear h6
                go_wp2_with fail
                go_ret3
                exact OpenOut.bad sf ef HR5.out H6.out (S5.out.perm fun p hp => List.mem_cons_of_mem _ (List.mem_append_right _ hp))
        · have q3 : (e9 != 0) = true := by rw [bne_iff_ne]; exact h9
          have HR3 : Hid (lopen s n = ⟨s, [], 0, e9⟩) := Lib.hid (by rw [HR2.out, if_pos h9])
          have H9 := Lib.hid h9
          clear h9 hb9 ho9
          go_wp2_with fail
          go_ret3
          exact OpenOut.bad s e9 HR3.out H9.out S1.out.drop
end Go.Proofs.Ytlaodmpdngdhjaa

/- Scans of logs, in plain words. -/
namespace Go.Proofs.Ytlaodmpdngdhjaa
set_option linter.unusedVariables false
set_option linter.unusedSimpArgs false

def jn (k : Nat) : List ByteArray → List UInt8
  | [] => []
  | d :: r => frmL k d ++ jn (k + 1) r
theorem jn_append (k : Nat) (l m : List ByteArray) : jn k (l ++ m) = jn k l ++ jn (k + l.length) m := by
  induction l generalizing k with
  | nil => simp [jn]
  | cons d r ih =>
    simp only [List.cons_append, jn, ih, List.append_assoc, List.length_cons]
    rw [show k + 1 + r.length = k + (r.length + 1) by omega]
theorem frmL_len (k : Nat) (d : ByteArray) : (frmL k d).length = d.size + 8 := by
  have := frm_size k d
  rw [← this, ← ba_list]
  rfl
theorem bt_list (b : ByteArray) (i : Nat) : bt b i = (b.data.toList.getD i 0).toNat := by
  unfold bt
  split
  · rename_i h
    rw [List.getD_eq_getElem?_getD, List.getElem?_eq_getElem (by rw [ba_list]; exact h)]
    rfl
  · rename_i h
    rw [List.getD_eq_getElem?_getD, List.getElem?_eq_none (by rw [ba_list]; omega)]
    rfl
theorem getD_mid (P Q : List UInt8) (j : Nat) : (P ++ Q).getD (P.length + j) 0 = Q.getD j 0 := by
  rw [List.getD_eq_getElem?_getD, List.getD_eq_getElem?_getD, List.getElem?_append_right (by omega), Nat.add_sub_cancel_left]
theorem val4_mid (b : ByteArray) (P Q : List UInt8) (m : Nat) (hm : m < 4294967296) (h : b.data.toList = P ++ Q) (hq : Q.take 4 = beN 4 m) : val4 b P.length = m := by
  have e : ∀ j, j < 4 → bt b (P.length + j) = ((beN 4 m).getD j 0).toNat := fun j hj => by
    rw [bt_list, h, getD_mid, ← hq]
    rw [List.getD_eq_getElem?_getD, List.getD_eq_getElem?_getD, List.getElem?_take_of_lt hj]
  have e0 := e 0 (by omega)
  have e1 := e 1 (by omega)
  have e2 := e 2 (by omega)
  have e3 := e 3 (by omega)
  rw [Nat.add_zero] at e0
  unfold val4
  rw [e0, e1, e2, e3]
  show (((UInt8.ofNat (m / 2 ^ 24)).toNat * 256 + (UInt8.ofNat (m / 2 ^ 16)).toNat) * 256 + (UInt8.ofNat (m / 2 ^ 8)).toNat) * 256 + (UInt8.ofNat (m / 2 ^ 0)).toNat = m
  simp only [UInt8.toNat_ofNat']
  omega
theorem ext_mid (b : ByteArray) (P Q R : List UInt8) (h : b.data.toList = P ++ (Q ++ R)) : (b.extract P.length (P.length + Q.length)).data.toList = Q := by
  rw [ByteArray.data_extract, Array.toList_extract, h, List.extract_eq_take_drop, List.drop_left, Nat.add_sub_cancel_left, List.take_left]
theorem ba_eq {a b : ByteArray} (h : a.data.toList = b.data.toList) : a = b := ByteArray.ext (Array.toList_inj.1 h)
/-- One record. -/
theorem scn_one (b : ByteArray) (P R : List UInt8) (out : List ByteArray) (d : ByteArray) (h : b.data.toList = P ++ (frmL out.length d ++ R)) (hd : d.size ≤ 65536) (ho : out.length < 4096) :
    scn b P.length out = scn b (P ++ frmL out.length d).length (out ++ [d]) := by
  have hsz : b.size = P.length + (d.size + 8) + R.length := by rw [← ba_list, h, List.length_append, List.length_append, frmL_len]; omega
  have hv : val4 b P.length = d.size := val4_mid b P _ d.size (by omega) h (by
    unfold frmL
    rw [List.append_assoc, List.append_assoc, List.take_append_of_le_length (by rw [beN_len]; omega), List.take_of_length_le (by rw [beN_len]; omega)])
  have h1 : b.extract P.length (P.length + 8 + val4 b P.length) = frm out.length d := by
    apply ba_eq
    rw [hv, show P.length + 8 + d.size = P.length + (frmL out.length d).length by rw [frmL_len]; omega, ext_mid b P _ R h]
    rfl
  have h2 : b.extract (P.length + 8) (P.length + 8 + val4 b P.length) = d := by
    apply ba_eq
    have e : b.data.toList = (P ++ (beN 4 d.size ++ (shaL (beN 8 out.length ++ d.data.toList)).take 4)) ++ (d.data.toList ++ R) := by
      rw [h]; unfold frmL; simp [List.append_assoc]
    have hl : (P ++ (beN 4 d.size ++ (shaL (beN 8 out.length ++ d.data.toList)).take 4)).length = P.length + 8 := by
      rw [List.length_append, List.length_append, beN_len, List.length_take, shaL_len]
      rfl
    have := ext_mid b _ _ _ e
    rw [hl, ba_list] at this
    rw [hv]
    exact this
  rw [scn_step (by omega) (by rw [hv]; omega) (by rw [hv]; omega) (by rw [h1, h2]) (by omega), h2, hv, List.length_append, frmL_len]
  congr 1
  omega
/-- Whole records. -/
theorem scn_join (b : ByteArray) (l : List ByteArray) : ∀ (P R : List UInt8) (out : List ByteArray), b.data.toList = P ++ (jn out.length l ++ R) → (∀ d ∈ l, d.size ≤ 65536) → out.length + l.length ≤ 4096 →
    scn b P.length out = scn b (P ++ jn out.length l).length (out ++ l) := by
  induction l with
  | nil => intro P R out _ _ _; simp [jn]
  | cons d r ih =>
    intro P R out h hd ho
    rw [List.length_cons] at ho
    have h' : b.data.toList = P ++ (frmL out.length d ++ (jn (out.length + 1) r ++ R)) := by rw [h]; simp [jn, List.append_assoc]
    rw [scn_one b P _ out d h' (hd d (List.mem_cons_self ..)) (by omega)]
    have hl : (out ++ [d]).length = out.length + 1 := by simp
    have := ih (P ++ frmL out.length d) R (out ++ [d]) (by rw [hl, h']; simp [List.append_assoc]) (fun x hx => hd x (List.mem_cons_of_mem _ hx)) (by rw [hl]; omega)
    rw [this, hl]
    simp [jn, List.append_assoc]
/-- What is left is no whole record. -/
theorem scn_torn (b : ByteArray) (P : List UInt8) (out : List ByteArray) (k : Nat) (d : ByteArray) (T : List UInt8) (R : List UInt8) (h : b.data.toList = P ++ R) (hR : frmL k d = R ++ T) (hT : T ≠ []) (hd : d.size ≤ 65536) :
    scn b P.length out = some (out, P.length) := by
  have hT1 : 0 < T.length := by cases T with | nil => exact absurd rfl hT | cons _ _ => simp
  have hl : R.length + T.length = d.size + 8 := by rw [← List.length_append, ← hR, frmL_len]
  have hsz : b.size = P.length + R.length := by rw [← ba_list, h, List.length_append]
  by_cases h4 : R.length < 4
  · exact scn_short (by omega)
  · have hv : val4 b P.length = d.size := val4_mid b P _ d.size (by omega) h (by
      have e : (R ++ T).take 4 = R.take 4 := List.take_append_of_le_length (by omega)
      rw [← e, ← hR]
      unfold frmL
      rw [List.append_assoc, List.take_append_of_le_length (by rw [beN_len]; omega), List.take_of_length_le (by rw [beN_len]; omega)])
    exact scn_cut (by omega) (by rw [hv]; omega) (by rw [hv]; omega)
theorem scn_end (b : ByteArray) (P : List UInt8) (out : List ByteArray) (h : b.data.toList = P) : scn b P.length out = some (out, P.length) :=
  scn_short (by rw [← ba_list, h]; omega)
/-- A log, and a log with a torn record behind it. -/
theorem scanR_join (b : ByteArray) (l : List ByteArray) (h : b.data.toList = jn 0 l) (hd : ∀ d ∈ l, d.size ≤ 65536) (ho : l.length ≤ 4096) : scanR b = (l, b.size, 0) := by
  have h1 := scn_join b l [] [] [] (by simpa using h) hd (by simpa using ho)
  simp only [List.length_nil, List.nil_append] at h1
  have h2 := scn_end b (jn 0 l) l h
  rw [scanR_some (h1.trans h2), ← ba_list, h]
theorem scanR_torn (b : ByteArray) (l : List ByteArray) (d : ByteArray) (R T : List UInt8) (h : b.data.toList = jn 0 l ++ R) (hR : frmL l.length d = R ++ T) (hT : T ≠ []) (hdd : d.size ≤ 65536) (hd : ∀ d ∈ l, d.size ≤ 65536) (ho : l.length ≤ 4096) :
    scanR b = (l, (jn 0 l).length, 0) := by
  have h1 := scn_join b l [] R [] (by simpa using h) hd (by simpa using ho)
  simp only [List.length_nil, List.nil_append] at h1
  have h2 := scn_torn b (jn 0 l) l l.length d T R h hR hT hdd
  rw [scanR_some (h1.trans h2)]
end Go.Proofs.Ytlaodmpdngdhjaa

/- The second example: a log with two records. -/
namespace Go.Proofs.Ytlaodmpdngdhjaa
set_option linter.unusedVariables false
set_option linter.unusedSimpArgs false
open Go.RowKit

def wl : ByteArray := ⟨#[108, 111, 103]⟩
def wa : ByteArray := ⟨#[97]⟩
def wbc : ByteArray := ⟨#[98, 99]⟩
def wk0 : St := St.new 1000
def wk1 (f : ByteArray) : St := { wk0 with ops := [.app wl f] }
def wk2 (f g : ByteArray) : St := { wk0 with ops := [.app wl f, .app wl g] }
def wk3 (f g : ByteArray) : St := { wk0 with files := [(wl, f ++ g)] }
theorem scan_nil : scanR ⟨#[]⟩ = ([], 0, 0) := scanR_join ⟨#[]⟩ [] rfl (by simp) (by simp)
/-- Opening a log of a disk without a file. -/
theorem lopen_fresh (c : Int) : lopen (St.new c) wl = ⟨St.new c, [], 0, 0⟩ := by
  have h1 : (St.new c).read wl = (⟨#[]⟩, 23) := by
    unfold St.read
    rw [if_neg (by show ¬ (false = true); decide), if_neg (by decide +kernel), if_pos (by show ¬ (0 < 0); omega)]
  unfold lopen
  have h2 : rmOld (St.new c) wl = (St.new c, 0) := by
    unfold rmOld
    rw [if_neg]
    rintro ⟨_, h⟩
    exact absurd h (Nat.lt_irrefl 0)
  rw [h1]
  dsimp only
  rw [scan_nil, h2]
  rfl
theorem frm0_size : (frm 0 wa).size = 9 := by rw [frm_size]; rfl
theorem frm1_size : (frm 1 wbc).size = 10 := by rw [frm_size]; rfl
theorem wk_a1 (f : ByteArray) (h : f.size = 9) : wk0.append wl f = (wk1 f, 0) := by
  unfold St.append
  rw [if_neg (by show ¬ (false = true); decide), if_neg (by decide +kernel), if_neg]
  · rfl
  · rintro (⟨_, h2⟩ | h2)
    · exact absurd h2 (by show ¬ (16 ≤ 0); omega)
    · have : 1000 < 0 + f.size := h2
      omega
theorem wk_all1 (f : ByteArray) : (wk1 f).all = [(wl, f)] := rfl
theorem wk_has1 (f : ByteArray) : (wk1 f).has wl := by
  show idx [(wl, f)] wl < 1
  rw [idx_cons, if_pos rfl]
  omega
theorem wk_a2 (f g : ByteArray) (hf : f.size = 9) (hg : g.size = 10) : (wk1 f).append wl g = (wk2 f g, 0) := by
  unfold St.append
  rw [if_neg (by show ¬ (false = true); decide), if_neg (by decide +kernel), if_neg]
  · rfl
  · rintro (⟨h2, _⟩ | h2)
    · exact h2 (wk_has1 f)
    · have : 1000 < (f.size + 0) + g.size := h2
      omega
theorem wk_all2 (f g : ByteArray) : (wk2 f g).all = [(wl, f ++ g)] := by
  show appl [(wl, f)] (.app wl g) = _
  unfold appl
  have h : idx [(wl, f)] wl = 0 := by rw [idx_cons, if_pos rfl]
  dsimp only
  rw [h]
  rfl
theorem wk_s3 (f g : ByteArray) : (wk2 f g).sync = (wk3 f g, 0) := by
  unfold St.sync
  rw [if_neg (by show ¬ (false = true); decide), wk_all2]
  rfl
theorem wl_new : wl ≠ wl ++ sfx := by
  intro h
  have := congrArg ByteArray.size h
  rw [ByteArray.size_append] at this
  exact absurd this (by decide)
theorem wk_open (f g : ByteArray) (hf : f = frm 0 wa) (hg : g = frm 1 wbc) : lopen (wk3 f g) wl = ⟨wk3 f g, [wa, wbc], 19, 0⟩ := by
  have hh : (wk3 f g).has wl := by
    show idx [(wl, f ++ g)] wl < 1
    rw [idx_cons, if_pos rfl]
    omega
  have hsz : (f ++ g).size = 19 := by rw [ByteArray.size_append, hf, hg, frm0_size, frm1_size]
  have h1 : (wk3 f g).read wl = (f ++ g, 0) := by
    unfold St.read
    rw [if_neg (by show ¬ (false = true); decide), if_neg (by decide +kernel), if_neg (by intro h; exact h hh)]
    rfl
  have hs : scanR (f ++ g) = ([wa, wbc], (f ++ g).size, 0) := scanR_join _ _ (by
    rw [ByteArray.data_append, Array.toList_append, hf, hg]
    show frmL 0 wa ++ frmL 1 wbc = frmL 0 wa ++ (frmL 1 wbc ++ [])
    rw [List.append_nil]) (by
    intro d hd
    rcases List.mem_cons.1 hd with rfl | hd
    · decide
    · rcases List.mem_cons.1 hd with rfl | hd
      · decide
      · cases hd) (by decide)
  rw [hsz] at hs
  have h2 : rmOld (wk3 f g) wl = (wk3 f g, 0) := by
    unfold rmOld
    rw [if_neg]
    rintro ⟨_, h⟩
    have h : idx [(wl, f ++ g)] (wl ++ sfx) < 1 := h
    rw [idx_cons, if_neg wl_new] at h
    omega
  have h3 : fixUp (wk3 f g) wl (f ++ g) 19 = (wk3 f g, 0) := by
    unfold fixUp
    rw [hsz, if_neg (by omega)]
    rfl
  unfold lopen
  rw [h1]
  dsimp only
  rw [hs, h2]
  dsimp only
  rw [h3]
  rfl
theorem wk_l1 : lapp wk0 ⟨wl, 0, 0, false⟩ wa = ⟨wk1 (frm 0 wa), ⟨wl, 1, 9, false⟩, 0⟩ := by
  unfold lapp
  dsimp only
  rw [if_neg (by decide), if_neg (by show ¬ (65536 < 1 ∨ 4096 ≤ 0); omega), wk_a1 _ frm0_size]
  rfl
theorem wk_l2 : lapp (wk1 (frm 0 wa)) ⟨wl, 1, 9, false⟩ wbc = ⟨wk2 (frm 0 wa) (frm 1 wbc), ⟨wl, 2, 19, false⟩, 0⟩ := by
  unfold lapp
  dsimp only
  rw [if_neg (by decide), if_neg (by show ¬ (65536 < 2 ∨ 4096 ≤ 1); omega), wk_a2 _ _ frm0_size frm1_size]
  rfl
theorem wk_l3 (f g : ByteArray) : lsync (wk2 f g) ⟨wl, 2, 19, false⟩ = ⟨wk3 f g, ⟨wl, 2, 19, false⟩, 0⟩ := by
  unfold lsync
  dsimp only
  rw [if_neg (by decide), wk_s3]
  rfl
theorem Fresh.sys {w w1 : World} {d : Nat} {s : St} (h : Fresh w d s w1) : Sys w (fun w' rw ro => DiskAt w' d s rw ro) [] w1 := by
  obtain ⟨rw, ro, h1, h2, h3⟩ := h
  exact ⟨rw, ro, h1, h2, h3, by simp⟩
end Go.Proofs.Ytlaodmpdngdhjaa

/- The second example, walked. -/
namespace Go.Proofs.Ytlaodmpdngdhjaa
set_option linter.unusedVariables false
set_option linter.unusedSimpArgs false
open Go.RowKit

set_option maxRecDepth 100000 in
set_option maxHeartbeats 4000000 in
theorem wake_any (w : World) : Calls Try.prog 20 #[] w fun e w' => e = .returned (.bool true) ∧ Below w.heap.size w w' := by
  have HN := Lib.hid (fresh_new 1000 w (by omega) (by omega))
  have hD := Lib.hid (dsys_disk w.heap.size)
  have hg0 := Lib.hid (St.new_good 1000 (by decide))
  obtain ⟨f, hf⟩ : ∃ f, frm 0 wa = f := ⟨_, rfl⟩
  obtain ⟨g, hg⟩ : ∃ g, frm 1 wbc = g := ⟨_, rfl⟩
  have l1 := Lib.hid wk_l1
  have l2 := Lib.hid wk_l2
  have l3 := Lib.hid (wk_l3 f g)
  have l4 := Lib.hid (wk_open f g hf.symm hg.symm)
  have hfs : f.size = 9 := by rw [← hf]; exact frm0_size
  have hgs : g.size = 10 := by rw [← hg]; exact frm1_size
  have g1 : Hid (Good (wk1 f) 10) := Lib.hid (by
    have h := (St.new_good 1000 (by decide)).append wl f
    have e := wk_a1 f hfs
    unfold wk0 at e
    rw [e, hfs] at h
    exact h)
  have g2 : Hid (Good (wk2 f g) 21) := Lib.hid (by
    have h := g1.out.append wl g
    rw [wk_a2 f g hfs hgs, hgs] at h
    exact h)
  have g3 : Hid (Good (wk3 f g) 21) := Lib.hid (by
    have h := g2.out.sync
    rw [wk_s3] at h
    exact h)
  rw [hf] at l1 l2
  rw [hg] at l2
  clear hf hg hfs hgs
  go_enter Try.func20, Try.ntmps20
  go_wp2_with fail
  refine HN.out.mono ?_
  rintro e w1 ⟨rfl, F0, hlt⟩
  clear hlt
  have A1 := Lib.hid (open_any hD.out w w1 (St.new 1000) 0 [] wl F0.out.sys hg0.out (by omega) (by decide))
  rw [lopen_fresh] at A1
  go_wp2_with fail
  refine A1.out.mono ?_
  rintro e w2 (⟨h0, _⟩ | ⟨_, v, Y, rfl, hrow, hs, hY⟩)
  · exact absurd rfl h0
  obtain ⟨a, c, rfl⟩ := hrow.shape
  obtain ⟨lb, hlb⟩ : ∃ lb, w1.heap.size = lb := ⟨_, rfl⟩
  rw [hlb] at hs hY
  have hX : Hid (∀ p ∈ (Y ++ ([] : List (Nat × Obj))), p.1 ≠ lb) := Lib.hid (fun p hp => by
    rw [List.append_nil] at hp
    have := hY p hp
    omega)
  have S2 : Hid (Sys w (fun w' rw ro => DiskAt w' w.heap.size wk0 rw ro) ((lb, lobj ⟨wl, 0, 0, false⟩ w.heap.size) :: (Y ++ [])) w2) := Lib.hid hs
  clear hs hY hrow F0
  have A2 := Lib.hid (lappend_any hD.out w w2 wk0 0 lb _ _ wa S2.out hg0.out (by decide) (by decide) (by decide) hX.out)
  rw [l1.out] at A2
  rw [hlb]
  go_wp2_with fail
  refine A2.out.mono ?_
  rintro e w3 ⟨rfl, S3⟩
  dsimp only at S3
  have A3 := Lib.hid (lappend_any hD.out w w3 (wk1 f) 10 lb _ _ wbc S3.out g1.out (by decide) (by decide) (by decide) hX.out)
  rw [l2.out] at A3
  go_wp2_with fail
  refine A3.out.mono ?_
  rintro e w4 ⟨rfl, S4⟩
  dsimp only at S4
  have A4 := Lib.hid (lsync_any hD.out w w4 (wk2 f g) 21 lb _ _ S4.out g2.out (by decide) hX.out)
  rw [l3.out] at A4
  go_wp2_with fail
  refine A4.out.mono ?_
  rintro e w5 ⟨rfl, S5⟩
  dsimp only at S5
  have A5 := Lib.hid (open_any hD.out w w5 (wk3 f g) 21 _ wl S5.out g3.out (by omega) (by decide))
  rw [l4.out] at A5
  go_wp2_with fail
  refine A5.out.mono ?_
  rintro e w6 (⟨h0, _⟩ | ⟨_, v, Z, rfl, hrow, hs, hZ⟩)
  · exact absurd rfl h0
  have S6 := Lib.hid hs
  have HRS := Lib.hid (hrow.rowS hs (fun p hp => List.mem_cons_of_mem _ (List.mem_append_left _ hp)))
  obtain ⟨a2, c2, rfl⟩ := hrow.shape
  have hLB : Hid (w6.heap[lb]? = some (lobj ⟨wl, 2, 19, false⟩ w.heap.size)) := Lib.hid (hs.get (p := (lb, lobj ⟨wl, 2, 19, false⟩ w.heap.size)) (List.mem_cons_of_mem _ (List.mem_append_right _ (List.mem_cons_self ..))))
  have HL := Lib.hid (len_any lb _ _ _ hLB.out)
  have HS := Lib.hid (size_any lb _ _ _ hLB.out)
  have HB := Lib.hid hs.toBelow
  obtain ⟨gg, o, rfl, hgl, hgc⟩ := HRS.out.get (j := 1) (x := wbc) rfl
  replace hgc : w6.cell? ⟨gg, o + 1, none⟩ = some (.string ⟨#[98, 99]⟩) := hgc
  clear hs hrow hZ
  go_wp2_with fail
  refine HL.out.mono ?_
  rintro e w7 ⟨rfl, rfl⟩
  go_wp2_with fail
  refine HS.out.mono ?_
  rintro e w8 ⟨rfl, rfl⟩
  go_wp2_with fail
  go_ret
  exact ⟨rfl, HB.out⟩
end Go.Proofs.Ytlaodmpdngdhjaa

/- The laws of frames, of arbitrary bytes and of the nil log, walked. -/
namespace Go.Proofs.Ytlaodmpdngdhjaa
set_option linter.unusedVariables false
set_option linter.unusedSimpArgs false
open Go.RowKit

set_option maxRecDepth 100000 in
set_option maxHeartbeats 4000000 in
theorem bytes_law (b : ByteArray) (w : World) (hb : b.size ≤ 140737488355328) : Calls Try.prog 12 #[.string b] w fun e w' => e = .returned (.bool true) ∧ Below w.heap.size w w' := by
  have HW := Lib.hid fun W => wake_any W
  by_cases h : 1000 < b.size
  · have q1 : decide ((1000 : Int) < (b.size : Int)) = true := decide_eq_true (by omega)
    have H1 := Lib.hid h
    clear h
    go_enter Try.func12, Try.ntmps12
    go_wp2_with fail
    refine (HW.out _).mono ?_
    rintro e w1 ⟨rfl, hb1⟩
    have HB1 := Lib.hid hb1
    clear hb1
    go_wp2_with fail
    go_ret
    exact ⟨rfl, HB1.out⟩
  · have q1 : decide ((1000 : Int) < (b.size : Int)) = false := decide_eq_false (by omega)
    have HA := Lib.hid (scan_any b w (by omega))
    have HR := Lib.hid fun W => rscan_any b W (by omega)
    obtain ⟨⟨L, n, c⟩, hr⟩ : ∃ r, scanR b = r := ⟨_, rfl⟩
    have hL : Hid (L.length ≤ 1000000) := Lib.hid (by
      cases hs : scn b 0 [] with
      | none => rw [scanR_none hs] at hr; cases hr; simp
      | some p =>
        obtain ⟨l', k⟩ := p
        rw [scanR_some hs] at hr
        cases hr
        have := scn_le b b.size 0 [] L n (by omega) (by omega) (by simp) hs
        omega)
    have H1 := Lib.hid h
    unfold ScanOut at HA HR
    rw [hr] at HA HR
    clear h hr
    go_enter Try.func12, Try.ntmps12
    go_wp2_with fail
    refine HA.out.mono ?_
    rintro e w1 ⟨v, rfl, ho, hb1⟩
    have R1 := Lib.hid (RowS.of_own ho rfl)
    have HB1 := Lib.hid hb1
    clear hb1 ho
    go_wp2_with fail
    refine (HR.out w1).mono ?_
    rintro e w2 ⟨v2, rfl, ho, hb2⟩
    have R2 := Lib.hid (RowS.of_own ho rfl)
    have HB2 := Lib.hid hb2
    have R3 := Lib.hid (R1.out.below hb2)
    have HS := Lib.hid (same_any v v2 L L w2 R3.out R2.out hL.out hL.out)
    rw [decide_eq_true (rfl : L = L)] at HS
    clear hb2 ho
    go_wp2_with fail
    refine HS.out.mono ?_
    rintro e w3 ⟨rfl, hb3⟩
    have HB3 := Lib.hid hb3
    clear hb3
    go_wp2_with fail
    refine (HW.out w3).mono ?_
    rintro e w4 ⟨rfl, hb4⟩
    have HB4 := Lib.hid hb4
    clear hb4
    go_wp2_with fail
    go_ret
    refine ⟨rfl, ?_⟩
    have s1 := HB1.out.size
    have s2 := HB2.out.size
    have s3 := HB3.out.size
    exact ((HB1.out.trans (HB2.out.mono s1)).trans (HB3.out.mono (by omega))).trans (HB4.out.mono (by omega))
end Go.Proofs.Ytlaodmpdngdhjaa
