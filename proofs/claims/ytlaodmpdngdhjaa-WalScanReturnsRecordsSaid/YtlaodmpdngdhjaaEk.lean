/- do: a call on both disks (printed by ek.py). -/
import Derived.Test.YtlaodmpdngdhjaaEj
import Derived.Test.YtlaodmpdngdhjaaDw
namespace Go.Proofs.Ytlaodmpdngdhjaa
set_option linter.unusedVariables false
set_option linter.unusedSimpArgs false
open Go.RowKit

/-- Both disks in memory, apart from each other. -/
def Two (w : World) (d : Nat) (s : St) (r : Nat) (t : St) (rw ro : Nat → Prop) : Prop :=
  ∃ rwd rod rwr ror, DiskAt w d s rwd rod ∧ RefAt w r t rwr ror ∧ (∀ b, rwd b → ¬ rwr b ∧ ¬ ror b) ∧ (∀ b, rwr b → ¬ rod b) ∧ (∀ b, rw b ↔ rwd b ∨ rwr b) ∧ (∀ b, ro b ↔ rod b ∨ ror b)
def TMeth (w : World) (d : Nat) (s : St) (r : Nat) (t : St) (rw ro : Nat → Prop) (v : Value) (e : Ending) (w' : World) : Prop :=
  e = .returned v ∧ ∃ rw' ro', Two w' d s r t rw' ro' ∧ Kept w w' rw ro rw' ro'
section
variable {w w1 : World} {d r : Nat} {s s' t t' : St} {rw ro : Nat → Prop} {f : Nat} {args : Array Value} {v : Value}
theorem DiskAt.ltro {w : World} {d : Nat} {s : St} {rw ro : Nat → Prop} (h : DiskAt w d s rw ro) (b : Nat) (hb : rw b ∨ ro b) : b < w.heap.size := by
  obtain ⟨vd, vf, vp, fuse, fcs, h⟩ := h
  exact h.lt b hb
theorem Two.lt (h : Two w d s r t rw ro) (b : Nat) (hb : rw b ∨ ro b) : b < w.heap.size := by
  obtain ⟨rwd, rod, rwr, ror, hd, hr, _, _, h3, h4⟩ := h
  rcases hb with hb | hb
  · rcases (h3 b).1 hb with h | h
    · exact hd.ltro b (.inl h)
    · exact hr.lt b (.inl h)
  · rcases (h4 b).1 hb with h | h
    · exact hd.ltro b (.inr h)
    · exact hr.lt b (.inr h)
theorem Two.below (h : Two w d s r t rw ro) (hb : Below w.heap.size w w1) : Two w1 d s r t rw ro := by
  obtain ⟨rwd, rod, rwr, ror, hd, hr, h1, h2, h3, h4⟩ := h
  exact ⟨rwd, rod, rwr, ror, hd.below hb, hr.below hb, h1, h2, h3, h4⟩
theorem Two.disk (h : Two w d s r t rw ro) (hc : ∀ rwd rod, DiskAt w d s rwd rod → Calls Try.prog f args w (Meth w d s' rwd rod v)) : Calls Try.prog f args w (TMeth w d s' r t rw ro v) := by
  obtain ⟨rwd, rod, rwr, ror, hd, hr, h1, h2, h3, h4⟩ := h
  refine (hc rwd rod hd).mono ?_
  rintro e w' ⟨rfl, rwd', rod', hd', hk⟩
  refine ⟨rfl, fun b => rwd' b ∨ rwr b, fun b => rod' b ∨ ror b, ⟨rwd', rod', rwr, ror, hd', ?_, ?_, ?_, fun b => Iff.rfl, fun b => Iff.rfl⟩, hk.os, hk.tape, hk.output, hk.size, ?_, ?_, ?_⟩
  · refine hr.kept (fun b hb => hk.block b (hr.lt b hb) fun hw => ?_) hk.size
    rcases hb with hb | hb
    · exact (h1 b hw).1 hb
    · exact (h1 b hw).2 hb
  · intro b hb
    rcases hk.rw1 b hb with h | h
    · exact h1 b h
    · exact ⟨fun hq => by have := hr.lt b (.inl hq); omega, fun hq => by have := hr.lt b (.inr hq); omega⟩
  · intro b hb hq
    rcases hk.ro1 b hq with h | h
    · exact h2 b hb h
    · have := hr.lt b (.inl hb); omega
  · intro b hb hn
    exact hk.block b hb fun h => hn ((h3 b).2 (.inl h))
  · rintro b (h | h)
    · exact (hk.rw1 b h).imp (fun h => (h3 b).2 (.inl h)) id
    · exact .inl ((h3 b).2 (.inr h))
  · rintro b (h | h)
    · exact (hk.ro1 b h).imp (fun h => (h4 b).2 (.inl h)) id
    · exact .inl ((h4 b).2 (.inr h))
theorem Two.ref (h : Two w d s r t rw ro) (hc : ∀ rwr ror, RefAt w r t rwr ror → Calls Try.prog f args w (RMeth w r t' rwr ror v)) : Calls Try.prog f args w (TMeth w d s r t' rw ro v) := by
  obtain ⟨rwd, rod, rwr, ror, hd, hr, h1, h2, h3, h4⟩ := h
  refine (hc rwr ror hr).mono ?_
  rintro e w' ⟨rfl, rwr', ror', hr', hk⟩
  refine ⟨rfl, fun b => rwd b ∨ rwr' b, fun b => rod b ∨ ror' b, ⟨rwd, rod, rwr', ror', ?_, hr', ?_, ?_, fun b => Iff.rfl, fun b => Iff.rfl⟩, hk.os, hk.tape, hk.output, hk.size, ?_, ?_, ?_⟩
  · refine hd.kept (fun b hb => hk.block b (hd.ltro b hb) fun hw => ?_) hk.size
    rcases hb with hb | hb
    · exact (h1 b hb).1 hw
    · exact h2 b hw hb
  · intro b hb
    have hl := hd.ltro b (.inl hb)
    exact ⟨fun hq => (hk.rw1 b hq).elim (h1 b hb).1 fun h => by omega, fun hq => (hk.ro1 b hq).elim (h1 b hb).2 fun h => by omega⟩
  · intro b hb hq
    have hl := hd.ltro b (.inr hq)
    rcases hk.rw1 b hb with h | h
    · exact h2 b h hq
    · omega
  · intro b hb hn
    exact hk.block b hb fun h => hn ((h3 b).2 (.inr h))
  · rintro b (h | h)
    · exact .inl ((h3 b).2 (.inl h))
    · exact (hk.rw1 b h).imp (fun h => (h3 b).2 (.inr h)) id
  · rintro b (h | h)
    · exact .inl ((h4 b).2 (.inl h))
    · exact (hk.ro1 b h).imp (fun h => (h4 b).2 (.inr h)) id
end
/-- What a call does to a disk. -/
def step (c : Cl) (s : St) : St × Int :=
  if c.kind % 6 = 0 then s.append (nm c c.from_) c.data
  else if c.kind % 6 = 1 then s.rename (nm c c.from_) (nm c c.to_)
  else if c.kind % 6 = 2 then s.remove (nm c c.from_)
  else if c.kind % 6 = 3 then s.sync
  else if c.kind % 6 = 4 then (s.fuse (if c.raw then c.n else c.n % 9 - 1), 0)
  else (s.crash (if c.raw then c.n else c.n % 7 - 1) (if c.raw then c.m else c.m % 7 - 1), 0)
theorem nm_size (c : Cl) (k : Int) (h : c.name.size ≤ 100) : (nm c k).size ≤ maxLen := by
  refine Nat.le_trans (m := 100) ?_ (by decide)
  unfold nm
  split
  · exact h
  · have : ∀ x ∈ table, x.size ≤ 100 := by decide
    rw [List.getD_eq_getElem?_getD]
    cases hq : table[(k % 6).toNat]? with
    | none => exact Nat.zero_le _
    | some x => exact this x (List.mem_of_getElem? hq)
theorem Good.step {s : St} {M : Nat} (h : Good s M) (c : Cl) (hok : c.ok) (hd : c.data.size ≤ 200) : Good (step c s).1 (M + 201) := by
  unfold Ytlaodmpdngdhjaa.step
  split
  · exact (h.append _ _).mono (by omega)
  · split
    · exact (h.rename _ _).mono (by omega)
    · split
      · exact (h.remove _).mono (by omega)
      · split
        · exact h.sync.mono (by omega)
        · split
          · refine (h.fuse _ ?_).mono (by omega)
            split
            · exact hok.n.2
            · omega
          · exact (h.crash _ _).mono (by omega)
theorem Kept.cellq {w w' : World} {rw ro rw' ro' : Nat → Prop} (h : Kept w w' rw ro rw' ro') {q i : Nat} (hq : q < w.heap.size) (hn : ¬ rw q) : w'.cell? ⟨q, i, none⟩ = w.cell? ⟨q, i, none⟩ := World.cell?_of_block (h.block q hq hn)
theorem Kept.notq {w w' : World} {rw ro rw' ro' : Nat → Prop} (h : Kept w w' rw ro rw' ro') {q : Nat} (hq : q < w.heap.size) (hn : ¬ rw q) : ¬ rw' q := fun h2 => (h.rw1 q h2).elim hn fun h3 => by omega
set_option maxRecDepth 100000 in
set_option maxHeartbeats 8000000 in
theorem do_any (d r : Nat) (s t : St) (rw ro : Nat → Prop) (M : Nat) (c : Cl) (w : World) (h : Two w d s r t rw ro) (gs : Good s M) (gt : Good t M) (hM : M ≤ 500000) (hok : c.ok) (hd2 : c.data.size ≤ 200) (hn1 : c.name.size ≤ 100) :
    Calls Try.prog 36 #[ptr d, ptr r, .agg c.cells] w (TMeth w d (step c s).1 r (step c t).1 rw ro (.bool ((step c s).2 == (step c t).2))) := by
  obtain ⟨J, hJ⟩ : ∃ J : Nat, c.kind % 6 = J := ⟨(c.kind % 6).toNat, by omega⟩
  have hJ6 : J < 6 := by omega
  have HSK := Lib.hid fun W => small_any c.kind 6 W hok.kind.1 hok.kind.2 (by omega) (by omega)
  rw [hJ] at HSK
  have HNM := Lib.hid fun k hk W => name_any c k W hk
  have hff := hok.from_
  have hft := hok.to_
  have hnf := nm_size c c.from_ hn1
  have hnt := nm_size c c.to_ hn1
  have HT0 := Lib.hid h
  have hrq : ¬ rw w.heap.size := fun hq => by have := h.lt _ (.inl hq); omega
  have HGS := Lib.hid gs
  have HGT := Lib.hid gt
  have HJ := Lib.hid hJ
  have HN9 := Lib.hid fun W => small_any c.n 9 W hok.n.1 hok.n.2 (by omega) (by omega)
  have HN7 := Lib.hid fun W => small_any c.n 7 W hok.n.1 hok.n.2 (by omega) (by omega)
  have HM7 := Lib.hid fun W => small_any c.m 7 W hok.m.1 hok.m.2 (by omega) (by omega)
  obtain ⟨n1, n2⟩ := hok.n
  obtain ⟨m1, m2⟩ := hok.m
  obtain ⟨c0, hc0⟩ : ∃ c0 : Array Value, #[Value.int .i64 c.kind, .int .i64 c.from_, .int .i64 c.to_, .int .i64 c.n, .int .i64 c.m, .string c.name, .string c.data, .bool c.raw] = c0 := ⟨_, rfl⟩
  clear h gs gt hJ hok hc0 c0
  unfold Cl.cells
  go_enter Try.func36, Try.ntmps36
  go_upto_region 1 with fail
  obtain ⟨wb, hwb⟩ : ∃ wb, w.alloc (.cells #[Value.int .i64 c.kind, .int .i64 c.from_, .int .i64 c.to_, .int .i64 c.n, .int .i64 c.m, .string c.name, .string c.data, .bool c.raw] 48) = wb := ⟨_, rfl⟩
  have HBX : Hid (wb.heap[w.heap.size]? = some (.cells c.cells 48 (0, 0))) := Lib.hid (by rw [← hwb]; exact heap_alloc_new w _)
  have hbx := row_cells HBX.out
  have x0 : wb.cell? ⟨w.heap.size, 0, none⟩ = some (.int .i64 c.kind) := hbx.1 0
  have x1 : wb.cell? ⟨w.heap.size, 1, none⟩ = some (.int .i64 c.from_) := hbx.1 1
  have x2 : wb.cell? ⟨w.heap.size, 2, none⟩ = some (.int .i64 c.to_) := hbx.1 2
  have x3 : wb.cell? ⟨w.heap.size, 3, none⟩ = some (.int .i64 c.n) := hbx.1 3
  have x4 : wb.cell? ⟨w.heap.size, 4, none⟩ = some (.int .i64 c.m) := hbx.1 4
  have x5 : wb.cell? ⟨w.heap.size, 5, none⟩ = some (.string c.name) := hbx.1 5
  have x6 : wb.cell? ⟨w.heap.size, 6, none⟩ = some (.string c.data) := hbx.1 6
  have x7 : wb.cell? ⟨w.heap.size, 7, none⟩ = some (.bool c.raw) := hbx.1 7
  have hxl : w.heap.size < wb.heap.size := heap_lt HBX.out
  have HB0 : Hid (Below w.heap.size w wb) := Lib.hid (by rw [← hwb]; exact (Below.refl _ _).alloc (Nat.le_refl _) _)
  rw [hwb]
  clear hbx hwb
  go_cut [7, 8] (fun v7 v8 wx => v7 = .string (nm c c.from_) ∧ v8 = .string (nm c c.to_) ∧ Hid (Below wb.heap.size wb wx))
  case first =>
    go_region_held3 (fun w' => w'.cell? ⟨w.heap.size, 0, none⟩ = some (.int .i64 c.kind) ∧ w'.cell? ⟨w.heap.size, 1, none⟩ = some (.int .i64 c.from_) ∧ w'.cell? ⟨w.heap.size, 2, none⟩ = some (.int .i64 c.to_) ∧ w'.cell? ⟨w.heap.size, 3, none⟩ = some (.int .i64 c.n) ∧ w'.cell? ⟨w.heap.size, 4, none⟩ = some (.int .i64 c.m) ∧ w'.cell? ⟨w.heap.size, 5, none⟩ = some (.string c.name) ∧ w'.cell? ⟨w.heap.size, 6, none⟩ = some (.string c.data) ∧ w'.cell? ⟨w.heap.size, 7, none⟩ = some (.bool c.raw)) (first | exact ⟨yw50, yw51, yw52, yw53, yw54, yw55, yw56, yw57⟩ | exact ⟨yw30, yw31, yw32, yw33, yw34, yw35, yw36, yw37⟩ | go_keep)
      (first
      | (go_at_call 40; refine (HNM.out _ (by first | exact hff | exact hft) _).mono ?_; rintro e w5 ⟨rfl, hb5⟩; have HB5 : Hid (Below wb.heap.size wb w5) := Lib.hid (HB3.out.trans (hb5.mono HB3.out.size)); have yw50 : w5.cell? ⟨w.heap.size, 0, none⟩ = some (.int .i64 c.kind) := (HB5.out.cell (p := ⟨w.heap.size, 0, none⟩) hxl).trans x0; have yw51 : w5.cell? ⟨w.heap.size, 1, none⟩ = some (.int .i64 c.from_) := (HB5.out.cell (p := ⟨w.heap.size, 1, none⟩) hxl).trans x1; have yw52 : w5.cell? ⟨w.heap.size, 2, none⟩ = some (.int .i64 c.to_) := (HB5.out.cell (p := ⟨w.heap.size, 2, none⟩) hxl).trans x2; have yw53 : w5.cell? ⟨w.heap.size, 3, none⟩ = some (.int .i64 c.n) := (HB5.out.cell (p := ⟨w.heap.size, 3, none⟩) hxl).trans x3; have yw54 : w5.cell? ⟨w.heap.size, 4, none⟩ = some (.int .i64 c.m) := (HB5.out.cell (p := ⟨w.heap.size, 4, none⟩) hxl).trans x4; have yw55 : w5.cell? ⟨w.heap.size, 5, none⟩ = some (.string c.name) := (HB5.out.cell (p := ⟨w.heap.size, 5, none⟩) hxl).trans x5; have yw56 : w5.cell? ⟨w.heap.size, 6, none⟩ = some (.string c.data) := (HB5.out.cell (p := ⟨w.heap.size, 6, none⟩) hxl).trans x6; have yw57 : w5.cell? ⟨w.heap.size, 7, none⟩ = some (.bool c.raw) := (HB5.out.cell (p := ⟨w.heap.size, 7, none⟩) hxl).trans x7; clear hb5)
      | (go_at_call 40; refine (HNM.out _ (by first | exact hff | exact hft) _).mono ?_; rintro e w3 ⟨rfl, hb3⟩; have HB3 : Hid (Below wb.heap.size wb w3) := Lib.hid (Below.trans (Below.drew (Below.refl wb.heap.size wb)) hb3); have yw30 : w3.cell? ⟨w.heap.size, 0, none⟩ = some (.int .i64 c.kind) := (HB3.out.cell (p := ⟨w.heap.size, 0, none⟩) hxl).trans x0; have yw31 : w3.cell? ⟨w.heap.size, 1, none⟩ = some (.int .i64 c.from_) := (HB3.out.cell (p := ⟨w.heap.size, 1, none⟩) hxl).trans x1; have yw32 : w3.cell? ⟨w.heap.size, 2, none⟩ = some (.int .i64 c.to_) := (HB3.out.cell (p := ⟨w.heap.size, 2, none⟩) hxl).trans x2; have yw33 : w3.cell? ⟨w.heap.size, 3, none⟩ = some (.int .i64 c.n) := (HB3.out.cell (p := ⟨w.heap.size, 3, none⟩) hxl).trans x3; have yw34 : w3.cell? ⟨w.heap.size, 4, none⟩ = some (.int .i64 c.m) := (HB3.out.cell (p := ⟨w.heap.size, 4, none⟩) hxl).trans x4; have yw35 : w3.cell? ⟨w.heap.size, 5, none⟩ = some (.string c.name) := (HB3.out.cell (p := ⟨w.heap.size, 5, none⟩) hxl).trans x5; have yw36 : w3.cell? ⟨w.heap.size, 6, none⟩ = some (.string c.data) := (HB3.out.cell (p := ⟨w.heap.size, 6, none⟩) hxl).trans x6; have yw37 : w3.cell? ⟨w.heap.size, 7, none⟩ = some (.bool c.raw) := (HB3.out.cell (p := ⟨w.heap.size, 7, none⟩) hxl).trans x7; clear hb3))
    all_goals
      go_wp2_with fail
      go_meet
      exact ⟨rfl, rfl, HB5⟩
  obtain ⟨rfl, rfl, HBC⟩ := hcut
  have z0 : wc.cell? ⟨w.heap.size, 0, none⟩ = some (.int .i64 c.kind) := (HBC.out.cell (p := ⟨w.heap.size, 0, none⟩) hxl).trans x0
  have z1 : wc.cell? ⟨w.heap.size, 1, none⟩ = some (.int .i64 c.from_) := (HBC.out.cell (p := ⟨w.heap.size, 1, none⟩) hxl).trans x1
  have z2 : wc.cell? ⟨w.heap.size, 2, none⟩ = some (.int .i64 c.to_) := (HBC.out.cell (p := ⟨w.heap.size, 2, none⟩) hxl).trans x2
  have z3 : wc.cell? ⟨w.heap.size, 3, none⟩ = some (.int .i64 c.n) := (HBC.out.cell (p := ⟨w.heap.size, 3, none⟩) hxl).trans x3
  have z4 : wc.cell? ⟨w.heap.size, 4, none⟩ = some (.int .i64 c.m) := (HBC.out.cell (p := ⟨w.heap.size, 4, none⟩) hxl).trans x4
  have z5 : wc.cell? ⟨w.heap.size, 5, none⟩ = some (.string c.name) := (HBC.out.cell (p := ⟨w.heap.size, 5, none⟩) hxl).trans x5
  have z6 : wc.cell? ⟨w.heap.size, 6, none⟩ = some (.string c.data) := (HBC.out.cell (p := ⟨w.heap.size, 6, none⟩) hxl).trans x6
  have z7 : wc.cell? ⟨w.heap.size, 7, none⟩ = some (.bool c.raw) := (HBC.out.cell (p := ⟨w.heap.size, 7, none⟩) hxl).trans x7
  have hxc : w.heap.size < wc.heap.size := Nat.lt_of_lt_of_le hxl HBC.out.size
  have HBW : Hid (Below w.heap.size w wc) := Lib.hid (HB0.out.trans (HBC.out.mono HB0.out.size))
  have HT : Hid (Two wc d s r t rw ro) := Lib.hid (HT0.out.below HBW.out)
  clear x0 x1 x2 x3 x4 x5 x6 x7
  go_wp2_with fail
  refine (HSK.out _).mono ?_
  rintro e wc' ⟨rfl, hwc'⟩
  have hwc2 := hwc'.symm
  subst hwc2
  have hJ' : J = 0 ∨ J = 1 ∨ J = 2 ∨ J = 3 ∨ J = 4 ∨ J = 5 := by omega
  rcases hJ' with rfl | rfl | rfl | rfl | rfl | rfl
  · have HST : Hid (∀ s : St, step c s = s.append (nm c c.from_) c.data) := Lib.hid fun s => by unfold step; rw [if_pos (by rw [HJ.out]; rfl)]
    go_upto_region 9 with fail
    go_region_held3 (fun w' => w'.cell? ⟨w.heap.size, 6, none⟩ = some (.string c.data)) (first | exact yw56 | exact yw46 | go_keep)
      (first
      | (go_at_call 31; refine ((HT.out.below (Below.drew (Below.refl _ _))).disk (fun rwd rod h => append_any d s rwd rod M (nm c c.from_) c.data _ h HGS.out hM hnf (Nat.le_trans hd2 (by omega)))).mono ?_; rintro e w4 ⟨rfl, rw4, ro4, ht4, hk4⟩; have yw46 : w4.cell? ⟨w.heap.size, 6, none⟩ = some (.string c.data) := (hk4.cellq hxc hrq).trans z6; have hnq4 := hk4.notq hxc hrq; have hl4 := hk4.size; have ht4 := Lib.hid ht4; have hk4 := Lib.hid hk4)
      | (go_at_call 46; refine (ht4.out.ref (fun rwr ror h => rappend_any r t rwr ror M (nm c c.from_) c.data _ h HGT.out hM hnf (Nat.le_trans hd2 (by omega)))).mono ?_; rintro e w5 ⟨rfl, rw5, ro5, ht5, hk5⟩; have yw56 : w5.cell? ⟨w.heap.size, 6, none⟩ = some (.string c.data) := (hk5.cellq (Nat.lt_of_lt_of_le hxc hl4) hnq4).trans yw46; have ht5 := Lib.hid ht5; have hk5 := Lib.hid hk5))
    all_goals
     go_wp2_with fail
     go_ret
     rw [HST.out s, HST.out t]
     exact ⟨rfl, rw5, ro5, ht5.out, (Kept.below HBW.out).trans (Kept.trans ⟨hk4.out.os, hk4.out.tape, hk4.out.output, hk4.out.size, hk4.out.block, hk4.out.rw1, hk4.out.ro1⟩ hk5.out)⟩
  · have HST : Hid (∀ s : St, step c s = s.rename (nm c c.from_) (nm c c.to_)) := Lib.hid fun s => by unfold step; rw [if_neg (by rw [HJ.out]; decide)]; rw [if_pos (by rw [HJ.out]; rfl)]
    go_wp2_with fail
    refine (HT.out.disk fun rwd rod h => rename_any d s rwd rod M (nm c c.from_) (nm c c.to_) _ h HGS.out hM hnf hnt).mono ?_
    rintro e w4 ⟨rfl, rw4, ro4, ht4, hk4⟩
    have ht4 := Lib.hid ht4
    have hk4 := Lib.hid hk4
    go_wp2_with fail
    refine (ht4.out.ref fun rwr ror h => rrename_any r t rwr ror M (nm c c.from_) (nm c c.to_) _ h HGT.out hM hnf hnt).mono ?_
    rintro e w5 ⟨rfl, rw5, ro5, ht5, hk5⟩
    have ht5 := Lib.hid ht5
    have hk5 := Lib.hid hk5
    go_wp2_with fail
    go_ret
    rw [HST.out s, HST.out t]
    exact ⟨rfl, rw5, ro5, ht5.out, (Kept.below HBW.out).trans (hk4.out.trans hk5.out)⟩
  · have HST : Hid (∀ s : St, step c s = s.remove (nm c c.from_)) := Lib.hid fun s => by unfold step; rw [if_neg (by rw [HJ.out]; decide)]; rw [if_neg (by rw [HJ.out]; decide)]; rw [if_pos (by rw [HJ.out]; rfl)]
    go_wp2_with fail
    refine (HT.out.disk fun rwd rod h => remove_any d s rwd rod M (nm c c.from_) _ h HGS.out hM hnf).mono ?_
    rintro e w4 ⟨rfl, rw4, ro4, ht4, hk4⟩
    have ht4 := Lib.hid ht4
    have hk4 := Lib.hid hk4
    go_wp2_with fail
    refine (ht4.out.ref fun rwr ror h => rremove_any r t rwr ror M (nm c c.from_) _ h HGT.out hM hnf).mono ?_
    rintro e w5 ⟨rfl, rw5, ro5, ht5, hk5⟩
    have ht5 := Lib.hid ht5
    have hk5 := Lib.hid hk5
    go_wp2_with fail
    go_ret
    rw [HST.out s, HST.out t]
    exact ⟨rfl, rw5, ro5, ht5.out, (Kept.below HBW.out).trans (hk4.out.trans hk5.out)⟩
  · have HST : Hid (∀ s : St, step c s = s.sync) := Lib.hid fun s => by unfold step; rw [if_neg (by rw [HJ.out]; decide)]; rw [if_neg (by rw [HJ.out]; decide)]; rw [if_neg (by rw [HJ.out]; decide)]; rw [if_pos (by rw [HJ.out]; rfl)]
    go_wp2_with fail
    refine (HT.out.disk fun rwd rod h => sync_any d s rwd rod M _ h HGS.out hM).mono ?_
    rintro e w4 ⟨rfl, rw4, ro4, ht4, hk4⟩
    have ht4 := Lib.hid ht4
    have hk4 := Lib.hid hk4
    go_wp2_with fail
    refine (ht4.out.ref fun rwr ror h => rsync_any r t rwr ror M _ h HGT.out hM).mono ?_
    rintro e w5 ⟨rfl, rw5, ro5, ht5, hk5⟩
    have ht5 := Lib.hid ht5
    have hk5 := Lib.hid hk5
    go_wp2_with fail
    go_ret
    rw [HST.out s, HST.out t]
    exact ⟨rfl, rw5, ro5, ht5.out, (Kept.below HBW.out).trans (hk4.out.trans hk5.out)⟩
  · have HST : Hid (∀ s : St, step c s = (s.fuse (if c.raw then c.n else c.n % 9 - 1), 0)) := Lib.hid fun s => by unfold step; rw [if_neg (by rw [HJ.out]; decide)]; rw [if_neg (by rw [HJ.out]; decide)]; rw [if_neg (by rw [HJ.out]; decide)]; rw [if_neg (by rw [HJ.out]; decide)]; rw [if_pos (by rw [HJ.out]; rfl)]
    cases hraw : c.raw with
    | true =>
      rw [hraw] at z7
      go_wp2_with fail
      refine (HT.out.disk fun rwd rod h => fuse_any d s rwd rod M (c.n) _ h HGS.out hM ⟨n1, n2⟩).mono ?_
      rintro e w4 ⟨rfl, rw4, ro4, ht4, hk4⟩
      have ht4 := Lib.hid ht4
      have hk4 := Lib.hid hk4
      go_wp2_with fail
      refine (ht4.out.ref fun rwr ror h => rfuse_any r t rwr ror (c.n) _ h ⟨n1, n2⟩).mono ?_
      rintro e w5 ⟨rfl, rw5, ro5, ht5, hk5⟩
      have ht5 := Lib.hid ht5
      have hk5 := Lib.hid hk5
      go_wp2_with fail
      go_ret
      rw [HST.out s, HST.out t, hraw]
      exact ⟨rfl, rw5, ro5, ht5.out, (Kept.below HBW.out).trans (hk4.out.trans hk5.out)⟩
    | false =>
      rw [hraw] at z7
      obtain ⟨q, hq⟩ : ∃ q, c.n % 9 = q := ⟨_, rfl⟩
      have hq1 : 0 ≤ q ∧ q < 9 := by omega
      obtain ⟨hq2, hq3⟩ := hq1
      have HQ := Lib.hid hq
      rw [hq] at HN9
      clear hq
      go_wp2_with fail
      refine (HN9.out _).mono ?_
      rintro e wd ⟨rfl, hwd⟩
      have hwd2 := hwd.symm
      subst hwd2
      go_wp2_with fail
      refine (HT.out.disk fun rwd rod h => fuse_any d s rwd rod M (q - 1) _ h HGS.out hM ⟨by omega, by omega⟩).mono ?_
      rintro e w4 ⟨rfl, rw4, ro4, ht4, hk4⟩
      have ht4 := Lib.hid ht4
      have hk4 := Lib.hid hk4
      go_wp2_with fail
      refine (ht4.out.ref fun rwr ror h => rfuse_any r t rwr ror (q - 1) _ h ⟨by omega, by omega⟩).mono ?_
      rintro e w5 ⟨rfl, rw5, ro5, ht5, hk5⟩
      have ht5 := Lib.hid ht5
      have hk5 := Lib.hid hk5
      go_wp2_with fail
      go_ret
      rw [HST.out s, HST.out t, hraw, HQ.out]
      exact ⟨rfl, rw5, ro5, ht5.out, (Kept.below HBW.out).trans (hk4.out.trans hk5.out)⟩
  · have HST : Hid (∀ s : St, step c s = (s.crash (if c.raw then c.n else c.n % 7 - 1) (if c.raw then c.m else c.m % 7 - 1), 0)) := Lib.hid fun s => by unfold step; rw [if_neg (by rw [HJ.out]; decide)]; rw [if_neg (by rw [HJ.out]; decide)]; rw [if_neg (by rw [HJ.out]; decide)]; rw [if_neg (by rw [HJ.out]; decide)]; rw [if_neg (by rw [HJ.out]; decide)]
    have HTN : Hid (∀ q, Two (wc.drewN q) d s r t rw ro) := Lib.hid fun q => HT.out.below (below_drewN (Below.refl _ _) q)
    cases hraw : c.raw with
    | true =>
      rw [hraw] at z7
      go_wp2_with fail
      go_quiet (fail)
      go_wp2_with fail
      refine ((HTN.out _).disk fun rwd rod h => crash_any d s rwd rod M (c.n) (c.m) _ h HGS.out hM ⟨n1, n2⟩ ⟨m1, m2⟩).mono ?_
      rintro e w4 ⟨rfl, rw4, ro4, ht4, hk4⟩
      have ht4 := Lib.hid ht4
      have hk4 := Lib.hid hk4
      go_wp2_with fail
      refine (ht4.out.ref fun rwr ror h => rcrash_any r t rwr ror M (c.n) (c.m) _ h HGT.out hM ⟨n1, n2⟩ ⟨m1, m2⟩).mono ?_
      rintro e w5 ⟨rfl, rw5, ro5, ht5, hk5⟩
      have ht5 := Lib.hid ht5
      have hk5 := Lib.hid hk5
      go_wp2_with fail
      go_ret
      rw [HST.out s, HST.out t, hraw]
      refine ⟨rfl, rw5, ro5, ht5.out, (Kept.below HBW.out).trans (Kept.trans ⟨hk4.out.os, hk4.out.tape, hk4.out.output, hk4.out.size, hk4.out.block, hk4.out.rw1, hk4.out.ro1⟩ hk5.out)⟩
    | false =>
      rw [hraw] at z7
      have a1 : 0 ≤ c.n % 7 := by omega
      have a2 : c.n % 7 < 7 := by omega
      have a3 : 0 ≤ c.m % 7 := by omega
      have a4 : c.m % 7 < 7 := by omega
      have hcn : fits64 c.n := ⟨n1, n2⟩
      have hcm : fits64 c.m := ⟨m1, m2⟩
      have HSM := Lib.hid fun a (ha : fits64 a) W => small_any a 7 W ha.1 ha.2 (by omega) (by omega)
      go_wp2_with fail
      go_quiet (fail)
      go_upto_region 5 with fail
      go_region_held3 (fun w' => w'.cell? ⟨w.heap.size, 3, none⟩ = some (.int .i64 c.n) ∧ w'.cell? ⟨w.heap.size, 4, none⟩ = some (.int .i64 c.m)) (go_keep)
        (first
        | (go_at_call 25; refine (HSM.out _ (by first | exact hcn | exact hcm) _).mono ?_; rintro e wd ⟨rfl, hwd⟩; subst hwd))
      all_goals
       go_wp2_with fail
       refine ((Two.below HT.out (by first | exact below_drewN (below_drewN (Below.refl _ _) _) _ | exact (below_drewN (Below.refl _ _) _).drew)).disk fun rwd rod h => crash_any d s rwd rod M (c.n % 7 - 1) (c.m % 7 - 1) _ h HGS.out hM ⟨by omega, by omega⟩ ⟨by omega, by omega⟩).mono ?_
       rintro e w4 ⟨rfl, rw4, ro4, ht4, hk4⟩
       have ht4 := Lib.hid ht4
       have hk4 := Lib.hid hk4
       go_wp2_with fail
       refine (ht4.out.ref fun rwr ror h => rcrash_any r t rwr ror M (c.n % 7 - 1) (c.m % 7 - 1) _ h HGT.out hM ⟨by omega, by omega⟩ ⟨by omega, by omega⟩).mono ?_
       rintro e w5 ⟨rfl, rw5, ro5, ht5, hk5⟩
       have ht5 := Lib.hid ht5
       have hk5 := Lib.hid hk5
       go_wp2_with fail
       go_ret
       rw [HST.out s, HST.out t, hraw]
       refine ⟨rfl, rw5, ro5, ht5.out, (Kept.below HBW.out).trans (Kept.trans ⟨hk4.out.os, hk4.out.tape, hk4.out.output, hk4.out.size, hk4.out.block, hk4.out.rw1, hk4.out.ro1⟩ hk5.out)⟩
end Go.Proofs.Ytlaodmpdngdhjaa
