/- The law DiskCrashPrefix. -/
import Derived.Test.YtlaodmpdngdhjaaEx
namespace Go.Proofs.Ytlaodmpdngdhjaa
set_option linter.unusedVariables false
set_option linter.unusedSimpArgs false
open Go.RowKit

theorem info25 : (Try.prog.info? 25).map (fun i => (i.zero, i.size, i.bytes)) = some (some (.pointer none), 1, 8) := by kernel_rfl
theorem ptrs_one (l : List Nat) : ∀ u ∈ l.map ptr, u.oneCell' = true := by
  intro u hu
  obtain ⟨x, _, rfl⟩ := List.mem_map.1 hu
  rfl
def FanC (base : World) (d : Nat) (ops : List Chg) (cp : List Nat) (v : Value) (w : World) (c : Nat) (w1 : World) : Prop :=
  ∃ rw ro K rwc, FanIs base d ops cp v w rw ro K ∧ DiskAt w1 c (SO ops) rwc ro ∧ (∀ b, rwc b → w.heap.size ≤ b) ∧ Below w.heap.size w w1
/-- What is left when the disk has crashed. -/
def FanE (base : World) (d : Nat) (s : St) (ops : List Chg) (cp : List Nat) (w : World) : Prop :=
  (∃ rw ro, DiskAt w d s rw ro) ∧ (∀ j c, cp[j]? = some c → ∃ rwj roj, DiskAt w c (SO (ops.take j)) rwj roj) ∧ Below base.heap.size base w
section
variable {base w w1 w2 w3 : World} {d c M : Nat} {ops ops' : List Chg} {cp : List Nat} {v v' : Value} {s : St}
theorem Fan.copy (h : Fan base d ops cp v w) (gs : Good (SO ops) M) (hM : M ≤ 500000) :
    Calls Try.prog 43 #[ptr d] w fun e w' => e = .returned (ptr w.heap.size) ∧ Hid (FanC base d ops cp v w w.heap.size w') := by
  obtain ⟨rw, ro, K, h⟩ := h
  refine (copy_any d (SO ops) rw ro M w h.dk gs hM).mono ?_
  rintro e w' ⟨rfl, rwc, h1, h2, h3⟩
  exact ⟨rfl, rw, ro, K, rwc, h, h1, h2, h3⟩
theorem FanC.row (h : FanC base d ops cp v w c w1) : w1.ownsRow base.heap.size 25 1 v cp.length (cp.map ptr) := by
  obtain ⟨rw, ro, K, rwc, h, h1, h2, h3⟩ := h
  exact (h.below h3).row
theorem FanC.size (h : FanC base d ops cp v w c w1) : base.heap.size ≤ w1.heap.size := by
  obtain ⟨rw, ro, K, rwc, h, h1, h2, h3⟩ := h
  exact Nat.le_trans h.bw.size h3.size
theorem FanC.push (h : FanC base d ops cp v w c w1) (hl : cp.length = ops.length) (hb2 : Below w1.heap.size w1 w2) (hg : w2.grownBy w3 v.ownBlock) (ho : w3.ownsRow base.heap.size 25 1 v' (cp.length + 1) (cp.map ptr ++ [ptr c]))
    (hv : v'.ownBlock = v.ownBlock ∨ v'.ownBlock = some w2.heap.size) : Fan base d ops (cp ++ [c]) v' w3 := by
  obtain ⟨rw, ro, K, rwc, h, h1, h2, h3⟩ := h
  exact h.push hl h1 h2 h3 hb2 hg ho hv
theorem Fan.pending (h : Fan base d ops cp v w) : Calls Try.prog 39 #[ptr d] w fun e w' => e = .returned (.int .i64 ops.length) ∧ w' = w := by
  obtain ⟨rw, ro, K, h⟩ := h
  exact pending_any d (SO ops) rw ro w h.dk
theorem Fan.row (h : Fan base d ops cp v w) : w.ownsRow base.heap.size 25 1 v cp.length (cp.map ptr) := by
  obtain ⟨rw, ro, K, h⟩ := h
  exact h.row
theorem Fan.crash (h : Fan base d ops cp v w) (gs : Good (SO ops) M) (hM : M ≤ 500000) (n : Nat) (hn : n ≤ 1000000) :
    Calls Try.prog 28 #[ptr d, .int .i64 n, .int .i64 0] w fun e w' => e = .returned (.tuple #[]) ∧ Hid (FanE base d ((SO ops).crash n 0) ops cp w') := by
  obtain ⟨rw, ro, K, h⟩ := h
  refine (crash_any d (SO ops) rw ro M n 0 w h.dk gs hM (by omega) (by omega)).mono ?_
  rintro e w' ⟨rfl, rw', ro', h1, hk⟩
  refine ⟨rfl, ⟨rw', ro', h1⟩, fun j c hc => ?_, hk.toBelow h.bl h.bw⟩
  obtain ⟨rwj, roj, g1, g2⟩ := h.cs j c hc
  exact ⟨rwj, roj, g1.kept (fun b hb => hk.block b (h.kk b (g2 b hb)).1 (h.kk b (g2 b hb)).2) hk.size⟩
theorem FanE.below (h : FanE base d s ops cp w) (hb : Below w.heap.size w w1) : FanE base d s ops cp w1 := by
  obtain ⟨⟨rw, ro, h1⟩, h2, h3⟩ := h
  refine ⟨⟨rw, ro, h1.below hb⟩, fun j c hc => ?_, h3.trans (hb.mono h3.size)⟩
  obtain ⟨rwj, roj, g1⟩ := h2 j c hc
  exact ⟨rwj, roj, g1.below hb⟩
theorem FanE.conts (h : FanE base d s ops cp w) (gs : Good s M) (hM : M ≤ 500000) :
    Calls Try.prog 38 #[ptr d] w fun e w' => ∃ v, e = .returned v ∧ RowS w' v (conts s) ∧ Below w.heap.size w w' := by
  obtain ⟨⟨rw, ro, h1⟩, h2, h3⟩ := h
  refine (contents_any d s rw ro M w h1 gs hM h1.names_size).mono ?_
  rintro e w' ⟨v, rfl, h4, h5, _⟩
  exact ⟨v, rfl, h4, h5⟩
theorem FanE.copy (h : FanE base d s ops cp w) {j : Nat} (hc : cp[j]? = some c) (gs : Good (SO (ops.take j)) M) (hM : M ≤ 500000) :
    Calls Try.prog 38 #[ptr c] w fun e w' => ∃ v, e = .returned v ∧ RowS w' v (Ytlaodmpdngdhjaa.conts (SO (ops.take j))) ∧ Below w.heap.size w w' := by
  obtain ⟨_, h2, h3⟩ := h
  obtain ⟨rwj, roj, g1⟩ := h2 j c hc
  refine (contents_any c _ rwj roj M w g1 gs hM g1.names_size).mono ?_
  rintro e w' ⟨v, rfl, h4, h5, _⟩
  exact ⟨v, rfl, h4, h5⟩
theorem FanE.pend (h : FanE base d s ops cp w) {j : Nat} (hc : cp[j]? = some c) (hj : j ≤ ops.length) :
    Calls Try.prog 39 #[ptr c] w fun e w' => e = .returned (.int .i64 j) ∧ w' = w := by
  obtain ⟨_, h2, h3⟩ := h
  obtain ⟨rwj, roj, g1⟩ := h2 j c hc
  have := pending_any c _ rwj roj w g1
  rw [show (SO (ops.take j)).ops.length = j by show (ops.take j).length = j; rw [List.length_take, Nat.min_eq_left hj]] at this
  exact this
theorem Fresh.fan {w w1 : World} {d : Nat} (h : Fresh w d (St.new 2000) w1) : Fan w d [] [] (.slice none 0 0) w1 := by
  obtain ⟨rw, ro, h1, h2, h3⟩ := h
  exact ⟨rw, ro, fun _ => False, h1, h2, h3, fun b h => h.elim, fun j c hc => by simp at hc, World.ownsRow_nil _ _ _ _, fun b hb => by cases hb⟩
theorem prow_get {base n : Nat} (h : w.ownsRow base 25 1 v n (cp.map ptr)) {j : Nat} (hc : cp[j]? = some c) (hj : j < n) : ∃ g k, v = .slice (some ⟨g, 0, none⟩) n k ∧ w.cell? ⟨g, j, none⟩ = some (ptr c) := by
  obtain ⟨hlen, hh⟩ := h
  rcases hh with ⟨_, h⟩ | ⟨g, cap, cur, rfl, hg, hblk, hn, hcap, hsz, htk⟩
  · omega
  · refine ⟨g, cap, rfl, ?_⟩
    rw [(row_cells hblk).1 j]
    have h1 : (cp.map ptr)[j]? = some (ptr c) := by rw [List.getElem?_map, hc]; rfl
    rw [← htk, Nat.mul_one] at h1
    rw [List.getElem?_take_of_lt hj] at h1
    simpa using h1
end
end Go.Proofs.Ytlaodmpdngdhjaa
