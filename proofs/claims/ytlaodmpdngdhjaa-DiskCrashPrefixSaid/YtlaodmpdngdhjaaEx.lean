/- A disk and copies of it after each change. -/
import Derived.Test.YtlaodmpdngdhjaaEv
import Derived.Test.YtlaodmpdngdhjaaEq
namespace Go.Proofs.Ytlaodmpdngdhjaa
set_option linter.unusedVariables false
set_option linter.unusedSimpArgs false
open Go.RowKit

def SO (ops : List Chg) : St := { St.new 2000 with ops := ops }
theorem push_so (ops : List Chg) (g : Chg) : (SO ops).push g = SO (ops ++ [g]) := push_left (s := SO ops) rfl
theorem step_so (c : Cl) (ops : List Chg) (hk : c.kind % 6 = 0 ∨ c.kind % 6 = 1 ∨ c.kind % 6 = 2) : (∃ g, (step c (SO ops)).1 = SO (ops ++ [g])) ∨ (step c (SO ops)).1 = SO ops := by
  unfold step
  rcases hk with h | h | h
  · rw [if_pos h]
    unfold St.append
    rw [if_neg (by show ¬ (false = true); decide)]
    split
    · exact .inr rfl
    · split
      · exact .inr rfl
      · exact .inl ⟨_, push_so _ _⟩
  · rw [if_neg (by omega), if_pos h]
    unfold St.rename
    rw [if_neg (by show ¬ (false = true); decide)]
    split
    · exact .inr rfl
    · split
      · exact .inr rfl
      · exact .inl ⟨_, push_so _ _⟩
  · rw [if_neg (by omega), if_neg (by omega), if_pos h]
    unfold St.remove
    rw [if_neg (by show ¬ (false = true); decide)]
    split
    · exact .inr rfl
    · split
      · exact .inr rfl
      · exact .inl ⟨_, push_so _ _⟩
theorem crash_so (ops : List Chg) (n : Nat) (hn : n ≤ ops.length) : conts ((SO ops).crash n 0) = conts (SO (ops.take n)) := by
  apply conts_same
  · show (((SO ops).crash n 0).ops).foldl appl ((SO ops).crash n 0).files = (ops.take n).foldl appl []
    have hk : (SO ops).keep n = n := by
      show min (n : Int).toNat ops.length = n
      omega
    unfold St.crash
    rw [hk]
    dsimp only
    have hf : ∀ t : List Chg, t = [] → List.foldl appl (List.foldl appl (SO ops).files (List.take n (SO ops).ops ++ t)) [] = List.foldl appl [] (ops.take n) := by
      rintro t rfl
      rw [List.append_nil]
      rfl
    apply hf
    cases (SO ops).ops[n]? with
    | none => rfl
    | some c => cases c <;> rfl
  · rfl
structure FanIs (base : World) (d : Nat) (ops : List Chg) (cp : List Nat) (v : Value) (w : World) (rw ro K : Nat → Prop) : Prop where
  dk : DiskAt w d (SO ops) rw ro
  bl : ∀ b, rw b → base.heap.size ≤ b
  bw : Below base.heap.size base w
  kk : ∀ b, K b → b < w.heap.size ∧ ¬ rw b
  cs : ∀ j c, cp[j]? = some c → ∃ rwj roj, DiskAt w c (SO (ops.take j)) rwj roj ∧ ∀ b, rwj b ∨ roj b → K b
  row : w.ownsRow base.heap.size 25 1 v cp.length (cp.map ptr)
  ap : ∀ b, v.ownBlock = some b → ¬ rw b ∧ ¬ ro b ∧ ¬ K b
/-- The disk, and a copy of it after each change, kept whole. -/
def Fan (base : World) (d : Nat) (ops : List Chg) (cp : List Nat) (v : Value) (w : World) : Prop := ∃ rw ro K, FanIs base d ops cp v w rw ro K
section
variable {base w w1 w2 w3 : World} {d M : Nat} {ops ops' : List Chg} {cp : List Nat} {v v' : Value} {rw ro K rw' ro' : Nat → Prop}
theorem FanIs.kept (h : FanIs base d ops cp v w rw ro K) (hd : DiskAt w1 d (SO ops') rw' ro') (hk : Kept w w1 rw ro rw' ro') (ht : ∀ j c, cp[j]? = some c → ops'.take j = ops.take j) :
    FanIs base d ops' cp v w1 rw' ro' K := by
  refine ⟨hd, fun b hb => (hk.rw1 b hb).elim (h.bl b) fun hq => Nat.le_trans h.bw.size hq, hk.toBelow h.bl h.bw, fun b hb => ?_, fun j c hc => ?_, row_kept h.row fun g e => ?_, fun b hb => ?_⟩
  · have h1 := h.kk b hb
    exact ⟨Nat.lt_of_lt_of_le h1.1 hk.size, fun hq => (hk.rw1 b hq).elim h1.2 fun hq => by omega⟩
  · obtain ⟨rwj, roj, h1, h2⟩ := h.cs j c hc
    exact ⟨rwj, roj, by rw [ht j c hc]; exact h1.kept (fun b hb => hk.block b (h.kk b (h2 b hb)).1 (h.kk b (h2 b hb)).2) hk.size, h2⟩
  · exact hk.block g (h.row.lt g e).2 (h.ap g e).1
  · have h1 := h.ap b hb
    have h2 := (h.row.lt b hb).2
    exact ⟨fun hq => (hk.rw1 b hq).elim h1.1 fun hq => by omega, fun hq => (hk.ro1 b hq).elim h1.2.1 fun hq => by omega, h1.2.2⟩
theorem FanIs.below (h : FanIs base d ops cp v w rw ro K) (hb : Below w.heap.size w w1) : FanIs base d ops cp v w1 rw ro K := by
  refine ⟨h.dk.below hb, h.bl, h.bw.trans (hb.mono h.bw.size), fun b hk => ⟨Nat.lt_of_lt_of_le (h.kk b hk).1 hb.size, (h.kk b hk).2⟩, fun j c hc => ?_, row_kept h.row fun g e => hb.block g (h.row.lt g e).2, h.ap⟩
  obtain ⟨rwj, roj, h1, h2⟩ := h.cs j c hc
  exact ⟨rwj, roj, h1.below hb, h2⟩
theorem Fan.below (h : Fan base d ops cp v w) (hb : Below w.heap.size w w1) : Fan base d ops cp v w1 := by
  obtain ⟨rw, ro, K, h⟩ := h
  exact ⟨rw, ro, K, h.below hb⟩
theorem Fan.toBelow (h : Fan base d ops cp v w) : Below base.heap.size base w := by
  obtain ⟨rw, ro, K, h⟩ := h
  exact h.bw
/-- do, beside a new reference. -/
theorem Fan.do_ (h : Fan base d ops cp v w) (r : Nat) (hr : RefAt w1 r (St.new 0) (fun b => b = r) (fun _ => False)) (hrs : r = w.heap.size) (hb : Below w.heap.size w w1) (gs : Good (SO ops) M) (hM : M ≤ 500000)
    (c : Cl) (hok : c.ok) (hd : c.data.size ≤ 200) (hn : c.name.size ≤ 100) (hs : (step c (SO ops)).1 = SO ops') (ht : ∀ j c, cp[j]? = some c → ops'.take j = ops.take j) :
    Calls Try.prog 36 #[ptr d, ptr r, .agg c.cells] w1 fun e w2 => (∃ x, e = .returned (.bool x)) ∧ Hid (Fan base d ops' cp v w2) := by
  obtain ⟨rw, ro, K, h⟩ := h
  have hlt := h.dk.ltro
  have h1 : Two w1 d (SO ops) r (St.new 0) (fun b => rw b ∨ b = r) (fun b => ro b ∨ False) := ⟨rw, ro, _, _, h.dk.below hb, hr, fun b hq => ⟨fun e => by have := hlt b (.inl hq); omega, id⟩, fun b e hq => by have := hlt b (.inr hq); omega, fun b => Iff.rfl, fun b => Iff.rfl⟩
  refine (do_any d r (SO ops) (St.new 0) _ _ M c w1 h1 gs ((St.new_good 0 (by decide)).mono (Nat.zero_le _)) hM hok hd hn).mono ?_
  rintro e w2 ⟨rfl, rw', ro', ⟨rwd, rod, rwr, ror, g1, g2, g3, g4, g5, g6⟩, hk⟩
  refine ⟨⟨_, rfl⟩, rwd, rod, K, h.kept (by rw [← hs]; exact g1) ⟨hk.os.trans hb.os, hk.tape.trans hb.tape, hk.output.trans hb.output, Nat.le_trans hb.size hk.size, fun b hb1 hb2 => ?_, fun b hq => ?_, fun b hq => ?_⟩ ht⟩
  · rw [hk.block b (Nat.lt_of_lt_of_le hb1 hb.size) (fun hq => hq.elim hb2 fun e => by omega), hb.block b hb1]
  · rcases hk.rw1 b ((g5 b).2 (.inl hq)) with (h2 | h2) | h2
    · exact .inl h2
    · exact .inr (by omega)
    · exact .inr (Nat.le_trans hb.size h2)
  · rcases hk.ro1 b ((g6 b).2 (.inl hq)) with (h2 | h2) | h2
    · exact .inl h2
    · exact h2.elim
    · exact .inr (Nat.le_trans hb.size h2)
/-- A copy, pushed onto the row. -/
theorem FanIs.push {c : Nat} {rwc : Nat → Prop} (h : FanIs base d ops cp v w rw ro K) (hl : cp.length = ops.length) (hc : DiskAt w1 c (SO ops) rwc ro) (hcb : ∀ b, rwc b → w.heap.size ≤ b) (hb1 : Below w.heap.size w w1)
    (hb2 : Below w1.heap.size w1 w2) (hg : w2.grownBy w3 v.ownBlock) (ho : w3.ownsRow base.heap.size 25 1 v' (cp.length + 1) (cp.map ptr ++ [ptr c])) (hv : v'.ownBlock = v.ownBlock ∨ v'.ownBlock = some w2.heap.size) :
    Fan base d ops (cp ++ [c]) v' w3 := by
  have h2 := (h.below hb1).below hb2
  have hc2 := hc.below hb2
  have hlt := h.dk.ltro
  have hclt := hc.ltro
  have hne : ∀ b, (rw b ∨ ro b ∨ K b ∨ rwc b) → b < w2.heap.size ∧ ¬ some b = v.ownBlock := fun b hb => by
    have s1 := hb1.size
    have s2 := hb2.size
    refine ⟨?_, fun e => ?_⟩
    · rcases hb with hq | hq | hq | hq
      · have := hlt b (.inl hq); omega
      · have := hlt b (.inr hq); omega
      · have := (h.kk b hq).1; omega
      · have := hclt b (.inl hq); omega
    · have h3 := h.ap b e.symm
      have h4 := (h.row.lt b e.symm).2
      rcases hb with hq | hq | hq | hq
      · exact h3.1 hq
      · exact h3.2.1 hq
      · exact h3.2.2 hq
      · have := hcb b hq; omega
  have hkp : ∀ b, (rw b ∨ ro b ∨ K b ∨ rwc b) → w3.heap[b]? = w2.heap[b]? := fun b hb => hg.block b (hne b hb).1 (hne b hb).2
  have s3 := hg.size
  refine ⟨rw, ro, fun b => K b ∨ rwc b ∨ ro b, h2.dk.kept (fun b hb => hkp b (hb.elim .inl fun h => .inr (.inl h))) s3, h.bl, h2.bw.grown hg h2.bw.size (fun k hk => (h.row.lt k hk).1), fun b hb => ?_, fun j x hx => ?_, by rw [List.length_append, List.map_append]; exact ho, fun b hb => ?_⟩
  · have h3 : rw b ∨ ro b ∨ K b ∨ rwc b := by rcases hb with hb | hb | hb <;> simp [hb]
    refine ⟨Nat.lt_of_lt_of_le (hne b h3).1 s3, fun hq => ?_⟩
    rcases hb with hb | hb | hb
    · exact (h.kk b hb).2 hq
    · have := hcb b hb
      have := hlt b (.inl hq)
      omega
    · obtain ⟨vd, vf, vp, fuse, fcs, hD⟩ := h.dk
      exact hD.dis b hq hb
  · by_cases hj : j < cp.length
    · rw [List.getElem?_append_left hj] at hx
      obtain ⟨rwj, roj, g1, g2⟩ := h2.cs j x hx
      exact ⟨rwj, roj, g1.kept (fun b hb => hkp b (.inr (.inr (.inl (g2 b hb))))) s3, fun b hb => .inl (g2 b hb)⟩
    · have hj2 : j < (cp ++ [c]).length := (List.getElem?_eq_some_iff.1 hx).1
      rw [List.length_append, List.length_singleton] at hj2
      obtain rfl : j = cp.length := by omega
      rw [List.getElem?_append_right (Nat.le_refl _), Nat.sub_self] at hx
      cases hx
      rw [hl, List.take_length]
      exact ⟨rwc, ro, hc2.kept (fun b hb => hkp b (hb.elim (fun h => .inr (.inr (.inr h))) fun h => .inr (.inl h))) s3, fun b hb => hb.elim (fun h => .inr (.inl h)) fun h => .inr (.inr h)⟩
  · rcases hv with e | e
    · rw [e] at hb
      refine ⟨fun hq => (hne b (.inl hq)).2 hb.symm, fun hq => (hne b (.inr (.inl hq))).2 hb.symm, fun hq => ?_⟩
      rcases hq with hq | hq | hq
      · exact (hne b (.inr (.inr (.inl hq)))).2 hb.symm
      · exact (hne b (.inr (.inr (.inr hq)))).2 hb.symm
      · exact (hne b (.inr (.inl hq))).2 hb.symm
    · rw [e] at hb
      cases hb
      refine ⟨fun hq => ?_, fun hq => ?_, fun hq => ?_⟩
      · exact absurd (hne _ (.inl hq)).1 (Nat.lt_irrefl _)
      · exact absurd (hne _ (.inr (.inl hq))).1 (Nat.lt_irrefl _)
      · rcases hq with hq | hq | hq
        · exact absurd (hne _ (.inr (.inr (.inl hq)))).1 (Nat.lt_irrefl _)
        · exact absurd (hne _ (.inr (.inr (.inr hq)))).1 (Nat.lt_irrefl _)
        · exact absurd (hne _ (.inr (.inl hq))).1 (Nat.lt_irrefl _)
end
end Go.Proofs.Ytlaodmpdngdhjaa
