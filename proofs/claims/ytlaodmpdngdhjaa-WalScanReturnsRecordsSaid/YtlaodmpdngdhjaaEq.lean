/- The law DiskSyncKeeps. -/
import Derived.Test.YtlaodmpdngdhjaaEp
import Derived.Test.YtlaodmpdngdhjaaDt
namespace Go.Proofs.Ytlaodmpdngdhjaa
set_option linter.unusedVariables false
set_option linter.unusedSimpArgs false
open Go.RowKit Go.Maps Go.WideMaps

theorem keys_size {w : World} {v : Value} {F : List File} (h : MapOf w v F) {p : File} (hp : p ∈ F) : p.1.size ≤ maxLen := by
  rcases h with ⟨_, rfl⟩ | ⟨b, n, D, rfl, h1, h2⟩
  · simp at hp
  · obtain ⟨es, rfl, hk⟩ := h1.keysOf
    have hs : (look F p.1).isSome = true := look_mem.2 (List.mem_map.2 ⟨p, hp, rfl⟩)
    cases hl : look F p.1 with
    | none => rw [hl] at hs; cases hs
    | some c =>
      have h3 := (agr_some h2 hl).1
      obtain ⟨q, hq, he⟩ := List.any_eq_true.1 h3
      have e := WideAt.sameKey_eq he
      obtain ⟨u, hu⟩ := hk q hq
      obtain ⟨x, _, h4, h5⟩ := Maps.keyOf_str Try.underlying9 hu
      rw [e] at h4
      have h6 : p.1.data.toList = x := by simpa [lk] using h4
      have h7 : p.1.size = p.1.data.toList.length := by rw [Array.length_toList]; rfl
      rw [h7, h6]
      exact h5
theorem DiskAt.names_size {w : World} {d : Nat} {s : St} {rw ro : Nat → Prop} (h : DiskAt w d s rw ro) : ∀ x ∈ s.names, x.size ≤ maxLen := by
  intro x hx
  obtain ⟨p, hp, rfl⟩ := names_keys hx
  obtain ⟨vd, vf, vp, fuse, fcs, h⟩ := h
  exact keys_size h.mapf hp
section
variable {w w1 w2 : World} {d r : Nat} {s t : St} {M : Nat}
theorem TwoF.contents (h : TwoF w d s r t w1) (gs : Good s M) (hM : M ≤ 500000) :
    Calls Try.prog 38 #[ptr d] w1 fun e w2 => ∃ v, e = .returned v ∧ RowS w2 v (conts s) ∧ Below w1.heap.size w1 w2 ∧ (∀ b, v.ownBlock = some b → w1.heap.size ≤ b) := by
  obtain ⟨rw, ro, rwd, rod, rwr, ror, hd, _⟩ := h.two
  exact contents_any d s rwd rod M w1 hd gs hM hd.names_size
theorem TwoF.pending (h : TwoF w d s r t w1) : Calls Try.prog 39 #[ptr d] w1 fun e w2 => e = .returned (.int .i64 s.ops.length) ∧ w2 = w1 := by
  obtain ⟨rw, ro, h2⟩ := h.two
  exact h2.pending
theorem TwoF.sync (h : TwoF w d s r t w1) (gs : Good s M) (hM : M ≤ 500000) : Calls Try.prog 32 #[ptr d] w1 fun e w2 => e = .returned (.int .i64 s.sync.2) ∧ Hid (TwoF w d s.sync.1 r t w2) :=
  h.call fun rw ro h2 => h2.disk fun rwd rod h3 => sync_any d s rwd rod M w1 h3 gs hM
theorem TwoF.fuse (h : TwoF w d s r t w1) (gs : Good s M) (hM : M ≤ 500000) {n : Int} (hn : fits64 n) : Calls Try.prog 26 #[ptr d, .int .i64 n] w1 fun e w2 => e = .returned (.tuple #[]) ∧ Hid (TwoF w d (s.fuse n) r t w2) :=
  h.call fun rw ro h2 => h2.disk fun rwd rod h3 => fuse_any d s rwd rod M n w1 h3 gs hM hn
theorem TwoF.crash (h : TwoF w d s r t w1) (gs : Good s M) (hM : M ≤ 500000) {k b : Int} (hk : fits64 k) (hb : fits64 b) : Calls Try.prog 28 #[ptr d, .int .i64 k, .int .i64 b] w1 fun e w2 => e = .returned (.tuple #[]) ∧ Hid (TwoF w d (s.crash k b) r t w2) :=
  h.call fun rw ro h2 => h2.disk fun rwd rod h3 => crash_any d s rwd rod M k b w1 h3 gs hM hk hb
theorem TwoF.do2 (h : TwoF w d s r t w1) (gs : Good s M) (gt : Good t M) (hM : M ≤ 500000) (c : Cl) (hok : c.ok) (hd : c.data.size ≤ 200) (hn : c.name.size ≤ 100) :
    Calls Try.prog 36 #[ptr d, ptr r, .agg c.cells] w1 fun e w2 => e = .returned (.bool ((step c s).2 == (step c t).2)) ∧ Hid (TwoF w d (step c s).1 r (step c t).1 w2) :=
  h.call fun rw ro h2 => do_any d r s t rw ro M c w1 h2 gs gt hM hok hd hn
end
/-- The same, with one more row that is left alone. -/
def TwoP (w : World) (v : Value) (L : List ByteArray) (d : Nat) (s : St) (r : Nat) (t : St) (w' : World) : Prop :=
  ∃ rw ro, Two w' d s r t rw ro ∧ (∀ b, rw b → w.heap.size ≤ b) ∧ Below w.heap.size w w' ∧ RowS w' v L ∧ (L ≠ [] → ∀ b, v.ownBlock = some b → ¬ rw b)
theorem RowS.kept {w w' : World} {v : Value} {L : List ByteArray} (h : RowS w v L) (hk : ∀ b, v.ownBlock = some b → b < w.heap.size → w'.heap[b]? = w.heap[b]?) (hs : w.heap.size ≤ w'.heap.size) : RowS w' v L := by
  rcases h with h | ⟨g, o, c, rfl, h2, h3⟩
  · exact .inl h
  · exact .inr ⟨g, o, c, rfl, Nat.lt_of_lt_of_le h2 hs, fun j x hj => by rw [World.cell?_of_block (hk g rfl h2)]; exact h3 j x hj⟩
theorem RowS.own_lt {w : World} {v : Value} {L : List ByteArray} (h : RowS w v L) (hL : L ≠ []) : ∃ g, v.ownBlock = some g ∧ g < w.heap.size := by
  rcases h with ⟨h, _⟩ | ⟨g, o, c, rfl, h2, h3⟩
  · exact absurd h hL
  · exact ⟨g, rfl, h2⟩
theorem TwoP.call {w w1 : World} {v0 : Value} {L : List ByteArray} {d r : Nat} {s s' t t' : St} {f : Nat} {args : Array Value} {v : Value} (h : TwoP w v0 L d s r t w1) (hc : ∀ rw ro, Two w1 d s r t rw ro → Calls Try.prog f args w1 (TMeth w1 d s' r t' rw ro v)) :
    Calls Try.prog f args w1 fun e w2 => e = .returned v ∧ Hid (TwoP w v0 L d s' r t' w2) := by
  obtain ⟨rw, ro, h1, h2, h3, h4, h5⟩ := h
  refine (hc rw ro h1).mono ?_
  rintro e w2 ⟨rfl, rw', ro', h6, h7⟩
  have a1 : ∀ b, rw' b → w.heap.size ≤ b := fun b hb => (h7.rw1 b hb).elim (h2 b) fun hq => Nat.le_trans h3.size hq
  by_cases hL : L = []
  · obtain ⟨a, c, e⟩ := h4.shape
    exact ⟨rfl, rw', ro', h6, a1, h7.toBelow h2 h3, .inl ⟨hL, a, c, by rw [e, hL]; rfl⟩, fun h => absurd hL h⟩
  · obtain ⟨g, hg, hgl⟩ := h4.own_lt hL
    refine ⟨rfl, rw', ro', h6, a1, h7.toBelow h2 h3, h4.kept (fun b e hb => h7.block b hb (h5 hL b e)) h7.size, fun _ b e hb => ?_⟩
    rcases h7.rw1 b hb with h | h
    · exact h5 hL b e h
    · rw [hg] at e
      cases e
      omega
theorem TwoP.below {w w1 w2 : World} {v0 : Value} {L : List ByteArray} {d r : Nat} {s t : St} (h : TwoP w v0 L d s r t w1) (hb : Below w1.heap.size w1 w2) : TwoP w v0 L d s r t w2 := by
  obtain ⟨rw, ro, h1, h2, h3, h4, h5⟩ := h
  exact ⟨rw, ro, h1.below hb, h2, h3.trans (hb.mono h3.size), h4.below hb, h5⟩
theorem TwoP.toF {w w1 : World} {v0 : Value} {L : List ByteArray} {d r : Nat} {s t : St} (h : TwoP w v0 L d s r t w1) : TwoF w d s r t w1 := by
  obtain ⟨rw, ro, h1, h2, h3, h4, h5⟩ := h
  exact ⟨rw, ro, h1, h2, h3⟩
theorem TwoP.row {w w1 : World} {v0 : Value} {L : List ByteArray} {d r : Nat} {s t : St} (h : TwoP w v0 L d s r t w1) : RowS w1 v0 L := by
  obtain ⟨rw, ro, h1, h2, h3, h4, h5⟩ := h
  exact h4
theorem TwoF.toP {w w1 w2 : World} {v0 : Value} {L : List ByteArray} {d r : Nat} {s t : St} (h : TwoF w d s r t w1) (hb : Below w1.heap.size w1 w2) (hr : RowS w2 v0 L) (hv : ∀ b, v0.ownBlock = some b → w1.heap.size ≤ b) : TwoP w v0 L d s r t w2 := by
  obtain ⟨rw, ro, h1, h2, h3⟩ := h
  refine ⟨rw, ro, h1.below hb, h2, h3.trans (hb.mono h3.size), hr, fun _ b e hq => ?_⟩
  have := hv b e
  have := h1.lt b (.inl hq)
  omega
theorem TwoP.do2 {w w1 : World} {v0 : Value} {L : List ByteArray} {d r : Nat} {s t : St} {M : Nat} (h : TwoP w v0 L d s r t w1) (gs : Good s M) (gt : Good t M) (hM : M ≤ 500000) (c : Cl) (hok : c.ok) (hd : c.data.size ≤ 200) (hn : c.name.size ≤ 100) :
    Calls Try.prog 36 #[ptr d, ptr r, .agg c.cells] w1 fun e w2 => e = .returned (.bool ((step c s).2 == (step c t).2)) ∧ Hid (TwoP w v0 L d (step c s).1 r (step c t).1 w2) :=
  h.call fun rw ro h2 => do_any d r s t rw ro M c w1 h2 gs gt hM hok hd hn
theorem TwoP.crash {w w1 : World} {v0 : Value} {L : List ByteArray} {d r : Nat} {s t : St} {M : Nat} (h : TwoP w v0 L d s r t w1) (gs : Good s M) (hM : M ≤ 500000) {k b : Int} (hk : fits64 k) (hb : fits64 b) :
    Calls Try.prog 28 #[ptr d, .int .i64 k, .int .i64 b] w1 fun e w2 => e = .returned (.tuple #[]) ∧ Hid (TwoP w v0 L d (s.crash k b) r t w2) :=
  h.call fun rw ro h2 => h2.disk fun rwd rod h3 => crash_any d s rwd rod M k b w1 h3 gs hM hk hb
theorem conts_len (s : St) : (conts s).length ≤ s.names.length * 2 := by
  unfold conts
  split
  · have := cont_len s s.names.length
    rw [List.take_length] at this
    omega
  · exact Nat.zero_le _
/-- Calls that only push change neither the durable files nor the fuse. -/
theorem step_push {c : Cl} {s : St} (hk : c.kind % 6 < 3) (hl : s.left = -1) : (step c s).1.files = s.files ∧ (step c s).1.left = -1 := by
  have hp : ∀ ch, (s.push ch).files = s.files ∧ (s.push ch).left = -1 := fun ch => by rw [push_left hl]; exact ⟨rfl, hl⟩
  unfold step
  split
  · unfold St.append
    split
    · exact ⟨rfl, hl⟩
    · split
      · exact ⟨rfl, hl⟩
      · split
        · exact ⟨rfl, hl⟩
        · exact hp _
  · split
    · unfold St.rename
      split
      · exact ⟨rfl, hl⟩
      · split
        · exact ⟨rfl, hl⟩
        · split
          · exact ⟨rfl, hl⟩
          · exact hp _
    · split
      · unfold St.remove
        split
        · exact ⟨rfl, hl⟩
        · split
          · exact ⟨rfl, hl⟩
          · split
            · exact ⟨rfl, hl⟩
            · exact hp _
      · omega
theorem conts_same {s t : St} (h1 : s.all = t.all) (h2 : s.off = t.off) : conts s = conts t := by
  have hn : s.names = t.names := by unfold St.names; rw [h1, h2]
  have hr : ∀ x, s.read x = t.read x := fun x => by
    unfold St.read
    rw [h2]
    split
    · rfl
    · split
      · rfl
      · by_cases hh : t.has x
        · have hs : s.has x := by unfold St.has at *; rw [h1]; exact hh
          rw [if_neg (by simpa using hs), if_neg (by simpa using hh), h1]
        · have hs : ¬ s.has x := by unfold St.has at *; rw [h1]; exact hh
          rw [if_pos hs, if_pos hh]
  unfold conts
  rw [hn]
  simp only [hr]
/-- After Sync of a disk without a fuse. -/
theorem sync_state {s : St} (h1 : s.off = false) (h2 : s.left = -1) : s.sync = ({ s with files := s.all, ops := [] }, 0) := by
  unfold St.sync
  rw [if_neg (by rw [h1]; decide)]
  unfold St.spend
  rw [if_neg (by show ¬ 0 < s.left; omega)]
end Go.Proofs.Ytlaodmpdngdhjaa
