/- The operations on the program's map of files. -/
import Derived.Test.YtlaodmpdngdhjaaDc
namespace Go.Proofs.Ytlaodmpdngdhjaa
set_option linter.unusedVariables false
set_option linter.unusedSimpArgs false
open Go.RowKit Go.Maps Go.WideMaps

theorem val_of {v : Value} {d : DataW Unit} {ps : List MemPlace} {b : ByteArray} (h : rdr v = some (d, ps)) (hd : d = dv b) : v = .string b := by
  obtain ⟨s, rfl, hz, _⟩ := plainElem_string_inv Try.underlying9 h
  subst hd
  have : b.data.toList = s.data.toList := by simpa [dv] using congrArg Prod.fst hz
  rw [ByteArray.ext (Array.toList_inj.1 this)]
theorem MapOf.look_ok {w : World} {v : Value} {F : List File} (h : MapOf w v F) {x : ByteArray} (hx : x.size ≤ maxLen) :
    (Instr.lookup 59 v (.string x) true).run Try.prog w = .ok (.tuple #[.string ((look F x).getD ⟨#[]⟩), .bool (look F x).isSome]) w := by
  rcases h with ⟨rfl, rfl⟩ | ⟨b, n, D, rfl, h1, h2⟩
  · exact Maps.look_nil true law9 Try.underlying59 (zero9 w) (key9 hx)
  · obtain ⟨u, ps, hrun, hu⟩ := h1.look_ok law9 Try.underlying59 (zero9 w) (zd := dv ⟨#[]⟩) (zp := []) (plainElem_string Try.underlying9 (Nat.zero_le _)) (key9 hx)
    rw [hrun]
    cases hl : look F x with
    | none =>
      have := agr_none h2 hl
      rw [val_of hu (atKey_of_not_has this _), this]
      rfl
    | some c =>
      have := agr_some h2 hl
      rw [val_of hu (this.2 _), this.1]
      rfl
theorem MapOf.look1 {w : World} {v : Value} {F : List File} (h : MapOf w v F) {x : ByteArray} (hx : x.size ≤ maxLen) :
    (Instr.lookup 59 v (.string x) false).run Try.prog w = .ok (.string ((look F x).getD ⟨#[]⟩)) w := by
  rcases h with ⟨rfl, rfl⟩ | ⟨b, n, D, rfl, h1, h2⟩
  · exact Maps.look_nil false law9 Try.underlying59 (zero9 w) (key9 hx)
  · obtain ⟨u, ps, hrun, hu⟩ := h1.lookup law9 Try.underlying59 (zero9 w) (zd := dv ⟨#[]⟩) (zp := []) (plainElem_string Try.underlying9 (Nat.zero_le _)) (key9 hx)
    rw [hrun]
    cases hl : look F x with
    | none => rw [val_of hu (atKey_of_not_has (agr_none h2 hl) _)]; rfl
    | some c => rw [val_of hu ((agr_some h2 hl).2 _)]; rfl
theorem MapOf.len {w : World} {v : Value} {F : List File} (h : MapOf w v F) (hn : KeysND F) (ty : TypeId) :
    (Builtin.len_ #[59] ty #[v]).run Try.prog w = .ok (.int .i64 (F.length : Int)) w := by
  rcases h with ⟨rfl, rfl⟩ | ⟨b, n, D, rfl, h1, h2⟩
  · exact Maps.len_nil Try.underlying59 ty
  · rw [h1.len Try.underlying59 ty, size_agr h1 h2 hn]
/-- The world is what it was but for the map's block. -/
theorem MapOf.put {w : World} {b : Nat} {F G : List File} (h : MapOf w (.map (some b)) F) (hn : KeysND F) (hl : F.length < maxLen) {x y : ByteArray} (hx : x.size ≤ maxLen) (hy : y.size ≤ maxLen)
    (hg : ∀ z, look G z = if z = x then some y else look F z) :
    ∃ w', (Instr.mapUpdate 59 (.map (some b)) (.string x) (.string y)).run Try.prog w = .ok () w' ∧ MapOf w' (.map (some b)) G ∧ w.grownBy w' (some b) ∧ w'.heap.size = w.heap.size := by
  rcases h with ⟨h, _⟩ | ⟨b', n, D, hb, h1, h2⟩
  · cases h
  · cases hb
    have hs := size_agr h1 h2 hn
    have h3 : w.ownsMap Try.prog 9 rdr b F.length D := by
      obtain ⟨es, clock, e1, e2, e3, e4⟩ := h1
      refine ⟨es, clock, e1, e2, ?_, e4⟩
      rw [e4] at hs
      rw [← hs, Maps.size_eq, length_sorted]
      simp
    obtain ⟨w', hrun, h4, h5⟩ := h3.store law9 Try.underlying59 hl (key9 hx) (plainElem_string (H := Unit) Try.underlying9 hy)
    refine ⟨w', hrun, .inr ⟨b, _, _, rfl, h4, agr_put h2 (h1.isMap) hg⟩, h5.grown, ?_⟩
    obtain ⟨_, _, _, _, _, rfl⟩ := h5
    simp [Go.ChangeMaps.setBlock]
theorem MapOf.del {w : World} {v : Value} {F G : List File} (h : MapOf w v F) {x : ByteArray} (hx : x.size ≤ maxLen)
    (hg : ∀ z, look G z = if z = x then none else look F z) (ty : TypeId) :
    ∃ w', (Builtin.delete_ #[59, 9] ty #[v, .string x]).run Try.prog w = .ok (.tuple #[]) w' ∧ MapOf w' v G ∧ (∀ b, v = .map (some b) → w.grownBy w' (some b)) ∧ (v = .map none → w' = w) ∧ w'.heap.size = w.heap.size := by
  rcases h with ⟨rfl, rfl⟩ | ⟨b, n, D, rfl, h1, h2⟩
  · refine ⟨w, Maps.drop_nil law9 Try.underlying59 (key9 hx) ty, .inl ⟨rfl, look_nil_all fun z => ?_⟩, (fun b e => by cases e), (fun _ => rfl), rfl⟩
    rw [hg]; split <;> rfl
  · obtain ⟨w', hrun, h4, h5⟩ := h1.drop law9 Try.underlying59 (key9 hx) ty
    refine ⟨w', hrun, .inr ⟨b, _, _, rfl, h4, agr_del h2 hg⟩, (fun b' e => by cases e; exact h5.grown), (fun e => by cases e), ?_⟩
    obtain ⟨_, _, _, _, _, rfl⟩ := h5
    simp [Go.ChangeMaps.setBlock]
theorem MapOf.kept {w w' : World} {v : Value} {F : List File} (h : MapOf w v F) (hk : ∀ b, v = .map (some b) → w'.heap[b]? = w.heap[b]?) : MapOf w' v F := by
  rcases h with ⟨rfl, rfl⟩ | ⟨b, n, D, rfl, ⟨es, clock, h1, h2, h3, h4⟩, h5⟩
  · exact .inl ⟨rfl, rfl⟩
  · exact .inr ⟨b, n, D, rfl, ⟨es, clock, by rw [hk b rfl]; exact h1, h2, h3, h4⟩, h5⟩
theorem MapOf.lt {w : World} {b : Nat} {F : List File} (h : MapOf w (.map (some b)) F) : b < w.heap.size := by
  rcases h with ⟨h, _⟩ | ⟨b', n, D, hb, h1, h2⟩
  · cases h
  · cases hb
    exact h1.lt
theorem MapOf.made (w : World) : MapOf (w.alloc (.map #[] 0)) (.map (some w.heap.size)) [] :=
  .inr ⟨_, _, _, rfl, World.ownsMap_made w Try.prog 9 rdr, fun x => rfl⟩
theorem MapOf.shape {w : World} {v : Value} {F : List File} (h : MapOf w v F) : v = .map none ∧ F = [] ∨ ∃ b, v = .map (some b) ∧ b < w.heap.size := by
  rcases h with h | ⟨b, n, D, rfl, h1, h2⟩
  · exact .inl h
  · exact .inr ⟨b, rfl, h1.lt⟩
end Go.Proofs.Ytlaodmpdngdhjaa
