import Derived.Test.YtpcdbgfhlghocaaProg
import Derived.Test.YtpcdbgfhlghocaaTp
import Derived.WalkKit
import Derived.WalkSpells
import Derived.WalkLawsBesides
namespace Go.Proofs.Ytpcdbgfhlghocaa
set_option linter.unusedVariables false
set_option linter.unusedSimpArgs false
open Go.RowKit
theorem ne_list {s : ByteArray} (h0 : 0 < s.size) : s.toList.isEmpty = false := by
  rw [ByteArray.toList_eq]
  cases hl : s.data.toList with
  | nil =>
    exfalso
    have h2 : s.data.toList.length = s.size := by simp
    rw [hl] at h2
    simp at h2
    omega
  | cons _ _ => rfl
theorem bytesRow_get (s : ByteArray) (cap j : Nat) (h : j < s.size) : (bytesRow s cap)[j]? = some (.int .u8 (bt s j)) := by
  unfold bytesRow
  rw [Array.getElem?_append_left (by simpa using h)]
  simp [h, bt]
  rfl
theorem bt_extract (s : ByteArray) (a b j : Nat) (h : b ≤ s.size) (hj : a + j < b) : bt (s.extract a b) j = bt s (a + j) := by
  have h1 : j < (s.extract a b).size := by simp; omega
  have h2 : a + j < s.size := by omega
  unfold bt
  rw [dif_pos h1, dif_pos h2]
  simp [ByteArray.getElem_extract]

set_option maxHeartbeats 400000 in
theorem least_any (x : Int) (k : Nat) (w : World) (hx : x = (k : Int)) (h1 : 1 ≤ k) (h3 : k ≤ 3) :
    Calls Try.prog 28 #[.int .i64 x] w fun e w' => e = .returned (.int .i64 (least k : Nat)) ∧ w = w' := by
  subst hx
  obtain rfl | rfl | rfl : k = 1 ∨ k = 2 ∨ k = 3 := by omega
  all_goals
    go_enter Try.func28, Try.ntmps28
    go_wp2
    go_ret
    exact ⟨rfl, rfl⟩

/-- The identifier's test in the walk's form. -/
theorem tag_no {t : Nat} (hl : t < 256) (h : t % 32 ≠ 31) : (bits BinOp.and IntKind.i64 (t : Int) 31 == 31) = false := by
  rw [bits31 _ hl, beq_eq_false_iff_ne]
  omega
theorem wraps_i64 (n : Int) (h₀ : 0 ≤ n) (h₁ : n < 2 ^ 63) : IntKind.i64.wrap n = n := by rw [IntKind.wrap_i64]; omega
theorem or8 (n c : Nat) (hn : n < 65536) (hc : c < 256) : bits .or .i64 ((n : Int) * 256) (c : Int) = (n : Int) * 256 + (c : Int) :=
  bits_join .i64 63 (by decide) wraps_i64 8 _ _ (by omega) (by omega) (by omega) (by omega) (by omega) (by omega)
/-- The newest block's cells, two blocks above. -/
theorem new_cell (w : World) (A B : Obj) (C : Array Value) (T : TypeId) (f : Nat × Nat) (k : Nat) : (((w.alloc A).alloc B).alloc (Obj.cells C T f)).cell? ⟨w.heap.size + 1 + 1, k, none⟩ = C[k]? := by
  have h : (((w.heap.push A).push B).push (Obj.cells C T f))[w.heap.size + 1 + 1]? = some (Obj.cells C T f) := by
    rw [Array.getElem?_push, if_pos (by simp)]
  unfold World.cell?
  simp only [World.alloc]
  rw [h]
  rfl
theorem bodyPost_bad (e : Int) : valR (bad e) = .tuple #[.agg #[.int .i64 0, .string ⟨#[]⟩, .string ⟨#[]⟩], .string ⟨#[]⟩, .int .i64 e] := rfl
theorem tag_yes_u8 {t : Nat} (hl : t < 256) (h : t % 32 = 31) : ((t : Int) % 32 == 31) = true := by
  rw [beq_iff_eq]; omega
theorem tag_no_u8 {t : Nat} (hl : t < 256) (h : t % 32 ≠ 31) : ((t : Int) % 32 == 31) = false := by
  rw [beq_eq_false_iff_ne]; omega

/-- Behind a contract that ends in 'Below': all old cells and all old marks read as before. -/
theorem bcell {W w1 : World} (hb : Below W.heap.size W w1) : (∀ b o, b < W.heap.size → w1.cell? ⟨b, o, none⟩ = W.cell? ⟨b, o, none⟩) ∧ (∀ b o, b < W.heap.size → w1.frozen? ⟨b, o, none⟩ = W.frozen? ⟨b, o, none⟩) :=
  ⟨fun b o h => hb.cell (p := ⟨b, o, none⟩) h, fun b o h => hb.frozen (p := ⟨b, o, none⟩) h⟩
theorem empty_list {s : ByteArray} (h0 : s.size = 0) : s.toList.isEmpty = true := by
  rw [ByteArray.toList_eq]
  have h2 : s.data.toList.length = s.size := by simp
  rw [h0] at h2
  rw [List.isEmpty_iff]
  exact List.eq_nil_of_length_eq_zero h2
end Go.Proofs.Ytpcdbgfhlghocaa
