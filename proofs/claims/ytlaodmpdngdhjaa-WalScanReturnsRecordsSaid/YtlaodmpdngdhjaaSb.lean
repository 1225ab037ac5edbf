/- hash.turn, hash.rounds, hash.initial. -/
import Derived.Test.YtlaodmpdngdhjaaProg
import Derived.Test.YtlaodmpdngdhjaaSa
import Derived.Deep.MidRow
import Derived.Deep.WholeRow
import Derived.Below
import Derived.Deep.Cut
import Derived.Deep.CutBlock
import Derived.Deep.DeepCutAuto
namespace Go.Proofs.Ytlaodmpdngdhjaa
set_option linter.unusedVariables false
set_option linter.unusedSimpArgs false
open Go.RowKit

theorem ret_u32 {a b : Int} (h : a = b) : Ending.returned (.int .u32 a) = .returned (.int .u32 b) := by rw [h]
theorem turn_any (x : Int) (n : Nat) (w : World) (hx : B32 x) (h2 : 1 ≤ n) (h3 : n ≤ 31) : Calls Try.prog 119 #[.int .u32 x, .int .u64 n] w fun e w' => e = .returned (.int .u32 (rot n x)) ∧ w = w' := by
  obtain ⟨h0, h1⟩ := hx
  go_enter Try.func119, Try.ntmps119
  go_wp2
  go_ret
  exact ⟨ret_u32 rfl, rfl⟩
theorem turn_int (x n : Int) (w : World) (hx : B32 x) (h2 : 1 ≤ n) (h3 : n ≤ 31) : Calls Try.prog 119 #[.int .u32 x, .int .u64 n] w fun e w' => e = .returned (.int .u32 (rot n.toNat x)) ∧ w = w' := by
  obtain ⟨k, rfl⟩ : ∃ k : Nat, n = k := ⟨n.toNat, by omega⟩
  exact turn_any x k w hx (by omega) (by omega)
/-- A composite literal whose cells are known. -/
theorem wpList_build_to {P : Program} {ops : Array Oper} {rest : List Oper} {o : Oper} {a : Act} {w : World} {Q : Exit → Act → World → Prop} (hg : o.guard = none) (t : TypeId) (parts : Array (Nat × Operand)) (ho : o.op = .build t parts)
    (cells : Array Value) (hf : P.built t (parts.map fun (i, x) => (i, a.eval x)).toList = some cells)
    (h : wpList P ops Q rest (a.put o.dst (.agg cells)) w) : wpList P ops Q (o :: rest) a w :=
  wpList_build hg t parts ho (by rw [hf]; rfl) (by rw [hf]; exact h)
theorem isz136 : (Try.prog.info? 136).map (·.size) = some 64 := by kernel_rfl
theorem isz138 : (Try.prog.info? 138).map (·.size) = some 8 := by kernel_rfl
theorem built_KK : Try.prog.built 136 [(0, Value.int IntKind.u32 1116352408), (1, Value.int IntKind.u32 1899447441), (2, Value.int IntKind.u32 3049323471), (3, Value.int IntKind.u32 3921009573), (4, Value.int IntKind.u32 961987163), (5, Value.int IntKind.u32 1508970993), (6, Value.int IntKind.u32 2453635748), (7, Value.int IntKind.u32 2870763221), (8, Value.int IntKind.u32 3624381080), (9, Value.int IntKind.u32 310598401), (10, Value.int IntKind.u32 607225278), (11, Value.int IntKind.u32 1426881987), (12, Value.int IntKind.u32 1925078388), (13, Value.int IntKind.u32 2162078206), (14, Value.int IntKind.u32 2614888103), (15, Value.int IntKind.u32 3248222580), (16, Value.int IntKind.u32 3835390401), (17, Value.int IntKind.u32 4022224774), (18, Value.int IntKind.u32 264347078), (19, Value.int IntKind.u32 604807628), (20, Value.int IntKind.u32 770255983), (21, Value.int IntKind.u32 1249150122), (22, Value.int IntKind.u32 1555081692), (23, Value.int IntKind.u32 1996064986), (24, Value.int IntKind.u32 2554220882), (25, Value.int IntKind.u32 2821834349), (26, Value.int IntKind.u32 2952996808), (27, Value.int IntKind.u32 3210313671), (28, Value.int IntKind.u32 3336571891), (29, Value.int IntKind.u32 3584528711), (30, Value.int IntKind.u32 113926993), (31, Value.int IntKind.u32 338241895), (32, Value.int IntKind.u32 666307205), (33, Value.int IntKind.u32 773529912), (34, Value.int IntKind.u32 1294757372), (35, Value.int IntKind.u32 1396182291), (36, Value.int IntKind.u32 1695183700), (37, Value.int IntKind.u32 1986661051), (38, Value.int IntKind.u32 2177026350), (39, Value.int IntKind.u32 2456956037), (40, Value.int IntKind.u32 2730485921), (41, Value.int IntKind.u32 2820302411), (42, Value.int IntKind.u32 3259730800), (43, Value.int IntKind.u32 3345764771), (44, Value.int IntKind.u32 3516065817), (45, Value.int IntKind.u32 3600352804), (46, Value.int IntKind.u32 4094571909), (47, Value.int IntKind.u32 275423344), (48, Value.int IntKind.u32 430227734), (49, Value.int IntKind.u32 506948616), (50, Value.int IntKind.u32 659060556), (51, Value.int IntKind.u32 883997877), (52, Value.int IntKind.u32 958139571), (53, Value.int IntKind.u32 1322822218), (54, Value.int IntKind.u32 1537002063), (55, Value.int IntKind.u32 1747873779), (56, Value.int IntKind.u32 1955562222), (57, Value.int IntKind.u32 2024104815), (58, Value.int IntKind.u32 2227730452), (59, Value.int IntKind.u32 2361852424), (60, Value.int IntKind.u32 2428436474), (61, Value.int IntKind.u32 2756734187), (62, Value.int IntKind.u32 3204031479), (63, Value.int IntKind.u32 3329325298)] = some (ints KK) := by kernel_rfl
set_option maxRecDepth 100000 in
set_option maxHeartbeats 1000000 in
theorem rounds_any (w : World) : Calls Try.prog 120 #[] w fun e w' => e = .returned (.agg (ints KK)) ∧ Below w.heap.size w w' := by
  go_enter Try.func120, Try.ntmps120
  go_upto_region 1 with fail
  show Code.wp _ _ _ _ (w.alloc (.cells (ints (List.replicate 64 0)) 136))
  have hg := heap_alloc_new w (.cells (ints (List.replicate 64 0)) 136)
  have hbd := built_KK
  go_wp2_with (first | (refine wpList_build_to rfl 136 _ rfl (ints KK) hbd ?_) | (refine wpList_store_row rfl 136 (.tmp 0) (.tmp 1) rfl w.heap.size (ints KK) rfl rfl 136 (ints (List.replicate 64 0)) hg (by rw [ints_size]; exact isz136) (by rw [ints_size, ints_size]; rfl) (ints_one _) ?_))
  rw [World.setRow_alloc_new]
  refine bodyPost_ret (v := .agg (ints KK)) (results_cell_row rfl _ _ w.heap.size 136 _ (0, 0) (.array 64 124) rfl (heap_alloc_new _ _) Try.underlying136 rfl (by rw [ints_size]; exact isz136)) rfl ⟨rfl, (Below.refl _ _).alloc (Nat.le_refl _) _⟩
theorem initial_any (w : World) : Calls Try.prog 106 #[] w fun e w' => e = .returned (.agg ini.cells) ∧ Below w.heap.size w w' := by
  go_enter Try.func106, Try.ntmps106
  go_wp2
  refine bodyPost_ret (v := .agg ini.cells) (results_cell_row rfl _ _ w.heap.size 138 _ (0, 0) (.array 8 124) rfl (heap_alloc_new _ _) Try.underlying138 rfl isz138) rfl ⟨rfl, (Below.refl _ _).alloc (Nat.le_refl _) _⟩
end Go.Proofs.Ytlaodmpdngdhjaa
