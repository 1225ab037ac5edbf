/- hash.block: the words of a block. -/
import Derived.Test.YtlaodmpdngdhjaaSb
import Derived.Test.YtlaodmpdngdhjaaDg
import Derived.Deep.RegionHeld3
import Derived.IntWalk
namespace Go.Proofs.Ytlaodmpdngdhjaa
set_option linter.unusedVariables false
set_option linter.unusedSimpArgs false
open Go.RowKit

/-- 64 bytes at a place. -/
def BytesAt (w : World) (g o : Nat) (m : Nat → Int) : Prop := ∀ j, j < 64 → w.cell? ⟨g, o + j, none⟩ = some (.int .u8 (m j)) ∧ 0 ≤ m j ∧ m j ≤ 255

theorem keep_off {w : World} {b i j : Nat} {u v : Value} (h : w.cell? ⟨b, j, none⟩ = some u) (hn : ¬ i = j) : (w.setCell ⟨b, i, none⟩ v).cell? ⟨b, j, none⟩ = some u := by
  exact (World.cell?_setCell_other (w := w) (a := ⟨b, i, none⟩) (b := ⟨b, j, none⟩) (v := v) (by simp [hn])).trans h
theorem Turn.toBelow {d base : Nat} {w w' : World} (h : Turn d w w') (hb : base ≤ d) : Below base w w' :=
  ⟨h.os, h.tape, h.output, Nat.le_of_eq h.size.symm, fun b hl => h.block b (by omega)⟩
theorem set8 {w : World} {d : Nat} {v : V8} {t : TypeId} (h : w.heap[d]? = some (.cells v.cells t (0, 0))) (a b c e f g i j : Value) :
    ((((((((w.setCell ⟨d, 0, none⟩ a).setCell ⟨d, 1, none⟩ b).setCell ⟨d, 2, none⟩ c).setCell ⟨d, 3, none⟩ e).setCell ⟨d, 4, none⟩ f).setCell ⟨d, 5, none⟩ g).setCell ⟨d, 6, none⟩ i).setCell ⟨d, 7, none⟩ j).heap[d]? = some (.cells #[a, b, c, e, f, g, i, j] t (0, 0)) ∧
    Turn d w ((((((((w.setCell ⟨d, 0, none⟩ a).setCell ⟨d, 1, none⟩ b).setCell ⟨d, 2, none⟩ c).setCell ⟨d, 3, none⟩ e).setCell ⟨d, 4, none⟩ f).setCell ⟨d, 5, none⟩ g).setCell ⟨d, 6, none⟩ i).setCell ⟨d, 7, none⟩ j) := by
  refine ⟨?_, (((((((set_turn _ _ _ _).trans (set_turn _ _ _ _)).trans (set_turn _ _ _ _)).trans (set_turn _ _ _ _)).trans (set_turn _ _ _ _)).trans (set_turn _ _ _ _)).trans (set_turn _ _ _ _)).trans (set_turn _ _ _ _)⟩
  have h0 := set_heap h 0 a
  have h1 := set_heap h0 1 b
  have h2 := set_heap h1 2 c
  have h3 := set_heap h2 3 e
  have h4 := set_heap h3 4 f
  have h5 := set_heap h4 5 g
  have h6 := set_heap h5 6 i
  have h7 := set_heap h6 7 j
  have e1 : (((((((v.cells.setIfInBounds 0 a).setIfInBounds 1 b).setIfInBounds 2 c).setIfInBounds 3 e).setIfInBounds 4 f).setIfInBounds 5 g).setIfInBounds 6 i).setIfInBounds 7 j = #[a, b, c, e, f, g, i, j] := by
    apply Array.toList_inj.1
    simp [V8.cells]
  rw [e1] at h7
  exact h7
theorem three (w : World) (X Y Z : Obj) : (((w.alloc X).alloc Y).alloc Z).heap[w.heap.size + 2]? = some Z ∧ (((w.alloc X).alloc Y).alloc Z).heap[w.heap.size + 1]? = some Y ∧ (((w.alloc X).alloc Y).alloc Z).heap[w.heap.size]? = some X ∧ (((w.alloc X).alloc Y).alloc Z).heap.size = w.heap.size + 3 := by
  have h1 := heap_alloc2_new w X Y
  have h2 := heap_alloc2_old w X Y
  have e : ((w.alloc X).alloc Y).heap.size = w.heap.size + 2 := by simp
  refine ⟨?_, ?_, ?_, by simp⟩
  · have := heap_alloc_new ((w.alloc X).alloc Y) Z
    rwa [e] at this
  · rw [Below.heap_alloc _ _ _ (by omega)]; exact h1
  · rw [Below.heap_alloc _ _ _ (by omega)]; exact h2
set_option maxRecDepth 100000 in
set_option maxHeartbeats 4000000 in
theorem block_any (h : V8) (hh : h.Ok) (g o cap : Nat) (m : Nat → Int) (w : World) (hb : BytesAt w g o m) (hg : g < w.heap.size) :
    Calls Try.prog 107 #[.agg h.cells, .slice (some ⟨g, o, none⟩) 64 cap] w fun e w' => e = .returned (.agg (cmp h m).cells) ∧ Below w.heap.size w w' := by
  have HB := Lib.hid hb
  have HH := Lib.hid hh
  obtain ⟨a, b, c, d, e, f, gg, hx⟩ := h
  clear hb hh
  unfold V8.cells
  dsimp only
  go_enter Try.func107, Try.ntmps107
  go_wp2_with fail
  obtain ⟨w0, hw0⟩ : ∃ w0, ((w.alloc (.cells #[u3 a, u3 b, u3 c, u3 d, u3 e, u3 f, u3 gg, u3 hx] 138)).alloc (.cells (ints (List.replicate 8 0)) 138)).alloc (.cells (ints (List.replicate 64 0)) 136) = w0 := ⟨_, rfl⟩
  have hthree := three w (.cells #[u3 a, u3 b, u3 c, u3 d, u3 e, u3 f, u3 gg, u3 hx] 138) (.cells (ints (List.replicate 8 0)) 138) (.cells (ints (List.replicate 64 0)) 136)
  rw [hw0] at hthree
  obtain ⟨h5, h4, h2, hZ⟩ := hthree
  have H5 : Hid (w0.heap[w.heap.size + 2]? = some (.cells (ints (W1 m 0)) 136 (0, 0))) := Lib.hid h5
  have H4 := Lib.hid h4
  have H2 := Lib.hid h2
  have HZ := Lib.hid hZ
  clear h5 h4 h2 hZ
  have HBW : Hid (Below w.heap.size w w0) := Lib.hid (by rw [← hw0]; exact (((Below.refl _ _).alloc (Nat.le_refl _) _).alloc (by simp) _).alloc (by simp; omega) _)
  show Code.wp _ _ _ _ (((w.alloc (.cells #[u3 a, u3 b, u3 c, u3 d, u3 e, u3 f, u3 gg, u3 hx] 138)).alloc (.cells (ints (List.replicate 8 0)) 138)).alloc (.cells (ints (List.replicate 64 0)) 136))
  rw [hw0]
  clear hw0
  obtain ⟨B, hB⟩ : ∃ B, w.heap.size = B := ⟨_, rfl⟩
  rw [hB] at H5 H4 H2 HZ HBW hg ⊢
  have hB' := Lib.hid hB
  clear hB
  go_loopw [6] (fun i wr => ∃ k : Nat, k ≤ 16 ∧ i = .int .i64 k ∧ Hid (wr.heap[B + 2]? = some (.cells (ints (W1 m k)) 136 (0, 0))) ∧ Hid (Turn (B + 2) w0 wr)) (fun i _ => 16 - (intOf i).toNat)
  case atStart => exact ⟨0, Nat.zero_le _, rfl, H5, Lib.hid (Turn.refl _ _)⟩
  case round =>
    obtain ⟨k, hk, rfl, HW, HT⟩ := hrel
    by_cases hlt : k < 16
    · have hcell : ∀ j, j < 64 → wr.cell? ⟨g, o + j, none⟩ = some (.int .u8 (m j)) := fun j hj => by
        rw [World.cell?_of_block (HT.out.block g (by omega)), HBW.out.cell (p := ⟨g, o + j, none⟩) hg]
        exact (HB.out j hj).1
      obtain ⟨q0, hq0⟩ : ∃ q : Nat, 4 * k = q := ⟨_, rfl⟩
      obtain ⟨q1, hq1⟩ : ∃ q : Nat, 4 * k + 1 = q := ⟨_, rfl⟩
      obtain ⟨q2, hq2⟩ : ∃ q : Nat, 4 * k + 2 = q := ⟨_, rfl⟩
      obtain ⟨q3, hq3⟩ : ∃ q : Nat, 4 * k + 3 = q := ⟨_, rfl⟩
      have HS : Hid (W1 m (k + 1) = (W1 m k).set k (be (m q0) (m q1) (m q2) (m q3))) := Lib.hid (by rw [← hq0, ← hq1, ← hq2, ← hq3]; rfl)
      have x0 := hcell q0 (by omega)
      have x1 := hcell q1 (by omega)
      have x2 := hcell q2 (by omega)
      have x3 := hcell q3 (by omega)
      obtain ⟨r0, r0'⟩ := (HB.out q0 (by omega)).2
      obtain ⟨r1, r1'⟩ := (HB.out q1 (by omega)).2
      obtain ⟨r2, r2'⟩ := (HB.out q2 (by omega)).2
      obtain ⟨r3, r3'⟩ := (HB.out q3 (by omega)).2
      generalize m q0 = m0 at *
      generalize m q1 = m1 at *
      generalize m q2 = m2 at *
      generalize m q3 = m3 at *
      have i0 : (0 : Int) ≤ (q0 : Int) := by omega
      have j0 : (q0 : Int) < 64 := by omega
      have i1 : (0 : Int) ≤ (q1 : Int) := by omega
      have j1 : (q1 : Int) < 64 := by omega
      have i2 : (0 : Int) ≤ (q2 : Int) := by omega
      have j2 : (q2 : Int) < 64 := by omega
      have i3 : (0 : Int) ≤ (q3 : Int) := by omega
      have j3 : (q3 : Int) < 64 := by omega
      have kk0 : (0 : Int) ≤ (k : Int) := by omega
      have kk1 : (k : Int) < 64 := by omega
      have kk2 : k < 64 := by omega
      have d0 : 4 * (k : Int) = (q0 : Int) := by omega
      have d1 : (q0 : Int) + 1 = (q1 : Int) := by omega
      have d2 : (q0 : Int) + 2 = (q2 : Int) := by omega
      have d3 : (q0 : Int) + 3 = (q3 : Int) := by omega
      have e0 : IntKind.i64.wrap (q0 : Int) = (q0 : Int) := IntWalk.i64_in _ (by omega)
      have e1 : IntKind.i64.wrap (q1 : Int) = (q1 : Int) := IntWalk.i64_in _ (by omega)
      have e2 : IntKind.i64.wrap (q2 : Int) = (q2 : Int) := IntWalk.i64_in _ (by omega)
      have e3 : IntKind.i64.wrap (q3 : Int) = (q3 : Int) := IntWalk.i64_in _ (by omega)
      clear hq0 hq1 hq2 hq3
      obtain ⟨hc, hfz⟩ := row_cells HW.out
      have z5 : wr.cell? ⟨B + 1 + 1, k, none⟩ = some (u3 ((W1 m k).getD k 0)) := (hc k).trans (ints_get (by rw [W1_len]; omega))
      have f5 : wr.frozen? ⟨B + 1 + 1, k, none⟩ = false := hfz k
      have n1 : ¬ g = B + 1 + 1 := by omega
      have n2 : ¬ B + 1 + 1 = g := by omega
      clear hcell hc hfz
      go_wp2_with fail
      go_region_held3 (fun w' => w'.cell? ⟨g, o + q0, none⟩ = some (.int .u8 m0) ∧ w'.cell? ⟨g, o + q1, none⟩ = some (.int .u8 m1) ∧ w'.cell? ⟨g, o + q2, none⟩ = some (.int .u8 m2) ∧ w'.cell? ⟨g, o + q3, none⟩ = some (.int .u8 m3)) (go_keep) (fail)
      go_wp2_with fail
      go_roundw
      case rel =>
        refine ⟨k + 1, by omega, by go_num, Lib.hid ?_, Lib.hid (HT.out.trans (set_turn _ _ _ _).drew)⟩
        rw [heap_drew, set_heap HW.out, HS.out, ← ints_set]
        rfl
      case measure => simp [intOf]; omega
    · obtain rfl : k = 16 := by omega
      clear hk
      have HTN := Lib.hid fun x n W => turn_int x n W
      go_wp2_with fail
      rw [show ((16 : Nat) : Int) = 16 from rfl]
      go_loopw [7] (fun i wr => ∃ j : Nat, j ≤ 48 ∧ (∃ q : Nat, j + 16 = q ∧ i = .int .i64 q) ∧ Hid (wr.heap[B + 2]? = some (.cells (ints (W2 m j)) 136 (0, 0))) ∧ Hid (Turn (B + 2) w0 wr)) (fun i _ => 64 - (intOf i).toNat)
      case atStart => exact ⟨0, Nat.zero_le _, ⟨16, rfl, rfl⟩, HW, HT⟩
      case round =>
        clear HW HT
        obtain ⟨j, hj, ⟨q, hq, rfl⟩, HW, HT⟩ := hrel
        by_cases hlt : j < 48
        · obtain ⟨hc, hfz⟩ := row_cells HW.out
          have hcell : ∀ i, i < 64 → ∃ x, (W2 m j).getD i 0 = x ∧ wr.cell? ⟨B + 1 + 1, i, none⟩ = some (.int .u32 x) ∧ Hid (B32 x) ∧ 0 ≤ x ∧ x ≤ 4294967295 := fun i hi =>
            ⟨_, rfl, (hc i).trans (ints_get (by rw [W2_len]; omega)), Lib.hid (W2_all m j i), (W2_all m j i).1, (W2_all m j i).2⟩
          obtain ⟨x16, g16, c16, b16, l16, u16'⟩ := hcell j (by omega)
          obtain ⟨x15, g15, c15, b15, l15, u15⟩ := hcell (j + 1) (by omega)
          obtain ⟨x7, g7, c7, b7, l7, u7'⟩ := hcell (j + 9) (by omega)
          obtain ⟨x2, g2, c2, b2, l2, u2'⟩ := hcell (j + 14) (by omega)
          obtain ⟨xq, gq, cq, bq, lq, uq⟩ := hcell q (by omega)
          have HS : Hid (W2 m (j + 1) = (W2 m j).set q (wn x16 x15 x7 x2)) := Lib.hid (by rw [← g16, ← g15, ← g7, ← g2, ← hq]; rfl)
          have fq : wr.frozen? ⟨B + 1 + 1, q, none⟩ = false := hfz q
          obtain ⟨p15, hp15⟩ : ∃ p, j + 1 = p := ⟨_, rfl⟩
          obtain ⟨p7, hp7⟩ : ∃ p, j + 9 = p := ⟨_, rfl⟩
          obtain ⟨p2, hp2⟩ : ∃ p, j + 14 = p := ⟨_, rfl⟩
          rw [hp15] at c15
          rw [hp7] at c7
          rw [hp2] at c2
          have a16 : (q : Int) - 16 = (j : Int) := by omega
          have a15 : (q : Int) - 15 = (p15 : Int) := by omega
          have a7 : (q : Int) - 7 = (p7 : Int) := by omega
          have a2 : (q : Int) - 2 = (p2 : Int) := by omega
          have e16 : IntKind.i64.wrap (j : Int) = (j : Int) := IntWalk.i64_in _ (by omega)
          have e15 : IntKind.i64.wrap (p15 : Int) = (p15 : Int) := IntWalk.i64_in _ (by omega)
          have e7 : IntKind.i64.wrap (p7 : Int) = (p7 : Int) := IntWalk.i64_in _ (by omega)
          have e2 : IntKind.i64.wrap (p2 : Int) = (p2 : Int) := IntWalk.i64_in _ (by omega)
          have i16 : (0 : Int) ≤ (j : Int) := by omega
          have i15 : (0 : Int) ≤ (p15 : Int) := by omega
          have i7 : (0 : Int) ≤ (p7 : Int) := by omega
          have i2 : (0 : Int) ≤ (p2 : Int) := by omega
          have iq : (0 : Int) ≤ (q : Int) := by omega
          have j16 : (j : Int) < 64 := by omega
          have j15 : (p15 : Int) < 64 := by omega
          have j7 : (p7 : Int) < 64 := by omega
          have j2 : (p2 : Int) < 64 := by omega
          have jq : (q : Int) < 64 := by omega
          have HQ := Lib.hid hq
          have nj : ¬ j = q := by omega
          have nj' : ¬ q = j := by omega
          have n7 : ¬ p7 = q := by omega
          have n7' : ¬ q = p7 := by omega
          clear hc hfz hcell hp15 hp7 hp2 g16 g15 g7 g2 gq hq
          go_wp2_with fail
          go_region_held3 (fun w' => w'.cell? ⟨B + 1 + 1, p15, none⟩ = some (.int .u32 x15)) (go_keep) ((go_at_call 119; refine (HTN.out _ _ _ (by first | exact b15.out | exact b2.out) (by omega) (by omega)).mono ?_; rintro e wd ⟨rfl, hwd⟩; subst hwd))
          go_wp2_with fail
          obtain ⟨y0, hy0⟩ : ∃ y, bits BinOp.xor .u32 (bits .xor .u32 (rot 7 x15) (rot 18 x15)) (x15 / 8) = y := ⟨_, rfl⟩
          have HY0 : Hid (sg0 x15 = y0) := Lib.hid hy0
          have by0 : B32 y0 := by rw [← hy0]; exact b_xr _ _
          obtain ⟨ly0, uy0⟩ := by0
          rw [hy0]
          clear hy0
          go_region_held3 (fun w' => w'.cell? ⟨B + 1 + 1, p2, none⟩ = some (.int .u32 x2)) (go_keep) ((go_at_call 119; refine (HTN.out _ _ _ (by first | exact b15.out | exact b2.out) (by omega) (by omega)).mono ?_; rintro e wd ⟨rfl, hwd⟩; subst hwd))
          go_wp2_with fail
          obtain ⟨y1, hy1⟩ : ∃ y, bits BinOp.xor .u32 (bits .xor .u32 (rot 17 x2) (rot 19 x2)) (x2 / 1024) = y := ⟨_, rfl⟩
          have HY1 : Hid (sg1 x2 = y1) := Lib.hid hy1
          have by1 : B32 y1 := by rw [← hy1]; exact b_xr _ _
          obtain ⟨ly1, uy1⟩ := by1
          rw [hy1]
          clear hy1
          have t1 : IntKind.u32.wrap (x16 + y0) = ad x16 y0 := IntKind.wrap_u32 _
          have t2 : IntKind.u32.wrap (ad x16 y0 + x7) = ad (ad x16 y0) x7 := IntKind.wrap_u32 _
          have t3 : IntKind.u32.wrap (ad (ad x16 y0) x7 + y1) = ad (ad (ad x16 y0) x7) y1 := IntKind.wrap_u32 _
          go_region_held3 (fun w' => w'.cell? ⟨B + 1 + 1, j, none⟩ = some (.int .u32 x16) ∧ w'.cell? ⟨B + 1 + 1, p7, none⟩ = some (.int .u32 x7)) (first | exact ⟨c16, c7⟩ | exact ⟨keep_off c16 nj', keep_off c7 n7'⟩) (fail)
          go_wp2_with fail
          go_roundw
          case rel =>
            refine ⟨j + 1, by omega, ⟨q + 1, by have := HQ.out; omega, by go_num⟩, Lib.hid ?_, Lib.hid (HT.out.trans (set_turn _ _ _ _).drew.drew.drew)⟩
            rw [heap_drew, heap_drew, heap_drew, set_heap HW.out, HS.out, ← ints_set, wn, HY0.out, HY1.out]
          case measure => simp [intOf]; omega
        · obtain rfl : j = 48 := by omega
          obtain rfl : q = 64 := by omega
          clear hj hlt hq
          obtain ⟨N, hN⟩ : ∃ N, wr.heap.size = N := ⟨_, rfl⟩
          have HR := Lib.hid (rounds_any wr)
          go_wp2_with fail
          rw [show ((64 : Nat) : Int) = 64 from rfl]
          refine HR.out.mono ?_
          rintro e w3 ⟨rfl, hb3⟩
          have HB3 := Lib.hid hb3
          clear hb3
          go_upto_region 13 with (refine wpList_store_row rfl 136 (.tmp 10) (.tmp 111) rfl w3.heap.size (ints KK) rfl rfl 136 (ints (List.replicate 64 0)) (heap_alloc_new w3 (.cells (ints (List.replicate 64 0)) 136)) (by rw [ints_size]; exact isz136) (by rw [ints_size, ints_size]; rfl) (ints_one _) ?_)
          show Code.wp _ _ _ _ ((w3.alloc (.cells (ints (List.replicate 64 0)) 136)).setRow w3.heap.size (ints KK))
          rw [World.setRow_alloc_new]
          have hs3 : B + 3 ≤ w3.heap.size := by
            have := HB3.out.size
            have h2 := HT.out.size
            have := HZ.out
            omega
          obtain ⟨K, hK⟩ : ∃ K, w3.heap.size = K := ⟨_, rfl⟩
          obtain ⟨w4, hw4⟩ : ∃ w4, w3.alloc (.cells (ints KK) 136) = w4 := ⟨_, rfl⟩
          have HK4 : Hid (w4.heap[K]? = some (.cells (ints KK) 136 (0, 0))) := Lib.hid (by rw [← hw4, ← hK]; exact heap_alloc_new _ _)
          have HZ4 : Hid (w4.heap.size = K + 1) := Lib.hid (by rw [← hw4, ← hK]; simp)
          have HB4 : Hid (Below w3.heap.size w3 w4) := Lib.hid (by rw [← hw4]; exact (Below.refl _ _).alloc (Nat.le_refl _) _)
          rw [hw4]
          have HO4 : Hid (∀ b, b < B + 3 → w4.heap[b]? = wr.heap[b]?) := Lib.hid fun b hb => by
            have h2 := HT.out.size
            have := HZ.out
            rw [HB4.out.block b (by omega), HB3.out.block b (by omega)]
          have h4B : w4.heap[B]? = some (.cells #[u3 a, u3 b, u3 c, u3 d, u3 e, u3 f, u3 gg, u3 hx] 138 (0, 0)) := by
            rw [HO4.out B (by omega), HT.out.block B (by omega)]
            exact H2.out
          rw [hK] at hs3 ⊢
          have HKK := Lib.hid hK
          have hz4 := HZ4.out
          have HBW4 : Hid (Below B w w4) := Lib.hid (by
            have h2 := HT.out.size
            have := HZ.out
            exact ((HBW.out.trans (HT.out.toBelow (by omega))).trans (HB3.out.mono (by omega))).trans (HB4.out.mono (by omega)))
          clear hw4 hK
          have hnew := heap_alloc_new w4 (.cells (ints (List.replicate 8 0)) 138)
          go_upto_region 14 with (refine wpList_load_row rfl 138 (.tmp 2) rfl B rfl 138 _ (0, 0) (.array 8 124) h4B Try.underlying138 rfl isz138 ?_)
          show Code.wp _ _ _ _ (w4.alloc (.cells #[u3 a, u3 b, u3 c, u3 d, u3 e, u3 f, u3 gg, u3 hx] 138))
          obtain ⟨w5, hw5⟩ : ∃ w5, w4.alloc (.cells #[u3 a, u3 b, u3 c, u3 d, u3 e, u3 f, u3 gg, u3 hx] 138) = w5 := ⟨_, rfl⟩
          have HV5 : Hid (w5.heap[K + 1]? = some (.cells (V8.mk a b c d e f gg hx).cells 138 (0, 0))) := Lib.hid (by rw [← hw5, ← hz4]; exact heap_alloc_new _ _)
          have HB5 : Hid (Below w4.heap.size w4 w5) := Lib.hid (by rw [← hw5]; exact (Below.refl _ _).alloc (Nat.le_refl _) _)
          rw [hw5]
          have HK5 : Hid (w5.heap[K]? = some (.cells (ints KK) 136 (0, 0))) := Lib.hid (by rw [HB5.out.block K (by omega)]; exact HK4.out)
          have HW5 : Hid (w5.heap[B + 2]? = some (.cells (ints (W2 m 48)) 136 (0, 0))) := Lib.hid (by rw [HB5.out.block _ (by omega), HO4.out _ (by omega)]; exact HW.out)
          have HH5 : Hid (w5.heap[B]? = some (.cells (V8.mk a b c d e f gg hx).cells 138 (0, 0))) := Lib.hid (by rw [HB5.out.block _ (by omega)]; exact h4B)
          have HR5 : Hid (w5.heap[B + 1]? = some (.cells (ints (List.replicate 8 0)) 138 (0, 0))) := Lib.hid (by rw [HB5.out.block _ (by omega), HO4.out _ (by omega), HT.out.block _ (by omega)]; exact H4.out)
          have HBW5 : Hid (Below B w w5) := Lib.hid (HBW4.out.trans (HB5.out.mono (by omega)))
          have HZ5 : Hid (w5.heap.size = K + 2) := Lib.hid (by rw [← hw5]; simp; omega)
          clear h4B hw5 hz4 hnew HR HB3 HB4 HO4 HBW4 HT HW HK4 HZ4 HKK
          go_wp2_with fail
          obtain ⟨v0, hv0⟩ : ∃ v0, V8.mk a b c d e f gg hx = v0 := ⟨_, rfl⟩
          have HV0 := Lib.hid hv0
          go_loopw [12] (fun i wr => ∃ k : Nat, k ≤ 64 ∧ i = .int .i64 k ∧ Hid (wr.heap[K + 1]? = some (.cells (rnds v0 (W2 m 48) k).cells 138 (0, 0))) ∧ Hid (Turn (K + 1) w5 wr)) (fun i _ => 64 - (intOf i).toNat)
          case atStart => exact ⟨0, Nat.zero_le _, rfl, Lib.hid (by rw [← hv0]; exact HV5.out), Lib.hid (Turn.refl _ _)⟩
          clear hv0
          case round =>
            obtain ⟨k, hk, rfl, HV, HT⟩ := hrel
            by_cases hlt : k < 64
            · obtain ⟨xk, gk, ck⟩ : ∃ x, KK.getD k 0 = x ∧ wr.cell? ⟨K, k, none⟩ = some (.int .u32 x) := ⟨_, rfl, ((row_cells ((HT.out.block K (by omega)).trans HK5.out)).1 k).trans (ints_get (by rw [KK_len]; omega))⟩
              obtain ⟨xw, gw, cw⟩ : ∃ x, (W2 m 48).getD k 0 = x ∧ wr.cell? ⟨B + 1 + 1, k, none⟩ = some (.int .u32 x) := ⟨_, rfl, ((row_cells ((HT.out.block (B + 2) (by omega)).trans HW5.out)).1 k).trans (ints_get (by rw [W2_len]; omega))⟩
              have hok : (rnds v0 (W2 m 48) k).Ok := rnds_ok (by rw [← HV0.out]; exact HH.out) _ _
              have HS : Hid (rnds v0 (W2 m 48) (k + 1) = rnd (rnds v0 (W2 m 48) k) xk xw) := Lib.hid (by rw [← gk, ← gw]; rfl)
              obtain ⟨v, hv⟩ : ∃ v, rnds v0 (W2 m 48) k = v := ⟨_, rfl⟩
              rw [hv] at HS hok HV
              obtain ⟨a, b, c, d, e, f, gg, hx⟩ := v
              obtain ⟨oa, ob, oc, od, oe, of, og, oh⟩ := hok
              dsimp only at oa ob oc od oe of og oh
              obtain ⟨hc, hfz⟩ := row_cells HV.out
              have c0 : wr.cell? ⟨K + 1, 0, none⟩ = some (.int .u32 a) := hc 0
              have c1 : wr.cell? ⟨K + 1, 1, none⟩ = some (.int .u32 b) := hc 1
              have c2 : wr.cell? ⟨K + 1, 2, none⟩ = some (.int .u32 c) := hc 2
              have c3 : wr.cell? ⟨K + 1, 3, none⟩ = some (.int .u32 d) := hc 3
              have c4 : wr.cell? ⟨K + 1, 4, none⟩ = some (.int .u32 e) := hc 4
              have c5 : wr.cell? ⟨K + 1, 5, none⟩ = some (.int .u32 f) := hc 5
              have c6 : wr.cell? ⟨K + 1, 6, none⟩ = some (.int .u32 gg) := hc 6
              have c7 : wr.cell? ⟨K + 1, 7, none⟩ = some (.int .u32 hx) := hc 7
              have hoe := Lib.hid oe
              have hoa := Lib.hid oa
              obtain ⟨a1, a2⟩ := oa
              obtain ⟨e1, e2⟩ := oe
              have f0 : wr.frozen? ⟨K + 1, 0, none⟩ = false := hfz 0
              have f1 : wr.frozen? ⟨K + 1, 1, none⟩ = false := hfz 1
              have f2 : wr.frozen? ⟨K + 1, 2, none⟩ = false := hfz 2
              have f3 : wr.frozen? ⟨K + 1, 3, none⟩ = false := hfz 3
              have f4 : wr.frozen? ⟨K + 1, 4, none⟩ = false := hfz 4
              have f5 : wr.frozen? ⟨K + 1, 5, none⟩ = false := hfz 5
              have f6 : wr.frozen? ⟨K + 1, 6, none⟩ = false := hfz 6
              have f7 : wr.frozen? ⟨K + 1, 7, none⟩ = false := hfz 7
              clear hc hfz hv gk gw ob oc od of og oh
              go_wp2_with fail
              go_region_held3 (fun w' => w'.cell? ⟨K + 1, 4, none⟩ = some (.int .u32 e)) (go_keep) ((go_at_call 119; refine (HTN.out _ _ _ (by first | exact hoe.out | exact hoa.out) (by omega) (by omega)).mono ?_; rintro e wd ⟨rfl, hwd⟩; subst hwd))
              go_wp2_with fail
              obtain ⟨y, hy⟩ : ∃ y, bits BinOp.xor .u32 (bits .xor .u32 (rot 6 e) (rot 11 e)) (rot 25 e) = y := ⟨_, rfl⟩
              have HY : Hid (su1 e = y) := Lib.hid hy
              obtain ⟨z, hz⟩ : ∃ z, bits BinOp.xor .u32 (bits .and .u32 e f) (bits .and .u32 (bits .xor .u32 IntKind.u32.max e) gg) = z := ⟨_, rfl⟩
              have HZ' : Hid (chf e f gg = z) := Lib.hid hz
              rw [hy, hz]
              clear hy hz
              have t1 : IntKind.u32.wrap (hx + y) = ad hx y := IntKind.wrap_u32 _
              have t2 : IntKind.u32.wrap (ad hx y + z) = ad (ad hx y) z := IntKind.wrap_u32 _
              have t3 : IntKind.u32.wrap (ad (ad hx y) z + xk) = ad (ad (ad hx y) z) xk := IntKind.wrap_u32 _
              have t4 : IntKind.u32.wrap (ad (ad (ad hx y) z) xk + xw) = ad (ad (ad (ad hx y) z) xk) xw := IntKind.wrap_u32 _
              have k0 : (0 : Int) ≤ (k : Int) := by omega
              have k1 : (k : Int) < 64 := by omega
              go_region_held3 (fun w' => w'.cell? ⟨K + 1, 7, none⟩ = some (.int .u32 hx) ∧ w'.cell? ⟨K, k, none⟩ = some (.int .u32 xk) ∧ w'.cell? ⟨B + 1 + 1, k, none⟩ = some (.int .u32 xw)) (go_keep) (fail)
              go_wp2_with fail
              obtain ⟨t, ht⟩ : ∃ t, ad (ad (ad (ad hx y) z) xk) xw = t := ⟨_, rfl⟩
              have HT' : Hid (tt ⟨a, b, c, d, e, f, gg, hx⟩ xk xw = t) := Lib.hid (by unfold tt; dsimp only; rw [HY.out, HZ'.out]; exact ht)
              rw [ht]
              clear t1 t2 t3 t4 ht
              go_region_held3 (fun w' => w'.cell? ⟨K + 1, 0, none⟩ = some (.int .u32 a)) (go_keep) ((go_at_call 119; refine (HTN.out _ _ _ (by first | exact hoe.out | exact hoa.out) (by omega) (by omega)).mono ?_; rintro e wd ⟨rfl, hwd⟩; subst hwd))
              obtain ⟨y2, hy2⟩ : ∃ y, bits BinOp.xor .u32 (bits .xor .u32 (rot 2 a) (rot 13 a)) (rot 22 a) = y := ⟨_, rfl⟩
              have HY2 : Hid (su0 a = y2) := Lib.hid hy2
              obtain ⟨mj, hmj⟩ : ∃ y, bits BinOp.xor .u32 (bits .xor .u32 (bits .and .u32 a b) (bits .and .u32 a c)) (bits .and .u32 b c) = y := ⟨_, rfl⟩
              have HMJ : Hid (maj a b c = mj) := Lib.hid hmj
              have t5 : IntKind.u32.wrap (t + y2) = ad t y2 := IntKind.wrap_u32 _
              have t6 : IntKind.u32.wrap (ad t y2 + mj) = ad (ad t y2) mj := IntKind.wrap_u32 _
              have t7 : IntKind.u32.wrap (d + t) = ad d t := IntKind.wrap_u32 _
              go_wp2_with fail
              go_roundw
              case rel =>
                refine ⟨k + 1, by omega, by go_num, Lib.hid ?_, Lib.hid (HT.out.trans (set8 HV.out _ _ _ _ _ _ _ _).2.drew.drew.drew)⟩
                rw [heap_drew, heap_drew, heap_drew, (set8 HV.out _ _ _ _ _ _ _ _).1, HS.out, ← HY2.out, ← HMJ.out, ← HT'.out]
                rfl
              case measure => simp [intOf]; omega
            · obtain rfl : k = 64 := by omega
              clear hk hlt
              obtain ⟨v, hv⟩ : ∃ v, rnds v0 (W2 m 48) 64 = v := ⟨_, rfl⟩
              rw [hv] at HV
              have HVV := Lib.hid hv
              have HVO : Hid v.Ok := Lib.hid (by rw [← hv]; exact rnds_ok (by rw [← HV0.out]; exact HH.out) _ _)
              clear hv
              have HHr : Hid (wr.heap[B]? = some (.cells (ints v0.lst) 138 (0, 0))) := Lib.hid (by rw [HT.out.block B (by omega), HH5.out, ← HV0.out]; rfl)
              go_wp2_with fail
              rw [show ((64 : Nat) : Int) = 64 from rfl]
              go_loopw [204, 18] (fun i _ wx => ∃ k : Nat, k ≤ 8 ∧ i = .int .i64 k ∧ Hid (wx.heap[K + 1]? = some (.cells (ints (SL v.lst v0.lst k)) 138 (0, 0))) ∧ Hid (Turn (K + 1) w5 wx)) (fun i _ _ => 8 - (intOf i).toNat)
              case atStart => exact ⟨0, Nat.zero_le _, rfl, HV, HT⟩
              case round =>
                clear HT HV HHr
                obtain ⟨k, hk, rfl, HV, HT⟩ := hrel
                have HO : Hid (v0.Ok) := Lib.hid (by rw [← HV0.out]; exact HH.out)
                by_cases hlt : k < 8
                · obtain ⟨hc, hfz⟩ := row_cells HV.out
                  have hlen : (SL v.lst v0.lst k).length = 8 := by rw [SL_len]; rfl
                  obtain ⟨x, gx, cx, lx, ux⟩ : ∃ x, (SL v.lst v0.lst k).getD k 0 = x ∧ wr.cell? ⟨K + 1, k, none⟩ = some (.int .u32 x) ∧ 0 ≤ x ∧ x ≤ 4294967295 :=
                    ⟨_, rfl, (hc k).trans (ints_get (by omega)), (SL_all HVO.out.all k k).1, (SL_all HVO.out.all k k).2⟩
                  have hcB := (row_cells (show wr.heap[B]? = some (.cells (ints v0.lst) 138 (0, 0)) by rw [HT.out.block B (by omega), HH5.out, ← HV0.out]; rfl)).1
                  obtain ⟨y, gy, cy, ly, uy⟩ : ∃ y, v0.lst.getD k 0 = y ∧ wr.cell? ⟨B, k, none⟩ = some (.int .u32 y) ∧ 0 ≤ y ∧ y ≤ 4294967295 :=
                    ⟨_, rfl, (hcB k).trans (ints_get (show k < 8 from hlt)), (HO.out.all k).1, (HO.out.all k).2⟩
                  have HS : Hid (SL v.lst v0.lst (k + 1) = (SL v.lst v0.lst k).set k (ad x y)) := Lib.hid (by rw [← gx, ← gy]; rfl)
                  have fx : wr.frozen? ⟨K + 1, k, none⟩ = false := hfz k
                  have t1 : IntKind.u32.wrap (x + y) = ad x y := IntKind.wrap_u32 _
                  have i0 : (0 : Int) ≤ (k : Int) := by omega
                  have i1 : (k : Int) < 8 := by omega
                  clear hc hfz hcB hlen gx gy
                  go_wp2_with fail
                  go_region
                  all_goals
                    go_wp2_with fail
                    go_roundw
                    case rel =>
                      refine ⟨k + 1, by omega, by go_num, Lib.hid ?_, Lib.hid (HT.out.trans (set_turn _ _ _ _).drew)⟩
                      rw [heap_drew, set_heap HV.out, HS.out, ← ints_set]
                    case measure => simp [intOf]; omega
                · obtain rfl : k = 8 := by omega
                  rw [SL_sum] at HV
                  have HS : Hid (cmp v0 m = sumv v v0) := Lib.hid (by unfold cmp; rw [HVV.out])
                  obtain ⟨r, hr⟩ : ∃ r, sumv v v0 = r := ⟨_, rfl⟩
                  rw [hr] at HS HV
                  clear hr
                  obtain ⟨p0, p1, p2, p3, p4, p5, p6, p7⟩ := r
                  obtain ⟨hc, _⟩ := row_cells HV.out
                  have c0 : wr.cell? ⟨K + 1, 0, none⟩ = some (u3 p0) := hc 0
                  have c1 : wr.cell? ⟨K + 1, 1, none⟩ = some (u3 p1) := hc 1
                  have c2 : wr.cell? ⟨K + 1, 2, none⟩ = some (u3 p2) := hc 2
                  have c3 : wr.cell? ⟨K + 1, 3, none⟩ = some (u3 p3) := hc 3
                  have c4 : wr.cell? ⟨K + 1, 4, none⟩ = some (u3 p4) := hc 4
                  have c5 : wr.cell? ⟨K + 1, 5, none⟩ = some (u3 p5) := hc 5
                  have c6 : wr.cell? ⟨K + 1, 6, none⟩ = some (u3 p6) := hc 6
                  have c7 : wr.cell? ⟨K + 1, 7, none⟩ = some (u3 p7) := hc 7
                  have HRr : Hid (wr.heap[B + 1]? = some (.cells (V8.mk 0 0 0 0 0 0 0 0).cells 138 (0, 0))) := Lib.hid (by rw [HT.out.block _ (by omega)]; exact HR5.out)
                  obtain ⟨hd, hfz⟩ := row_cells HRr.out
                  have f0 : wr.frozen? ⟨B + 1, 0, none⟩ = false := hfz 0
                  have f1 : wr.frozen? ⟨B + 1, 1, none⟩ = false := hfz 1
                  have f2 : wr.frozen? ⟨B + 1, 2, none⟩ = false := hfz 2
                  have f3 : wr.frozen? ⟨B + 1, 3, none⟩ = false := hfz 3
                  have f4 : wr.frozen? ⟨B + 1, 4, none⟩ = false := hfz 4
                  have f5 : wr.frozen? ⟨B + 1, 5, none⟩ = false := hfz 5
                  have f6 : wr.frozen? ⟨B + 1, 6, none⟩ = false := hfz 6
                  have f7 : wr.frozen? ⟨B + 1, 7, none⟩ = false := hfz 7
                  have d0 : wr.cell? ⟨B + 1, 0, none⟩ = some (u3 0) := hd 0
                  have d1 : wr.cell? ⟨B + 1, 1, none⟩ = some (u3 0) := hd 1
                  have d2 : wr.cell? ⟨B + 1, 2, none⟩ = some (u3 0) := hd 2
                  have d3 : wr.cell? ⟨B + 1, 3, none⟩ = some (u3 0) := hd 3
                  have d4 : wr.cell? ⟨B + 1, 4, none⟩ = some (u3 0) := hd 4
                  have d5 : wr.cell? ⟨B + 1, 5, none⟩ = some (u3 0) := hd 5
                  have d6 : wr.cell? ⟨B + 1, 6, none⟩ = some (u3 0) := hd 6
                  have d7 : wr.cell? ⟨B + 1, 7, none⟩ = some (u3 0) := hd 7
                  clear hc hd hfz
                  go_wp2_with fail
                  have h8 := set8 HRr.out (u3 p0) (u3 p1) (u3 p2) (u3 p3) (u3 p4) (u3 p5) (u3 p6) (u3 p7)
                  refine bodyPost_ret (v := .agg #[u3 p0, u3 p1, u3 p2, u3 p3, u3 p4, u3 p5, u3 p6, u3 p7]) (results_cell_row rfl _ _ (B + 1) 138 _ (0, 0) (.array 8 124) rfl h8.1 Try.underlying138 rfl isz138) rfl ⟨?_, ?_⟩
                  · rw [HV0.out, HS.out]
                  · rw [hB'.out]
                    exact HBW5.out.trans ((HT.out.toBelow (by omega)).trans (h8.2.toBelow (by omega)))
end Go.Proofs.Ytlaodmpdngdhjaa
