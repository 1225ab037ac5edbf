/- certpathref01.round: one block of the reference. -/
import Derived.Test.YtlaodmpdngdhjaaSc
import Derived.Test.YtlaodmpdngdhjaaDh
import Derived.StillTailTactics
namespace Go.Proofs.Ytlaodmpdngdhjaa
set_option linter.unusedVariables false
set_option linter.unusedSimpArgs false
open Go.RowKit

theorem blk_lt {w : World} {b : Nat} {o : Obj} (h : w.heap[b]? = some o) : b < w.heap.size := by
  by_cases hq : b < w.heap.size
  · exact hq
  · rw [Array.getElem?_eq_none (Nat.le_of_not_lt hq)] at h
    cases h
def bm (b : ByteArray) : Nat → Int := fun j => (bt b j : Int)
set_option maxRecDepth 100000 in
set_option maxHeartbeats 4000000 in
theorem rround_any (h : V8) (hh : h.Ok) (g cap : Nat) (b : ByteArray) (t : TypeId) (w : World) (hg : w.heap[g]? = some (.cells h.cells t (0, 0))) (hb : b.size = 64) :
    Calls Try.prog 98 #[.slice (some ⟨g, 0, none⟩) 8 cap, .string b] w fun e w' => ∃ r, e = .returned (.slice (some ⟨r, 0, none⟩) 8 8) ∧ w'.heap[r]? = some (.cells (cmp h (bm b)).cells 124 (0, 0)) ∧ w.heap.size ≤ r ∧ Below w.heap.size w w' := by
  have HH := Lib.hid hh
  have HG := Lib.hid hg
  have hgl : g < w.heap.size := blk_lt hg
  clear hg hh
  go_enter Try.func98, Try.ntmps98
  go_upto_region 3 with fail
  show Code.wp _ _ _ _ ((w.alloc (.cells (ints KK) 124)).alloc (.cells (ints (List.replicate 64 0)) 136))
  obtain ⟨w0, hw0⟩ : ∃ w0, (w.alloc (.cells (ints KK) 124)).alloc (.cells (ints (List.replicate 64 0)) 136) = w0 := ⟨_, rfl⟩
  have h1 := heap_alloc2_new w (.cells (ints KK) 124) (.cells (ints (List.replicate 64 0)) 136)
  have h2 := heap_alloc2_old w (.cells (ints KK) 124) (.cells (ints (List.replicate 64 0)) 136)
  have hB0 : Below w.heap.size w w0 := by rw [← hw0]; exact ((Below.refl _ _).alloc (Nat.le_refl _) _).alloc (by simp) _
  have hz0 : w0.heap.size = w.heap.size + 2 := by rw [← hw0]; simp
  rw [hw0] at h1 h2 ⊢
  have H5 : Hid (w0.heap[w.heap.size + 1]? = some (.cells (ints (W1 (bm b) 0)) 136 (0, 0))) := Lib.hid h1
  have HK := Lib.hid h2
  have HBW := Lib.hid hB0
  have HZ := Lib.hid hz0
  have HG0 : Hid (w0.heap[g]? = some (.cells h.cells t (0, 0))) := Lib.hid (by rw [HBW.out.block g hgl]; exact HG.out)
  clear hw0 h1 h2 hB0 hz0
  obtain ⟨B, hB⟩ : ∃ B, w.heap.size = B := ⟨_, rfl⟩
  rw [hB] at H5 HK HBW HZ hgl ⊢
  have hB' := Lib.hid hB
  clear hB
  obtain ⟨m, hm⟩ : ∃ m, bm b = m := ⟨_, rfl⟩
  rw [hm] at H5
  have HM := Lib.hid hm
  clear hm
  go_wp2_with fail
  go_loopw [7] (fun i wr => ∃ k : Nat, k ≤ 16 ∧ i = .int .i64 k ∧ Hid (wr.heap[B + 1]? = some (.cells (ints (W1 m k)) 136 (0, 0))) ∧ Hid (Turn (B + 1) w0 wr)) (fun i _ => 16 - (intOf i).toNat)
  case atStart => exact ⟨0, Nat.zero_le _, rfl, H5, Lib.hid (Turn.refl _ _)⟩
  case round =>
    obtain ⟨k, hk, rfl, HW, HT⟩ := hrel
    by_cases hlt : k < 16
    · obtain ⟨q0, hq0⟩ : ∃ q : Nat, 4 * k = q := ⟨_, rfl⟩
      obtain ⟨q1, hq1⟩ : ∃ q : Nat, 4 * k + 1 = q := ⟨_, rfl⟩
      obtain ⟨q2, hq2⟩ : ∃ q : Nat, 4 * k + 2 = q := ⟨_, rfl⟩
      obtain ⟨q3, hq3⟩ : ∃ q : Nat, 4 * k + 3 = q := ⟨_, rfl⟩
      have HS : Hid (W1 m (k + 1) = (W1 m k).set k (be (m q0) (m q1) (m q2) (m q3))) := Lib.hid (by rw [← hq0, ← hq1, ← hq2, ← hq3]; rfl)
      have hbyte : ∀ j, (m j) = (bt b j : Int) ∧ bt b j < 256 := fun j => ⟨by rw [← HM.out]; rfl, bt_lt b j⟩
      have l0 : q0 < b.size := by omega
      have x0 := bt_get b q0 l0
      have l1 : q1 < b.size := by omega
      have x1 := bt_get b q1 l1
      have l2 : q2 < b.size := by omega
      have x2 := bt_get b q2 l2
      have l3 : q3 < b.size := by omega
      have x3 := bt_get b q3 l3
      have r0 := (hbyte q0).2
      have r1 := (hbyte q1).2
      have r2 := (hbyte q2).2
      have r3 := (hbyte q3).2
      rw [(hbyte q0).1, (hbyte q1).1, (hbyte q2).1, (hbyte q3).1] at HS
      generalize bt b q0 = m0 at *
      generalize bt b q1 = m1 at *
      generalize bt b q2 = m2 at *
      generalize bt b q3 = m3 at *
      have i0 : (0 : Int) ≤ (q0 : Int) := by omega
      have j0 : (q0 : Int) < 64 := by omega
      have i1 : (0 : Int) ≤ (q1 : Int) := by omega
      have j1 : (q1 : Int) < 64 := by omega
      have i2 : (0 : Int) ≤ (q2 : Int) := by omega
      have j2 : (q2 : Int) < 64 := by omega
      have i3 : (0 : Int) ≤ (q3 : Int) := by omega
      have j3 : (q3 : Int) < 64 := by omega
      have d0 : 4 * (k : Int) = (q0 : Int) := by omega
      have d1 : (q0 : Int) + 1 = (q1 : Int) := by omega
      have d2 : (q0 : Int) + 2 = (q2 : Int) := by omega
      have d3 : (q0 : Int) + 3 = (q3 : Int) := by omega
      have e0 : IntKind.i64.wrap (q0 : Int) = (q0 : Int) := IntWalk.i64_in _ (by omega)
      have e1 : IntKind.i64.wrap (q1 : Int) = (q1 : Int) := IntWalk.i64_in _ (by omega)
      have e2 : IntKind.i64.wrap (q2 : Int) = (q2 : Int) := IntWalk.i64_in _ (by omega)
      have e3 : IntKind.i64.wrap (q3 : Int) = (q3 : Int) := IntWalk.i64_in _ (by omega)
      obtain ⟨hc, hfz⟩ := row_cells HW.out
      have z5 : wr.cell? ⟨B + 1, k, none⟩ = some (u3 ((W1 m k).getD k 0)) := (hc k).trans (ints_get (by rw [W1_len]; omega))
      have f5 : wr.frozen? ⟨B + 1, k, none⟩ = false := hfz k
      have k0 : (0 : Int) ≤ (k : Int) := by omega
      have k1 : (k : Int) < 64 := by omega
      clear hbyte hc hfz hq0 hq1 hq2 hq3
      go_wp2_with fail
      go_still_tail 31, (by kernel_rfl)
      go_wp2_with fail
      go_roundw
      case rel =>
        refine ⟨k + 1, by omega, by go_num, Lib.hid ?_, Lib.hid (HT.out.trans (set_turn _ _ _ _).drew)⟩
        rw [heap_drew, set_heap HW.out, HS.out, ← ints_set]
        rfl
      case measure => simp [intOf]; omega
    · obtain rfl : k = 16 := by omega
      clear hk
      go_wp2_with fail
      rw [show ((16 : Nat) : Int) = 16 from rfl]
      go_loopw [8] (fun i wr => ∃ j : Nat, j ≤ 48 ∧ (∃ q : Nat, j + 16 = q ∧ i = .int .i64 q) ∧ Hid (wr.heap[B + 1]? = some (.cells (ints (W2 m j)) 136 (0, 0))) ∧ Hid (Turn (B + 1) w0 wr)) (fun i _ => 64 - (intOf i).toNat)
      case atStart => exact ⟨0, Nat.zero_le _, ⟨16, rfl, rfl⟩, HW, HT⟩
      case round =>
        clear HW HT
        obtain ⟨j, hj, ⟨q, hq, rfl⟩, HW, HT⟩ := hrel
        by_cases hlt : j < 48
        · obtain ⟨hc, hfz⟩ := row_cells HW.out
          have hcell : ∀ i, i < 64 → ∃ x, (W2 m j).getD i 0 = x ∧ wr.cell? ⟨B + 1, i, none⟩ = some (.int .u32 x) ∧ Hid (B32 x) ∧ 0 ≤ x ∧ x ≤ 4294967295 := fun i hi =>
            ⟨_, rfl, (hc i).trans (ints_get (by rw [W2_len]; omega)), Lib.hid (W2_all m j i), (W2_all m j i).1, (W2_all m j i).2⟩
          obtain ⟨x16, g16, c16, b16, l16, u16'⟩ := hcell j (by omega)
          obtain ⟨x15, g15, c15, b15, l15, u15⟩ := hcell (j + 1) (by omega)
          obtain ⟨x7, g7, c7, b7, l7, u7'⟩ := hcell (j + 9) (by omega)
          obtain ⟨x2, g2, c2, b2, l2, u2'⟩ := hcell (j + 14) (by omega)
          obtain ⟨xq, gq, cq, bq, lq, uq⟩ := hcell q (by omega)
          have HS : Hid (W2 m (j + 1) = (W2 m j).set q (wn x16 x15 x7 x2)) := Lib.hid (by rw [← g16, ← g15, ← g7, ← g2, ← hq]; rfl)
          have fq : wr.frozen? ⟨B + 1, q, none⟩ = false := hfz q
          obtain ⟨p15, hp15⟩ : ∃ p, j + 1 = p := ⟨_, rfl⟩
          obtain ⟨p7, hp7⟩ : ∃ p, j + 9 = p := ⟨_, rfl⟩
          obtain ⟨p2, hp2⟩ : ∃ p, j + 14 = p := ⟨_, rfl⟩
          rw [hp15] at c15
          rw [hp7] at c7
          rw [hp2] at c2
          have a16 : (q : Int) - 16 = (j : Int) := by omega
          have a15 : (q : Int) - 15 = (p15 : Int) := by omega
          have a7 : (q : Int) - 7 = (p7 : Int) := by omega
          have a2 : (q : Int) - 2 = (p2 : Int) := by omega
          have e16 : IntKind.i64.wrap (j : Int) = (j : Int) := IntWalk.i64_in _ (by omega)
          have e15 : IntKind.i64.wrap (p15 : Int) = (p15 : Int) := IntWalk.i64_in _ (by omega)
          have e7 : IntKind.i64.wrap (p7 : Int) = (p7 : Int) := IntWalk.i64_in _ (by omega)
          have e2 : IntKind.i64.wrap (p2 : Int) = (p2 : Int) := IntWalk.i64_in _ (by omega)
          have i16 : (0 : Int) ≤ (j : Int) := by omega
          have i15 : (0 : Int) ≤ (p15 : Int) := by omega
          have i7 : (0 : Int) ≤ (p7 : Int) := by omega
          have i2 : (0 : Int) ≤ (p2 : Int) := by omega
          have iq : (0 : Int) ≤ (q : Int) := by omega
          have j16 : (j : Int) < 64 := by omega
          have j15 : (p15 : Int) < 64 := by omega
          have j7 : (p7 : Int) < 64 := by omega
          have j2 : (p2 : Int) < 64 := by omega
          have jq : (q : Int) < 64 := by omega
          have HQ := Lib.hid hq
          have nj' : ¬ q = j := by omega
          have n7' : ¬ q = p7 := by omega
          clear hc hfz hcell hp15 hp7 hp2 g16 g15 g7 g2 gq hq
          go_wp2_with fail
          go_region_held3 (fun w' => w'.cell? ⟨B + 1, p15, none⟩ = some (.int .u32 x15) ∧ w'.cell? ⟨B + 1, p2, none⟩ = some (.int .u32 x2)) (go_keep) (fail)
          go_wp2_with fail
          rw [← sg0_lit x15, ← sg1_lit x2]
          obtain ⟨y0, hy0⟩ : ∃ y, sg0 x15 = y := ⟨_, rfl⟩
          obtain ⟨y1, hy1⟩ : ∃ y, sg1 x2 = y := ⟨_, rfl⟩
          rw [hy0, hy1]
          have HY0 := Lib.hid hy0
          have HY1 := Lib.hid hy1
          clear hy0 hy1
          have t1 : IntKind.u32.wrap (x16 + y0) = ad x16 y0 := IntKind.wrap_u32 _
          have t2 : IntKind.u32.wrap (ad x16 y0 + x7) = ad (ad x16 y0) x7 := IntKind.wrap_u32 _
          have t3 : IntKind.u32.wrap (ad (ad x16 y0) x7 + y1) = ad (ad (ad x16 y0) x7) y1 := IntKind.wrap_u32 _
          go_region_held3 (fun w' => w'.cell? ⟨B + 1, j, none⟩ = some (.int .u32 x16) ∧ w'.cell? ⟨B + 1, p7, none⟩ = some (.int .u32 x7)) (first | exact ⟨c16, c7⟩ | exact ⟨keep_off c16 nj', keep_off c7 n7'⟩) (fail)
          go_wp2_with fail
          go_roundw
          case rel =>
            refine ⟨j + 1, by omega, ⟨q + 1, by have := HQ.out; omega, by go_num⟩, Lib.hid ?_, Lib.hid (HT.out.trans (set_turn _ _ _ _).drew.drew)⟩
            rw [heap_drew, heap_drew, set_heap HW.out, HS.out, ← ints_set, wn, HY0.out, HY1.out]
          case measure => simp [intOf]; omega
        · obtain rfl : j = 48 := by omega
          obtain rfl : q = 64 := by omega
          clear hj hlt hq
          obtain ⟨v0, hv0⟩ : ∃ v0, h = v0 := ⟨_, rfl⟩
          have HGr : Hid (wr.heap[g]? = some (.cells v0.cells t (0, 0))) := Lib.hid (by rw [HT.out.block g (by omega), HG0.out, hv0])
          have HV0 := Lib.hid hv0
          have hok : v0.Ok := by rw [← hv0]; exact HH.out
          have HOK := Lib.hid hok
          obtain ⟨a, b_, c, d, e, f, gg, hx⟩ := v0
          obtain ⟨hc, _⟩ := row_cells HGr.out
          have c0 : wr.cell? ⟨g, 0, none⟩ = some (.int .u32 a) := hc 0
          have c1 : wr.cell? ⟨g, 1, none⟩ = some (.int .u32 b_) := hc 1
          have c2 : wr.cell? ⟨g, 2, none⟩ = some (.int .u32 c) := hc 2
          have c3 : wr.cell? ⟨g, 3, none⟩ = some (.int .u32 d) := hc 3
          have c4 : wr.cell? ⟨g, 4, none⟩ = some (.int .u32 e) := hc 4
          have c5 : wr.cell? ⟨g, 5, none⟩ = some (.int .u32 f) := hc 5
          have c6 : wr.cell? ⟨g, 6, none⟩ = some (.int .u32 gg) := hc 6
          have c7 : wr.cell? ⟨g, 7, none⟩ = some (.int .u32 hx) := hc 7
          clear hc hv0 hok
          go_wp2_with fail
          rw [show ((64 : Nat) : Int) = 64 from rfl]
          go_region_held3 (fun w' => w'.cell? ⟨g, 0, none⟩ = some (.int .u32 a) ∧ w'.cell? ⟨g, 1, none⟩ = some (.int .u32 b_) ∧ w'.cell? ⟨g, 2, none⟩ = some (.int .u32 c) ∧ w'.cell? ⟨g, 3, none⟩ = some (.int .u32 d) ∧ w'.cell? ⟨g, 4, none⟩ = some (.int .u32 e) ∧ w'.cell? ⟨g, 5, none⟩ = some (.int .u32 f) ∧ w'.cell? ⟨g, 6, none⟩ = some (.int .u32 gg) ∧ w'.cell? ⟨g, 7, none⟩ = some (.int .u32 hx)) (go_keep) (fail)
          go_wp2_with fail
          obtain ⟨w5, hw5⟩ : ∃ w5, wr.drew = w5 := ⟨_, rfl⟩
          rw [hw5]
          have HT5 : Hid (Turn (B + 1) w0 w5) := Lib.hid (by rw [← hw5]; exact HT.out.drew)
          have HW5 : Hid (w5.heap[B + 1]? = some (.cells (ints (W2 m 48)) 136 (0, 0))) := Lib.hid (by rw [← hw5]; exact HW.out)
          have HG5 : Hid (w5.heap[g]? = some (.cells (V8.mk a b_ c d e f gg hx).cells t (0, 0))) := Lib.hid (by rw [← hw5]; exact HGr.out)
          have HK5 : Hid (w5.heap[B]? = some (.cells (ints KK) 124 (0, 0))) := Lib.hid (by rw [HT5.out.block B (by omega)]; exact HK.out)
          clear hw5 c0 c1 c2 c3 c4 c5 c6 c7 HT HW HGr
          obtain ⟨v0, hv0⟩ : ∃ v0, V8.mk a b_ c d e f gg hx = v0 := ⟨_, rfl⟩
          have HV1 := Lib.hid hv0
          go_loopw [13, 14, 15, 16, 17, 18, 19, 20, 21] (fun s13 s14 s15 s16 s17 s18 s19 s20 i wr => ∃ (k : Nat) (v : V8), k ≤ 64 ∧ i = .int .i64 k ∧ Hid (rnds v0 (W2 m 48) k = v) ∧ s13 = .int .u32 v.a ∧ s14 = .int .u32 v.b ∧ s15 = .int .u32 v.c ∧ s16 = .int .u32 v.d ∧ s17 = .int .u32 v.e ∧ s18 = .int .u32 v.f ∧ s19 = .int .u32 v.g ∧ s20 = .int .u32 v.h ∧ Hid (wr.heap = w5.heap) ∧ Hid (Turn (B + 1) w5 wr)) (fun _ _ _ _ _ _ _ _ i _ => 64 - (intOf i).toNat)
          case atStart => exact ⟨0, v0, Nat.zero_le _, rfl, Lib.hid rfl, by rw [← hv0], by rw [← hv0], by rw [← hv0], by rw [← hv0], by rw [← hv0], by rw [← hv0], by rw [← hv0], by rw [← hv0], Lib.hid rfl, Lib.hid (Turn.refl _ _)⟩
          clear hv0
          case round =>
            obtain ⟨k, v, hk, rfl, HV, rfl, rfl, rfl, rfl, rfl, rfl, rfl, rfl, HE, HT⟩ := hrel
            have hok : v.Ok := by rw [← HV.out]; exact rnds_ok (by rw [← HV1.out]; exact HOK.out) _ _
            by_cases hlt : k < 64
            · obtain ⟨xk, gk, ck⟩ : ∃ x, KK.getD k 0 = x ∧ wr.cell? ⟨B, k, none⟩ = some (.int .u32 x) := ⟨_, rfl, ((row_cells ((by rw [HE.out]; exact HK5.out : wr.heap[B]? = some (.cells (ints KK) 124 (0, 0))))).1 k).trans (ints_get (by rw [KK_len]; omega))⟩
              obtain ⟨xw, gw, cw⟩ : ∃ x, (W2 m 48).getD k 0 = x ∧ wr.cell? ⟨B + 1, k, none⟩ = some (.int .u32 x) := ⟨_, rfl, ((row_cells ((by rw [HE.out]; exact HW5.out : wr.heap[B + 1]? = some (.cells (ints (W2 m 48)) 136 (0, 0))))).1 k).trans (ints_get (by rw [W2_len]; omega))⟩
              have HS : Hid (rnds v0 (W2 m 48) (k + 1) = rnd v xk xw) := Lib.hid (by rw [← gk, ← gw, ← HV.out]; rfl)
              obtain ⟨a, b_, c, d, e, f, gg, hx⟩ := v
              obtain ⟨⟨a1, a2⟩, _, _, _, ⟨e1, e2⟩, _, _, _⟩ := hok
              dsimp only at a1 a2 e1 e2 ⊢
              have k0 : (0 : Int) ≤ (k : Int) := by omega
              have k1 : (k : Int) < 64 := by omega
              clear gk gw
              go_wp2_with fail
              rw [← su1_lit e]
              obtain ⟨y, hy⟩ : ∃ y, su1 e = y := ⟨_, rfl⟩
              have HY := Lib.hid hy
              rw [hy]
              clear hy
              obtain ⟨z, hz⟩ : ∃ z, bits BinOp.xor .u32 (bits .and .u32 e f) (bits .and .u32 (bits .xor .u32 IntKind.u32.max e) gg) = z := ⟨_, rfl⟩
              have HZ' : Hid (chf e f gg = z) := Lib.hid hz
              have hsg : (if IntKind.u32.signed = true then (-1 : Int) else IntKind.u32.max) = IntKind.u32.max := rfl
              have t1 : IntKind.u32.wrap (hx + y) = ad hx y := IntKind.wrap_u32 _
              have t2 : IntKind.u32.wrap (ad hx y + z) = ad (ad hx y) z := IntKind.wrap_u32 _
              have t3 : IntKind.u32.wrap (ad (ad hx y) z + xk) = ad (ad (ad hx y) z) xk := IntKind.wrap_u32 _
              obtain ⟨tq, ht⟩ : ∃ t, ad (ad (ad (ad hx y) z) xk) xw = t := ⟨_, rfl⟩
              have HT' : Hid (tt ⟨a, b_, c, d, e, f, gg, hx⟩ xk xw = tq) := Lib.hid (by unfold tt; dsimp only; rw [HY.out, HZ'.out]; exact ht)
              have t4 : IntKind.u32.wrap (ad (ad (ad hx y) z) xk + xw) = tq := by rw [← ht]; exact IntKind.wrap_u32 _
              clear ht
              go_region_held3 (fun w' => w'.cell? ⟨B, k, none⟩ = some (.int .u32 xk) ∧ w'.cell? ⟨B + 1, k, none⟩ = some (.int .u32 xw)) (go_keep) (fail)
              clear t1 t2 t3 t4 hz hsg
              obtain ⟨y2, hy2⟩ : ∃ y, su0 a = y := ⟨_, rfl⟩
              have HY2 := Lib.hid hy2
              rw [su0_lit a] at hy2
              obtain ⟨mj, hmj⟩ : ∃ y, bits BinOp.xor .u32 (bits .xor .u32 (bits .and .u32 a b_) (bits .and .u32 a c)) (bits .and .u32 b_ c) = y := ⟨_, rfl⟩
              have HMJ : Hid (maj a b_ c = mj) := Lib.hid hmj
              have t5 : IntKind.u32.wrap (y2 + mj) = ad y2 mj := IntKind.wrap_u32 _
              have t6 : IntKind.u32.wrap (tq + ad y2 mj) = ad tq (ad y2 mj) := IntKind.wrap_u32 _
              have t7 : IntKind.u32.wrap (d + tq) = ad d tq := IntKind.wrap_u32 _
              go_wp2_with fail
              go_roundw
              case rel =>
                refine ⟨k + 1, ⟨ad tq (ad y2 mj), a, b_, c, ad d tq, e, f, gg⟩, by omega, by go_num, Lib.hid ?_, rfl, rfl, rfl, rfl, rfl, rfl, rfl, rfl, Lib.hid HE.out, Lib.hid HT.out.drew⟩
                rw [HS.out]
                unfold rnd
                dsimp only
                rw [HT'.out, HY2.out, HMJ.out, ad_assoc]
              case measure => simp [intOf]; omega
            · obtain rfl : k = 64 := by omega
              clear hk hlt
              obtain ⟨p0, p1, p2, p3, p4, p5, p6, p7⟩ := v
              dsimp only
              have hgr : wr.heap[g]? = some (.cells (V8.mk a b_ c d e f gg hx).cells t (0, 0)) := by rw [HE.out]; exact HG5.out
              obtain ⟨hc, _⟩ := row_cells hgr
              have c0 : wr.cell? ⟨g, 0, none⟩ = some (.int .u32 a) := hc 0
              have c1 : wr.cell? ⟨g, 1, none⟩ = some (.int .u32 b_) := hc 1
              have c2 : wr.cell? ⟨g, 2, none⟩ = some (.int .u32 c) := hc 2
              have c3 : wr.cell? ⟨g, 3, none⟩ = some (.int .u32 d) := hc 3
              have c4 : wr.cell? ⟨g, 4, none⟩ = some (.int .u32 e) := hc 4
              have c5 : wr.cell? ⟨g, 5, none⟩ = some (.int .u32 f) := hc 5
              have c6 : wr.cell? ⟨g, 6, none⟩ = some (.int .u32 gg) := hc 6
              have c7 : wr.cell? ⟨g, 7, none⟩ = some (.int .u32 hx) := hc 7
              have t0 : IntKind.u32.wrap (a + p0) = ad a p0 := IntKind.wrap_u32 _
              have t1 : IntKind.u32.wrap (b_ + p1) = ad b_ p1 := IntKind.wrap_u32 _
              have t2 : IntKind.u32.wrap (c + p2) = ad c p2 := IntKind.wrap_u32 _
              have t3 : IntKind.u32.wrap (d + p3) = ad d p3 := IntKind.wrap_u32 _
              have t4 : IntKind.u32.wrap (e + p4) = ad e p4 := IntKind.wrap_u32 _
              have t5 : IntKind.u32.wrap (f + p5) = ad f p5 := IntKind.wrap_u32 _
              have t6 : IntKind.u32.wrap (gg + p6) = ad gg p6 := IntKind.wrap_u32 _
              have t7 : IntKind.u32.wrap (hx + p7) = ad hx p7 := IntKind.wrap_u32 _
              clear hc hgr
              go_wp2_with fail
              go_region_held3 (fun w' => w'.cell? ⟨g, 0, none⟩ = some (.int .u32 a) ∧ w'.cell? ⟨g, 1, none⟩ = some (.int .u32 b_) ∧ w'.cell? ⟨g, 2, none⟩ = some (.int .u32 c) ∧ w'.cell? ⟨g, 3, none⟩ = some (.int .u32 d) ∧ w'.cell? ⟨g, 4, none⟩ = some (.int .u32 e) ∧ w'.cell? ⟨g, 5, none⟩ = some (.int .u32 f) ∧ w'.cell? ⟨g, 6, none⟩ = some (.int .u32 gg) ∧ w'.cell? ⟨g, 7, none⟩ = some (.int .u32 hx)) (go_keep) (fail)
              go_wp2_with fail
              go_ret
              have hs1 := HT.out.size
              have hs2 := HT5.out.size
              have hs3 := HZ.out
              have hs4 := hB'.out
              have hcmp : cmp h (bm b) = ⟨ad a p0, ad b_ p1, ad c p2, ad d p3, ad e p4, ad f p5, ad gg p6, ad hx p7⟩ := by
                rw [HM.out]
                unfold cmp
                rw [HV0.out, HV1.out, HV.out, ← HV1.out]
                show V8.mk (ad p0 a) (ad p1 b_) (ad p2 c) (ad p3 d) (ad p4 e) (ad p5 f) (ad p6 gg) (ad p7 hx) = _
                rw [ad_comm p0, ad_comm p1, ad_comm p2, ad_comm p3, ad_comm p4, ad_comm p5, ad_comm p6, ad_comm p7]
              refine ⟨wr.heap.size, rfl, ?_, by omega, ?_⟩
              · rw [heap_drew, heap_alloc_new, hcmp]
                rfl
              · rw [hs4]
                exact (((HBW.out.trans (HT5.out.toBelow (by omega))).trans (HT.out.toBelow (by omega))).alloc (by omega) _).drew
end Go.Proofs.Ytlaodmpdngdhjaa
