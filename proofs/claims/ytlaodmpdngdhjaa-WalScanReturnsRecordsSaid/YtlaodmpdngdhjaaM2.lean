/- Joined texts: Sj Va Vb Vc Vd Ve Vf. -/
import Derived.Test.YtlaodmpdngdhjaaM1
import Derived.Test.YtlaodmpdngdhjaaSd
/- certpathref01.Sum. -/
namespace Go.Proofs.Ytlaodmpdngdhjaa
set_option linter.unusedVariables false
set_option linter.unusedSimpArgs false
open Go.RowKit

/-- The padding, as it is filled in. -/
def TT (N z i : Nat) : List UInt8 := 128 :: (List.replicate z 0 ++ (List.replicate (8 - i) 0 ++ (tl8 N).drop (8 - i)))
theorem TT_len (N z i : Nat) (hi : i ≤ 8) : (TT N z i).length = z + 9 := by
  have : (tl8 N).length = 8 := rfl
  simp only [TT, List.length_cons, List.length_append, List.length_replicate, List.length_drop, this]
  omega
theorem TT_zero (N z p : Nat) (h : z + 9 = p) : (List.replicate p (0 : UInt8)).set 0 128 = TT N z 0 := by
  subst h
  rw [show z + 9 = (z + 8) + 1 by omega, List.replicate_succ, List.set_cons_zero, ← List.replicate_append_replicate]
  rfl
theorem TT_step (N z i : Nat) (hi : i < 8) : (TT N z i).set (z + 8 - i) (UInt8.ofNat (nb N i)) = TT N z (i + 1) := by
  unfold TT
  rw [show z + 8 - i = (z + (7 - i)) + 1 by omega, List.set_cons_succ, List.set_append_right _ _ (by simp), List.length_replicate, Nat.add_sub_cancel_left]
  congr 2
  match i, hi with
  | 0, _ => rfl
  | 1, _ => rfl
  | 2, _ => rfl
  | 3, _ => rfl
  | 4, _ => rfl
  | 5, _ => rfl
  | 6, _ => rfl
  | 7, _ => rfl
theorem TT_all (N z : Nat) (h : zs N = z) : TT N z 8 = pdg N := by
  unfold TT pdg
  rw [h]
  rfl
theorem bset (L : List UInt8) (i : Nat) (x : UInt8) : ((bys L).toArray).setIfInBounds i (.int .u8 (x.toNat : Int)) = (bys (L.set i x)).toArray := by
  apply Array.toList_inj.1
  simp [bys, List.map_set]
theorem nb_byte (N i P : Nat) (x : Int) (hP : 2 ^ (8 * i) = P) (hx : x = ((8 * N / P % 256 : Nat) : Int)) : Value.int .u8 x = .int .u8 ((UInt8.ofNat (nb N i)).toNat : Int) := by
  rw [hx, UInt8.toNat_ofNat', nb, hP]
theorem bm_mo (M : ByteArray) (q j : Nat) (h : q + 64 ≤ M.size) (hj : j < 64) : bm (M.extract q (q + 64)) j = mo (M.data.toList.drop q) j := by
  unfold bm bt mo
  have h1 : j < (M.extract q (q + 64)).size := by simp; omega
  rw [dif_pos h1, List.getD_eq_getElem?_getD, List.getElem?_drop, ByteArray.getElem_extract]
  have h2 : q + j < M.data.toList.length := by rw [Array.length_toList]; show q + j < M.size; omega
  rw [List.getElem?_eq_getElem h2]
  rfl
theorem made_bytes (p : Nat) : madeCells (Value.int .u8 0).cells p = (bys (List.replicate p 0)).toArray := by
  apply Array.ext
  · rw [size_madeCells, List.size_toArray, bys_len, List.length_replicate]
  · intro i h1 h2
    have hi : i < p := by rwa [size_madeCells] at h1
    simp [madeCells, bys]
    have : (Value.int .u8 0).cells.size = 1 := rfl
    rw [this, Nat.mod_one]
    rfl
theorem run_make_bytes (p : Nat) (W : World) (hp : p ≤ 1000) :
    (Instr.makeSlice 69 (.int .i64 (p : Int)) (.int .i64 (p : Int))).run Try.prog W = .ok (.slice (some ⟨W.heap.size, 0, none⟩) p p) (W.alloc (.cells (bys (List.replicate p 0)).toArray 5)) := by
  obtain ⟨i5, h5, h50, h51, h52⟩ := info_parts info5
  have := run_make (P := Try.prog) W 69 5 i5 (.int .u8 0) Try.underlying69 h5 h50 .i64 .i64 (p : Int) (p : Int) (by omega) (by omega) (by rw [h52]; omega) (by omega)
  rw [h51, Nat.mul_one, Int.toNat_natCast, made_bytes] at this
  exact this
set_option maxRecDepth 100000 in
set_option maxHeartbeats 600000 in
theorem rsum_any (v : Value) (L : List ByteArray) (w : World) (h : RowS w v L) (hl : L.length ≤ 1000000) (ht : (cat L).length ≤ 1099511627776) :
    Calls Try.prog 88 #[v] w fun e w' => e = .returned (.string (sha (cat L))) ∧ Below w.heap.size w w' := by
  obtain ⟨i5, h5, h50, h51, h52⟩ := info_parts info5
  obtain ⟨a, c, rfl⟩ := h.shape
  have HR := Lib.hid h
  obtain ⟨n, hn⟩ : ∃ n, L.length = n := ⟨_, rfl⟩
  have HN := Lib.hid hn
  have HT := Lib.hid ht
  rw [hn] at HR hl ⊢
  clear h hn ht
  go_enter Try.func88, Try.ntmps88
  go_wp2_with fail
  go_loop [17, 5, 3] (fun i _ b => ∃ (k : Nat) (x : ByteArray), k ≤ n ∧ i = .int .i64 k ∧ b = .string x ∧ Hid (x.data.toList = cat (L.take k))) (fun i _ _ => n - (intOf i).toNat)
  case atStart => exact ⟨0, ⟨#[]⟩, Nat.zero_le _, rfl, rfl, Lib.hid rfl⟩
  case round =>
    obtain ⟨k, b, hk, rfl, rfl, HC⟩ := hrel
    by_cases hlt : k < n
    · obtain ⟨x, hx⟩ : ∃ x, L[k]? = some x := ⟨L[k]'(by rw [HN.out]; exact hlt), by simp [HN.out, hlt]⟩
      obtain ⟨g, o, rfl, hg, c0⟩ := HR.out.get hx
      have hsn := cat_snoc L k x hx
      have HSN := Lib.hid hsn
      have hle := cat_take L (k + 1)
      have hbx : b.size = (cat (L.take k)).length := by rw [← HC.out, Array.length_toList]; rfl
      rw [hsn, List.length_append, show x.data.toList.length = x.size by rw [Array.length_toList]; rfl] at hle
      have hle2 := Nat.le_trans hle HT.out
      rw [← hbx] at hle2
      clear hx hsn hle hbx
      go_wp2_with fail
      go_round
      case rel => exact ⟨k + 1, b ++ x, by omega, by go_num, rfl, Lib.hid (by rw [HSN.out, ← HC.out]; simp [ByteArray.data_append])⟩
      case measure => simp [intOf]; omega
    · obtain rfl : k = n := by omega
      have hcb : b.data.toList = cat L := by have := HC.out; rw [← HN.out, List.take_length] at this; exact this
      obtain ⟨B, hB⟩ : ∃ B, cat L = B := ⟨_, rfl⟩
      have hsz : b.size = B.length := by rw [← hB, ← hcb, Array.length_toList]; rfl
      obtain ⟨N, hN⟩ : ∃ N, B.length = N := ⟨_, rfl⟩
      rw [hN] at hsz
      have HCB : Hid (b.data.toList = B) := Lib.hid (by rw [← hB]; exact hcb)
      have hNb : N ≤ 1099511627776 := by rw [← hN, ← hB]; exact HT.out
      have HBB := Lib.hid hB
      have HNN := Lib.hid hN
      clear hcb hB hN HC
      obtain ⟨r, hr⟩ : ∃ r, (N + 9) % 64 = r := ⟨_, rfl⟩
      have hrI : ((N : Int) + 9) % 64 = (r : Int) := by omega
      have hr64 : r < 64 := by omega
      obtain ⟨z, hz⟩ : ∃ z, zs N = z := ⟨_, rfl⟩
      have hzr : (r = 0 ∧ z = 0) ∨ (0 < r ∧ 64 - r = z) := by
        rw [← hz]
        unfold zs
        omega
      have HZZ := Lib.hid hz
      have HRR := Lib.hid hr
      clear hz hr
      go_upto_if 33 with (fail)
      show Code.wp _ _ _ _ (w.alloc (.cells ini.cells 124))
      obtain ⟨w1, hw1⟩ : ∃ w1, w.alloc (.cells ini.cells 124) = w1 := ⟨_, rfl⟩
      obtain ⟨D, hD⟩ : ∃ D, w.heap.size = D := ⟨_, rfl⟩
      have HD1 : Hid (w1.heap[D]? = some (.cells ini.cells 124 (0, 0))) := Lib.hid (by rw [← hw1, ← hD]; exact heap_alloc_new _ _)
      have HB1 : Hid (Below D w w1) := Lib.hid (by rw [← hw1, ← hD]; exact (Below.refl _ _).alloc (Nat.le_refl _) _)
      have HZ1 : Hid (w1.heap.size = D + 1) := Lib.hid (by rw [← hw1, ← hD]; simp)
      rw [hw1, hD]
      have HDD := Lib.hid hD
      clear hw1 hD
      go_cut [8] (fun v8 wx => v8 = .int .i64 z ∧ Hid (wx = w1))
      case first =>
        rcases hzr with ⟨rfl, rfl⟩ | ⟨hr0, hz⟩
        · go_wp2_with fail
          go_meet
          exact ⟨rfl, Lib.hid rfl⟩
        · have ht64 : ((64 - (r : Int)) == 64) = false := by rw [beq_eq_false_iff_ne]; omega
          have hzI : 64 - (r : Int) = (z : Int) := by omega
          have hzz : ((z : Int) == 64) = false := by rw [beq_eq_false_iff_ne]; omega
          go_wp2_with fail
          go_meet
          exact ⟨rfl, Lib.hid rfl⟩
      obtain ⟨rfl, hwc⟩ := hcut
      have hwc' := hwc.out
      subst hwc'
      clear hwc
      have hz63 : z < 64 := by omega
      clear hzr
      obtain ⟨p, hp⟩ : ∃ p, z + 9 = p := ⟨_, rfl⟩
      have hpI : 9 + (z : Int) = (p : Int) := by omega
      have hp0 : (0 : Int) ≤ (p : Int) := by omega
      have HPP := Lib.hid hp
      have hp9 : 9 ≤ p ∧ p < 73 := by omega
      obtain ⟨p9, p73⟩ := hp9
      clear hp
      have hmk := fun W => run_make_bytes p W (by omega)
      obtain ⟨wo, rfl⟩ : ∃ wo : World, wo = wc := ⟨_, rfl⟩
      go_upto_region 13 with fail
      clear hmk
      obtain ⟨w2, hw2⟩ : ∃ w2, wo.alloc (.cells (bys (List.replicate p 0)).toArray 5) = w2 := ⟨_, rfl⟩
      have h2 : w2.heap[D + 1]? = some (.cells (bys (List.replicate p 0)).toArray 5 (0, 0)) := by rw [← hw2, ← HZ1.out]; exact heap_alloc_new _ _
      have HB2 : Hid (Below (D + 1) wo w2) := Lib.hid (by rw [← hw2, ← HZ1.out]; exact (Below.refl _ _).alloc (Nat.le_refl _) _)
      have H2 := Lib.hid h2
      have hz1 := HZ1.out
      rw [hw2, hz1]
      have hcl : ∀ i : Nat, i < p → ((bys (List.replicate p 0)).toArray)[i]? = some (.int .u8 0) := fun i hi => by simp [bys, hi]
      have c0 : w2.cell? ⟨D + 1, 0, none⟩ = some (.int .u8 0) := ((row_cells h2).1 0).trans (hcl 0 (by omega))
      have f0 := (row_cells h2).2 0
      have hp1 : (0 : Int) < (p : Int) := by omega
      clear hw2 h2 hcl hz1
      go_upto_region 14 with fail
      obtain ⟨w3, hw3⟩ : ∃ w3, w2.setCell ⟨D + 1, 0, none⟩ (.int .u8 128) = w3 := ⟨_, rfl⟩
      have H3 : Hid (w3.heap[D + 1]? = some (.cells (bys (TT N z 0)).toArray 5 (0, 0))) := Lib.hid (by
        rw [← hw3, set_heap H2.out, ← TT_zero N z p HPP.out, ← bset]
        rfl)
      have HT3 : Hid (Turn (D + 1) w2 w3) := Lib.hid (by rw [← hw3]; exact set_turn _ _ _ _)
      rw [hw3]
      clear hw3 c0 f0
      go_wp2_with fail
      go_loopw [10] (fun i wr => ∃ k : Nat, k ≤ 8 ∧ i = .int .i64 k ∧ Hid (wr.heap[D + 1]? = some (.cells (bys (TT N z k)).toArray 5 (0, 0))) ∧ Hid (Turn (D + 1) w2 wr)) (fun i _ => (8 - intOf i).toNat)
      case atStart => exact ⟨0, Nat.zero_le _, rfl, H3, HT3⟩
      case round =>
        clear H3 HT3
        obtain ⟨k, hk, rfl, HX, HT⟩ := hrel
        by_cases hlt : k < 8
        · obtain ⟨q, hq⟩ : ∃ q, z + 8 - k = q := ⟨_, rfl⟩
          obtain ⟨p1, hp1'⟩ : ∃ p1, z + 8 = p1 := ⟨_, rfl⟩
          have hpp := HPP.out
          have e1 : (p : Int) - 1 = (p1 : Int) := by omega
          have HST : Hid ((TT N z k).set q (UInt8.ofNat (nb N k)) = TT N z (k + 1)) := Lib.hid (by rw [← hq]; exact TT_step N z k hlt)
          have hq0 : (0 : Int) ≤ (q : Int) := by omega
          have hqp : (q : Int) < (p : Int) := by omega
          have hqp2 : q < p := by omega
          obtain ⟨u, cu⟩ : ∃ u, wr.cell? ⟨D + 1, q, none⟩ = some u := by
            have hl : q < (bys (TT N z k)).length := by rw [bys_len, TT_len _ _ _ hk]; omega
            exact ⟨(bys (TT N z k))[q], ((row_cells HX.out).1 q).trans (by simp [hl])⟩
          have fu := (row_cells HX.out).2 q
          obtain ⟨i, hi⟩ : ∃ i : Int, (k : Int) = i := ⟨_, rfl⟩
          have e2 : (p1 : Int) - i = (q : Int) := by omega
          have hi7 : i = 0 ∨ i = 1 ∨ i = 2 ∨ i = 3 ∨ i = 4 ∨ i = 5 ∨ i = 6 ∨ i = 7 := by omega
          rw [hi]
          have HI' := Lib.hid hi
          clear hi hq hp1' hpp
          rcases hi7 with rfl | rfl | rfl | rfl | rfl | rfl | rfl | rfl
          all_goals
            try simp only [Int.sub_zero] at e2
            go_wp2_with fail
            go_roundw
            case rel =>
              have hi := HI'.out
              refine ⟨k + 1, by omega, (by congr 1; omega), Lib.hid ?_, Lib.hid (HT.out.trans (set_turn _ _ _ _))⟩
              first
                | (obtain rfl : k = 0 := by omega
                   rw [nb_byte N 0 1 (8 * (N : Int) % 256) (by decide) (by omega), set_heap HX.out, bset, HST.out])
                | (obtain rfl : k = 1 := by omega
                   rw [nb_byte N 1 256 (8 * (N : Int) / 256 % 256) (by decide) (by omega), set_heap HX.out, bset, HST.out])
                | (obtain rfl : k = 2 := by omega
                   rw [nb_byte N 2 65536 (8 * (N : Int) / 65536 % 256) (by decide) (by omega), set_heap HX.out, bset, HST.out])
                | (obtain rfl : k = 3 := by omega
                   rw [nb_byte N 3 16777216 (8 * (N : Int) / 16777216 % 256) (by decide) (by omega), set_heap HX.out, bset, HST.out])
                | (obtain rfl : k = 4 := by omega
                   rw [nb_byte N 4 4294967296 (8 * (N : Int) / 4294967296 % 256) (by decide) (by omega), set_heap HX.out, bset, HST.out])
                | (obtain rfl : k = 5 := by omega
                   rw [nb_byte N 5 1099511627776 (8 * (N : Int) / 1099511627776) (by decide) (by omega), set_heap HX.out, bset, HST.out])
                | (obtain rfl : k = 6 := by omega
                   rw [nb_byte N 6 281474976710656 (8 * (N : Int) / 281474976710656) (by decide) (by omega), set_heap HX.out, bset, HST.out])
                | (obtain rfl : k = 7 := by omega
                   rw [nb_byte N 7 72057594037927936 (8 * (N : Int) / 72057594037927936) (by decide) (by omega), set_heap HX.out, bset, HST.out])
            case measure => simp [intOf]
        · obtain rfl : k = 8 := by omega
          have HPD : Hid (wr.heap[D + 1]? = some (.cells (bys (pdg N)).toArray 5 (0, 0))) := Lib.hid (by
            have := HX.out
            rw [TT_all N z HZZ.out] at this
            exact this)
          obtain ⟨wo2, rfl⟩ : ∃ wo2 : World, wo2 = wr := ⟨_, rfl⟩
          have hown : wo2.ownsRow (D + 1) 5 1 (.slice (some ⟨D + 1, 0, none⟩) p p) p (bys (pdg N)) :=
            ⟨by rw [bys_len, pdg_len, HZZ.out, Nat.mul_one]; have := HPP.out; omega, .inr ⟨D + 1, p, _, rfl, Nat.le_refl _, HPD.out, Nat.le_refl _, by unfold maxLen; omega, by rw [List.size_toArray, bys_len, pdg_len, HZZ.out, Nat.mul_one]; have := HPP.out; omega, by
              rw [List.take_of_length_le (by simp [bys_len, pdg_len, HZZ.out]; have := HPP.out; omega)]⟩⟩
          have hcv := conv_row hown (by omega)
          have HBO : Hid (Below D w wo2) := Lib.hid ((HB1.out.trans (HB2.out.mono (by omega))).trans (HT.out.toBelow (by omega)))
          have hps : (⟨(pdg N).toArray⟩ : ByteArray).size = p := by
            show (pdg N).toArray.size = p
            rw [List.size_toArray, pdg_len, HZZ.out]
            exact HPP.out
          clear hown
          have hbp : b.size + p ≤ 1099511627776 + 1000 := by omega
          go_upto_region 19 with fail
          clear hcv
          obtain ⟨M, hM⟩ : ∃ M, b ++ (⟨(pdg N).toArray⟩ : ByteArray) = M := ⟨_, rfl⟩
          have HML : Hid (M.data.toList = B ++ pdg N) := Lib.hid (by rw [← hM, ← HCB.out]; simp [ByteArray.data_append])
          have hms : M.size = N + p := by rw [← hM, ByteArray.size_append, hps, hsz]
          obtain ⟨T, hT⟩ : ∃ T, (N + zs N + 9) / 64 = T := ⟨_, rfl⟩
          have hST : N + p = 64 * T := by
            have := (zs_total N).1
            rw [HZZ.out] at this hT
            have := HPP.out
            omega
          rw [hST] at hms
          rw [hM, show ((8 : Nat) : Int) = 8 from rfl]
          have HTT := Lib.hid hT
          have HMS := Lib.hid hms
          have hT1 : 64 * T ≤ 1099511627776 + 1000 := by omega
          have hD0 : Hid (wo2.heap[D]? = some (.cells ini.cells 124 (0, 0))) := Lib.hid (by rw [HT.out.block D (by omega), HB2.out.block D (by omega)]; exact HD1.out)
          have HH0 : Hid (wo2.heap[D]? = some (.cells (blocks ini 0 (B ++ pdg N)).cells 124 (0, 0))) := Lib.hid (by rw [blocks_zero]; exact hD0.out)
          clear hM hT hST hps hD0 hbp hms
          go_wp2_with fail
          go_loopw [11, 6] (fun i hv wr => ∃ k r q : Nat, k ≤ T ∧ 64 * k = q ∧ i = .int .i64 q ∧ hv = .slice (some ⟨r, 0, none⟩) 8 8 ∧ Hid (wr.heap[r]? = some (.cells (blocks ini k (B ++ pdg N)).cells 124 (0, 0))) ∧ Hid (Below D w wr)) (fun i _ _ => 64 * T - (intOf i).toNat)
          case atStart => exact ⟨0, D, 0, Nat.zero_le _, rfl, rfl, rfl, HH0, HBO⟩
          case round =>
            clear HT HX hk
            obtain ⟨k, r, q, hk, hq, rfl, rfl, HX, HB⟩ := hrel
            by_cases hlt : k < T
            · obtain ⟨v, hv⟩ : ∃ v, blocks ini k (B ++ pdg N) = v := ⟨_, rfl⟩
              have hvo : v.Ok := by rw [← hv]; exact blocks_ok ini_ok _ _
              rw [hv] at HX
              have hms := HMS.out
              have hq1 : (q : Int) < (M.size : Int) := by omega
              have hq2 : (q : Int) + 64 ≤ (M.size : Int) := by omega
              have hq3 : q + 64 ≤ M.size := by omega
              have hqb : (q : Int) ≤ 1099511628776 := by omega
              have hes : (M.extract q (q + 64)).size = 64 := by simp; omega
              have hcmp : cmp v (bm (M.extract q (q + 64))) = blocks ini (k + 1) (B ++ pdg N) := by
                rw [blocks_snoc, hv, hq, ← HML.out]
                exact cmp_congr v fun j hj => bm_mo M q j hq3 hj
              have HRR' := Lib.hid (rround_any v hvo r 8 (M.extract q (q + 64)) 124 wr HX.out hes)
              rw [hcmp] at HRR'
              clear hv hvo hes hcmp hms
              have HQ := Lib.hid hq
              clear hq
              go_wp2_with fail
              refine HRR'.out.mono ?_
              rintro e w5 ⟨r5, rfl, hx5, hr5, hb5⟩
              have HX5 := Lib.hid hx5
              have HB5 := Lib.hid hb5
              clear hx5 hb5
              go_wp2_with fail
              go_roundw
              case rel =>
                have hq := HQ.out
                refine ⟨k + 1, r5, q + 64, by omega, by omega, by go_num, rfl, HX5, Lib.hid (HB.out.trans (HB5.out.mono (by rw [← HDD.out]; exact HB.out.size)))⟩
              case measure => simp [intOf]; have := HMS.out; omega
            · obtain rfl : k = T := by omega
              have HSH : Hid (shaL B = outV (blocks ini k (B ++ pdg N))) := Lib.hid (by unfold shaL; rw [HNN.out, HTT.out])
              obtain ⟨v, hv⟩ : ∃ v, blocks ini k (B ++ pdg N) = v := ⟨_, rfl⟩
              have HRO : Hid v.Ok := Lib.hid (by rw [← hv]; exact blocks_ok ini_ok _ _)
              rw [hv] at HX HSH
              obtain ⟨r0, r1, r2, r3, r4, r5, r6, r7⟩ := v
              have hms := HMS.out
              have hq1 : ¬ (q : Int) < (M.size : Int) := by omega
              obtain ⟨wo3, rfl⟩ : ∃ wo3 : World, wo3 = wr := ⟨_, rfl⟩
              have hmk : ∀ W : World, (Instr.makeSlice 69 (.int .i64 0) (.int .i64 32)).run Try.prog W = .ok (.slice (some ⟨W.heap.size, 0, none⟩) 0 32) (W.alloc (.cells (bys (List.replicate 32 0)).toArray 5)) := fun W => by
                have := run_make (P := Try.prog) W 69 5 i5 (.int .u8 0) Try.underlying69 h5 h50 .i64 .i64 0 32 (by omega) (by omega) (by rw [h52]; omega) (by omega)
                rw [h51, Nat.mul_one, show (32 : Int).toNat = 32 from rfl, made_bytes] at this
                exact this
              clear hv hms
              go_upto_region 24 with fail
              clear hmk hq1
              obtain ⟨O, hO⟩ : ∃ O, wo3.heap.size = O := ⟨_, rfl⟩
              obtain ⟨w6, hw6⟩ : ∃ w6, wo3.alloc (.cells (bys (List.replicate 32 0)).toArray 5) = w6 := ⟨_, rfl⟩
              have HO6 : Hid (w6.ownsRow O 5 1 (.slice (some ⟨O, 0, none⟩) 0 32) (4 * 0) (bys ((outV ⟨r0, r1, r2, r3, r4, r5, r6, r7⟩).take (4 * 0)))) := Lib.hid (by
                have hh : w6.heap[O]? = some (.cells (bys (List.replicate 32 0)).toArray 5 (0, 0)) := by rw [← hw6, ← hO]; exact heap_alloc_new _ _
                refine ⟨rfl, .inr ⟨O, 32, _, rfl, Nat.le_refl _, hh, Nat.zero_le _, by decide, by simp [bys], rfl⟩⟩)
              have HB6 : Hid (Below O wo3 w6) := Lib.hid (by rw [← hw6, ← hO]; exact (Below.refl _ _).alloc (Nat.le_refl _) _)
              have hO6 : O ≤ w6.heap.size := by have := HB6.out.size; omega
              have HOO := Lib.hid hO
              show Code.wp _ _ _ _ (wo3.alloc (.cells (bys (List.replicate 32 0)).toArray 5))
              rw [hw6, hO]
              have hrO : r < O := by rw [← hO]; exact heap_lt HX.out
              have HX6 : Hid (w6.heap[r]? = some (.cells (V8.mk r0 r1 r2 r3 r4 r5 r6 r7).cells 124 (0, 0))) := Lib.hid (by rw [HB6.out.block r hrO]; exact HX.out)
              clear hw6 hO
              go_wp2_with fail
              go_loopw [76, 14, 12] (fun i _ v wx => ∃ k : Nat, k ≤ 8 ∧ i = .int .i64 k ∧ Hid (wx.ownsRow O 5 1 v (4 * k) (bys ((outV ⟨r0, r1, r2, r3, r4, r5, r6, r7⟩).take (4 * k)))) ∧ Hid (Below O w6 wx)) (fun i _ _ _ => (8 - intOf i).toNat)
              case atStart => exact ⟨0, Nat.zero_le _, rfl, HO6, Lib.hid (Below.refl _ _)⟩
              case round =>
                obtain ⟨k2, hk2, rfl, HO, HBx⟩ := hrel
                by_cases hlt2 : k2 < 8
                · obtain ⟨x, hx⟩ : ∃ x, (V8.mk r0 r1 r2 r3 r4 r5 r6 r7).lst.getD k2 0 = x := ⟨_, rfl⟩
                  have hxb : B32 x := by rw [← hx]; exact HRO.out.all k2
                  have cx : wr.cell? ⟨r, k2, none⟩ = some (.int .u32 x) := by
                    have h1 : wr.heap[r]? = some (.cells (ints (V8.mk r0 r1 r2 r3 r4 r5 r6 r7).lst) 124 (0, 0)) := by rw [HBx.out.block r hrO]; exact HX6.out
                    rw [← hx]
                    exact ((row_cells h1).1 k2).trans (ints_get (show k2 < 8 from hlt2))
                  have HXX := Lib.hid hx
                  have HXB := Lib.hid hxb
                  obtain ⟨x0, x1⟩ := hxb
                  have S4 : Hid (∀ (W : World) (a b c d : Value), Src (W.alloc (.cells #[a, b, c, d] 5)) 1 (.slice (some ⟨W.heap.size, 0, none⟩) 4 4) 4 [a, b, c, d]) := Lib.hid fun W a b c d => .inr ⟨_, _, rfl, rfl, cells_new' W [a, b, c, d] 5⟩
                  have hwx := HBx.out.size
                  have k20 : (0 : Int) ≤ (k2 : Int) := by omega
                  have k28 : (k2 : Int) < 8 := by omega
                  clear hx
                  go_wp2_with (at_builtin; go_loud (refine wpList_app rfl (.tmp 80) (.tmp 92) 69 rfl O 5 i5 (.int .u8 0) 1 1 Try.underlying69 h5 h50 h51 h52 rfl (by omega) _ (4 * k2) _ rfl (HO.out.alloc _) (.slice (some ⟨wr.heap.size, 0, none⟩) 4 4) 4 [.int .u8 (x / 16777216), .int .u8 (x / 65536 % 256), .int .u8 (x / 256 % 256), .int .u8 (x % 256)] rfl (S4.out wr _ _ _ _) (by rw [← bys_outW x HXB.out]; exact bys_one _) (by unfold maxLen; omega) (by omega) (by simp; omega) ?_; intro v7 w7 o7 g7 q7))
                  go_roundw
                  case rel =>
                    have gs := g7.out.size
                    simp at gs
                    refine ⟨k2 + 1, by omega, by go_num, Lib.hid ?_, Lib.hid ((HBx.out.alloc (by omega) _).grown g7.out (by simp; omega) (fun k hk => (HO.out.lt k hk).1))⟩
                    rw [outV_take _ k2 hlt2, bys_append, HXX.out, bys_outW x HXB.out, show 4 * (k2 + 1) = 4 * k2 + 4 by omega]
                    exact o7.out
                  case measure => simp [intOf]; omega
                · obtain rfl : k2 = 8 := by omega
                  have hcv := conv_row HO.out (by omega)
                  go_wp2_with fail
                  go_ret
                  refine ⟨?_, ?_⟩
                  · unfold sha
                    rw [HBB.out, HSH.out]
                    rfl
                  · have hDO : w.heap.size ≤ O := by rw [← HOO.out]; exact HB.out.size
                    rw [← HDD.out] at HB
                    exact (HB.out.trans (HB6.out.mono hDO)).trans (HBx.out.mono hDO)
end Go.Proofs.Ytlaodmpdngdhjaa

/- The plain log: numbers, frames, scans. -/
namespace Go.Proofs.Ytlaodmpdngdhjaa
set_option linter.unusedVariables false
set_option linter.unusedSimpArgs false

def beN (p n : Nat) : List UInt8 := (List.range p).map fun j => UInt8.ofNat (n / 2 ^ (8 * (p - 1 - j)))
theorem beN_len (p n : Nat) : (beN p n).length = p := by simp [beN]
theorem beN_get (p n j : Nat) (h : j < p) : (beN p n)[j]? = some (UInt8.ofNat (n / 2 ^ (8 * (p - 1 - j)))) := by simp [beN, h]
/-- Filled from the end. -/
def FB (R : List UInt8) (i : Nat) : List UInt8 := List.replicate (R.length - i) 0 ++ R.drop (R.length - i)
theorem FB_zero (R : List UInt8) : FB R 0 = List.replicate R.length 0 := by simp [FB]
theorem FB_all (R : List UInt8) : FB R R.length = R := by simp [FB]
theorem FB_len (R : List UInt8) (i : Nat) (h : i ≤ R.length) : (FB R i).length = R.length := by
  simp only [FB, List.length_append, List.length_replicate, List.length_drop]
  omega
theorem FB_step (R : List UInt8) (i : Nat) (x : UInt8) (h : i < R.length) (hx : R[R.length - 1 - i]? = some x) : (FB R i).set (R.length - 1 - i) x = FB R (i + 1) := by
  unfold FB
  have h1 : R.length - i = (R.length - 1 - i) + 1 := by omega
  have h2 : R.length - (i + 1) = R.length - 1 - i := by omega
  rw [h2, h1]
  generalize R.length - 1 - i = m at *
  rw [List.set_append_left _ _ (by simp)]
  have e1 : (List.replicate (m + 1) (0 : UInt8)).set m x = List.replicate m 0 ++ [x] := by
    rw [← List.replicate_append_replicate, List.set_append_right _ _ (by simp)]
    simp
  rw [e1, List.append_assoc]
  congr 1
  obtain ⟨hm, rfl⟩ := List.getElem?_eq_some_iff.1 hx
  rw [List.drop_eq_getElem_cons hm]
  rfl
/-- Filled from the front. -/
def FF (R : List UInt8) (i : Nat) : List UInt8 := R.take i ++ List.replicate (R.length - i) 0
theorem FF_zero (R : List UInt8) : FF R 0 = List.replicate R.length 0 := by simp [FF]
theorem FF_all (R : List UInt8) : FF R R.length = R := by simp [FF]
theorem FF_len (R : List UInt8) (i : Nat) (h : i ≤ R.length) : (FF R i).length = R.length := by
  simp only [FF, List.length_append, List.length_replicate, List.length_take]
  omega
theorem FF_step (R : List UInt8) (i : Nat) (x : UInt8) (h : i < R.length) (hx : R[i]? = some x) : (FF R i).set i x = FF R (i + 1) := by
  unfold FF
  have h1 : R.length - i = (R.length - (i + 1)) + 1 := by omega
  rw [h1, List.set_append_right _ _ (by rw [List.length_take]; omega), List.length_take, Nat.min_eq_left (by omega), Nat.sub_self, List.replicate_succ, List.set_cons_zero, List.take_add_one, hx]
  simp
/-- A record as it stands in the file. -/
def frmL (n : Nat) (d : ByteArray) : List UInt8 := beN 4 d.size ++ (shaL (beN 8 n ++ d.data.toList)).take 4 ++ d.data.toList
def frm (n : Nat) (d : ByteArray) : ByteArray := ⟨(frmL n d).toArray⟩
theorem frm_size (n : Nat) (d : ByteArray) : (frm n d).size = d.size + 8 := by
  show (frmL n d).toArray.size = _
  have h : d.data.toList.length = d.size := by rw [Array.length_toList]; rfl
  rw [List.size_toArray, frmL, List.length_append, List.length_append, beN_len, List.length_take, shaL_len, h]
  omega
/-- The number in four bytes. -/
def val4 (b : ByteArray) (i : Nat) : Nat := ((bt b i * 256 + bt b (i + 1)) * 256 + bt b (i + 2)) * 256 + bt b (i + 3)
theorem val4_lt (b : ByteArray) (i : Nat) : val4 b i < 4294967296 := by
  have h0 := bt_lt b i
  have h1 := bt_lt b (i + 1)
  have h2 := bt_lt b (i + 2)
  have h3 := bt_lt b (i + 3)
  unfold val4
  omega
/-- A scan from a place on. -/
def scn (b : ByteArray) (i : Nat) (out : List ByteArray) : Option (List ByteArray × Nat) :=
  if _h : b.size - i < 4 then some (out, i)
  else if 65536 < val4 b i then none
  else if b.size - i < 8 + val4 b i then some (out, i)
  else if b.extract i (i + 8 + val4 b i) ≠ frm out.length (b.extract (i + 8) (i + 8 + val4 b i)) ∨ out.length = 4096 then none
  else scn b (i + (8 + val4 b i)) (out ++ [b.extract (i + 8) (i + 8 + val4 b i)])
  termination_by b.size - i
  decreasing_by omega
def scanR (b : ByteArray) : List ByteArray × Nat × Int := match scn b 0 [] with
  | some (l, n) => (l, n, 0)
  | none => ([], 0, 27)
end Go.Proofs.Ytlaodmpdngdhjaa

/- wal.number, certpathref21.B8. -/
namespace Go.Proofs.Ytlaodmpdngdhjaa
set_option linter.unusedVariables false
set_option linter.unusedSimpArgs false
open Go.RowKit

theorem byteN (n i P : Nat) (x : Int) (hP : 2 ^ (8 * i) = P) (hx : x = ((n / P % 256 : Nat) : Int)) : Value.int .u8 x = .int .u8 ((UInt8.ofNat (n / 2 ^ (8 * i))).toNat : Int) := by
  rw [hx, UInt8.toNat_ofNat', hP]
/-- A block of bytes as a row. -/
theorem own_bytes {w : World} {g p base : Nat} {L : List UInt8} (h : w.heap[g]? = some (.cells (bys L).toArray 5 (0, 0))) (hb : base ≤ g) (hl : L.length = p) (hp : p ≤ 1000000) : w.ownsRow base 5 1 (.slice (some ⟨g, 0, none⟩) p p) p (bys L) :=
  ⟨by rw [bys_len, Nat.mul_one]; exact hl, .inr ⟨g, p, _, rfl, hb, h, Nat.le_refl _, by unfold maxLen; omega, by rw [List.size_toArray, bys_len, Nat.mul_one]; exact hl, by
    rw [List.take_of_length_le (by simp [bys_len]; omega)]⟩⟩
set_option maxRecDepth 100000 in
set_option maxHeartbeats 4000000 in
theorem number_any (n p : Nat) (w : World) (hn : n < 9223372036854775808) (hp : p = 4 ∨ p = 8) :
    Calls Try.prog 92 #[.int .i64 n, .int .i64 p] w fun e w' => e = .returned (.string ⟨(beN p n).toArray⟩) ∧ Below w.heap.size w w' := by
  have hp4 : 4 ≤ p := by omega
  have hp8 : p ≤ 8 := by omega
  have hmk := fun W => run_make_bytes p W (by omega)
  have HPP := Lib.hid hp
  have HNN := Lib.hid hn
  clear hp hn
  go_enter Try.func92, Try.ntmps92
  go_upto_region 2 with fail
  clear hmk
  obtain ⟨D, hD⟩ : ∃ D, w.heap.size = D := ⟨_, rfl⟩
  obtain ⟨w2, hw2⟩ : ∃ w2, w.alloc (.cells (bys (List.replicate p 0)).toArray 5) = w2 := ⟨_, rfl⟩
  have H2 : Hid (w2.heap[D]? = some (.cells (bys (FB (beN p n) 0)).toArray 5 (0, 0))) := Lib.hid (by rw [FB_zero, beN_len, ← hw2, ← hD]; exact heap_alloc_new _ _)
  have HB2 : Hid (Below D w w2) := Lib.hid (by rw [← hw2, ← hD]; exact (Below.refl _ _).alloc (Nat.le_refl _) _)
  have HDD := Lib.hid hD
  rw [hw2, hD]
  clear hw2 hD
  go_wp2_with fail
  go_loopw [11, 6] (fun i _ wr => ∃ k : Nat, k ≤ p ∧ i = .int .i64 k ∧ Hid (wr.heap[D]? = some (.cells (bys (FB (beN p n) k)).toArray 5 (0, 0))) ∧ Hid (Turn D w2 wr)) (fun i _ _ => (p - intOf i).toNat)
  case atStart => exact ⟨0, Nat.zero_le _, rfl, H2, Lib.hid (Turn.refl _ _)⟩
  case round =>
    obtain ⟨k, hk, rfl, HX, HT⟩ := hrel
    by_cases hlt : k < p
    · obtain ⟨p1, hp1'⟩ : ∃ p1, p - 1 = p1 := ⟨_, rfl⟩
      obtain ⟨q, hq⟩ : ∃ q, p1 - k = q := ⟨_, rfl⟩
      have e1 : (p : Int) - 1 = (p1 : Int) := by omega
      have HST : Hid ((FB (beN p n) k).set q (UInt8.ofNat (n / 2 ^ (8 * k))) = FB (beN p n) (k + 1)) := Lib.hid (by
        have hg := beN_get p n q (by omega)
        rw [show p - 1 - q = k by omega] at hg
        have := FB_step (beN p n) k (UInt8.ofNat (n / 2 ^ (8 * k))) (by rw [beN_len]; exact hlt) (by rw [beN_len, show p - 1 - k = q by omega]; exact hg)
        rw [beN_len, show p - 1 - k = q by omega] at this
        exact this)
      have hq0 : (0 : Int) ≤ (q : Int) := by omega
      have hqp : (q : Int) < (p : Int) := by omega
      have hqp2 : q < p := by omega
      obtain ⟨u, cu⟩ : ∃ u, wr.cell? ⟨D, q, none⟩ = some u := by
        have hl : q < (bys (FB (beN p n) k)).length := by rw [bys_len, FB_len _ _ (by rw [beN_len]; exact hk), beN_len]; omega
        exact ⟨(bys (FB (beN p n) k))[q], ((row_cells HX.out).1 q).trans (by simp [hl])⟩
      have fu := (row_cells HX.out).2 q
      obtain ⟨i, hi⟩ : ∃ i : Int, (k : Int) = i := ⟨_, rfl⟩
      have e2 : (p1 : Int) - i = (q : Int) := by omega
      have hi7 : i = 0 ∨ i = 1 ∨ i = 2 ∨ i = 3 ∨ i = 4 ∨ i = 5 ∨ i = 6 ∨ i = 7 := by omega
      have hip : i < (p : Int) := by omega
      rw [hi]
      have HI' := Lib.hid hi
      clear hi hq hp1'
      rcases hi7 with rfl | rfl | rfl | rfl | rfl | rfl | rfl | rfl
      all_goals
        try simp only [Int.sub_zero] at e2
        go_wp2_with fail
        go_roundw
        case rel =>
          have hi := HI'.out
          refine ⟨k + 1, by omega, (by congr 1; omega), Lib.hid ?_, Lib.hid (HT.out.trans (set_turn _ _ _ _))⟩
          first
            | (obtain rfl : k = 0 := by omega
               rw [byteN n 0 1 ((n : Int) % 256) (by decide) (by omega), set_heap HX.out, bset, HST.out])
            | (obtain rfl : k = 1 := by omega
               rw [byteN n 1 256 ((n : Int) / 256 % 256) (by decide) (by omega), set_heap HX.out, bset, HST.out])
            | (obtain rfl : k = 2 := by omega
               rw [byteN n 2 65536 ((n : Int) / 65536 % 256) (by decide) (by omega), set_heap HX.out, bset, HST.out])
            | (obtain rfl : k = 3 := by omega
               rw [byteN n 3 16777216 ((n : Int) / 16777216 % 256) (by decide) (by omega), set_heap HX.out, bset, HST.out])
            | (obtain rfl : k = 4 := by omega
               rw [byteN n 4 4294967296 ((n : Int) / 4294967296 % 256) (by decide) (by omega), set_heap HX.out, bset, HST.out])
            | (obtain rfl : k = 5 := by omega
               rw [byteN n 5 1099511627776 ((n : Int) / 1099511627776 % 256) (by decide) (by omega), set_heap HX.out, bset, HST.out])
            | (obtain rfl : k = 6 := by omega
               rw [byteN n 6 281474976710656 ((n : Int) / 281474976710656 % 256) (by decide) (by omega), set_heap HX.out, bset, HST.out])
            | (obtain rfl : k = 7 := by omega
               rw [byteN n 7 72057594037927936 ((n : Int) / 72057594037927936 % 256) (by decide) (by omega), set_heap HX.out, bset, HST.out])
            | (obtain rfl : k = 7 := by omega
               rw [byteN n 7 72057594037927936 ((n : Int) / 72057594037927936) (by decide) (by omega), set_heap HX.out, bset, HST.out])
        case measure => simp [intOf]; omega
    · obtain rfl : k = p := by omega
      have HPD : Hid (wr.heap[D]? = some (.cells (bys (beN k n)).toArray 5 (0, 0))) := Lib.hid (by
        have := HX.out
        have h2 := FB_all (beN k n)
        rw [beN_len] at h2
        rw [h2] at this
        exact this)
      have hcv := conv_row (own_bytes (base := D) HPD.out (Nat.le_refl _) (beN_len _ _) (by omega)) (by omega)
      go_wp2_with fail
      go_ret
      exact ⟨rfl, by rw [HDD.out]; exact HB2.out.trans (HT.out.toBelow (Nat.le_refl _))⟩
set_option maxRecDepth 100000 in
set_option maxHeartbeats 4000000 in
theorem b8_any (n : Nat) (w : World) (hn : n < 9223372036854775808) :
    Calls Try.prog 87 #[.int .i64 n] w fun e w' => e = .returned (.string ⟨(beN 8 n).toArray⟩) ∧ Below w.heap.size w w' := by
  have hmk : ∀ W : World, (Instr.makeSlice 69 (.int .i64 8) (.int .i64 8)).run Try.prog W = .ok (.slice (some ⟨W.heap.size, 0, none⟩) 8 8) (W.alloc (.cells (bys (List.replicate 8 0)).toArray 5)) := fun W => run_make_bytes 8 W (by omega)
  have hu : IntKind.u64.wrap (n : Int) = (n : Int) := IntWalk.u64_in _ (by omega)
  have HNN := Lib.hid hn
  clear hn
  go_enter Try.func87, Try.ntmps87
  go_upto_region 2 with fail
  clear hmk
  obtain ⟨D, hD⟩ : ∃ D, w.heap.size = D := ⟨_, rfl⟩
  show Code.wp _ _ _ _ (w.alloc (.cells (bys (List.replicate 8 0)).toArray 5))
  obtain ⟨w2, hw2⟩ : ∃ w2, w.alloc (.cells (bys (List.replicate 8 0)).toArray 5) = w2 := ⟨_, rfl⟩
  have H2 : Hid (w2.heap[D]? = some (.cells (bys (FF (beN 8 n) 0)).toArray 5 (0, 0))) := Lib.hid (by rw [FF_zero, beN_len, ← hw2, ← hD]; exact heap_alloc_new _ _)
  have HB2 : Hid (Below D w w2) := Lib.hid (by rw [← hw2, ← hD]; exact (Below.refl _ _).alloc (Nat.le_refl _) _)
  have HDD := Lib.hid hD
  rw [hw2, hD]
  clear hw2 hD
  go_wp2_with fail
  go_loopw [4] (fun i wr => ∃ k : Nat, k ≤ 8 ∧ i = .int .i64 k ∧ Hid (wr.heap[D]? = some (.cells (bys (FF (beN 8 n) k)).toArray 5 (0, 0))) ∧ Hid (Turn D w2 wr)) (fun i _ => (8 - intOf i).toNat)
  case atStart => exact ⟨0, Nat.zero_le _, rfl, H2, Lib.hid (Turn.refl _ _)⟩
  case round =>
    obtain ⟨k, hk, rfl, HX, HT⟩ := hrel
    by_cases hlt : k < 8
    · have HST : Hid ((FF (beN 8 n) k).set k (UInt8.ofNat (n / 2 ^ (8 * (7 - k)))) = FF (beN 8 n) (k + 1)) := Lib.hid (FF_step (beN 8 n) k _ (by rw [beN_len]; exact hlt) (beN_get 8 n k hlt))
      obtain ⟨u, cu⟩ : ∃ u, wr.cell? ⟨D, k, none⟩ = some u := by
        have hl : k < (bys (FF (beN 8 n) k)).length := by rw [bys_len, FF_len _ _ (by rw [beN_len]; exact hk), beN_len]; omega
        exact ⟨(bys (FF (beN 8 n) k))[k], ((row_cells HX.out).1 k).trans (by simp [hl])⟩
      have fu := (row_cells HX.out).2 k
      have hi7 : k = 0 ∨ k = 1 ∨ k = 2 ∨ k = 3 ∨ k = 4 ∨ k = 5 ∨ k = 6 ∨ k = 7 := by omega
      rcases hi7 with rfl | rfl | rfl | rfl | rfl | rfl | rfl | rfl
      all_goals
        go_wp2_with fail
        go_roundw
        case rel =>
          first
            | exact ⟨1, by omega, rfl, Lib.hid (by rw [byteN n 7 72057594037927936 ((n : Int) / 72057594037927936 % 256) (by decide) (by omega), set_heap HX.out, bset]; exact congrArg (fun L => some (Obj.cells (bys L).toArray 5 (0, 0))) HST.out), Lib.hid (HT.out.trans (set_turn _ _ _ _))⟩
            | exact ⟨1, by omega, rfl, Lib.hid (by rw [byteN n 7 72057594037927936 ((n : Int) / 72057594037927936) (by decide) (by omega), set_heap HX.out, bset]; exact congrArg (fun L => some (Obj.cells (bys L).toArray 5 (0, 0))) HST.out), Lib.hid (HT.out.trans (set_turn _ _ _ _))⟩
            | exact ⟨2, by omega, rfl, Lib.hid (by rw [byteN n 6 281474976710656 ((n : Int) / 281474976710656 % 256) (by decide) (by omega), set_heap HX.out, bset]; exact congrArg (fun L => some (Obj.cells (bys L).toArray 5 (0, 0))) HST.out), Lib.hid (HT.out.trans (set_turn _ _ _ _))⟩
            | exact ⟨3, by omega, rfl, Lib.hid (by rw [byteN n 5 1099511627776 ((n : Int) / 1099511627776 % 256) (by decide) (by omega), set_heap HX.out, bset]; exact congrArg (fun L => some (Obj.cells (bys L).toArray 5 (0, 0))) HST.out), Lib.hid (HT.out.trans (set_turn _ _ _ _))⟩
            | exact ⟨4, by omega, rfl, Lib.hid (by rw [byteN n 4 4294967296 ((n : Int) / 4294967296 % 256) (by decide) (by omega), set_heap HX.out, bset]; exact congrArg (fun L => some (Obj.cells (bys L).toArray 5 (0, 0))) HST.out), Lib.hid (HT.out.trans (set_turn _ _ _ _))⟩
            | exact ⟨5, by omega, rfl, Lib.hid (by rw [byteN n 3 16777216 ((n : Int) / 16777216 % 256) (by decide) (by omega), set_heap HX.out, bset]; exact congrArg (fun L => some (Obj.cells (bys L).toArray 5 (0, 0))) HST.out), Lib.hid (HT.out.trans (set_turn _ _ _ _))⟩
            | exact ⟨6, by omega, rfl, Lib.hid (by rw [byteN n 2 65536 ((n : Int) / 65536 % 256) (by decide) (by omega), set_heap HX.out, bset]; exact congrArg (fun L => some (Obj.cells (bys L).toArray 5 (0, 0))) HST.out), Lib.hid (HT.out.trans (set_turn _ _ _ _))⟩
            | exact ⟨7, by omega, rfl, Lib.hid (by rw [byteN n 1 256 ((n : Int) / 256 % 256) (by decide) (by omega), set_heap HX.out, bset]; exact congrArg (fun L => some (Obj.cells (bys L).toArray 5 (0, 0))) HST.out), Lib.hid (HT.out.trans (set_turn _ _ _ _))⟩
            | exact ⟨8, by omega, rfl, Lib.hid (by rw [byteN n 0 1 ((n : Int) % 256) (by decide) (by omega), set_heap HX.out, bset]; exact congrArg (fun L => some (Obj.cells (bys L).toArray 5 (0, 0))) HST.out), Lib.hid (HT.out.trans (set_turn _ _ _ _))⟩
        case measure => decide
    · obtain rfl : k = 8 := by omega
      have HPD : Hid (wr.heap[D]? = some (.cells (bys (beN 8 n)).toArray 5 (0, 0))) := Lib.hid (by
        have := HX.out
        have h2 := FF_all (beN 8 n)
        rw [beN_len] at h2
        rw [h2] at this
        exact this)
      have hcv := conv_row (own_bytes (base := D) HPD.out (Nat.le_refl _) (beN_len _ _) (by omega)) (by omega)
      go_wp2_with fail
      go_ret
      exact ⟨rfl, by rw [HDD.out]; exact HB2.out.trans (HT.out.toBelow (Nat.le_refl _))⟩
end Go.Proofs.Ytlaodmpdngdhjaa

/- Frames. -/
namespace Go.Proofs.Ytlaodmpdngdhjaa
set_option linter.unusedVariables false
set_option linter.unusedSimpArgs false
open Go.RowKit

theorem two_strs (w : World) (x y : ByteArray) : RowS (w.alloc (.cells #[.string x, .string y] 9)) (.slice (some ⟨w.heap.size, 0, none⟩) 2 2) [x, y] := by
  refine .inr ⟨w.heap.size, 0, 2, rfl, by simp, fun j z hz => ?_⟩
  rw [Nat.zero_add, (row_cells (heap_alloc_new w (.cells #[.string x, .string y] 9))).1 j]
  match j, hz with
  | 0, hz => cases hz; rfl
  | 1, hz => cases hz; rfl
theorem ba_list (b : ByteArray) : b.data.toList.length = b.size := by rw [Array.length_toList]; rfl
theorem frm_eq (n : Nat) (d p h : ByteArray) (hp : p.data.toList = beN 4 d.size) (hh : h = sha (beN 8 n ++ d.data.toList)) : p ++ h.extract 0 4 ++ d = frm n d := by
  apply ByteArray.ext
  apply Array.toList_inj.1
  subst hh
  show _ = frmL n d
  rw [ByteArray.data_append, ByteArray.data_append, Array.toList_append, Array.toList_append, hp]
  unfold frmL
  congr 2
theorem cat_two (x y : ByteArray) : cat [x, y] = x.data.toList ++ y.data.toList := by simp [cat]
set_option maxRecDepth 100000 in
set_option maxHeartbeats 2000000 in
theorem frame_any (n : Nat) (d : ByteArray) (w : World) (hn : n < 9223372036854775808) (hd : d.size ≤ 65536) :
    Calls Try.prog 68 #[.int .i64 n, .string d] w fun e w' => e = .returned (.string (frm n d)) ∧ Below w.heap.size w w' := by
  have H1 := Lib.hid (number_any d.size 4 w (by omega) (.inl rfl))
  have H2 := Lib.hid fun W => number_any n 8 W hn (.inr rfl)
  obtain ⟨p, hp⟩ : ∃ p : ByteArray, (⟨(beN 4 d.size).toArray⟩ : ByteArray) = p := ⟨_, rfl⟩
  obtain ⟨q, hq⟩ : ∃ q : ByteArray, (⟨(beN 8 n).toArray⟩ : ByteArray) = q := ⟨_, rfl⟩
  have hps : p.size = 4 := by rw [← hp]; show (beN 4 d.size).toArray.size = 4; rw [List.size_toArray, beN_len]
  have hpl : p.data.toList = beN 4 d.size := by rw [← hp]
  have hql : q.data.toList = beN 8 n := by rw [← hq]
  rw [hp] at H1
  rw [hq] at H2
  have hcat : cat [q, d] = beN 8 n ++ d.data.toList := by rw [cat_two, hql]
  have hcl : (cat [q, d]).length ≤ 1099511627776 := by rw [hcat, List.length_append, beN_len, ba_list]; omega
  have HS := Lib.hid fun W v (hr : RowS W v [q, d]) => hsum_any v [q, d] W hr (by simp) hcl
  obtain ⟨h, hh⟩ : ∃ h, sha (cat [q, d]) = h := ⟨_, rfl⟩
  have hhs : h.size = 32 := by rw [← hh]; exact sha_size _
  rw [hh] at HS
  have HF : Hid (p ++ h.extract 0 4 ++ d = frm n d) := Lib.hid (frm_eq n d p h hpl (by rw [← hh, hcat]))
  have hp4 : p.size ≤ 4 := by omega
  have hh4 : (4 : Int) ≤ (h.size : Int) := by omega
  have hh5 : h.size ≤ 32 := by omega
  have hh6 : 4 ≤ h.size := by omega
  clear hp hq hps hpl hql hcat hcl hh hhs hn
  go_enter Try.func68, Try.ntmps68
  go_wp2_with fail
  refine H1.out.mono ?_
  rintro e w1 ⟨rfl, hb1⟩
  have HB1 := Lib.hid hb1
  clear hb1
  go_wp2_with fail
  refine (H2.out _).mono ?_
  rintro e w2 ⟨rfl, hb2⟩
  have HB2 := Lib.hid hb2
  clear hb2
  go_wp2_with fail
  refine (HS.out _ _ (two_strs w2 q d)).mono ?_
  rintro e w3 ⟨rfl, hb3⟩
  have HB3 := Lib.hid hb3
  clear hb3
  go_wp2_with fail
  go_ret
  refine ⟨by rw [← HF.out]; rfl, ?_⟩
  have h1 := HB1.out.size
  have h2 := HB2.out.size
  exact ((HB1.out.trans (HB2.out.mono h1)).alloc (by omega) _).trans (HB3.out.mono (by simp; omega))
/-- What Frame hands back. -/
def FrameIs (n : Int) (d : ByteArray) : ByteArray × Int := if n < 0 then (⟨#[]⟩, 1) else if 65536 < d.size then (⟨#[]⟩, 2) else (frm n.toNat d, 0)
set_option maxHeartbeats 1000000 in
theorem Frame_any (n : Int) (d : ByteArray) (w : World) (hn : fits64 n) (hd : d.size ≤ 1099511627776) :
    Calls Try.prog 52 #[.int .i64 n, .string d] w fun e w' => e = .returned (.tuple #[.string (FrameIs n d).1, .int .i64 (FrameIs n d).2]) ∧ Below w.heap.size w w' := by
  by_cases h0 : n < 0
  · have HE : Hid (FrameIs n d = (⟨#[]⟩, 1)) := Lib.hid (by unfold FrameIs; rw [if_pos h0])
    go_enter Try.func52, Try.ntmps52
    go_wp2_with fail
    go_ret2
    exact ⟨by rw [HE.out]; rfl, Below.refl _ _⟩
  · obtain ⟨k, rfl⟩ : ∃ k : Nat, n = k := ⟨n.toNat, by omega⟩
    by_cases h1 : 65536 < d.size
    · have HE : Hid (FrameIs k d = (⟨#[]⟩, 2)) := Lib.hid (by unfold FrameIs; rw [if_neg h0, if_pos h1])
      clear hn
      go_enter Try.func52, Try.ntmps52
      go_wp2_with fail
      go_ret2
      exact ⟨by rw [HE.out]; rfl, Below.refl _ _⟩
    · have HE : Hid (FrameIs k d = (frm k d, 0)) := Lib.hid (by unfold FrameIs; rw [if_neg h0, if_neg h1]; rfl)
      have HF := Lib.hid (frame_any k d w (by have := hn.2; omega) (by omega))
      clear hn
      go_enter Try.func52, Try.ntmps52
      go_wp2_with fail
      refine HF.out.mono ?_
      rintro e w1 ⟨rfl, hb1⟩
      have HB1 := Lib.hid hb1
      clear hb1
      go_wp2_with fail
      go_ret2
      exact ⟨by rw [HE.out]; rfl, HB1.out⟩
end Go.Proofs.Ytlaodmpdngdhjaa

/- The reference's Frame. -/
namespace Go.Proofs.Ytlaodmpdngdhjaa
set_option linter.unusedVariables false
set_option linter.unusedSimpArgs false
open Go.RowKit

def B8s (n : Nat) : ByteArray := ⟨(beN 8 n).toArray⟩
theorem B8s_list (n : Nat) : (B8s n).data.toList = beN 8 n := rfl
theorem B8s_size (n : Nat) : (B8s n).size = 8 := by
  show (beN 8 n).toArray.size = 8
  rw [List.size_toArray, beN_len]
theorem be_drop (m : Nat) : (beN 8 m).drop 4 = beN 4 m := rfl
theorem b8s_any (n : Int) (w : World) (h0 : 0 ≤ n) (hn : n < 9223372036854775808) : Calls Try.prog 87 #[.int .i64 n] w fun e w' => e = .returned (.string (B8s n.toNat)) ∧ Below w.heap.size w w' := by
  obtain ⟨k, rfl⟩ : ∃ k : Nat, n = k := ⟨n.toNat, by omega⟩
  exact b8_any k w (by omega)
theorem rframe_eq (n : Nat) (d h : ByteArray) (hh : h = sha (beN 8 n ++ d.data.toList)) : (B8s d.size).extract 4 8 ++ h.extract 0 4 ++ d = frm n d := by
  refine frm_eq n d _ h ?_ hh
  rw [← be_drop]
  show ((B8s d.size).extract 4 8).data.toList = _
  have : (B8s d.size).data.toList = beN 8 d.size := rfl
  rw [ByteArray.data_extract, Array.toList_extract, this]
  rw [List.extract_eq_take_drop, List.take_of_length_le (by rw [List.length_drop, beN_len]; exact Nat.le_refl _)]
set_option maxRecDepth 100000 in
set_option maxHeartbeats 2000000 in
theorem rFrame_ok (n : Nat) (d : ByteArray) (w : World) (hn : n < 9223372036854775808) (hd : d.size ≤ 65536) :
    Calls Try.prog 53 #[.int .i64 n, .string d] w fun e w' => e = .returned (.tuple #[.string (frm n d), .int .i64 0]) ∧ Below w.heap.size w w' := by
  have HB := Lib.hid fun n W h0 h1 => b8s_any n W h0 h1
  have hcat : cat [B8s n, d] = beN 8 n ++ d.data.toList := by rw [cat_two, B8s_list]
  have hcl : (cat [B8s n, d]).length ≤ 1099511627776 := by rw [hcat, List.length_append, beN_len, ba_list]; omega
  have HS := Lib.hid fun W v (hr : RowS W v [B8s n, d]) => rsum_any v [B8s n, d] W hr (by simp) hcl
  obtain ⟨h, hh⟩ : ∃ h, sha (cat [B8s n, d]) = h := ⟨_, rfl⟩
  have hhs : h.size = 32 := by rw [← hh]; exact sha_size _
  rw [hh] at HS
  have HF : Hid ((B8s d.size).extract 4 8 ++ h.extract 0 4 ++ d = frm n d) := Lib.hid (rframe_eq n d h (by rw [← hh, hcat]))
  have hp4 := B8s_size d.size
  have hh4 : (4 : Int) ≤ (h.size : Int) := by omega
  have hh5 : h.size ≤ 32 := by omega
  have hh6 : 4 ≤ h.size := by omega
  have HN := Lib.hid hn
  have HD := Lib.hid hd
  have h1 : ¬ (n : Int) < 0 := by omega
  have h2 : ¬ (65536 : Int) < (d.size : Int) := by omega
  have h3 : decide ((65536 : Int) < (d.size : Int)) = false := decide_eq_false h2
  have h4 : decide ((n : Int) < 0) = false := decide_eq_false h1
  clear hcat hcl hh hhs hn
  go_enter Try.func53, Try.ntmps53
  go_upto_region 5 with fail
  go_region_with
    (first
    | (go_at_call 87; have hbel : Below w.heap.size w wa := HBa.out; refine (HB.out _ _ (by first | exact Int.natCast_nonneg n | exact Int.natCast_nonneg d.size) (by first | exact Int.ofNat_lt.2 HN.out | (have := HD.out; omega))).mono ?_; rintro e wb ⟨rfl, hb2⟩; have HBb : Hid (Below w.heap.size w wb) := Lib.hid (hbel.trans (hb2.mono hbel.size)); clear hb2 hbel)
    | (go_at_call 87; refine (HB.out _ _ (by first | exact Int.natCast_nonneg n | exact Int.natCast_nonneg d.size) (by first | exact Int.ofNat_lt.2 HN.out | (have := HD.out; omega))).mono ?_; rintro e wa ⟨rfl, hb2⟩; have HBa : Hid (Below w.heap.size w wa) := Lib.hid (Below.trans (Below.drew (Below.refl _ _)) hb2); clear hb2)
    | (go_at_call 88; refine (HS.out _ _ (two_strs wb (B8s n) d)).mono ?_; rintro e wc ⟨rfl, hb3⟩; have HBc : Hid (Below w.heap.size w wc) := Lib.hid ((HBb.out.alloc HBb.out.size _).trans (hb3.mono (by have := HBb.out.size; simp; omega))); clear hb3))
  all_goals
    go_wp2_with fail
    go_ret2
    refine ⟨by rw [← HF.out]; rfl, HBc.out⟩
/-- 'Frame' of the reference. -/
theorem rFrame_any (n : Int) (d : ByteArray) (w : World) (hn : fits64 n) (hd : d.size ≤ 1099511627776) :
    Calls Try.prog 53 #[.int .i64 n, .string d] w fun e w' => e = .returned (.tuple #[.string (FrameIs n d).1, .int .i64 (FrameIs n d).2]) ∧ Below w.heap.size w w' := by
  by_cases h0 : n < 0
  · have HE : Hid (FrameIs n d = (⟨#[]⟩, 1)) := Lib.hid (by unfold FrameIs; rw [if_pos h0])
    go_enter Try.func53, Try.ntmps53
    go_wp2_with fail
    go_ret2
    exact ⟨by rw [HE.out]; rfl, Below.refl _ _⟩
  · obtain ⟨k, rfl⟩ : ∃ k : Nat, n = k := ⟨n.toNat, by omega⟩
    by_cases h1 : 65536 < d.size
    · have HE : Hid (FrameIs k d = (⟨#[]⟩, 2)) := Lib.hid (by unfold FrameIs; rw [if_neg h0, if_pos h1])
      clear hn
      go_enter Try.func53, Try.ntmps53
      go_wp2_with fail
      go_ret2
      exact ⟨by rw [HE.out]; rfl, Below.refl _ _⟩
    · have HE : FrameIs k d = (frm k d, 0) := by unfold FrameIs; rw [if_neg h0, if_neg h1]; rfl
      rw [HE]
      exact rFrame_ok k d w (by have := hn.2; omega) (by omega)
end Go.Proofs.Ytlaodmpdngdhjaa

/- wal.Scan. -/
namespace Go.Proofs.Ytlaodmpdngdhjaa
set_option linter.unusedVariables false
set_option linter.unusedSimpArgs false
open Go.RowKit

theorem wraps64 (n : Int) (h₀ : 0 ≤ n) (h₁ : n < 2 ^ 63) : IntKind.i64.wrap n = n := by rw [IntKind.wrap_i64]; omega
theorem or_byte (m c : Nat) (hm : m < 16777216) (hc : c < 256) : bits .or .i64 ((m : Int) * 256) (c : Int) = ((m * 256 + c : Nat) : Int) := by
  have h : bits .or .i64 ((m : Int) * 256) (c : Int) = (m : Int) * 256 + (c : Int) :=
    bits_join .i64 63 (by decide) wraps64 8 _ _ (by omega) (by omega) (by omega) (by omega) (by omega) (by omega)
  rw [h]
  omega
/-- What a scan hands back. -/
def ScanOut (w : World) (b : ByteArray) (e : Ending) (w' : World) : Prop :=
  ∃ v, e = .returned (.tuple #[v, .int .i64 (scanR b).2.1, .int .i64 (scanR b).2.2]) ∧ w'.ownsRow w.heap.size 9 1 v (scanR b).1.length (strs (scanR b).1) ∧ Below w.heap.size w w'
theorem scanR_some {b : ByteArray} {l : List ByteArray} {i : Nat} (h : scn b 0 [] = some (l, i)) : scanR b = (l, i, 0) := by unfold scanR; rw [h]
theorem scanR_none {b : ByteArray} (h : scn b 0 [] = none) : scanR b = ([], 0, 27) := by unfold scanR; rw [h]
def pv (b : ByteArray) (i : Nat) : Nat → Nat
  | 0 => 0
  | j + 1 => pv b i j * 256 + bt b (i + j)
theorem pv4 (b : ByteArray) (i : Nat) : pv b i 4 = val4 b i := by simp [pv, val4]
theorem pv_lt (b : ByteArray) (i j : Nat) (h : j < 4) : pv b i j < 16777216 := by
  have h0 := bt_lt b i
  have h1 := bt_lt b (i + 1)
  have h2 := bt_lt b (i + 2)
  match j, h with
  | 0, _ => simp [pv]
  | 1, _ => simp [pv]; omega
  | 2, _ => simp [pv]; omega
  | 3, _ => simp [pv]; omega
theorem scn_short {b : ByteArray} {i : Nat} {l : List ByteArray} (h : b.size - i < 4) : scn b i l = some (l, i) := by rw [scn, dif_pos h]
theorem scn_big {b : ByteArray} {i : Nat} {l : List ByteArray} (h : ¬ b.size - i < 4) (h2 : 65536 < val4 b i) : scn b i l = none := by rw [scn, dif_neg h, if_pos h2]
theorem scn_cut {b : ByteArray} {i : Nat} {l : List ByteArray} (h : ¬ b.size - i < 4) (h2 : ¬ 65536 < val4 b i) (h3 : b.size - i < 8 + val4 b i) : scn b i l = some (l, i) := by rw [scn, dif_neg h, if_neg h2, if_pos h3]
theorem scn_bad {b : ByteArray} {i : Nat} {l : List ByteArray} (h : ¬ b.size - i < 4) (h2 : ¬ 65536 < val4 b i) (h3 : ¬ b.size - i < 8 + val4 b i)
    (h4 : b.extract i (i + 8 + val4 b i) ≠ frm l.length (b.extract (i + 8) (i + 8 + val4 b i)) ∨ l.length = 4096) : scn b i l = none := by rw [scn, dif_neg h, if_neg h2, if_neg h3, if_pos h4]
theorem scn_step {b : ByteArray} {i : Nat} {l : List ByteArray} (h : ¬ b.size - i < 4) (h2 : ¬ 65536 < val4 b i) (h3 : ¬ b.size - i < 8 + val4 b i)
    (h4 : b.extract i (i + 8 + val4 b i) = frm l.length (b.extract (i + 8) (i + 8 + val4 b i))) (h5 : l.length ≠ 4096) :
    scn b i l = scn b (i + (8 + val4 b i)) (l ++ [b.extract (i + 8) (i + 8 + val4 b i)]) := by
  conv => lhs; rw [scn]
  rw [dif_neg h, if_neg h2, if_neg h3, if_neg (by rintro (h | h); exact h h4; exact h5 h)]
set_option maxRecDepth 100000 in
set_option maxHeartbeats 4000000 in
theorem scan_any (b : ByteArray) (w : World) (hb : b.size ≤ 1000000) :
    Calls Try.prog 49 #[.string b] w (ScanOut w b) := by
  obtain ⟨i9, h9, h90, h91, h92⟩ := info_parts info9
  go_enter Try.func49, Try.ntmps49
  go_wp2_with fail
  go_loopw [5, 6, 7, 8, 9] (fun o a _ _ _ wr => ∃ (l : List ByteArray) (i : Nat), a = .int .i64 i ∧ i ≤ b.size ∧ 8 * l.length ≤ i ∧ Hid (wr.ownsRow w.heap.size 9 1 o l.length (strs l)) ∧ Hid (scn b i l = scn b 0 []) ∧ Hid (Below w.heap.size w wr)) (fun _ a _ _ _ _ => (b.size - intOf a).toNat)
  case atStart => exact ⟨[], 0, rfl, Nat.zero_le _, by simp, Lib.hid (World.ownsRow_nil _ _ _ _), Lib.hid rfl, Lib.hid (Below.refl _ _)⟩
  case round =>
    obtain ⟨l, i, rfl, hi, hli, HO, HSC, HB⟩ := hrel
    obtain ⟨a, c, hv⟩ := own_slice HO.out
    subst hv
    obtain ⟨n, hn⟩ : ∃ n, l.length = n := ⟨_, rfl⟩
    have HN := Lib.hid hn
    rw [hn] at HO hli ⊢
    clear hn
    by_cases h4 : b.size - i < 4
    · have HR : Hid (scanR b = (l, i, 0)) := Lib.hid (scanR_some (by rw [← HSC.out]; exact scn_short h4))
      have h4' : ¬ (4 : Int) ≤ (b.size : Int) - (i : Int) := by omega
      go_wp2_with fail
      go_ret3
      exact ⟨_, by rw [HR.out]; rfl, by rw [HR.out, HN.out]; exact HO.out, HB.out⟩
    · have h4' : (4 : Int) ≤ (b.size : Int) - (i : Int) := by omega
      have H4 := Lib.hid h4
      clear h4
      go_wp2_with fail
      go_loop [15, 8, 7] (fun jx _ sx => ∃ j : Nat, j ≤ 4 ∧ jx = .int .i64 j ∧ sx = .int .i64 (pv b i j)) (fun jx _ _ => (4 - intOf jx).toNat)
      case atStart => exact ⟨0, Nat.zero_le _, rfl, rfl⟩
      case round =>
        obtain ⟨j, hj, rfl, rfl⟩ := hrel
        by_cases hlt : j < 4
        · have hm := pv_lt b i j hlt
          have hg := bt_get b (i + j) (by omega)
          have hcb := bt_lt b (i + j)
          have hor := or_byte (pv b i j) (bt b (i + j)) hm hcb
          have HST : Hid (pv b i (j + 1) = pv b i j * 256 + bt b (i + j)) := Lib.hid rfl
          generalize bt b (i + j) = cb at *
          obtain ⟨q, hq⟩ : ∃ q, i + j = q := ⟨_, rfl⟩
          have hq2 : q < b.size := by omega
          have hqI : (i : Int) + (j : Int) = (q : Int) := by omega
          rw [← HST.out] at hor
          have hg' : b[q].toNat = cb := by
            subst hq
            exact hg
          clear hg hq
          have hw1 : IntKind.i64.wrap (q : Int) = (q : Int) := IntWalk.i64_in _ (by omega)
          go_wp2_with fail
          go_round
          case rel => exact ⟨j + 1, by omega, by go_num, rfl⟩
          case measure => simp [intOf]; omega
        · obtain rfl : j = 4 := by omega
          rw [pv4]
          have hvl := val4_lt b i
          clear hj hlt
          by_cases hbig : 65536 < val4 b i
          · have HR : Hid (scanR b = ([], 0, 27)) := Lib.hid (scanR_none (by rw [← HSC.out]; exact scn_big H4.out hbig))
            clear H4
            go_wp2_with fail
            go_ret3
            exact ⟨_, by rw [HR.out]; rfl, by rw [HR.out]; exact World.ownsRow_nil _ _ _ _, HB.out⟩
          · by_cases hcut : b.size - i < 8 + val4 b i
            · have HR : Hid (scanR b = (l, i, 0)) := Lib.hid (scanR_some (by rw [← HSC.out]; exact scn_cut H4.out hbig hcut))
              have hcI : (b.size : Int) - (i : Int) < 8 + (val4 b i : Int) := by omega
              clear H4 hcut
              go_wp2_with fail
              go_ret3
              exact ⟨_, by rw [HR.out]; rfl, by rw [HR.out, HN.out]; exact HO.out, HB.out⟩
            · obtain ⟨v, hv⟩ : ∃ v, val4 b i = v := ⟨_, rfl⟩
              have HBAD := Lib.hid fun h => scn_bad (l := l) H4.out hbig hcut h
              have HSTP := Lib.hid fun h h2 => scn_step (l := l) H4.out hbig hcut h h2
              rw [hv] at HBAD HSTP hbig hcut hvl ⊢
              rw [HN.out] at HBAD HSTP
              have hbI : ¬ (65536 : Int) < (v : Int) := by omega
              have hcI : ¬ (b.size : Int) - (i : Int) < 8 + (v : Int) := by omega
              obtain ⟨p8, hp8⟩ : ∃ p8, i + 8 = p8 := ⟨_, rfl⟩
              obtain ⟨pe, hpe⟩ : ∃ pe, p8 + v = pe := ⟨_, rfl⟩
              have e8 : (i : Int) + 8 = (p8 : Int) := by omega
              have ee : (p8 : Int) + (v : Int) = (pe : Int) := by omega
              rw [hp8, hpe] at HBAD HSTP
              have hle : pe ≤ b.size := by omega
              have hle1 : i ≤ pe := by omega
              have hle2 : p8 ≤ pe := by omega
              have hleI : (pe : Int) ≤ (b.size : Int) := by omega
              have hle1I : (i : Int) ≤ (pe : Int) := by omega
              have hle2I : (p8 : Int) ≤ (pe : Int) := by omega
              obtain ⟨d, hd⟩ : ∃ d, b.extract p8 pe = d := ⟨_, rfl⟩
              obtain ⟨s, hs⟩ : ∃ s, b.extract i pe = s := ⟨_, rfl⟩
              have hds : d.size = v := by rw [← hd]; simp; omega
              rw [hd, hs] at HBAD HSTP
              have HF := Lib.hid fun W => frame_any n d W (by omega) (by omega)
              obtain ⟨f, hf⟩ : ∃ f, frm n d = f := ⟨_, rfl⟩
              rw [hf] at HBAD HSTP HF
              clear hf hds H4 hp8 hpe
              have hnb : n ≤ 1000000 := by omega
              have w8 : IntKind.i64.wrap (p8 : Int) = (p8 : Int) := IntWalk.i64_in _ (by omega)
              have we : IntKind.i64.wrap (pe : Int) = (pe : Int) := IntWalk.i64_in _ (by omega)
              have i0 : (0 : Int) ≤ (i : Int) := by omega
              have p80 : (0 : Int) ≤ (p8 : Int) := by omega
              have pe0 : (0 : Int) ≤ (pe : Int) := by omega
              by_cases hsf : s = f
              · subst hsf
                by_cases hn4 : n = 4096
                · have HR : Hid (scanR b = ([], 0, 27)) := Lib.hid (scanR_none (by rw [← HSC.out]; exact HBAD.out (.inr hn4)))
                  have hnI : ((n : Int) == 4096) = true := by rw [beq_iff_eq]; omega
                  clear hn4
                  go_wp2_with fail
                  go_region_held3 (fun w' => True) (trivial) ((go_at_call 68; refine (HF.out _).mono ?_; rintro e w2 ⟨rfl, hb2⟩; have HB2 : Hid (Below wr.heap.size wr w2) := Lib.hid (Below.trans (Below.drew (Below.refl _ _)) hb2); clear hb2))
                  all_goals
                    go_wp2_with fail
                    go_ret3
                    exact ⟨_, by rw [HR.out]; rfl, by rw [HR.out]; exact World.ownsRow_nil _ _ _ _, HB.out.trans (HB2.out.mono HB.out.size)⟩
                · have hnI : ((n : Int) == 4096) = false := by rw [beq_eq_false_iff_ne]; omega
                  have HST := Lib.hid (HSTP.out rfl hn4)
                  clear hn4 HSTP HBAD
                  go_wp2_with fail
                  go_region_held3 (fun w' => True) (trivial) ((go_at_call 68; refine (HF.out _).mono ?_; rintro e w2 ⟨rfl, hb2⟩; have HB2 : Hid (Below wr.heap.size wr w2) := Lib.hid (Below.trans (Below.drew (Below.refl _ _)) hb2); clear hb2))
                  all_goals
                    have SX : Hid (Src (w2.alloc (.cells #[.string d] 9)) 1 (.slice (some ⟨w2.heap.size, 0, none⟩) 1 1) 1 (strs [d])) := Lib.hid (.inr ⟨_, _, rfl, rfl, cells_new' w2 [.string d] 9⟩)
                    have HO2 : Hid (w2.ownsRow w.heap.size 9 1 (.slice a n c) n (strs l)) := Lib.hid (row_kept HO.out fun g e => HB2.out.block g (HO.out.lt g e).2)
                    have hwb : w.heap.size ≤ w2.heap.size := Nat.le_trans HB.out.size HB2.out.size
                    go_wp2_with (at_builtin; go_loud (refine wpList_app rfl (.tmp 62) (.tmp 64) 22 rfl w.heap.size 9 i9 (.string ⟨#[]⟩) 1 16 Try.underlying22 h9 h90 h91 h92 rfl (by omega) (.slice a n c) n (strs l) rfl (HO2.out.alloc _) (.slice (some ⟨w2.heap.size, 0, none⟩) 1 1) 1 (strs [d]) rfl SX.out (strs_one _) (by unfold maxLen; omega) (by omega) (by simp; omega) ?_; intro v7 w7 o7 g7 q7))
                    go_roundw
                    case rel =>
                      refine ⟨l ++ [d], i + (8 + v), (by first | (congr 1; done) | (congr 1; omega)), by omega, by rw [List.length_append, HN.out]; simp only [List.length_cons, List.length_nil]; omega, Lib.hid ?_, Lib.hid (by rw [← HST.out]; exact HSC.out), Lib.hid (((HB.out.trans (HB2.out.mono HB.out.size)).alloc hwb _).grown g7.out (by simp; omega) (fun k hk => (HO2.out.lt k hk).1))⟩
                      rw [List.length_append, HN.out]
                      have := o7.out
                      simpa [strs] using this
                    case measure => simp [intOf]; omega
              · have hb1 : s.toList ≠ f.toList := fun e => hsf (by apply ByteArray.ext; rw [ByteArray.toList_eq, ByteArray.toList_eq] at e; exact Array.toList_inj.1 e)
                have hb2 : (s.toList == f.toList) = false := by rw [beq_eq_false_iff_ne]; exact hb1
                have hb3 : (s.toList != f.toList) = true := by rw [bne_iff_ne]; exact hb1
                have HR : Hid (scanR b = ([], 0, 27)) := Lib.hid (scanR_none (by rw [← HSC.out]; exact HBAD.out (.inl hsf)))
                clear hsf hb1
                go_wp2_with fail
                first | go_region_with ((go_at_call 68; refine (HF.out _).mono ?_; rintro e w2 ⟨rfl, hb2⟩; have HB2 : Hid (Below wr.heap.size wr w2) := Lib.hid (Below.trans (Below.drew (Below.refl _ _)) hb2); clear hb2)) | fail
                all_goals
                  go_wp2_with fail
                  go_ret3
                  exact ⟨_, by rw [HR.out]; rfl, by rw [HR.out]; exact World.ownsRow_nil _ _ _ _, HB.out.trans (HB2.out.mono HB.out.size)⟩
end Go.Proofs.Ytlaodmpdngdhjaa

/- The reference's Scan. -/
namespace Go.Proofs.Ytlaodmpdngdhjaa
set_option linter.unusedVariables false
set_option linter.unusedSimpArgs false
open Go.RowKit

theorem or_four (p q r s : Nat) (hp : p < 256) (hq : q < 256) (hr : r < 256) (hs : s < 256) :
    bits .or .i64 (bits .or .i64 (bits .or .i64 ((p : Int) * 16777216) ((q : Int) * 65536)) ((r : Int) * 256)) (s : Int) = (((((p * 256 + q) * 256 + r) * 256 + s : Nat)) : Int) := by
  have h1 : bits .or .i64 ((p : Int) * 16777216) ((q : Int) * 65536) = (p : Int) * 16777216 + (q : Int) * 65536 :=
    bits_join .i64 63 (by decide) wraps64 24 _ _ (by omega) (by omega) (by omega) (by omega) (by omega) (by omega)
  have h2 : bits .or .i64 ((p : Int) * 16777216 + (q : Int) * 65536) ((r : Int) * 256) = (p : Int) * 16777216 + (q : Int) * 65536 + (r : Int) * 256 :=
    bits_join .i64 63 (by decide) wraps64 16 _ _ (by omega) (by omega) (by omega) (by omega) (by omega) (by omega)
  have h3 : bits .or .i64 ((p : Int) * 16777216 + (q : Int) * 65536 + (r : Int) * 256) (s : Int) = (p : Int) * 16777216 + (q : Int) * 65536 + (r : Int) * 256 + (s : Int) :=
    bits_join .i64 63 (by decide) wraps64 8 _ _ (by omega) (by omega) (by omega) (by omega) (by omega) (by omega)
  rw [h1, h2, h3]
  omega
set_option maxRecDepth 100000 in
set_option maxHeartbeats 4000000 in
theorem rscan_any (b : ByteArray) (w : World) (hb : b.size ≤ 1000000) :
    Calls Try.prog 50 #[.string b] w (ScanOut w b) := by
  obtain ⟨i9, h9, h90, h91, h92⟩ := info_parts info9
  go_enter Try.func50, Try.ntmps50
  go_wp2_with fail
  go_loopw [5, 6, 7, 8, 9, 10] (fun o a _ _ _ _ wr => ∃ (l : List ByteArray) (i : Nat), a = .int .i64 i ∧ i ≤ b.size ∧ 8 * l.length ≤ i ∧ Hid (wr.ownsRow w.heap.size 9 1 o l.length (strs l)) ∧ Hid (scn b i l = scn b 0 []) ∧ Hid (Below w.heap.size w wr)) (fun _ a _ _ _ _ _ => (b.size - intOf a).toNat)
  case atStart => exact ⟨[], 0, rfl, Nat.zero_le _, by simp, Lib.hid (World.ownsRow_nil _ _ _ _), Lib.hid rfl, Lib.hid (Below.refl _ _)⟩
  case round =>
    obtain ⟨l, i, rfl, hi, hli, HO, HSC, HB⟩ := hrel
    obtain ⟨a, c, hv⟩ := own_slice HO.out
    subst hv
    obtain ⟨n, hn⟩ : ∃ n, l.length = n := ⟨_, rfl⟩
    have HN := Lib.hid hn
    rw [hn] at HO hli ⊢
    clear hn
    by_cases h4 : b.size - i < 4
    · have HR : Hid (scanR b = (l, i, 0)) := Lib.hid (scanR_some (by rw [← HSC.out]; exact scn_short h4))
      have h4' : ¬ (4 : Int) ≤ (b.size : Int) - (i : Int) := by omega
      go_wp2_with fail
      go_ret3
      exact ⟨_, by rw [HR.out]; rfl, by rw [HR.out, HN.out]; exact HO.out, HB.out⟩
    · have h4' : (4 : Int) ≤ (b.size : Int) - (i : Int) := by omega
      have H4 := Lib.hid h4
      obtain ⟨q1, hq1⟩ : ∃ q, i + 1 = q := ⟨_, rfl⟩
      obtain ⟨q2, hq2⟩ : ∃ q, i + 2 = q := ⟨_, rfl⟩
      obtain ⟨q3, hq3⟩ : ∃ q, i + 3 = q := ⟨_, rfl⟩
      have l0 : i < b.size := by omega
      have l1 : q1 < b.size := by omega
      have l2 : q2 < b.size := by omega
      have l3 : q3 < b.size := by omega
      have hor := or_four _ _ _ _ (bt_lt b i) (bt_lt b q1) (bt_lt b q2) (bt_lt b q3)
      have HV4 : Hid (val4 b i = ((bt b i * 256 + bt b q1) * 256 + bt b q2) * 256 + bt b q3) := Lib.hid (by rw [← hq1, ← hq2, ← hq3]; rfl)
      rw [← HV4.out] at hor
      have g0 := bt_get b i l0
      have g1 := bt_get b q1 l1
      have g2 := bt_get b q2 l2
      have g3 := bt_get b q3 l3
      have t0 := bt_lt b i
      have t1 := bt_lt b q1
      have t2 := bt_lt b q2
      have t3 := bt_lt b q3
      have m1 : (i : Int) + 1 = (q1 : Int) := by omega
      have m2 : (i : Int) + 2 = (q2 : Int) := by omega
      have m3 : (i : Int) + 3 = (q3 : Int) := by omega
      have w1 : IntKind.i64.wrap (q1 : Int) = (q1 : Int) := IntWalk.i64_in _ (by omega)
      have w2 : IntKind.i64.wrap (q2 : Int) = (q2 : Int) := IntWalk.i64_in _ (by omega)
      have w3 : IntKind.i64.wrap (q3 : Int) = (q3 : Int) := IntWalk.i64_in _ (by omega)
      have i0 : (0 : Int) ≤ (i : Int) := by omega
      have j1 : (0 : Int) ≤ (q1 : Int) := by omega
      have j2 : (0 : Int) ≤ (q2 : Int) := by omega
      have j3 : (0 : Int) ≤ (q3 : Int) := by omega
      have k0 : (i : Int) < (b.size : Int) := by omega
      have k1 : (q1 : Int) < (b.size : Int) := by omega
      have k2 : (q2 : Int) < (b.size : Int) := by omega
      have k3 : (q3 : Int) < (b.size : Int) := by omega
      clear HV4
      generalize bt b i = c0 at *
      generalize bt b q1 = c1 at *
      generalize bt b q2 = c2 at *
      generalize bt b q3 = c3 at *
      clear hq1 hq2 hq3
      go_upto_region 4 with fail
      go_quiet (fail)
      obtain ⟨wq, hwq⟩ : ∃ wq, wr.drewN nq = wq := ⟨_, rfl⟩
      have HOq : Hid (wq.ownsRow w.heap.size 9 1 (.slice a n c) n (strs l)) := Lib.hid (by rw [← hwq]; exact row_kept HO.out fun g e => by simp)
      have HBq : Hid (Below w.heap.size w wq) := Lib.hid (by rw [← hwq]; exact below_drewN HB.out nq)
      rw [hwq]
      clear hwq HO HB l0 l1 l2 l3 g0 g1 g2 g3 hor m1 m2 m3 w1 w2 w3 j1 j2 j3 k0 k1 k2 k3
      have HO := HOq
      have HB := HBq
      clear HOq HBq
      have hvl := val4_lt b i
      by_cases hbig : 65536 < val4 b i
      · have HR : Hid (scanR b = ([], 0, 27)) := Lib.hid (scanR_none (by rw [← HSC.out]; exact scn_big H4.out hbig))
        clear H4
        go_wp2_with fail
        go_ret3
        exact ⟨_, by rw [HR.out]; rfl, by rw [HR.out]; exact World.ownsRow_nil _ _ _ _, HB.out⟩
      · by_cases hcut : b.size - i < 8 + val4 b i
        · have HR : Hid (scanR b = (l, i, 0)) := Lib.hid (scanR_some (by rw [← HSC.out]; exact scn_cut H4.out hbig hcut))
          have hcI : (b.size : Int) - (i : Int) < 8 + (val4 b i : Int) := by omega
          clear H4 hcut
          go_wp2_with fail
          go_ret3
          exact ⟨_, by rw [HR.out]; rfl, by rw [HR.out, HN.out]; exact HO.out, HB.out⟩
        · obtain ⟨v, hv⟩ : ∃ v, val4 b i = v := ⟨_, rfl⟩
          have HBAD := Lib.hid fun h => scn_bad (l := l) H4.out hbig hcut h
          have HSTP := Lib.hid fun h h2 => scn_step (l := l) H4.out hbig hcut h h2
          rw [hv] at HBAD HSTP hbig hcut hvl ⊢
          rw [HN.out] at HBAD HSTP
          have hbI : ¬ (65536 : Int) < (v : Int) := by omega
          have hcI : ¬ (b.size : Int) - (i : Int) < 8 + (v : Int) := by omega
          obtain ⟨p8, hp8⟩ : ∃ p8, i + 8 = p8 := ⟨_, rfl⟩
          obtain ⟨pe, hpe⟩ : ∃ pe, p8 + v = pe := ⟨_, rfl⟩
          have e8 : (i : Int) + 8 = (p8 : Int) := by omega
          have ee : (p8 : Int) + (v : Int) = (pe : Int) := by omega
          rw [hp8, hpe] at HBAD HSTP
          have hle : pe ≤ b.size := by omega
          have hle1 : i ≤ pe := by omega
          have hle2 : p8 ≤ pe := by omega
          have hleI : (pe : Int) ≤ (b.size : Int) := by omega
          have hle1I : (i : Int) ≤ (pe : Int) := by omega
          have hle2I : (p8 : Int) ≤ (pe : Int) := by omega
          obtain ⟨d, hd⟩ : ∃ d, b.extract p8 pe = d := ⟨_, rfl⟩
          obtain ⟨s, hs⟩ : ∃ s, b.extract i pe = s := ⟨_, rfl⟩
          have hds : d.size = v := by rw [← hd]; simp; omega
          rw [hd, hs] at HBAD HSTP
          have HF := Lib.hid fun W => rFrame_ok n d W (by omega) (by omega)
          obtain ⟨f, hf⟩ : ∃ f, frm n d = f := ⟨_, rfl⟩
          rw [hf] at HBAD HSTP HF
          clear hf hds H4 hp8 hpe
          have hnb : n ≤ 1000000 := by omega
          have w8 : IntKind.i64.wrap (p8 : Int) = (p8 : Int) := IntWalk.i64_in _ (by omega)
          have we : IntKind.i64.wrap (pe : Int) = (pe : Int) := IntWalk.i64_in _ (by omega)
          have i0 : (0 : Int) ≤ (i : Int) := by omega
          have p80 : (0 : Int) ≤ (p8 : Int) := by omega
          have pe0 : (0 : Int) ≤ (pe : Int) := by omega
          by_cases hsf : s = f
          · subst hsf
            by_cases hn4 : n = 4096
            · have HR : Hid (scanR b = ([], 0, 27)) := Lib.hid (scanR_none (by rw [← HSC.out]; exact HBAD.out (.inr hn4)))
              have hnI : ((n : Int) == 4096) = true := by rw [beq_iff_eq]; omega
              clear hn4
              go_wp2_with fail
              refine (HF.out _).mono ?_
              rintro e w2 ⟨rfl, hb2'⟩
              have HB2 : Hid (Below wq.heap.size wq w2) := Lib.hid hb2'
              clear hb2'
              all_goals
                go_wp2_with fail
                go_ret3
                exact ⟨_, by rw [HR.out]; rfl, by rw [HR.out]; exact World.ownsRow_nil _ _ _ _, HB.out.trans (HB2.out.mono HB.out.size)⟩
            · have hnI : ((n : Int) == 4096) = false := by rw [beq_eq_false_iff_ne]; omega
              have HST := Lib.hid (HSTP.out rfl hn4)
              clear hn4 HSTP HBAD
              go_wp2_with fail
              refine (HF.out _).mono ?_
              rintro e w2 ⟨rfl, hb2'⟩
              have HB2 : Hid (Below wq.heap.size wq w2) := Lib.hid hb2'
              clear hb2'
              all_goals
                have SX : Hid (Src (w2.alloc (.cells #[.string d] 9)) 1 (.slice (some ⟨w2.heap.size, 0, none⟩) 1 1) 1 (strs [d])) := Lib.hid (.inr ⟨_, _, rfl, rfl, cells_new' w2 [.string d] 9⟩)
                have HO2 : Hid (w2.ownsRow w.heap.size 9 1 (.slice a n c) n (strs l)) := Lib.hid (row_kept HO.out fun g e => HB2.out.block g (HO.out.lt g e).2)
                have hwb : w.heap.size ≤ w2.heap.size := Nat.le_trans HB.out.size HB2.out.size
                go_wp2_with (at_builtin; go_loud (refine wpList_app rfl (.tmp 79) (.tmp 81) 22 rfl w.heap.size 9 i9 (.string ⟨#[]⟩) 1 16 Try.underlying22 h9 h90 h91 h92 rfl (by omega) (.slice a n c) n (strs l) rfl (HO2.out.alloc _) (.slice (some ⟨w2.heap.size, 0, none⟩) 1 1) 1 (strs [d]) rfl SX.out (strs_one _) (by unfold maxLen; omega) (by omega) (by simp; omega) ?_; intro v7 w7 o7 g7 q7))
                go_roundw
                case rel =>
                  refine ⟨l ++ [d], i + (8 + v), (by first | (congr 1; done) | (congr 1; omega)), by omega, by rw [List.length_append, HN.out]; simp only [List.length_cons, List.length_nil]; omega, Lib.hid ?_, Lib.hid (by rw [← HST.out]; exact HSC.out), Lib.hid (((HB.out.trans (HB2.out.mono HB.out.size)).alloc hwb _).grown g7.out (by simp; omega) (fun k hk => (HO2.out.lt k hk).1))⟩
                  rw [List.length_append, HN.out]
                  have := o7.out
                  simpa [strs] using this
                case measure => simp [intOf]; omega
          · have hb1 : s.toList ≠ f.toList := fun e => hsf (by apply ByteArray.ext; rw [ByteArray.toList_eq, ByteArray.toList_eq] at e; exact Array.toList_inj.1 e)
            have hb2 : (s.toList == f.toList) = false := by rw [beq_eq_false_iff_ne]; exact hb1
            have hb3 : (s.toList != f.toList) = true := by rw [bne_iff_ne]; exact hb1
            have hb2r : (f.toList == s.toList) = false := by rw [beq_eq_false_iff_ne]; exact fun e => hb1 e.symm
            have hb3r : (f.toList != s.toList) = true := by rw [bne_iff_ne]; exact fun e => hb1 e.symm
            have HR : Hid (scanR b = ([], 0, 27)) := Lib.hid (scanR_none (by rw [← HSC.out]; exact HBAD.out (.inl hsf)))
            clear hsf hb1
            go_wp2_with fail
            refine (HF.out _).mono ?_
            rintro e w2 ⟨rfl, hb2'⟩
            have HB2 : Hid (Below wq.heap.size wq w2) := Lib.hid hb2'
            clear hb2'
            all_goals
              go_wp2_with fail
              go_ret3
              exact ⟨_, by rw [HR.out]; rfl, by rw [HR.out]; exact World.ownsRow_nil _ _ _ _, HB.out.trans (HB2.out.mono HB.out.size)⟩
end Go.Proofs.Ytlaodmpdngdhjaa
