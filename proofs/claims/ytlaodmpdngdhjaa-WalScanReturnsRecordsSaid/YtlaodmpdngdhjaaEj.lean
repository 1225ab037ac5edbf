/- The reference's Crash. -/
import Derived.Test.YtlaodmpdngdhjaaEi
import Derived.Test.YtlaodmpdngdhjaaDq
namespace Go.Proofs.Ytlaodmpdngdhjaa
set_option linter.unusedVariables false
set_option linter.unusedSimpArgs false
open Go.RowKit

theorem crash_torn2 (s : St) (kp bytes : Int) {K : Nat} (h : s.keep kp = K) {n b : ByteArray} (hc : s.ops[K]? = some (.app n b)) (hb : 0 < bytes) :
    (s.crash kp bytes).files = appl ((s.ops.take K).foldl appl s.files) (.app n (b.extract 0 (min bytes.toNat b.size))) := by
  rw [crash_files s kp bytes h, hc]
  show (if 0 < bytes then [Chg.app n (b.extract 0 (min bytes.toNat b.size))] else []).foldl appl _ = _
  rw [if_pos hb]
  rfl
set_option maxRecDepth 100000 in
set_option maxHeartbeats 4000000 in
theorem rcrash_any (r : Nat) (s : St) (rw ro : Nat → Prop) (M : Nat) (kp bytes : Int) (w : World) (h : RefAt w r s rw ro) (hg : Good s M) (hM : M ≤ 500000) (hk : -9223372036854775808 ≤ kp ∧ kp < 9223372036854775808) (hb : -9223372036854775808 ≤ bytes ∧ bytes < 9223372036854775808) :
    Calls Try.prog 59 #[ptr r, .int .i64 kp, .int .i64 bytes] w (RMeth w r (s.crash kp bytes) rw ro (.tuple #[])) := by
  obtain ⟨i0, hf, hf0, hf1, hf2⟩ := info_parts info107
  obtain ⟨hk1, hk2⟩ := hk
  obtain ⟨hb1, hb2⟩ := hb
  obtain ⟨vf, vp, h⟩ := h
  have HD := Lib.hid h
  have HG := Lib.hid hg
  have hops : s.ops.length ≤ 500000 := by have := hg.wt; omega
  obtain ⟨K, hK⟩ : ∃ K, s.keep kp = K := ⟨_, rfl⟩
  have hKl : K ≤ s.ops.length := by rw [← hK]; unfold St.keep; omega
  have HK := Lib.hid hK
  have he : min (max kp 0) (s.ops.length : Int) = (K : Int) := by rw [← hK]; unfold St.keep; omega
  have HE := Lib.hid he
  obtain ⟨a, cap, hvp, hcap⟩ : ∃ a cap, vp = .slice a s.ops.length cap ∧ s.ops.length ≤ cap := by
    rcases h.row.2 with ⟨h1, h2⟩ | ⟨g, cap, cur, h1, _, _, h2, _⟩
    · exact ⟨none, 0, by rw [h1, h2], by omega⟩
    · exact ⟨_, _, h1, h2⟩
  subst hvp
  have hc := (row_cells h.blk).1
  have k1 : w.cell? ⟨r, 1, none⟩ = some vf := hc 1
  have k2 : w.cell? ⟨r, 2, none⟩ = some (.slice a s.ops.length cap) := hc 2
  have hr := heap_lt h.blk
  clear h hg hK he hc
  go_enter Try.func59, Try.ntmps59
  go_upto_region 0 with fail
  go_cut [1] (fun v wx => v = .int .i64 K ∧ wx = w)
  case first =>
    go_wp2_with fail
    go_meet
    exact ⟨congrArg _ HE.out, rfl⟩
  obtain ⟨rfl, hw⟩ := hcut
  have hw' := hw.symm
  subst hw'
  clear hw
  go_wp2_with fail
  go_loopw [6, 7] (fun v6 i wr => ∃ k : Nat, k ≤ K ∧ i = .int .i64 k ∧ Hid (RowF wr v6 ((s.ops.take k).foldl appl s.files)) ∧ Hid (Below w.heap.size w wr) ∧ Hid (∀ b, v6.ownBlock = some b → ro b ∨ w.heap.size ≤ b)) (fun _ i _ => K - (intOf i).toNat)
  case atStart => exact ⟨0, Nat.zero_le _, rfl, Lib.hid HD.out.fls, Lib.hid (Below.refl _ _), Lib.hid fun b e => .inl (HD.out.rof b e)⟩
  case round =>
    obtain ⟨k, hk, rfl, HR, HB, HO⟩ := hrel
    have q2 : wr.cell? ⟨r, 2, none⟩ = some (.slice a s.ops.length cap) := by rw [HB.out.cell (p := ⟨r, 2, none⟩) hr]; exact k2
    have hrr : r < wr.heap.size := Nat.lt_of_lt_of_le hr HB.out.size
    by_cases hlt : k < K
    · obtain ⟨c, hc⟩ : ∃ c, s.ops[k]? = some c := ⟨s.ops[k]'(by omega), by simp⟩
      obtain ⟨x, y, z, ho, _⟩ := ocells_form c
      obtain ⟨g, cap', e, hcc, hgl, x1, y1, z1⟩ := row3 HD.out.row hc ho
      obtain ⟨rfl, rfl⟩ : a = some ⟨g, 0, none⟩ ∧ cap = cap' := by simpa using e
      clear e
      have x2 : wr.cell? ⟨g, k * 3, none⟩ = some x := (HB.out.cell (p := ⟨g, k * 3, none⟩) hgl).trans x1
      have y2 : wr.cell? ⟨g, k * 3 + 1, none⟩ = some y := (HB.out.cell (p := ⟨g, k * 3 + 1, none⟩) hgl).trans y1
      have z2 : wr.cell? ⟨g, k * 3 + 2, none⟩ = some z := (HB.out.cell (p := ⟨g, k * 3 + 2, none⟩) hgl).trans z1
      have HST := Lib.hid (fold_step s.files s.ops hc)
      have hp := (HG.out.part k).2
      have HA := Lib.hid (apply_any u6 _ c wr HR.out (by omega) (by have := HG.out.csz_le hc; omega))
      rw [ho] at HA
      clear hc ho x1 y1 z1 hcc hp
      go_wp2_with fail
      refine HA.out.mono ?_
      rintro e w3 ⟨v', rfl, o3, b3⟩
      have HO3 := Lib.hid o3
      have HB3 := Lib.hid b3
      clear o3 b3
      go_wp2_with fail
      go_roundw
      case rel => exact ⟨k + 1, by omega, by go_num, Lib.hid (by rw [HST.out]; exact (RowF.of_own HO3.out).1), Lib.hid (HB.out.trans (HB3.out.mono HB.out.size)), Lib.hid fun b e => .inr (Nat.le_trans HB.out.size (HO3.out.lt b e).1)⟩
      case measure => simp [intOf]; omega
    · obtain rfl : k = K := by omega
      obtain ⟨fl, hfl⟩ : ∃ fl, (match s.ops[k]? with | some (.app _ _) => decide (0 < bytes) | _ => false) = fl := ⟨_, rfl⟩
      have HFL := Lib.hid hfl
      clear hfl
      go_upto_region 6 with fail
      go_cut [56] (fun v wx => v = .bool fl ∧ wx = wr)
      case first =>
        by_cases hkl : k < s.ops.length
        · obtain ⟨c, hc⟩ : ∃ c, s.ops[k]? = some c := ⟨s.ops[k], by simp [hkl]⟩
          have HC := Lib.hid hc
          cases c with
          | app n b =>
            obtain ⟨g, cap', e, hcc, hgl, x1, y1, z1⟩ := row3 HD.out.row hc (x := .int .i64 1) (y := .string n) (z := .string b) rfl
            obtain ⟨rfl, rfl⟩ : a = some ⟨g, 0, none⟩ ∧ cap = cap' := by simpa using e
            have x2 : wr.cell? ⟨g, k * 3, none⟩ = _ := (HB.out.cell (p := ⟨g, k * 3, none⟩) hgl).trans x1
            clear x1 y1 z1 hcc e hc
            by_cases hb0 : 0 < bytes
            · have hd0 : decide (0 < bytes) = true := decide_eq_true hb0
              go_wp2_with fail
              go_meet
              exact ⟨by rw [← HFL.out, HC.out]; simp [hb0], rfl⟩
            · have hd0 : decide (0 < bytes) = false := decide_eq_false hb0
              go_wp2_with fail
              go_meet
              exact ⟨by rw [← HFL.out, HC.out]; simp [hb0], rfl⟩
          | ren x y =>
            obtain ⟨g, cap', e, hcc, hgl, x1, y1, z1⟩ := row3 HD.out.row hc (x := .int .i64 2) (y := .string x) (z := .string y) rfl
            obtain ⟨rfl, rfl⟩ : a = some ⟨g, 0, none⟩ ∧ cap = cap' := by simpa using e
            have x2 : wr.cell? ⟨g, k * 3, none⟩ = _ := (HB.out.cell (p := ⟨g, k * 3, none⟩) hgl).trans x1
            clear x1 y1 z1 hcc e hc
            go_wp2_with fail
            go_meet
            exact ⟨by rw [← HFL.out, HC.out], rfl⟩
          | del n =>
            obtain ⟨g, cap', e, hcc, hgl, x1, y1, z1⟩ := row3 HD.out.row hc (x := .int .i64 3) (y := .string n) (z := .string ⟨#[]⟩) rfl
            obtain ⟨rfl, rfl⟩ : a = some ⟨g, 0, none⟩ ∧ cap = cap' := by simpa using e
            have x2 : wr.cell? ⟨g, k * 3, none⟩ = _ := (HB.out.cell (p := ⟨g, k * 3, none⟩) hgl).trans x1
            clear x1 y1 z1 hcc e hc
            go_wp2_with fail
            go_meet
            exact ⟨by rw [← HFL.out, HC.out], rfl⟩
        · have e : fl = false := by rw [← HFL.out, List.getElem?_eq_none (by omega)]
          go_wp2_with fail
          go_meet
          exact ⟨by rw [e], rfl⟩
      obtain ⟨rfl, hw⟩ := hcut
      have hw' := hw.symm
      subst hw'
      clear hw
      go_upto_if 56 with fail
      go_cut [6] (fun v6 wx => ∃ G : List File, G = (s.crash kp bytes).files ∧ G.length ≤ 500001 ∧ Hid (RowF wx v6 G) ∧ Hid (Below w.heap.size w wx) ∧ Hid (∀ b, v6.ownBlock = some b → ro b ∨ w.heap.size ≤ b))
      case first =>
        have hp := (HG.out.part k).2
        cases fl with
        | false =>
          have e := crash_plain s kp bytes HK.out (by
            intro n b h hb
            have := HFL.out
            rw [h] at this
            simp [hb] at this)
          have HE5 := Lib.hid e.symm
          have hl5 : ((s.ops.take k).foldl appl s.files).length ≤ 500001 := by omega
          have HL5 := Lib.hid hl5
          clear e hl5 hp
          go_wp2_with fail
          go_meet
          exact ⟨_, HE5.out, HL5.out, HR, HB, HO⟩
        | true =>
          obtain ⟨n, b, hc, hb0⟩ : ∃ n b, s.ops[k]? = some (.app n b) ∧ 0 < bytes := by
            have := HFL.out
            cases hc : s.ops[k]? with
            | none => rw [hc] at this; cases this
            | some c =>
              rw [hc] at this
              cases c with
              | app n b => exact ⟨n, b, rfl, of_decide_eq_true this⟩
              | ren x y => cases this
              | del n => cases this
          have hkl : k < s.ops.length := (List.getElem?_eq_some_iff.1 hc).1
          obtain ⟨g, cap', e, hcc, hgl, x1, y1, z1⟩ := row3 HD.out.row hc (x := .int .i64 1) (y := .string n) (z := .string b) rfl
          obtain ⟨rfl, rfl⟩ : a = some ⟨g, 0, none⟩ ∧ cap = cap' := by simpa using e
          have x2 : wr.cell? ⟨g, k * 3, none⟩ = _ := (HB.out.cell (p := ⟨g, k * 3, none⟩) hgl).trans x1
          have y2 : wr.cell? ⟨g, k * 3 + 1, none⟩ = _ := (HB.out.cell (p := ⟨g, k * 3 + 1, none⟩) hgl).trans y1
          have z2 : wr.cell? ⟨g, k * 3 + 2, none⟩ = _ := (HB.out.cell (p := ⟨g, k * 3 + 2, none⟩) hgl).trans z1
          have hz : b.size ≤ 500000 := Nat.le_trans (HG.out.csz_le hc) hM
          have HE2 := Lib.hid (crash_torn2 s kp bytes HK.out hc hb0)
          obtain ⟨m, hm⟩ : ∃ m : Nat, min bytes.toNat b.size = m := ⟨_, rfl⟩
          have hmb : m ≤ b.size := by omega
          have hmin : min bytes (b.size : Int) = (m : Int) := by omega
          rw [hm] at HE2
          obtain ⟨b', hb'⟩ : ∃ b', b.extract 0 m = b' := ⟨_, rfl⟩
          have hb's : b'.size ≤ 500000 := by rw [← hb']; simp; omega
          rw [hb'] at HE2
          have HBE := Lib.hid hb'
          have HWX : Hid (Below wr.heap.size wr (wr.alloc (.cells #[.int .i64 1, .string n, .string b'] 110))) := Lib.hid ((Below.refl _ _).alloc (Nat.le_refl _) _)
          have HA := Lib.hid (apply_any u6 _ (.app n b') _ (HR.out.below HWX.out) (by omega) (by show _ + b'.size ≤ _; omega))
          have hl6 := len_appl ((s.ops.take k).foldl appl s.files) (.app n b')
          have HL6 : Hid ((appl ((s.ops.take k).foldl appl s.files) (.app n b')).length ≤ 500001) := Lib.hid (by omega)
          clear x1 y1 z1 hcc e hc hp hm hb1 hb2 hl6
          go_wp2_with fail
          refine HA.out.mono ?_
          rintro e w3 ⟨v', rfl, o3, b3⟩
          have HO3 := Lib.hid o3
          have HB3 := Lib.hid b3
          clear o3 b3
          go_wp2_with fail
          go_meet
          exact ⟨_, HE2.out.symm, HL6.out, Lib.hid (RowF.of_own HO3.out).1, Lib.hid ((HB.out.alloc HB.out.size _).trans (HB3.out.mono (by have := HB.out.size; simp; omega))), Lib.hid fun b e => .inr (by have := (HO3.out.lt b e).1; have := HB.out.size; simp at *; omega)⟩
      obtain ⟨G, hG, hGl, HRG, HBG, HOG⟩ := hcut
      have HG2 := Lib.hid hG
      have HSRC := Lib.hid HRG.out.src
      obtain ⟨ag, cg, hv6, hcg⟩ := HRG.out.shape
      subst hv6
      have HBK : Hid (wc.heap[r]? = some (.cells (rcells s vf (.slice a s.ops.length cap)) 99 (0, 0))) := Lib.hid (by rw [HBG.out.block r hr]; exact HD.out.blk)
      have OA : Hid ((wc.alloc (.cells #[] 107)).ownsRow wc.heap.size 107 2 (.slice (some ⟨wc.heap.size, 0, none⟩) 0 0) 0 []) := Lib.hid (World.ownsRow_made wc #[] 0 (Nat.le_refl _) (Nat.zero_le _) (by simp))
      have BA : Hid (Below wc.heap.size wc (wc.alloc (.cells #[] 107))) := Lib.hid ((Below.refl _ _).alloc (Nat.le_refl _) _)
      have SA : Hid (Src (wc.alloc (.cells #[] 107)) 2 (.slice ag G.length cg) G.length (fcells G)) := Lib.hid (HRG.out.below BA.out).src
      have hrc := heap_lt HBK.out
      clear hG
      have hfc := fcells_length G
      go_wp2_with (at_builtin; go_loud (refine wpList_app rfl (.tmp 80) (.tmp 81) 96 rfl wc.heap.size 107 i0 (.agg #[.string ⟨#[]⟩, .string ⟨#[]⟩]) 2 32 Try.underlying96 hf hf0 hf1 hf2 rfl (by omega) (.slice (some ⟨wc.heap.size, 0, none⟩) 0 0) 0 [] rfl OA.out (.slice ag G.length cg) G.length (fcells G) rfl SA.out (fcells_one G) (by unfold maxLen; omega) (by omega) (by simp) ?_; intro v9 w9 o9 g9 q9; obtain ⟨a9, c9, hv9⟩ := own_slice o9.out; have HV9 := Lib.hid hv9; subst hv9; have hb9 : Hid (w9.heap[r]? = some (.cells (rcells s vf (.slice a s.ops.length cap)) 99 (0, 0))) := Lib.hid (by rw [g9.out.block r (by simp; omega) (by simp [Value.ownBlock]; omega), Below.heap_alloc _ _ _ hrc]; exact HBK.out); have p1 : w9.cell? ⟨r, 1, none⟩ = some vf := (row_cells hb9.out).1 1; have p2 : w9.cell? ⟨r, 2, none⟩ = some (.slice a s.ops.length cap) := (row_cells hb9.out).1 2; have p3 : w9.cell? ⟨r, 3, none⟩ = some (.int .i64 s.left) := (row_cells hb9.out).1 3; have p4 : w9.cell? ⟨r, 4, none⟩ = some (.bool s.off) := (row_cells hb9.out).1 4; have z1 := (row_cells hb9.out).2 1; have z2 := (row_cells hb9.out).2 2; have z3 := (row_cells hb9.out).2 3; have z4 := (row_cells hb9.out).2 4; have hr9 : r < w9.heap.size := heap_lt hb9.out))
      go_end0
      obtain ⟨S', hS⟩ : ∃ S', s.crash kp bytes = S' := ⟨_, rfl⟩
      have e1 : S'.ops = [] := by rw [← hS]; rfl
      have e2 : S'.cap = s.cap := by rw [← hS]; rfl
      have e3 : S'.off = false := by rw [← hS]; rfl
      have e4 : S'.left = -1 := by rw [← hS]; rfl
      have e5 : S'.files = G := by rw [← hS]; exact HG2.out.symm
      rw [hS]
      have O9 : w9.ownsRow wc.heap.size 107 2 (.slice a9 G.length c9) G.length (fcells G) := by
        have := o9.out
        rw [Nat.zero_add, List.nil_append] at this
        exact this
      obtain ⟨V9, hV9⟩ : ∃ V9, Value.slice a9 G.length c9 = V9 := ⟨_, rfl⟩
      rw [hV9] at O9 ⊢
      obtain ⟨wf, hwf⟩ : ∃ wf, (((w9.setCell ⟨r, 1, none⟩ V9).setCell ⟨r, 2, none⟩ (.slice none 0 0)).setCell ⟨r, 3, none⟩ (.int .i64 (-1))).setCell ⟨r, 4, none⟩ (.bool false) = wf := ⟨_, rfl⟩
      have T : Turn r w9 wf := by
        rw [← hwf]
        exact (((set_turn _ _ _ _).trans (set_turn _ _ _ _)).trans (set_turn _ _ _ _)).trans (set_turn _ _ _ _)
      have HBF : wf.heap[r]? = some (.cells (rcells S' V9 (.slice none 0 0)) 99 (0, 0)) := by
        rw [← hwf, set_heap (set_heap (set_heap (set_heap hb9.out 1 _) 2 _) 3 _) 4 _]
        simp [rcells, e2, e3, e4]
      rw [hwf]
      have B9 : Below w.heap.size w w9 := (HBG.out.trans (BA.out.mono HBG.out.size)).grown g9.out (by have := HBG.out.size; simp; omega) (by intro j hj; simp [Value.ownBlock] at hj; have := HBG.out.size; omega)
      have hsz : w.heap.size ≤ wf.heap.size := by rw [T.size]; exact B9.size
      have hwc := HBG.out.size
      have hV9l : ∀ b, V9.ownBlock = some b → wc.heap.size ≤ b ∧ b < w9.heap.size := fun b e => O9.lt b e
      refine ⟨rfl, rw, fun b => ro b ∨ V9.ownBlock = some b, ⟨V9, .slice none 0 0, HBF, ?_, ?_, HD.out.rwr, fun b e => (by cases e), fun b e => .inr e, ?_, ?_⟩, T.os.trans B9.os, T.tape.trans B9.tape, T.output.trans B9.output, hsz, fun b hb hnr => ?_, fun b h => .inl h, ?_⟩
      · rw [e5]
        refine (RowF.of_own O9).1.kept (fun b e => T.block b ?_) (by rw [T.size]; exact Nat.le_refl _)
        rintro rfl
        have := (hV9l b e).1
        omega
      · rw [e1]
        exact World.ownsRow_nil _ _ _ _
      · rintro b (hq | hq | hq)
        · exact Nat.lt_of_lt_of_le (HD.out.lt b (.inl hq)) hsz
        · exact Nat.lt_of_lt_of_le (HD.out.lt b (.inr hq)) hsz
        · rw [T.size]; exact (hV9l b hq).2
      · rintro b hq (h | h)
        · exact HD.out.dis b hq h
        · have := HD.out.lt b (.inl hq)
          have := (hV9l b h).1
          omega
      · rw [T.block b (by rintro rfl; exact hnr HD.out.rwr)]
        exact B9.block b hb
      · rintro b (h | h)
        · exact .inl h
        · exact .inr (Nat.le_trans hwc (hV9l b h).1)
end Go.Proofs.Ytlaodmpdngdhjaa
