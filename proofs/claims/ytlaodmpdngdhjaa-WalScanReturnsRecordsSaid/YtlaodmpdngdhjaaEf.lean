/- The reference's Append, Rename, Remove, Sync, Read, Fuse, NewDisk (printed by ef.py). -/
import Derived.Test.YtlaodmpdngdhjaaEe
namespace Go.Proofs.Ytlaodmpdngdhjaa
set_option linter.unusedVariables false
set_option linter.unusedSimpArgs false
open Go.RowKit

/-- What the calls within a method need of the reference's disk. -/
structure RWithin (w : World) (r : Nat) (s : St) (ro : Nat → Prop) : Prop where
  all : ∀ W, Below w.heap.size w W → Calls Try.prog 84 #[ptr r] W (AllOut W s.all ro)
theorem RefAt.within {w : World} {r : Nat} {s : St} {rw ro : Nat → Prop} (h : RefAt w r s rw ro) {M : Nat} (hg : Good s M) (hM : M ≤ 500000) : RWithin w r s ro :=
  ⟨fun W hb => all_any r s rw ro M W (h.below hb) hg hM⟩
set_option maxRecDepth 100000 in
set_option maxHeartbeats 4000000 in
theorem rappend_any (r : Nat) (s : St) (rw ro : Nat → Prop) (M : Nat) (n b : ByteArray) (w : World) (h : RefAt w r s rw ro) (hg : Good s M) (hM : M ≤ 500000) (hn : n.size ≤ maxLen) (hb : b.size ≤ 140737488355328) :
    Calls Try.prog 46 #[ptr r, .string n, .string b] w (RMeth w r (s.append n b).1 rw ro (.int .i64 (s.append n b).2)) := by
  obtain ⟨i0, hf, hf0, hf1, hf2⟩ := info_parts info110
  have HH := Lib.hid h
  have HG := Lib.hid hg
  have HALL := Lib.hid (all_any r s rw ro M w h hg hM)
  have hsz := hg.szAll
  have hops : s.ops.length ≤ 500000 := by have := hg.wt; omega
  obtain ⟨vf, vp, h⟩ := h
  have HD := Lib.hid h
  have hc := (row_cells h.blk).1
  have k0 : w.cell? ⟨r, 0, none⟩ = some (.int .i64 s.cap) := hc 0
  have k4 : w.cell? ⟨r, 4, none⟩ = some (.bool s.off) := hc 4
  have hr := heap_lt h.blk
  have hcap := hg.cap
  clear h hg hc
  have HV := Lib.hid fun W => validf_any n W hn
  cases hoff : s.off with
  | true =>
    rw [show s.append n b = (s, 25) by unfold St.append; rw [if_pos hoff]]
    rw [hoff] at k4
    go_enter Try.func46, Try.ntmps46
    go_wp2_with fail
    go_ret
    exact RMeth.mk _ HH.out (Below.refl _ _)
  | false =>
    rw [hoff] at k4
    cases hv : valid n with
    | false =>
      rw [show s.append n b = (s, 14) by unfold St.append; rw [if_neg (by rw [hoff]; decide), if_pos hv]]
      rw [hv] at HV
      go_enter Try.func46, Try.ntmps46
      go_wp2_with fail
      refine (HV.out _).mono ?_
      rintro e w2 ⟨rfl, hw⟩
      have hw' := hw.symm
      subst hw'
      go_wp2_with fail
      go_ret
      exact RMeth.mk _ HH.out (Below.refl _ _)
    | true =>
      rw [hv] at HV
      have HE26 : Hid (s.full n b → s.append n b = (s, 26)) := Lib.hid fun hf => by unfold St.append; rw [if_neg (by rw [hoff]; decide), if_neg (by rw [hv]; decide), if_pos hf]
      have HE0 : Hid (¬ s.full n b → s.append n b = (s.push (.app n b), 0)) := Lib.hid fun hf => by unfold St.append; rw [if_neg (by rw [hoff]; decide), if_neg (by rw [hv]; decide), if_neg hf]
      go_enter Try.func46, Try.ntmps46
      go_wp2_with fail
      refine (HV.out _).mono ?_
      rintro e w1 ⟨rfl, hw⟩
      have hw' := hw.symm
      subst hw'
      go_wp2_with fail
      refine HALL.out.mono ?_
      rintro e w2 ⟨v', rfl, hrow, hb2, ho2⟩
      have HR := Lib.hid hrow
      have HB2 := Lib.hid hb2
      obtain ⟨a, cp, hv', hcp⟩ := hrow.shape
      subst hv'
      have m0 : w2.cell? ⟨r, 0, none⟩ = some (.int .i64 s.cap) := by rw [hb2.cell (p := ⟨r, 0, none⟩) hr]; exact k0
      have hr2' : r < w2.heap.size := Nat.lt_of_lt_of_le hr hb2.size
      obtain ⟨len, hlen⟩ : ∃ len, s.all.length = len := ⟨_, rfl⟩
      have HLEN := Lib.hid hlen
      have HSZ := Lib.hid hsz
      have hlen5 : len ≤ 500000 := by omega
      have HWH := Lib.hid (where_any _ s.all n w2 hrow (by omega))
      rw [hlen] at HR HWH ⊢
      clear hrow hb2 ho2 k0 k4 hlen hsz
      go_wp2_with fail
      go_loop [8, 9] (fun v8 v9 => ∃ k S : Nat, k ≤ len ∧ v9 = .int .i64 k ∧ v8 = .int .i64 S ∧ S ≤ 500000 ∧ Hid (S = szs (s.all.take k))) (fun _ v9 => len - (intOf v9).toNat)
      case atStart => exact ⟨0, 0, Nat.zero_le _, rfl, rfl, Nat.zero_le _, Lib.hid rfl⟩
      case round =>
        obtain ⟨k, S, hk, rfl, rfl, hS, HSS⟩ := hrel
        by_cases hlt : k < len
        · obtain ⟨p, hp⟩ : ∃ p, s.all[k]? = some p := ⟨s.all[k]'(by rw [HLEN.out]; exact hlt), by simp [HLEN.out, hlt]⟩
          obtain ⟨g, rfl, _, hg, _, c1⟩ := HR.out.get hp
          have hz : szs (s.all.take (k + 1)) = szs (s.all.take k) + p.2.size := by
            rw [List.take_add_one, hp]
            simp [szs]
          have hle : szs (s.all.take (k + 1)) ≤ szs s.all := by
            conv => rhs; rw [← List.take_append_drop (k + 1) s.all]
            rw [szs_append]; omega
          have hs1 : S + p.2.size ≤ 500000 := by have := HSZ.out; have := HSS.out; omega
          have HZ := Lib.hid hz
          obtain ⟨y, hy⟩ : ∃ y, p.2 = y := ⟨_, rfl⟩
          rw [hy] at c1 hs1 HZ
          clear hz hle hp hy
          go_wp2_with fail
          go_round
          case rel => exact ⟨k + 1, S + y.size, by omega, by go_num, by go_num, hs1, Lib.hid (by rw [HZ.out, HSS.out])⟩
          case measure => simp [intOf]; omega
        · obtain rfl : k = len := by omega
          have HSF : Hid (S = szs s.all) := Lib.hid (by rw [HSS.out, ← HLEN.out, List.take_length])
          clear HSS
          go_wp2_with fail
          refine HWH.out.mono ?_
          rintro e w2' ⟨rfl, hw⟩
          have hw' := hw.symm
          subst hw'
          by_cases hA : ¬ s.has n ∧ 16 ≤ k
          · have hwr : whr s.all n = -1 := whr_neg hA.1
            have HF : Hid (s.append n b = (s, 26)) := Lib.hid (HE26.out (.inl ⟨hA.1, by rw [HLEN.out]; exact hA.2⟩))
            have h16 : decide ((16 : Int) ≤ (k : Int)) = true := decide_eq_true (by omega)
            rw [hwr]
            clear hA
            go_wp2_with fail
            go_ret
            rw [HF.out]
            exact RMeth.mk _ HH.out HB2.out
          · obtain ⟨q, hq⟩ : ∃ q, whr s.all n = q := ⟨_, rfl⟩
            have hcase : decide (q < 0) = false ∨ (decide (q < 0) = true ∧ decide ((16 : Int) ≤ (k : Int)) = false) := by
              by_cases hh : s.has n
              · left
                rw [← hq, whr_nonneg hh]
                exact decide_eq_false (by omega)
              · right
                refine ⟨by rw [← hq, whr_neg hh]; rfl, decide_eq_false ?_⟩
                intro h16
                exact hA ⟨hh, by omega⟩
            rw [hq]
            have hnA : ¬ (¬ s.has n ∧ 16 ≤ s.all.length) := by rw [HLEN.out]; exact hA
            have HNA := Lib.hid hnA
            clear hA hnA hq
            by_cases hfl : s.cap < S + b.size
            · have HF : Hid (s.append n b = (s, 26)) := Lib.hid (HE26.out (.inr (by rw [← HSF.out]; exact hfl)))
              have h3 : decide ((s.cap : Int) - S < (b.size : Int)) = true := decide_eq_true (by omega)
              rcases hcase with h1 | ⟨h1, h2⟩
              all_goals
                go_wp2_with fail
                go_ret
                rw [HF.out]
                exact RMeth.mk _ HH.out HB2.out
            · have HF : Hid (s.append n b = (s.push (.app n b), 0)) := Lib.hid (HE0.out (by
                rintro (h | h)
                · exact HNA.out h
                · rw [← HSF.out] at h; exact hfl h))
              have h3 : decide ((s.cap : Int) - S < (b.size : Int)) = false := decide_eq_false (by omega)
              rcases hcase with h1 | ⟨h1, h2⟩
              all_goals
                have HI2 : Hid (RefIs w2 r s rw ro vf vp) := Lib.hid (HD.out.kept (fun b hb => HB2.out.block b (HD.out.lt b hb)) HB2.out.size)
                have m2 : w2.cell? ⟨r, 2, none⟩ = some vp := (row_cells HI2.out.blk).1 2
                have hr2 : r < w2.heap.size := heap_lt HI2.out.blk
                go_wp2_with (at_builtin; go_loud (refine wpList_app rfl (.tmp 57) (.tmp 61) 97 rfl 0 110 i0 (.agg #[.int .i64 0, .string ⟨#[]⟩, .string ⟨#[]⟩]) 3 40 Try.underlying97 hf hf0 hf1 hf2 rfl (by omega) vp s.ops.length (s.ops.flatMap ocells) rfl (HI2.out.row.alloc _) (.slice (some ⟨w2.heap.size, 0, none⟩) 1 1) 1 (ocells (.app n b)) rfl (.inr ⟨_, _, rfl, rfl, cells_new' w2 (ocells (.app n b)) 110⟩) (by intro u hu; simp [ocells] at hu; rcases hu with rfl | rfl | rfl <;> rfl) (by unfold maxLen; omega) (by omega) (Nat.zero_le _) ?_; intro v3 w3 o3 g3 p3; obtain ⟨gb, gc, rfl⟩ := own_form o3.out (Nat.succ_pos _); have hb3 : Hid (w3.heap[r]? = some (.cells (rcells s vf vp) 99 (0, 0))) := Lib.hid (by rw [g3.out.block r (by simp; omega) (by intro e; obtain ⟨cur, fr, ho⟩ := own_obj HI2.out.row e.symm; rw [HI2.out.blk] at ho; cases ho), Below.heap_alloc _ _ _ hr2]; exact HI2.out.blk); have q4 : w3.cell? ⟨r, 2, none⟩ = some vp := (row_cells hb3.out).1 2; have q5 : w3.frozen? ⟨r, 2, none⟩ = false := (row_cells hb3.out).2 2; have q6 : r < w3.heap.size := heap_lt hb3.out))
                have HS := Lib.hid (spend_any r { s with ops := s.ops ++ [.app n b] } vf (.slice (some ⟨gb, 0, none⟩) (s.ops.length + 1) gc) (w3.setCell ⟨r, 2, none⟩ (.slice (some ⟨gb, 0, none⟩) (s.ops.length + 1) gc)) (by rw [set_heap hb3.out 2 _]; simp [rcells]) HG.out.hi)
                refine HS.out.mono ?_
                rintro e w5 ⟨rfl, hb5, ht5⟩
                have HP := Lib.hid (HI2.out.push (c := .app n b) g3.out o3.out p3.out ht5 hb5)
                clear hb5 ht5
                go_wp2_with fail
                go_ret
                rw [HF.out]
                obtain ⟨rw', ro', h1, h2⟩ := HP.out
                exact ⟨rfl, rw', ro', h1, (Kept.below HB2.out).trans h2⟩
end Go.Proofs.Ytlaodmpdngdhjaa
