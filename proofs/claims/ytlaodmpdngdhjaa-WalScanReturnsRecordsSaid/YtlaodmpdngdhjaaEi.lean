/- The reference's Names: an insertion sort. -/
import Derived.Test.YtlaodmpdngdhjaaEh
import Derived.Test.YtlaodmpdngdhjaaDp
import Derived.Deep.RegionLaw
import Derived.BigQuiet
import Derived.WalkSmall
import Derived.Maps.AppendAt
import Derived.Deep.CutBlock
import Derived.Deep.DeepCutAuto
namespace Go.Proofs.Ytlaodmpdngdhjaa
set_option linter.unusedVariables false
set_option linter.unusedSimpArgs false
open Go.RowKit

/-- Of a sorted list: if the one before the place is not after x, nor is any before it. -/
theorem ins_front {x : ByteArray} {S : List ByteArray} (hS : S.Pairwise fun a b => leS a b = true) {j : Nat} (hj : j ≤ S.length) (h : j = 0 ∨ ∃ y, S[j - 1]? = some y ∧ leqB y x = true) : ∀ q y, q < j → S[q]? = some y → leqB y x = true := by
  intro q y hq hy
  rcases h with h | ⟨z, hz, hzx⟩
  · omega
  · obtain ⟨h1, rfl⟩ := List.getElem?_eq_some_iff.1 hy
    obtain ⟨h2, rfl⟩ := List.getElem?_eq_some_iff.1 hz
    by_cases e : q = j - 1
    · subst e; exact hzx
    · have := List.pairwise_iff_getElem.1 hS q (j - 1) h1 h2 (by omega)
      rw [leqB_eq] at hzx ⊢
      exact leS_trans _ _ _ this hzx
theorem not_le {x y : ByteArray} (h : Op.bytesLess x.toList y.toList = true) : leqB y x = false := by
  cases hq : leqB y x with
  | false => rfl
  | true =>
    rw [leqB_eq] at hq
    have := lessB_eq x y hq
    unfold lessB at this
    rw [h] at this
    cases this
theorem le_of_not {x y : ByteArray} (h : Op.bytesLess x.toList y.toList = false) : leqB y x = true := by
  rw [leqB_eq]
  have h1 := leS_total y x
  cases hq : leS y x with
  | true => rfl
  | false =>
    rw [hq, Bool.false_or] at h1
    rw [ByteArray.toList_eq, ByteArray.toList_eq, bytesLess_eq] at h
    have h2 : ¬ x.data.toList < y.data.toList := by simpa using h
    have h3 : leS y x = true := by
      simp only [leS, leB, decide_eq_true_eq]
      exact List.not_lt.1 h2
    rw [h3] at hq
    cases hq
theorem far1 (w : World) {w1 : World} {x : Value} {t : TypeId} {X : Obj} {row : Option Nat} (h : ((w.alloc (.cells #[x] t)).alloc X).grownBy w1 row) (hr : some w.heap.size ≠ row := by simp [Value.ownBlock]) : ∀ j u, [x][j]? = some u → w1.cell? ((⟨w.heap.size, 0, none⟩ : Addr).add j) = some u := by
  intro j u hu
  rw [World.cell?_of_block (w := w.alloc (.cells #[x] t)) (by rw [Addr.add_lit]; rw [h.block _ (by simp; omega) hr, Below.heap_alloc _ _ _ (by simp)])]
  exact cell_one_new w x t j u hu
theorem far2 (w : World) {w1 : World} {x : Value} {t : TypeId} {E : Obj} {row : Option Nat} (h : ((w.alloc E).alloc (.cells #[x] t)).grownBy w1 row) (hr : some (w.heap.size + 1) ≠ row := by simp [Value.ownBlock]) : ∀ j u, [x][j]? = some u → w1.cell? ((⟨w.heap.size + 1, 0, none⟩ : Addr).add j) = some u := by
  intro j u hu
  have e : (w.alloc E).heap.size = w.heap.size + 1 := by simp
  rw [World.cell?_of_block (w := (w.alloc E).alloc (.cells #[x] t)) (by rw [Addr.add_lit]; exact h.block _ (by simp) hr), ← e]
  exact cell_one_new (w.alloc E) x t j u hu
set_option maxRecDepth 100000 in
set_option maxHeartbeats 4000000 in
theorem rnames_any (r : Nat) (s : St) (rw ro : Nat → Prop) (M : Nat) (w : World) (h : RefAt w r s rw ro) (hg : Good s M) (hM : M ≤ 500000) :
    Calls Try.prog 48 #[ptr r] w fun e w' => ∃ v', e = .returned v' ∧ w'.ownsRow w.heap.size 9 1 v' s.names.length (strs s.names) ∧ Below w.heap.size w w' := by
  obtain ⟨i0, hi, hi0, hi1, hi2⟩ := info_parts info9
  have HALL := Lib.hid (all_any r s rw ro M w h hg hM)
  have hsz := hg.szAll
  obtain ⟨vf, vp, h⟩ := h
  have hc := (row_cells h.blk).1
  have k4 : w.cell? ⟨r, 4, none⟩ = some (.bool s.off) := hc 4
  have hr := heap_lt h.blk
  obtain ⟨n, hn⟩ : ∃ n, s.all.length = n := ⟨_, rfl⟩
  have hl' : n ≤ 500000 := by omega
  obtain ⟨xs, hxs⟩ : ∃ xs, s.all.map (·.1) = xs := ⟨_, rfl⟩
  have hxl : xs.length = n := by rw [← hxs, List.length_map]; exact hn
  have HXS := Lib.hid hxs
  have HXL := Lib.hid hxl
  have HN := Lib.hid hn
  have HNM : Hid (s.names = if s.off then [] else srtB xs) := Lib.hid (by unfold St.names; rw [hxs])
  clear h hg hc hsz hxs hxl hn
  go_enter Try.func48, Try.ntmps48
  go_wp2_with fail
  refine HALL.out.mono ?_
  rintro e w2 ⟨v', rfl, hrow, hb2, ho2⟩
  have HR := Lib.hid hrow
  have HB2 := Lib.hid hb2
  obtain ⟨a, cp, hv', hcp⟩ := hrow.shape
  subst hv'
  have m4 : w2.cell? ⟨r, 4, none⟩ = some (.bool s.off) := by rw [hb2.cell (p := ⟨r, 4, none⟩) hr]; exact k4
  have hr2 : r < w2.heap.size := Nat.lt_of_lt_of_le hr hb2.size
  rw [HN.out] at HR ⊢
  clear hrow hb2 ho2 k4
  cases hoff : s.off with
  | true =>
    rw [hoff] at m4 HNM
    have HNM2 : Hid (s.names = []) := Lib.hid HNM.out
    by_cases hn0 : n = 0
    · subst hn0
      go_wp2_with fail
      refine wp_loop_rounds 1 ?_
      rw [rounds_succ]
      go_wp2_with fail
      go_ret
      exact ⟨_, rfl, by rw [HNM2.out]; exact World.ownsRow_nil _ _ _ _, HB2.out⟩
    · have hn1 : decide ((0 : Int) < (n : Int)) = true := decide_eq_true (by omega)
      have hn2 : (0 : Int) < (n : Int) := by omega
      go_wp2_with fail
      refine wp_loop_rounds 1 ?_
      rw [rounds_succ]
      go_wp2_with fail
      go_ret
      exact ⟨_, rfl, by rw [HNM2.out]; exact World.ownsRow_nil _ _ _ _, HB2.out⟩
  | false =>
    rw [hoff] at m4 HNM
    have HNM2 : Hid (s.names = srtB xs) := Lib.hid HNM.out
    clear hoff
    go_wp2_with fail
    go_loopw [3, 5] (fun v i wr => ∃ k : Nat, k ≤ n ∧ i = .int .i64 k ∧ Hid (wr.ownsRow w2.heap.size 9 1 v k (strs (srtB (xs.take k)))) ∧ Hid (Below w2.heap.size w2 wr)) (fun _ i _ => n - (intOf i).toNat)
    case atStart => exact ⟨0, Nat.zero_le _, rfl, Lib.hid (World.ownsRow_nil _ _ _ _), Lib.hid (Below.refl _ _)⟩
    case round =>
      obtain ⟨k, hk, rfl, HO, HB⟩ := hrel
      have m4' : wr.cell? ⟨r, 4, none⟩ = some (.bool false) := (HB.out.cell (p := ⟨r, 4, none⟩) hr2).trans m4
      have hrr : r < wr.heap.size := Nat.lt_of_lt_of_le hr2 HB.out.size
      by_cases hlt : k < n
      · obtain ⟨p, hp⟩ : ∃ p, s.all[k]? = some p := ⟨s.all[k]'(by rw [HN.out]; exact hlt), by simp [HN.out, hlt]⟩
        obtain ⟨g, rfl, -, hg, c0, -⟩ := HR.out.get hp
        have hx : xs[k]? = some p.1 := by rw [← HXS.out, List.getElem?_map, hp]; rfl
        obtain ⟨x, hpx⟩ : ∃ x, p.1 = x := ⟨_, rfl⟩
        rw [hpx] at c0 hx
        have hck : wr.cell? ⟨g, k * 2, none⟩ = some (.string x) := (HB.out.cell (p := ⟨g, k * 2, none⟩) hg).trans c0
        have HX := Lib.hid hx
        have hSL : (srtB (xs.take k)).length = k := by rw [srtB_length, List.length_take, HXL.out]; omega
        have hSS := srtB_sorted (xs.take k)
        obtain ⟨S, hS⟩ : ∃ S, srtB (xs.take k) = S := ⟨_, rfl⟩
        rw [hS] at HO hSL hSS
        have HS := Lib.hid hS
        have HSL := Lib.hid hSL
        have HSS := Lib.hid hSS
        clear hx hp hpx c0 hS hSL hSS
        obtain ⟨aa, cc, rfl, hkc, hSRC⟩ : ∃ aa cc, u3 = .slice aa k cc ∧ k ≤ cc ∧ Hid ((aa = none ∧ k = 0 ∧ cc = 0) ∨ ∃ g, aa = some ⟨g, 0, none⟩ ∧ w2.heap.size ≤ g ∧ g < wr.heap.size ∧ ∀ j y, S[j]? = some y → wr.cell? ⟨g, j, none⟩ = some (.string y)) := by
          rcases srow_shape HO.out with ⟨rfl, rfl⟩ | ⟨g, c', rfl, h1, h2, h3, h4, h5⟩
          · exact ⟨none, 0, rfl, Nat.le_refl _, Lib.hid (.inl ⟨rfl, rfl, rfl⟩)⟩
          · exact ⟨_, _, rfl, h3, Lib.hid (.inr ⟨g, rfl, h1, h2, fun j y hj => h5 j _ (by simp [strs, hj])⟩)⟩
        go_upto_block 2 with fail
        go_cut [6] (fun v6 wx => ∃ j q : Nat, j ≤ k ∧ v6 = .int .i64 j ∧ Hid (insB x S = S.take j ++ [x] ++ S.drop j) ∧ wx = wr.drewN q)
        case first =>
          go_wp2_with fail
          go_loopw [6] (fun v6 wi => ∃ j q : Nat, j ≤ k ∧ v6 = .int .i64 j ∧ wi = wr.drewN q ∧ Hid (∀ i y, j ≤ i → S[i]? = some y → leqB y x = false)) (fun v6 _ => (intOf v6).toNat)
          case atStart => exact ⟨k, 0, Nat.le_refl _, rfl, rfl, Lib.hid (by
            intro i y h1 h2
            have := (List.getElem?_eq_some_iff.1 h2).1
            rw [HSL.out] at this
            omega)⟩
          case round =>
            obtain ⟨j, q, hj, rfl, rfl, HJ⟩ := hrel
            by_cases hj0 : 0 < j
            · obtain ⟨y, hy⟩ : ∃ y, S[j - 1]? = some y := ⟨S[j - 1]'(by rw [HSL.out]; omega), by simp⟩
              obtain ⟨g', rfl, hg1, hg2, hg3⟩ : ∃ g, aa = some ⟨g, 0, none⟩ ∧ w2.heap.size ≤ g ∧ g < wr.heap.size ∧ ∀ j y, S[j]? = some y → wr.cell? ⟨g, j, none⟩ = some (.string y) := by
                rcases hSRC.out with h | h
                · omega
                · exact h
              have hcy := hg3 (j - 1) y hy
              have HY := Lib.hid hy
              have d0 : decide ((0 : Int) < (j : Int)) = true := decide_eq_true (by omega)
              clear hg3 hy
              cases hle : leqB y x with
              | false =>
                have hle1 : (Op.bytesLess y.toList x.toList || y.toList == x.toList) = false := hle
                have HNL := Lib.hid hle
                clear hle
                go_wp2_with fail
                go_quiet (fail)
                go_wp2_with fail
                go_roundw
                case rel => exact ⟨j - 1, q + nq, by omega, by go_num, by simp, Lib.hid (by
                  intro i z h1 h2
                  by_cases e : i = j - 1
                  · subst e
                    rw [HY.out] at h2
                    cases h2
                    exact HNL.out
                  · exact HJ.out i z (by omega) h2)⟩
                case measure => simp [intOf]; omega
              | true =>
                have hle1 : (Op.bytesLess y.toList x.toList || y.toList == x.toList) = true := hle
                have HI := Lib.hid (insB_at (x := x) (l := S) (k := j) (by rw [HSL.out]; omega) (ins_front HSS.out (by rw [HSL.out]; omega) (.inr ⟨y, HY.out, hle⟩)) (fun z hz => HJ.out j z (Nat.le_refl _) hz))
                clear hle
                go_wp2_with fail
                go_quiet (fail)
                go_wp2_with fail
                go_meet
                exact ⟨j, q + nq, hj, rfl, HI, by simp⟩
            · obtain rfl : j = 0 := by omega
              have HI := Lib.hid (insB_at (x := x) (l := S) (k := 0) (Nat.zero_le _) (by intro i y h; omega) (fun z hz => HJ.out 0 z (Nat.le_refl _) hz))
              go_wp2_with fail
              go_quiet (fail)
              go_wp2_with fail
              go_meet
              exact ⟨0, q + nq, Nat.zero_le _, rfl, HI, by simp⟩
        case rest =>
          obtain ⟨j, q, hj, rfl, HI, hwx⟩ := hcut
          have HBD : Hid (Below wr.heap.size wr wc) := Lib.hid (by rw [hwx]; exact below_drewN (Below.refl _ _) _)
          have hszd : wc.heap.size = wr.heap.size := by rw [hwx]; rfl
          have hckd : wc.cell? ⟨g, k * 2, none⟩ = some (.string x) := by rw [hwx]; exact hck
          have HB2D : Hid (Below w2.heap.size w2 wc) := Lib.hid (by rw [hwx]; exact below_drewN HB.out _)
          have hgc : g < wc.heap.size := Nat.lt_of_lt_of_le hg HB2D.out.size
          have hjc : j ≤ cc := by omega
          obtain ⟨A3, hA3⟩ : ∃ A3, (if cc = j then aa else Option.map (fun x => x.add j) aa) = A3 := ⟨_, rfl⟩
          have SRC1 : Hid (∀ W : World, (∀ b o, b < wc.heap.size → W.cell? ⟨b, o, none⟩ = wc.cell? ⟨b, o, none⟩) → Src W 1 (.slice aa j cc) j (strs (S.take j))) := Lib.hid fun W hW => src_take HSL.out hj hSRC.out W (by intro b o hb; rw [hW b o (by omega), hwx]; rfl)
          have SRC3 : Hid (∀ W : World, (∀ b o, b < wc.heap.size → W.cell? ⟨b, o, none⟩ = wc.cell? ⟨b, o, none⟩) → Src W 1 (.slice A3 (k - j) (cc - j)) (k - j) (strs (S.drop j))) := Lib.hid fun W hW => src_drop HSL.out hj hkc hA3 hSRC.out W (by intro b o hb; rw [hW b o (by omega), hwx]; rfl)
          have BE1 : Hid (Below wc.heap.size wc (wc.drew.alloc (.cells #[] 9))) := Lib.hid ((Below.refl _ _).drew.alloc (Nat.le_refl _) _)
          have OE1 : Hid ((wc.drew.alloc (.cells #[] 9)).ownsRow wc.heap.size 9 1 (.slice (some ⟨wc.heap.size, 0, none⟩) 0 0) 0 []) := Lib.hid (World.ownsRow_made wc.drew #[] 0 (Nat.le_refl _) (Nat.zero_le _) (by simp))
          have BE2 : Hid (Below wc.heap.size wc ((wc.drew.alloc (.cells #[.string x] 9)).alloc (.cells #[] 9))) := Lib.hid (((Below.refl _ _).drew.alloc (Nat.le_refl _) _).alloc (by simp) _)
          have OE2 : Hid (((wc.drew.alloc (.cells #[.string x] 9)).alloc (.cells #[] 9)).ownsRow wc.heap.size 9 1 (.slice (some ⟨wc.heap.size + 1, 0, none⟩) 0 0) 0 []) := Lib.hid (by
            have := World.ownsRow_made (base := wc.heap.size) (e := 9) (size := 1) (wc.drew.alloc (.cells #[.string x] 9)) #[] 0 (by simp) (Nat.zero_le _) (by simp)
            simpa using this)
          clear hwx hck hszd
          go_upto_region 9 with fail
          go_region_law (first
            | (refine step_appB rfl (.tmp 41) (.tmp 44) 22 rfl wc.heap.size 9 i0 (.string ⟨#[]⟩) 1 16 Try.underlying22 hi hi0 hi1 hi2 rfl (by omega) (.slice (some ⟨wc.heap.size, 0, none⟩) 0 0) 0 [] (by simp [Act.eval, Act.put]) OE1.out (.slice aa j cc) j (strs (S.take j)) (by simp [Act.eval, Act.put]) (SRC1.out _ (by intro b o hb; exact (BE1.out).cell (p := ⟨b, o, none⟩) hb)) (by first | exact strs_one _ | (intro u hu; rw [List.mem_singleton.1 hu]; rfl)) (by unfold maxLen; omega) (by omega) (Nat.le_refl _) BE1.out ?_; intro v1 w1 o1 g1 b1; have yk : w1.cell? ⟨g, k * 2, none⟩ = some (.string x) := (b1.out.cell (p := ⟨g, k * 2, none⟩) hgc).trans hckd)
            | (refine step_appB rfl (.tmp 41) (.tmp 44) 22 rfl wc.heap.size 9 i0 (.string ⟨#[]⟩) 1 16 Try.underlying22 hi hi0 hi1 hi2 rfl (by omega) (.slice (some ⟨wc.heap.size, 0, none⟩) 0 0) 0 [] (by simp [Act.eval, Act.put]) (OE1.out.alloc _) (.slice aa j cc) j (strs (S.take j)) (by simp [Act.eval, Act.put]) (SRC1.out _ (by intro b o hb; exact ((BE1.out.alloc (by simp) _)).cell (p := ⟨b, o, none⟩) hb)) (by first | exact strs_one _ | (intro u hu; rw [List.mem_singleton.1 hu]; rfl)) (by unfold maxLen; omega) (by omega) (Nat.le_refl _) (BE1.out.alloc (by simp) _) ?_; intro v1 w1 o1 g1 b1; have yk : w1.cell? ⟨g, k * 2, none⟩ = some (.string x) := (b1.out.cell (p := ⟨g, k * 2, none⟩) hgc).trans hckd)
            | (refine step_appB rfl (.tmp 41) (.tmp 44) 22 rfl wc.heap.size 9 i0 (.string ⟨#[]⟩) 1 16 Try.underlying22 hi hi0 hi1 hi2 rfl (by omega) (.slice (some ⟨wc.heap.size + 1, 0, none⟩) 0 0) 0 [] (by simp [Act.eval, Act.put]) OE2.out (.slice aa j cc) j (strs (S.take j)) (by simp [Act.eval, Act.put]) (SRC1.out _ (by intro b o hb; exact (BE2.out).cell (p := ⟨b, o, none⟩) hb)) (by first | exact strs_one _ | (intro u hu; rw [List.mem_singleton.1 hu]; rfl)) (by unfold maxLen; omega) (by omega) (Nat.le_refl _) BE2.out ?_; intro v1 w1 o1 g1 b1; have yk : w1.cell? ⟨g, k * 2, none⟩ = some (.string x) := (b1.out.cell (p := ⟨g, k * 2, none⟩) hgc).trans hckd)
            | (refine step_appB rfl (.tmp 45) (.tmp 51) 22 rfl wc.heap.size 9 i0 (.string ⟨#[]⟩) 1 16 Try.underlying22 hi hi0 hi1 hi2 rfl (by omega) v1 (0 + j) ([] ++ strs (S.take j)) (by simp [Act.eval, Act.put]) (o1.out.alloc _) (.slice (some ⟨w1.heap.size, 0, none⟩) 1 1) 1 [.string x] (by simp [Act.eval, Act.put]) (.inr ⟨_, _, rfl, rfl, cell_one_new _ _ _⟩) (by first | exact strs_one _ | (intro u hu; rw [List.mem_singleton.1 hu]; rfl)) (by unfold maxLen; omega) (by omega) (Nat.le_refl _) (b1.out.alloc b1.out.size _) ?_; intro v2 w2' o2 g2 b2)
            | (refine step_appB rfl (.tmp 45) (.tmp 51) 22 rfl wc.heap.size 9 i0 (.string ⟨#[]⟩) 1 16 Try.underlying22 hi hi0 hi1 hi2 rfl (by omega) v1 (0 + j) ([] ++ strs (S.take j)) (by simp [Act.eval, Act.put]) o1.out (.slice (some ⟨wc.heap.size + 1, 0, none⟩) 1 1) 1 [.string x] (by simp [Act.eval, Act.put]) (.inr ⟨_, _, rfl, rfl, far2 wc.drew g1.out⟩) (by first | exact strs_one _ | (intro u hu; rw [List.mem_singleton.1 hu]; rfl)) (by unfold maxLen; omega) (by omega) (Nat.le_refl _) b1.out ?_; intro v2 w2' o2 g2 b2)
            | (refine step_appB rfl (.tmp 45) (.tmp 51) 22 rfl wc.heap.size 9 i0 (.string ⟨#[]⟩) 1 16 Try.underlying22 hi hi0 hi1 hi2 rfl (by omega) v1 (0 + j) ([] ++ strs (S.take j)) (by simp [Act.eval, Act.put]) o1.out (.slice (some ⟨wc.heap.size, 0, none⟩) 1 1) 1 [.string x] (by simp [Act.eval, Act.put]) (.inr ⟨_, _, rfl, rfl, far1 wc.drew g1.out⟩) (by first | exact strs_one _ | (intro u hu; rw [List.mem_singleton.1 hu]; rfl)) (by unfold maxLen; omega) (by omega) (Nat.le_refl _) b1.out ?_; intro v2 w2' o2 g2 b2)
            | (refine step_appB rfl (.tmp 52) (.tmp 55) 22 rfl wc.heap.size 9 i0 (.string ⟨#[]⟩) 1 16 Try.underlying22 hi hi0 hi1 hi2 rfl (by omega) v2 (0 + j + 1) (([] ++ strs (S.take j)) ++ [.string x]) (by simp [Act.eval, Act.put]) o2.out (.slice A3 (k - j) (cc - j)) (k - j) (strs (S.drop j)) (by simp [Act.eval, Act.put]) (SRC3.out _ fun b o hb => b2.out.cell hb) (by first | exact strs_one _ | (intro u hu; rw [List.mem_singleton.1 hu]; rfl)) (by unfold maxLen; omega) (by omega) (Nat.le_refl _) b2.out ?_; intro v3 w3 o3 g3 b3))
          all_goals
            go_wp2_with fail
            go_roundw
            case rel => exact ⟨k + 1, by omega, by go_num, Lib.hid (by
              rw [srtB_snoc xs k x HX.out, HS.out, HI.out]
              have := row_mono o3.out HB2D.out.size
              rw [show 0 + j + 1 + (k - j) = k + 1 by omega] at this
              simpa [strs] using this), Lib.hid (HB2D.out.trans (b3.out.mono HB2D.out.size))⟩
            case measure => simp [intOf]; omega
      · obtain rfl : k = n := by omega
        have HTK : Hid (srtB (xs.take k) = s.names) := Lib.hid (by rw [HNM2.out, ← HXL.out, List.take_length])
        have HLN : Hid (s.names.length = k) := Lib.hid (by rw [HNM2.out, srtB_length, HXL.out])
        go_wp2_with fail
        go_ret
        refine ⟨_, rfl, ?_, HB2.out.trans (HB.out.mono HB2.out.size)⟩
        have := row_mono HO.out HB2.out.size
        rw [HTK.out] at this
        rw [HLN.out]
        exact this
end Go.Proofs.Ytlaodmpdngdhjaa
