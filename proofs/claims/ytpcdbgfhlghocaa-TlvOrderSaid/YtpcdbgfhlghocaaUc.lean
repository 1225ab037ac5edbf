import Derived.Test.YtpcdbgfhlghocaaUb
import Derived.Deep.CutBlock
import Derived.Deep.DeepCutAuto
namespace Go.Proofs.Ytpcdbgfhlghocaa
set_option linter.unusedVariables false
set_option linter.unusedSimpArgs false
open Go.RowKit

def strs (l : List ByteArray) : List Value := l.map Value.string
theorem strs_length (l : List ByteArray) : (strs l).length = l.length := by simp [strs]
theorem strs_one (l : List ByteArray) : ∀ u ∈ strs l, u.oneCell' = true := by
  intro u hu
  obtain ⟨x, _, rfl⟩ := List.mem_map.1 hu
  rfl
theorem srow_shape {w : World} {base n : Nat} {v : Value} {cs : List Value} (h : w.ownsRow base 9 1 v n cs) : (v = .slice none 0 0 ∧ n = 0) ∨ ∃ g c, v = .slice (some ⟨g, 0, none⟩) n c ∧ base ≤ g ∧ g < w.heap.size ∧ n ≤ c ∧ c ≤ maxLen ∧ ∀ j u, cs[j]? = some u → w.cell? ⟨g, j, none⟩ = some u := by
  have hh := h
  obtain ⟨hl, h | ⟨g, cap, cur, rfl, hg, hb, h1, h2, h3, h4⟩⟩ := h
  · exact .inl h
  · refine .inr ⟨g, cap, rfl, hg, (Array.getElem?_eq_some_iff.1 hb).1, h1, h2, fun j u hu => ?_⟩
    have := hh.cells (g := g) rfl j u hu
    simpa [Addr.add_lit] using this

theorem row_mono {w : World} {base base' : Nat} {e : TypeId} {size : Nat} {v : Value} {n : Nat} {xs : List Value} (h : w.ownsRow base e size v n xs) (hb : base' ≤ base) : w.ownsRow base' e size v n xs :=
  ⟨h.1, h.2.imp id fun ⟨g, cap, cur, h1, h2, h3⟩ => ⟨g, cap, cur, h1, Nat.le_trans hb h2, h3⟩⟩
theorem new_far (w : World) {w1 : World} {x : Value} {t : TypeId} (h : (w.alloc (.cells #[x] t)).grownBy w1 (Value.ownBlock (.slice none 0 0))) : ∀ j u, [x][j]? = some u → w1.cell? ((⟨w.heap.size, 0, none⟩ : Addr).add j) = some u := by
  intro j u hu
  rw [World.cell?_of_block (w := w.alloc (.cells #[x] t)) (by rw [Addr.add_lit]; exact h.block _ (by simp) (by simp [Value.ownBlock]))]
  exact cell_one_new w x t j u hu
theorem src_take {wr : World} {aa : Option Addr} {j k cc B : Nat} {S : List ByteArray} (hS : S.length = k) (hj : j ≤ k) (h : (aa = none ∧ k = 0 ∧ cc = 0) ∨ ∃ g, aa = some ⟨g, 0, none⟩ ∧ B ≤ g ∧ g < wr.heap.size ∧ ∀ j y, S[j]? = some y → wr.cell? ⟨g, j, none⟩ = some (.string y)) :
    ∀ W : World, (∀ b o, b < wr.heap.size → W.cell? ⟨b, o, none⟩ = wr.cell? ⟨b, o, none⟩) → Src W 1 (.slice aa j cc) j (strs (S.take j)) := by
  intro W hW
  rcases h with ⟨rfl, rfl, rfl⟩ | ⟨g, rfl, hg1, hg2, hg3⟩
  · obtain rfl : j = 0 := by omega
    exact .inl ⟨rfl, rfl, by simp [strs]⟩
  · refine .inr ⟨_, _, rfl, by simp [strs]; omega, fun i u hu => ?_⟩
    rw [Addr.add_lit, Nat.zero_add, hW _ _ hg2]
    have hi : i < j := by
      have := (List.getElem?_eq_some_iff.1 hu).1
      simp [strs] at this; omega
    simp only [strs, List.getElem?_map, List.getElem?_take_of_lt hi, Option.map_eq_some_iff] at hu
    obtain ⟨y, hy, rfl⟩ := hu
    exact hg3 i y hy
theorem src_drop {wr : World} {aa A3 : Option Addr} {j k cc B : Nat} {S : List ByteArray} (hS : S.length = k) (hj : j ≤ k) (hkc : k ≤ cc) (hA : (if cc = j then aa else Option.map (fun x => x.add j) aa) = A3) (h : (aa = none ∧ k = 0 ∧ cc = 0) ∨ ∃ g, aa = some ⟨g, 0, none⟩ ∧ B ≤ g ∧ g < wr.heap.size ∧ ∀ j y, S[j]? = some y → wr.cell? ⟨g, j, none⟩ = some (.string y)) :
    ∀ W : World, (∀ b o, b < wr.heap.size → W.cell? ⟨b, o, none⟩ = wr.cell? ⟨b, o, none⟩) → Src W 1 (.slice A3 (k - j) (cc - j)) (k - j) (strs (S.drop j)) := by
  intro W hW
  rcases h with ⟨rfl, rfl, rfl⟩ | ⟨g, rfl, hg1, hg2, hg3⟩
  · obtain rfl : j = 0 := by omega
    simp at hA
    subst hA
    exact .inl ⟨rfl, rfl, by have : S = [] := List.eq_nil_of_length_eq_zero hS; simp [strs, this]⟩
  · by_cases hc : cc = j
    · rw [if_pos hc] at hA
      subst hA
      refine .inr ⟨_, _, rfl, by simp [strs]; omega, fun i u hu => ?_⟩
      have := (List.getElem?_eq_some_iff.1 hu).1
      simp [strs] at this; omega
    · rw [if_neg hc] at hA
      subst hA
      refine .inr ⟨_, _, rfl, by simp [strs]; omega, fun i u hu => ?_⟩
      show W.cell? (((⟨g, 0, none⟩ : Addr).add j).add i) = some u
      rw [Addr.add_lit, Addr.add_lit, Nat.zero_add, hW _ _ hg2]
      simp only [strs, List.getElem?_map, List.getElem?_drop, Option.map_eq_some_iff] at hu
      obtain ⟨y, hy, rfl⟩ := hu
      exact hg3 _ y hy

set_option maxRecDepth 100000 in
set_option maxHeartbeats 2000000 in
/-- 'certpathref01.Order'. -/
theorem rorder_any (n : Nat) (a : Option Addr) (c : Nat) (xs : List ByteArray) (w : World) (hrow : StrRow w a xs) (hn : n = xs.length) (hl : xs.length ≤ 1000) (ht : tot xs ≤ 10000000) :
    Calls Try.prog 23 #[.slice a n c] w fun e w' => e = .returned (.string ⟨(cat (srtB xs)).toArray⟩) ∧ Below w.heap.size w w' := by
  obtain ⟨i0, hi, hi0, hi1, hi2⟩ := info_parts info9
  have HR := Lib.hid hrow
  have HN := Lib.hid hn
  have HT := Lib.hid ht
  have hl' : n ≤ 1000 := by omega
  clear hrow hn ht hl
  go_enter Try.func23, Try.ntmps23
  go_wp2_with fail
  go_loopw [3, 12] (fun v i wr => ∃ k : Nat, k ≤ n ∧ i = .int .i64 k ∧ Hid (wr.ownsRow w.heap.size 9 1 v k (strs (srtB (xs.take k)))) ∧ Hid (Below w.heap.size w wr)) (fun _ i _ => n - (intOf i).toNat)
  case atStart => exact ⟨0, Nat.zero_le _, rfl, Lib.hid (World.ownsRow_nil _ _ _ _), Lib.hid (Below.refl _ _)⟩
  case round =>
    obtain ⟨k, hk, rfl, HO, HB⟩ := hrel
    by_cases hlt : k < n
    · have hlen : k < xs.length := by rw [← HN.out]; exact hlt
      obtain ⟨x, hx⟩ : ∃ x, xs[k]? = some x := ⟨xs[k], by simp [hlen]⟩
      obtain ⟨bk, o, rfl, hbk, hcs⟩ : ∃ bk o, a = some ⟨bk, o, none⟩ ∧ bk < w.heap.size ∧ ∀ j x, xs[j]? = some x → w.cell? ⟨bk, o + j, none⟩ = some (.string x) := by
        rcases HR.out with h | h
        · rw [h] at hlen; simp at hlen
        · exact h
      have hck : wr.cell? ⟨bk, o + k, none⟩ = some (.string x) := by rw [(bcell HB.out).1 _ _ hbk]; exact hcs k x hx
      have HX := Lib.hid hx
      have hSL : (srtB (xs.take k)).length = k := by rw [srtB_length, List.length_take]; omega
      obtain ⟨S, hS⟩ : ∃ S, srtB (xs.take k) = S := ⟨_, rfl⟩
      rw [hS] at HO hSL
      have HS := Lib.hid hS
      have HSL := Lib.hid hSL
      clear hx hcs hlen hS hSL
      obtain ⟨aa, cc, rfl, hkc, hSRC⟩ : ∃ aa cc, u3 = .slice aa k cc ∧ k ≤ cc ∧ Hid ((aa = none ∧ k = 0 ∧ cc = 0) ∨ ∃ g, aa = some ⟨g, 0, none⟩ ∧ w.heap.size ≤ g ∧ g < wr.heap.size ∧ ∀ j y, S[j]? = some y → wr.cell? ⟨g, j, none⟩ = some (.string y)) := by
        rcases srow_shape HO.out with ⟨rfl, rfl⟩ | ⟨g, c', rfl, h1, h2, h3, h4, h5⟩
        · exact ⟨none, 0, rfl, Nat.le_refl _, Lib.hid (.inl ⟨rfl, rfl, rfl⟩)⟩
        · exact ⟨_, _, rfl, h3, Lib.hid (.inr ⟨g, rfl, h1, h2, fun j y hj => h5 j _ (by simp [strs, hj])⟩)⟩
      go_upto_block 2 with fail
      go_cut [6] (fun v6 wx => ∃ j : Nat, j ≤ k ∧ v6 = .int .i64 j ∧ Hid (insB x S = S.take j ++ [x] ++ S.drop j) ∧ wx = wr)
      case first =>
        go_wp2_with fail
        go_loop [6] (fun i => ∃ j : Nat, j ≤ k ∧ i = .int .i64 j ∧ Hid (∀ q y, q < j → S[q]? = some y → leqB y x = true)) (fun i => k - (intOf i).toNat)
        case atStart => exact ⟨0, Nat.zero_le _, rfl, Lib.hid (by intro q y h; omega)⟩
        case round =>
          obtain ⟨j, hj, rfl, HJ⟩ := hrel
          by_cases hjk : j < k
          · obtain ⟨y, hy⟩ : ∃ y, S[j]? = some y := ⟨S[j]'(by rw [HSL.out]; exact hjk), by simp [HSL.out, hjk]⟩
            obtain ⟨g, rfl, hg1, hg2, hg3⟩ : ∃ g, aa = some ⟨g, 0, none⟩ ∧ w.heap.size ≤ g ∧ g < wr.heap.size ∧ ∀ j y, S[j]? = some y → wr.cell? ⟨g, j, none⟩ = some (.string y) := by
              rcases hSRC.out with h | h
              · omega
              · exact h
            have hcy := hg3 j y hy
            have HY := Lib.hid hy
            clear hg3 hy
            cases hle : leqB y x with
            | true =>
              have hle1 : (Op.bytesLess y.toList x.toList || y.toList == x.toList) = true := hle
              have HLE := Lib.hid hle
              clear hle
              go_wp2_with fail
              go_round
              case rel => exact ⟨j + 1, by omega, by go_num, Lib.hid (by
                intro q z hq hz
                by_cases hqj : q = j
                · subst hqj
                  rw [HY.out] at hz
                  cases hz
                  exact HLE.out
                · exact HJ.out q z (by omega) hz)⟩
              case measure => simp [intOf]; omega
            | false =>
              have hle1 : (Op.bytesLess y.toList x.toList || y.toList == x.toList) = false := hle
              have HI := Lib.hid (insB_at (x := x) (l := S) (k := j) (by rw [HSL.out]; omega) HJ.out (by intro z hz; rw [HY.out] at hz; cases hz; exact hle))
              clear hle
              go_wp2_with fail
              go_meet
              exact ⟨j, hj, rfl, HI, rfl⟩
          · obtain rfl : j = k := by omega
            have HI := Lib.hid (insB_at (x := x) (l := S) (k := j) (by rw [HSL.out]; omega) HJ.out (by intro z hz; have := (List.getElem?_eq_some_iff.1 hz).1; rw [HSL.out] at this; omega))
            go_wp2_with fail
            go_meet
            exact ⟨j, hj, rfl, HI, rfl⟩
      case rest =>
        obtain ⟨j, hj, rfl, HI, rfl⟩ := hcut
        go_wp2_with fail
        have hjc : j ≤ cc := by omega
        obtain ⟨A3, hA3⟩ : ∃ A3, (if cc = j then aa else Option.map (fun x => x.add j) aa) = A3 := ⟨_, rfl⟩
        have SRC1 : Hid (∀ W : World, (∀ b o, b < wc.heap.size → W.cell? ⟨b, o, none⟩ = wc.cell? ⟨b, o, none⟩) → Src W 1 (.slice aa j cc) j (strs (S.take j))) := Lib.hid (src_take HSL.out hj hSRC.out)
        have SRC3 : Hid (∀ W : World, (∀ b o, b < wc.heap.size → W.cell? ⟨b, o, none⟩ = wc.cell? ⟨b, o, none⟩) → Src W 1 (.slice A3 (k - j) (cc - j)) (k - j) (strs (S.drop j))) := Lib.hid (src_drop HSL.out hj hkc hA3 hSRC.out)
        have BW : Hid (Below wc.heap.size wc wc.drew) := Lib.hid (Below.refl _ _).drew
        go_region_law (first
          | (refine step_appB rfl (.const (.slice none 0 0)) (.tmp 32) 22 rfl wc.heap.size 9 i0 (.string ⟨#[]⟩) 1 16 Try.underlying22 hi hi0 hi1 hi2 rfl (by omega) (.slice none 0 0) 0 [] (by simp [Act.eval]) (World.ownsRow_nil _ _ _ _) (.slice aa j cc) j (strs (S.take j)) (by simp [Act.eval, Act.put]) (SRC1.out _ (by intro b o hb; go_simp)) (strs_one _) (by unfold maxLen; omega) (by omega) (Nat.le_refl _) (by first | exact BW.out | exact BW.out.alloc (Nat.le_refl _) _) ?_; intro v1 w1 o1 g1 b1)
          | (refine step_appB rfl (.tmp 33) (.tmp 35) 22 rfl wc.heap.size 9 i0 (.string ⟨#[]⟩) 1 16 Try.underlying22 hi hi0 hi1 hi2 rfl (by omega) v1 (0 + j) ([] ++ strs (S.take j)) (by simp [Act.eval, Act.put]) (o1.out.alloc _) (.slice (some ⟨w1.heap.size, 0, none⟩) 1 1) 1 [.string x] (by simp [Act.eval, Act.put]) (.inr ⟨_, _, rfl, rfl, cell_one_new _ _ _⟩) (by intro u hu; rw [List.mem_singleton.1 hu]; rfl) (by unfold maxLen; omega) (by omega) (Nat.le_refl _) (b1.out.alloc b1.out.size _) ?_; intro v2 w2 o2 g2 b2)
          | (refine step_appB rfl (.tmp 33) (.tmp 35) 22 rfl wc.heap.size 9 i0 (.string ⟨#[]⟩) 1 16 Try.underlying22 hi hi0 hi1 hi2 rfl (by omega) v1 (0 + j) ([] ++ strs (S.take j)) (by simp [Act.eval, Act.put]) o1.out (.slice (some ⟨wc.heap.size, 0, none⟩) 1 1) 1 [.string x] (by simp [Act.eval, Act.put]) (.inr ⟨_, _, rfl, rfl, new_far wc.drew g1.out⟩) (by intro u hu; rw [List.mem_singleton.1 hu]; rfl) (by unfold maxLen; omega) (by omega) (Nat.le_refl _) b1.out ?_; intro v2 w2 o2 g2 b2)
          | (refine step_appB rfl (.tmp 36) (.tmp 39) 22 rfl wc.heap.size 9 i0 (.string ⟨#[]⟩) 1 16 Try.underlying22 hi hi0 hi1 hi2 rfl (by omega) v2 (0 + j + 1) (([] ++ strs (S.take j)) ++ [.string x]) (by simp [Act.eval, Act.put]) o2.out (.slice A3 (k - j) (cc - j)) (k - j) (strs (S.drop j)) (by simp [Act.eval, Act.put]) (SRC3.out _ fun b o hb => b2.out.cell hb) (strs_one _) (by unfold maxLen; omega) (by omega) (Nat.le_refl _) b2.out ?_; intro v3 w3 o3 g3 b3))
        all_goals
          go_wp2_with fail
          go_roundw
          case rel => exact ⟨k + 1, by omega, by go_num, Lib.hid (by
            rw [srtB_snoc xs k x HX.out, HS.out, HI.out]
            have := row_mono o3.out HB.out.size
            rw [show 0 + j + 1 + (k - j) = k + 1 by omega] at this
            simpa [strs] using this), Lib.hid (HB.out.trans (b3.out.mono HB.out.size))⟩
          case measure => simp [intOf]; omega
    · obtain rfl : k = n := by omega
      have hS : srtB (xs.take k) = srtB xs := by rw [HN.out, List.take_length]
      rw [hS] at HO
      have hSL : (srtB xs).length = k := by rw [srtB_length]; exact HN.out.symm
      have hST : tot (srtB xs) = tot xs := perm_tot (srtB_perm xs)
      have HST := Lib.hid hST
      obtain ⟨S, hSS⟩ : ∃ S, srtB xs = S := ⟨_, rfl⟩
      rw [hSS] at HO hSL HST
      have HSL := Lib.hid hSL
      have HSS := Lib.hid hSS
      obtain ⟨aa, cc, rfl, hkc, hSRC⟩ : ∃ aa cc, u3 = .slice aa k cc ∧ k ≤ cc ∧ Hid ((aa = none ∧ k = 0 ∧ cc = 0) ∨ ∃ g, aa = some ⟨g, 0, none⟩ ∧ w.heap.size ≤ g ∧ g < wr.heap.size ∧ ∀ j y, S[j]? = some y → wr.cell? ⟨g, j, none⟩ = some (.string y)) := by
        rcases srow_shape HO.out with ⟨rfl, rfl⟩ | ⟨g, c', rfl, h1, h2, h3, h4, h5⟩
        · exact ⟨none, 0, rfl, Nat.le_refl _, Lib.hid (.inl ⟨rfl, rfl, rfl⟩)⟩
        · exact ⟨_, _, rfl, h3, Lib.hid (.inr ⟨g, rfl, h1, h2, fun j y hj => h5 j _ (by simp [strs, hj])⟩)⟩
      clear hS hSL hST hSS
      go_wp2_with fail
      go_loop [7, 44] (fun v i => ∃ (j : Nat) (y : ByteArray), j ≤ k ∧ i = .int .i64 j ∧ v = .string y ∧ y.size ≤ 10000000 ∧ Hid (y = ⟨(cat (S.take j)).toArray⟩)) (fun _ i => k - (intOf i).toNat)
      case atStart => exact ⟨0, ⟨#[]⟩, Nat.zero_le _, rfl, rfl, Nat.zero_le _, Lib.hid (by simp [cat])⟩
      case round =>
        obtain ⟨j, y, hj, rfl, rfl, hy1, HYY⟩ := hrel
        by_cases hjk : j < k
        · obtain ⟨x, hy⟩ : ∃ y, S[j]? = some y := ⟨S[j]'(by rw [HSL.out]; exact hjk), by simp [HSL.out, hjk]⟩
          obtain ⟨g, rfl, hg1, hg2, hg3⟩ : ∃ g, aa = some ⟨g, 0, none⟩ ∧ w.heap.size ≤ g ∧ g < wr.heap.size ∧ ∀ j y, S[j]? = some y → wr.cell? ⟨g, j, none⟩ = some (.string y) := by
            rcases hSRC.out with h | h
            · omega
            · exact h
          have hcy := hg3 j x hy
          have hsz : y.size + x.size ≤ 10000000 := by
            have h1 := tot_snoc S j x hy
            have h2 := tot_take S (j + 1)
            have h3 := HST.out
            have h4 := HT.out
            have h5 : y.size = tot (S.take j) := by rw [HYY.out]; simp [← cat_length, ByteArray.size]
            omega
          have HY := Lib.hid hy
          clear hg3 hy
          go_wp2_with fail
          go_round
          case rel => exact ⟨j + 1, y ++ x, by omega, by go_num, rfl, by rw [ByteArray.size_append]; exact hsz, Lib.hid (by
            rw [cat_snoc S j x HY.out, HYY.out]
            exact ByteArray.ext (by simp))⟩
          case measure => simp [intOf]; omega
        · obtain rfl : j = k := by omega
          have hres : y = ⟨(cat (srtB xs)).toArray⟩ := by
            rw [HYY.out, HSS.out]
            have := HSL.out
            rw [← this, List.take_length]
          have HRES := Lib.hid hres
          clear hres
          go_wp2_with fail
          go_ret
          exact ⟨by rw [← HRES.out]; rfl, HB.out⟩
end Go.Proofs.Ytpcdbgfhlghocaa
