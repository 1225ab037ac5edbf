/- The law of the records that Scan returns, walked. -/
import Derived.Test.YtlaodmpdngdhjaaVu
namespace Go.Proofs.Ytlaodmpdngdhjaa
set_option linter.unusedVariables false
set_option linter.unusedSimpArgs false
open Go.RowKit

theorem info3 : (Try.prog.info? 3).map (fun i => (i.zero, i.size, i.bytes)) = some (some (.int .i64 0), 1, 8) := by kernel_rfl
def ends (L : List ByteArray) (k : Nat) : List Value := (List.range k).map fun j => Value.int .i64 (el L (j + 1))
theorem ends_len (L : List ByteArray) (k : Nat) : (ends L k).length = k := by simp [ends]
theorem ends_one (L : List ByteArray) (k : Nat) : ∀ u ∈ ends L k, u.oneCell' = true := by
  intro u hu
  obtain ⟨x, _, rfl⟩ := List.mem_map.1 hu
  rfl
theorem ends_step (L : List ByteArray) (k : Nat) : ends L k ++ [Value.int .i64 (el L (k + 1))] = ends L (k + 1) := by
  unfold ends
  rw [List.range_succ, List.map_append]
  rfl
theorem ends_get (L : List ByteArray) {k j : Nat} (h : j < k) : (ends L k)[j]? = some (Value.int .i64 (el L (j + 1))) := by
  simp [ends, h]
theorem el_mono (L : List ByteArray) (h : Short L) (k : Nat) : el L k ≤ 4160 := by
  rw [← jb_len]
  exact jb_size L h k
/-- An own row of numbers, to be read. -/
theorem erow_get {w : World} {base n : Nat} {v : Value} {L : List ByteArray} (h : w.ownsRow base 3 1 v n (ends L n)) (h0 : 0 < n) :
    ∃ g c, v = .slice (some ⟨g, 0, none⟩) n c ∧ base ≤ g ∧ g < w.heap.size ∧ ∀ j, j < n → w.cell? ⟨g, j, none⟩ = some (.int .i64 (el L (j + 1))) := by
  obtain ⟨hlen, hh⟩ := h
  rcases hh with ⟨_, h⟩ | ⟨g, cap, cur, rfl, hg, hblk, hn, hcap, hsz, htk⟩
  · omega
  · refine ⟨g, cap, rfl, hg, heap_lt hblk, fun j hj => ?_⟩
    rw [(row_cells hblk).1 j]
    have h1 := ends_get L hj
    rw [← htk, Nat.mul_one] at h1
    have h2 : (cur.toList.take n)[j]? = cur.toList[j]? := by rw [List.getElem?_take_of_lt hj]
    rw [h2] at h1
    simpa using h1
theorem RowS.take {w : World} {a : Option Addr} {n c : Nat} {L : List ByteArray} (h : RowS w (.slice a n c) L) (k : Nat) (hk : k ≤ n) : RowS w (.slice a k c) (L.take k) := by
  rcases h with ⟨rfl, a', c', h1⟩ | ⟨g, o, c', h1, h2, h3⟩
  · cases h1
    obtain rfl : k = 0 := by omega
    exact .inl ⟨rfl, _, _, rfl⟩
  · cases h1
    refine .inr ⟨g, o, c, by rw [List.length_take, Nat.min_eq_left hk], h2, fun j x hj => ?_⟩
    by_cases hjk : j < k
    · rw [List.getElem?_take_of_lt hjk] at hj
      exact h3 j x hj
    · rw [List.getElem?_eq_none (by rw [List.length_take]; omega)] at hj
      cases hj
set_option maxRecDepth 100000 in
set_option maxHeartbeats 8000000 in
theorem records_law (a : Option Addr) (n0 c : Nat) (L : List ByteArray) (cut : Int) (w : World) (h : RowS w (.slice a n0 c) L) (hl : L.length ≤ 140737488355328) (hs : ∀ x ∈ L, x.size ≤ maxLen) (hcut : fits64 cut) (hcap : L.length ≤ c) :
    Calls Try.prog 15 #[.slice a n0 c, .int .i64 cut] w fun e w' => e = .returned (.bool true) ∧ Below w.heap.size w w' := by
  have HW := Lib.hid fun W => wake_any W
  have HS := Lib.hid (shorts_any _ L w h hl hs)
  obtain ⟨a', c', hsh⟩ := h.shape
  cases hsh
  by_cases hsl : Short L
  · rw [decide_eq_true hsl] at HS
    obtain ⟨n, hn⟩ : ∃ n, L.length = n := ⟨_, rfl⟩
    have hl20 : n ≤ 20 := by rw [← hn]; exact hsl.2
    have HN := Lib.hid hn
    have HSS := Lib.hid hsl
    have H1 := Lib.hid h
    rw [hn] at HS H1 ⊢
    have hsz := el_mono L hsl
    obtain ⟨i3, h3, h30, h31, h32⟩ := info_parts info3
    have HC := Lib.hid hcut
    have HZ := Lib.hid hsz
    clear hn hsl h hl hs hcut hsz
    go_enter Try.func15, Try.ntmps15
    go_wp2_with fail
    refine HS.out.mono ?_
    rintro e w1 ⟨rfl, hb1⟩
    have HB1 := Lib.hid hb1
    clear hb1
    go_wp2_with fail
    go_loopw [7, 5, 6] (fun i s v wr => ∃ k : Nat, k ≤ n ∧ i = .int .i64 k ∧ s = .string (jb (L.take k)) ∧ Hid (wr.ownsRow w.heap.size 3 1 v k (ends L k)) ∧ Hid (Below w.heap.size w wr)) (fun i _ _ _ => n - (intOf i).toNat)
    case atStart => exact ⟨0, Nat.zero_le _, rfl, rfl, Lib.hid (World.ownsRow_nil _ _ _ _), HB1⟩
    case round =>
      obtain ⟨k, hk, rfl, rfl, HO, HB⟩ := hrel
      by_cases hlt : k < n
      · obtain ⟨x, hx⟩ : ∃ x, L[k]? = some x := ⟨L[k]'(by rw [HN.out]; exact hlt), by simp [HN.out, hlt]⟩
        obtain ⟨g1, o1, rfl, hg1, e0⟩ := H1.out.get hx
        have e1 : wr.cell? ⟨g1, o1 + k, none⟩ = some (.string x) := by rw [HB.out.cell (p := ⟨g1, o1 + k, none⟩) hg1]; exact e0
        have hx2 : x.size ≤ 200 := HSS.out.1 x (List.mem_of_getElem? hx)
        have HST := Lib.hid (jb_step L k x hx)
        have HF := Lib.hid (Frame_any k x wr (by constructor <;> omega) (by omega))
        rw [FrameIs_ok k x (by omega)] at HF
        obtain ⟨f, hf⟩ : ∃ f, frm k x = f := ⟨_, rfl⟩
        have hfs : f.size = x.size + 8 := by rw [← hf, frm_size]
        rw [hf] at HST HF
        obtain ⟨s, hs0⟩ : ∃ s, jb (L.take k) = s := ⟨_, rfl⟩
        obtain ⟨s2, hs2⟩ : ∃ s, jb (L.take (k + 1)) = s := ⟨_, rfl⟩
        have HS2 := Lib.hid hs2
        have hsum : s ++ f = s2 := by rw [← hs0, ← hs2]; exact HST.out
        have hss : s.size ≤ 4160 := by rw [← hs0, jb_len]; exact HZ.out k
        have hss2 : s2.size ≤ 4160 := by rw [← hs2, jb_len]; exact HZ.out (k + 1)
        have HE : Hid (s2.size = el L (k + 1)) := Lib.hid (by rw [← hs2, jb_len])
        rw [hs0]
        obtain ⟨a6, c6, hv6⟩ := own_slice HO.out
        subst hv6
        have hlen : ((f.size : Int) != (x.size : Int) + 8) = false := by rw [bne_eq_false_iff_eq]; omega
        clear hx e0 hf hs0 hs2
        go_wp2_with fail
        refine HF.out.mono ?_
        rintro e w2 ⟨rfl, hb2⟩
        have e2 : w2.cell? ⟨g1, o1 + k, none⟩ = some (.string x) := by rw [hb2.cell (p := ⟨g1, o1 + k, none⟩) (Nat.lt_of_lt_of_le hg1 HB.out.size)]; exact e1
        have HB2 := Lib.hid hb2
        clear hb2
        have SX : Hid (Src (w2.alloc (.cells #[.int .i64 s2.size] 3)) 1 (.slice (some ⟨w2.heap.size, 0, none⟩) 1 1) 1 [Value.int .i64 s2.size]) := Lib.hid (.inr ⟨_, _, rfl, rfl, cells_new' w2 [.int .i64 s2.size] 3⟩)
        have HO2 : Hid (w2.ownsRow w.heap.size 3 1 (.slice a6 k c6) k (ends L k)) := Lib.hid (row_kept HO.out fun g e => HB2.out.block g (HO.out.lt g e).2)
        have hwb : w.heap.size ≤ w2.heap.size := Nat.le_trans HB.out.size HB2.out.size
        go_wp2_with (at_builtin; go_loud (refine wpList_app rfl (.tmp 51) (.tmp 54) 73 rfl w.heap.size 3 i3 (.int .i64 0) 1 8 Try.underlying73 h3 h30 h31 h32 rfl (by omega) (.slice a6 k c6) k (ends L k) rfl (HO2.out.alloc _) (.slice (some ⟨w2.heap.size, 0, none⟩) 1 1) 1 [Value.int .i64 s2.size] rfl SX.out (by intro u hu; rcases List.mem_cons.1 hu with rfl | hu; rfl; cases hu) (by unfold maxLen; omega) (by omega) (by simp; omega) ?_; intro v7 w7 o7 g7 q7))
        go_roundw
        case rel =>
          refine ⟨k + 1, by omega, by go_num, by rw [HS2.out], Lib.hid ?_, Lib.hid (((HB.out.trans (HB2.out.mono HB.out.size)).alloc hwb _).grown g7.out (by simp; omega) (fun k hk => (HO2.out.lt k hk).1))⟩
          have h7 := o7.out
          rw [HE.out, ends_step] at h7
          exact h7
        case measure => simp [intOf]; omega
      · obtain rfl : k = n := by omega
        have HTK : Hid (L.take k = L) := Lib.hid (by rw [← HN.out, List.take_length])
        rw [HTK.out]
        obtain ⟨a6, c6, hv6⟩ := own_slice HO.out
        subst hv6
        obtain ⟨s, hs0⟩ : ∃ s, jb L = s := ⟨_, rfl⟩
        have hss : s.size ≤ 4160 := by rw [← hs0, ← HTK.out]; exact (jb_len L k) ▸ HZ.out k
        have HSA : Hid (s.size = el L k) := Lib.hid (by rw [← hs0, jb_all, HN.out])
        have HS0 := Lib.hid hs0
        rw [hs0]
        clear hs0
        obtain ⟨z, hz⟩ : ∃ z, s.size + 1 = z := ⟨_, rfl⟩
        have ez : (s.size : Int) + 1 = (z : Int) := by omega
        have wz : IntKind.i64.wrap (z : Int) = (z : Int) := IntWalk.i64_in _ (by omega)
        have HM := Lib.hid fun W => small_any cut z W HC.out.1 (by have := HC.out.2; omega) (by omega) (by omega)
        obtain ⟨q, hq⟩ : ∃ q : Nat, cut % (z : Int) = (q : Int) := ⟨(cut % (z : Int)).toNat, by have := Int.emod_nonneg cut (show (z : Int) ≠ 0 by omega); omega⟩
        have hqz : q < z := by have := Int.emod_lt_of_pos cut (show (0 : Int) < z by omega); omega
        have hqs : q ≤ s.size := by omega
        have hqI : (q : Int) ≤ (s.size : Int) := by omega
        have hq0 : (0 : Int) ≤ (q : Int) := by omega
        rw [hq] at HM
        clear hq hz
        obtain ⟨wq, hwq⟩ : ∃ wq, wr = wq := ⟨_, rfl⟩
        rw [hwq] at HO HB ⊢
        clear hwq
        go_wp2_with fail
        refine (HM.out _).mono ?_
        rintro e w3 ⟨rfl, rfl⟩
        go_wp2_with fail
        go_loopw [11] (fun i wr => ∃ j d : Nat, j ≤ k ∧ i = .int .i64 j ∧ wr = w3.drewN d ∧ Hid (el L j ≤ q)) (fun i _ => k - (intOf i).toNat)
        case atStart => exact ⟨0, 0, Nat.zero_le _, rfl, rfl, Lib.hid (Nat.zero_le _)⟩
        case round =>
          obtain ⟨j, d, hj, rfl, rfl, HEL⟩ := hrel
          by_cases hgo : j < k ∧ el L (j + 1) ≤ q
          · obtain ⟨hj2, hle⟩ := hgo
            obtain ⟨g2, c2, hv2, hg2a, hg2b, hce⟩ := erow_get HO.out (by omega)
            obtain ⟨rfl, -, rfl⟩ := Value.slice.inj hv2
            have ce := hce j hj2
            have hleI : (el L (j + 1) : Int) ≤ (q : Int) := by omega
            have hj2I : (j : Int) < (k : Int) := by omega
            have HLE := Lib.hid hle
            clear hce hle hv2
            go_wp2_with fail
            go_roundw
            case rel => exact ⟨j + 1, d, by omega, by go_num, rfl, HLE⟩
            case measure => simp [intOf]; omega
          · have hcase : (j < k ∧ q < el L (j + 1)) ∨ j = k := by
              by_cases h : j < k
              · exact .inl ⟨h, by
                  have : ¬ el L (j + 1) ≤ q := fun h2 => hgo ⟨h, h2⟩
                  omega⟩
              · exact .inr (by omega)
            have HSP := scan_part L HSS.out q j (by rw [HS0.out]; exact hqs) (by rw [HN.out]; exact hj) HEL.out (fun h => by
              rw [HN.out] at h
              rcases hcase with h2 | h2
              · exact h2.2
              · omega)
            rw [HS0.out] at HSP
            obtain ⟨sq, hsq⟩ : ∃ sq, s.extract 0 q = sq := ⟨_, rfl⟩
            have hsqs : sq.size ≤ 4160 := by rw [← hsq]; simp; omega
            rw [hsq] at HSP
            have HSC := Lib.hid fun W => scan_any sq W (by omega)
            unfold ScanOut at HSC
            rw [HSP] at HSC
            dsimp only at HSC
            have HTL : Hid ((L.take j).length ≤ 1000000) := Lib.hid (by rw [List.length_take, HN.out]; omega)
            have hcI : (j : Int) ≤ (c : Int) := by have := HN.out; omega
            have hjI0 : (0 : Int) ≤ (j : Int) := by omega
            have hcut1 : (j < k ∧ ¬ (el L (j + 1) : Int) ≤ (q : Int)) ∨ j = k := hcase.imp (fun h => ⟨h.1, by omega⟩) id
            clear HSP hgo hcase
            rcases hcut1 with ⟨hj2, hnle⟩ | rfl
            · obtain ⟨g2, c2, hv2, hg2a, hg2b, hce⟩ := erow_get HO.out (by omega)
              obtain ⟨rfl, -, rfl⟩ := Value.slice.inj hv2
              have ce := hce j hj2
              have hj2I : (j : Int) < (k : Int) := by omega
              have HCE := Lib.hid hce
              clear hce hv2
              go_wp2_with fail
              refine (HSC.out _).mono ?_
              rintro e w5 ⟨v, rfl, ho5, hb5⟩
              have R5 := Lib.hid (RowS.of_own ho5 rfl)
              have HB6 : Hid (Below w.heap.size w w5) := Lib.hid ((below_drewN HB.out d).trans (hb5.mono HB.out.size))
              have R6 : Hid (RowS w5 (.slice a j c) (L.take j)) := Lib.hid ((H1.out.take j (by omega)).below HB6.out)
              have HSM := Lib.hid (same_any v _ _ _ w5 R5.out R6.out HTL.out HTL.out)
              rw [decide_eq_true (rfl : L.take j = L.take j)] at HSM
              have HB5 := Lib.hid hb5
              clear hb5 ho5
              by_cases hj0 : j = 0
              · subst hj0
                have hel0 : el L 0 = 0 := rfl
                go_wp2_with fail
                refine HSM.out.mono ?_
                rintro e w6 ⟨rfl, hb6⟩
                have HB7 := Lib.hid (HB6.out.trans (hb6.mono HB6.out.size))
                clear hb6
                go_wp2_with fail
                refine (HW.out _).mono ?_
                rintro e w8 ⟨rfl, hb8⟩
                have HB8 := Lib.hid (HB7.out.trans (hb8.mono HB7.out.size))
                clear hb8
                go_wp2_with fail
                go_ret
                exact ⟨rfl, HB8.out⟩
              · obtain ⟨i, rfl⟩ : ∃ i, j = i + 1 := ⟨j - 1, by omega⟩
                have ci : w5.cell? ⟨g2, i, none⟩ = some (.int .i64 (el L (i + 1))) := (HB5.out.cell (p := ⟨g2, i, none⟩) hg2b).trans (HCE.out i (by omega))
                have ei : ((i + 1 : Nat) : Int) - 1 = (i : Int) := by omega
                have ei2 : (0 : Int) < ((i + 1 : Nat) : Int) := by omega
                clear hj0
                go_wp2_with fail
                refine HSM.out.mono ?_
                rintro e w6 ⟨rfl, hb6⟩
                have HB7 := Lib.hid (HB6.out.trans (hb6.mono HB6.out.size))
                clear hb6
                go_wp2_with fail
                refine (HW.out _).mono ?_
                rintro e w8 ⟨rfl, hb8⟩
                have HB8 := Lib.hid (HB7.out.trans (hb8.mono HB7.out.size))
                clear hb8
                go_wp2_with fail
                go_ret
                exact ⟨rfl, HB8.out⟩
            · by_cases hk0 : j = 0
              · subst hk0
                go_wp2_with fail
                refine (HSC.out _).mono ?_
                rintro e w5 ⟨v, rfl, ho5, hb5⟩
                have R5 := Lib.hid (RowS.of_own ho5 rfl)
                have HB6 : Hid (Below w.heap.size w w5) := Lib.hid ((below_drewN HB.out d).trans (hb5.mono HB.out.size))
                have R6 : Hid (RowS w5 (.slice _ 0 c) (L.take 0)) := Lib.hid ((H1.out.take 0 (by omega)).below HB6.out)
                have HSM := Lib.hid (same_any v _ _ _ w5 R5.out R6.out HTL.out HTL.out)
                rw [decide_eq_true (rfl : L.take 0 = L.take 0)] at HSM
                have HB5 := Lib.hid hb5
                clear hb5 ho5
                have hel0 : el L 0 = 0 := rfl
                go_wp2_with fail
                refine HSM.out.mono ?_
                rintro e w6 ⟨rfl, hb6⟩
                have HB7 := Lib.hid (HB6.out.trans (hb6.mono HB6.out.size))
                clear hb6
                go_wp2_with fail
                refine (HW.out _).mono ?_
                rintro e w8 ⟨rfl, hb8⟩
                have HB8 := Lib.hid (HB7.out.trans (hb8.mono HB7.out.size))
                clear hb8
                go_wp2_with fail
                go_ret
                exact ⟨rfl, HB8.out⟩
              · obtain ⟨g2, c2, hv2, hg2a, hg2b, hce⟩ := erow_get HO.out (by omega)
                obtain ⟨rfl, -, rfl⟩ := Value.slice.inj hv2
                have HCE := Lib.hid hce
                clear hce hv2
                go_wp2_with fail
                refine (HSC.out _).mono ?_
                rintro e w5 ⟨v, rfl, ho5, hb5⟩
                have R5 := Lib.hid (RowS.of_own ho5 rfl)
                have HB6 : Hid (Below w.heap.size w w5) := Lib.hid ((below_drewN HB.out d).trans (hb5.mono HB.out.size))
                have R6 : Hid (RowS w5 (.slice _ j c) (L.take j)) := Lib.hid ((H1.out.take j (by omega)).below HB6.out)
                have HSM := Lib.hid (same_any v _ _ _ w5 R5.out R6.out HTL.out HTL.out)
                rw [decide_eq_true (rfl : L.take j = L.take j)] at HSM
                have HB5 := Lib.hid hb5
                clear hb5 ho5
                obtain ⟨i, rfl⟩ : ∃ i, j = i + 1 := ⟨j - 1, by omega⟩
                have ci : w5.cell? ⟨g2, i, none⟩ = some (.int .i64 (el L (i + 1))) := (HB5.out.cell (p := ⟨g2, i, none⟩) hg2b).trans (HCE.out i (by omega))
                have ei : ((i + 1 : Nat) : Int) - 1 = (i : Int) := by omega
                have ei2 : (0 : Int) < ((i + 1 : Nat) : Int) := by omega
                clear hk0
                go_wp2_with fail
                refine HSM.out.mono ?_
                rintro e w6 ⟨rfl, hb6⟩
                have HB7 := Lib.hid (HB6.out.trans (hb6.mono HB6.out.size))
                clear hb6
                go_wp2_with fail
                refine (HW.out _).mono ?_
                rintro e w8 ⟨rfl, hb8⟩
                have HB8 := Lib.hid (HB7.out.trans (hb8.mono HB7.out.size))
                clear hb8
                go_wp2_with fail
                go_ret
                exact ⟨rfl, HB8.out⟩
  · rw [decide_eq_false hsl] at HS
    clear hsl h hl hs
    go_enter Try.func15, Try.ntmps15
    go_wp2_with fail
    refine HS.out.mono ?_
    rintro e w1 ⟨rfl, hb1⟩
    have HB1 := Lib.hid hb1
    clear hb1
    go_wp2_with fail
    refine (HW.out _).mono ?_
    rintro e w2 ⟨rfl, hb2⟩
    have HB2 := Lib.hid hb2
    clear hb2
    go_wp2_with fail
    go_ret
    exact ⟨rfl, HB1.out.trans (HB2.out.mono HB1.out.size)⟩
end Go.Proofs.Ytlaodmpdngdhjaa
