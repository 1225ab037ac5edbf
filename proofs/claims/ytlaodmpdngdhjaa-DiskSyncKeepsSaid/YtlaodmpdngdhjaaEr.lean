/- The law DiskSyncKeeps, walked. -/
import Derived.Test.YtlaodmpdngdhjaaEq
namespace Go.Proofs.Ytlaodmpdngdhjaa
set_option linter.unusedVariables false
set_option linter.unusedSimpArgs false
open Go.RowKit

set_option maxRecDepth 100000 in
set_option maxHeartbeats 8000000 in
theorem keeps_law (a : Option Addr) (cap : Nat) (l : List Cl) (a2 : Option Addr) (cap2 : Nat) (m : List Cl) (w : World) (hrow : CallRow w a l) (hl : l.length ≤ 140737488355328) (hok : ∀ c ∈ l, c.ok)
    (hrow2 : CallRow w a2 m) (hl2 : m.length ≤ 140737488355328) (hok2 : ∀ c ∈ m, c.ok) :
    Calls Try.prog 7 #[.slice a l.length cap, .slice a2 m.length cap2] w fun e w' => e = .returned (.bool true) ∧ Below w.heap.size w w' := by
  have HA := Lib.hid fun W => awake_any W
  have HS := Lib.hid (short_any l a cap w hrow hl hok)
  have HS2 := Lib.hid (short_any m a2 cap2 w hrow2 hl2 hok2)
  have HR := Lib.hid hrow
  have HK := Lib.hid hok
  have HR2 := Lib.hid hrow2
  have HK2 := Lib.hid hok2
  cases hsh : shortB l with
  | false =>
    rw [hsh] at HS
    clear hrow hok hrow2 hok2
    go_enter Try.func7, Try.ntmps7
    go_wp2_with fail
    refine HS.out.mono ?_
    rintro e w1 ⟨rfl, hw⟩
    have hw' := hw.symm
    subst hw'
    go_wp2_with fail
    refine (HA.out _).mono ?_
    rintro e w1 ⟨rfl, hb1⟩
    have HB1 := Lib.hid hb1
    clear hb1
    go_wp2_with fail
    go_ret
    exact ⟨rfl, HB1.out⟩
  | true =>
    rw [hsh] at HS
    cases hsh2 : shortB m with
    | false =>
      rw [hsh2] at HS2
      clear hrow hok hrow2 hok2
      go_enter Try.func7, Try.ntmps7
      go_wp2_with fail
      refine HS.out.mono ?_
      rintro e w1 ⟨rfl, hw⟩
      have hw' := hw.symm
      subst hw'
      go_wp2_with fail
      refine HS2.out.mono ?_
      rintro e w1 ⟨rfl, hw2⟩
      have hw2' := hw2.symm
      subst hw2'
      go_wp2_with fail
      refine (HA.out _).mono ?_
      rintro e w1 ⟨rfl, hb1⟩
      have HB1 := Lib.hid hb1
      clear hb1
      go_wp2_with fail
      go_ret
      exact ⟨rfl, HB1.out⟩
    | true =>
      rw [hsh2] at HS2
      obtain ⟨hl40, hF⟩ := short_cases hsh
      obtain ⟨hm40, hF2⟩ := short_cases hsh2
      have HF := Lib.hid hF
      have HF2 := Lib.hid hF2
      have HN := Lib.hid (fresh_new 2000 w (by omega) (by omega))
      have HGN := Lib.hid (St.new_good 2000 (by decide))
      obtain ⟨len, hlen⟩ : ∃ len, l.length = len := ⟨_, rfl⟩
      have HLEN := Lib.hid hlen
      obtain ⟨len2, hlen2⟩ : ∃ len2, m.length = len2 := ⟨_, rfl⟩
      have HLEN2 := Lib.hid hlen2
      rw [hlen] at HS hl40 ⊢
      rw [hlen2] at HS2 hm40 ⊢
      clear hrow hok hsh hlen hl hF hrow2 hok2 hsh2 hlen2 hl2 hF2
      go_enter Try.func7, Try.ntmps7
      go_wp2_with fail
      refine HS.out.mono ?_
      rintro e w1 ⟨rfl, hw⟩
      have hw' := hw.symm
      subst hw'
      go_wp2_with fail
      refine HS2.out.mono ?_
      rintro e w1 ⟨rfl, hw2⟩
      have hw2' := hw2.symm
      subst hw2'
      go_wp2_with fail
      refine HN.out.mono ?_
      rintro e w1 ⟨rfl, F0, hlt⟩
      have A0 := Lib.hid (two_new 2000 w w1 F0.out (by omega) (by omega))
      go_wp2_with fail
      refine A0.out.mono ?_
      rintro e w2 ⟨rfl, F1⟩
      go_wp2_with fail
      go_loopw [7] (fun v7 wr => ∃ (k : Nat) (s : St), k ≤ len ∧ v7 = .int .i64 k ∧ Hid (TwoF w w.heap.size s w1.heap.size s wr) ∧ Hid (Good s (201 * k))) (fun v7 _ => len - (intOf v7).toNat)
      case atStart => exact ⟨0, _, Nat.zero_le _, rfl, F1, HGN⟩
      case round =>
        obtain ⟨k, s, hk, rfl, HFR, HGS⟩ := hrel
        by_cases hlt2 : k < len
        · obtain ⟨c, hc⟩ : ∃ c, l[k]? = some c := ⟨l[k]'(by rw [HLEN.out]; exact hlt2), by simp [HLEN.out, hlt2]⟩
          have hco := HK.out c (List.mem_of_getElem? hc)
          have hcf := HF.out c (List.mem_of_getElem? hc)
          obtain ⟨b, o, rfl, hb, c0, c1, c2, c3, c4, c5, c6, c7⟩ := (HR.out.below HFR.out.toBelow).get hc
          have A1 := Lib.hid (HFR.out.do_ HGS.out (by omega) c hco hcf.1 hcf.2)
          have HG' : Hid (Good (step c s).1 (201 * (k + 1))) := Lib.hid ((HGS.out.step c hco hcf.1).mono (by omega))
          obtain ⟨s', hs'⟩ : ∃ s', (step c s).1 = s' := ⟨_, rfl⟩
          rw [hs'] at A1 HG'
          clear hc hco hcf hs'
          go_wp2_with fail
          refine A1.out.mono ?_
          rintro e w3 ⟨rfl, F3⟩
          go_wp2_with fail
          go_roundw
          case rel => exact ⟨k + 1, s', by omega, by go_num, F3, HG'⟩
          case measure => simp [intOf]; omega
        · obtain rfl : k = len := by omega
          have A2 := Lib.hid (HFR.out.fuse (n := -1) HGS.out (by omega) ⟨by omega, by omega⟩)
          have HGT := Lib.hid (HGS.out.mono (W' := 8040) (by omega))
          obtain ⟨s2, hs2⟩ : ∃ s2, s.fuse (-1) = s2 := ⟨_, rfl⟩
          have hg2 : Good s2 8040 := by rw [← hs2]; exact HGT.out.fuse (-1) (by omega)
          have hcase : s2.off = true ∨ (s2.off = false ∧ s2.left = -1) := by
            rw [← hs2]
            unfold St.fuse
            cases ho : s.off with
            | true => left; rw [if_pos rfl]; exact ho
            | false => right; rw [if_neg (by decide)]; exact ⟨by show decide ((-1 : Int) = 0) = false; decide, by show max (-1 : Int) (-1) = -1; decide⟩
          have HG2 := Lib.hid hg2
          rw [hs2] at A2
          clear hs2 hg2
          go_wp2_with fail
          refine A2.out.mono ?_
          rintro e w3 ⟨rfl, F3⟩
          go_upto_if 41 with (go_at_call 32; refine (F3.out.sync HG2.out (by omega)).mono ?_; rintro e w4 ⟨rfl, F4⟩)
          go_cut [] (fun wx => ∃ s3 : St, s3.off = false ∧ s3.left = -1 ∧ s3.ops = [] ∧ Hid (Good s3 8040) ∧ Hid (TwoF w w.heap.size s3 w1.heap.size s wx))
          case first =>
            rcases hcase with ho | ⟨ho, hl⟩
            · have e1 : s2.sync = (s2, 25) := by unfold St.sync; rw [if_pos ho]
              rw [e1] at F4
              have q1 : s2.sync.2 = 25 := by rw [e1]
              have A5 := Lib.hid (F4.out.crash (k := 0) (b := 0) HG2.out (by omega) ⟨by omega, by omega⟩ ⟨by omega, by omega⟩)
              have HG5 := Lib.hid (HG2.out.crash 0 0)
              obtain ⟨s5, hs5⟩ : ∃ s5, s2.crash 0 0 = s5 := ⟨_, rfl⟩
              have e5 : s5.off = false ∧ s5.left = -1 := by rw [← hs5]; exact ⟨rfl, rfl⟩
              rw [hs5] at A5 HG5
              have e6 := sync_state e5.1 e5.2
              have HE6 := Lib.hid e6
              have HE5 := Lib.hid e5
              clear e1 hs5 e5 e6
              go_wp2_with fail
              refine A5.out.mono ?_
              rintro e w5 ⟨rfl, F5⟩
              have A6 := Lib.hid (F5.out.sync HG5.out (by omega))
              rw [HE6.out] at A6
              go_wp2_with fail
              refine A6.out.mono ?_
              rintro e w6 ⟨rfl, F6⟩
              go_wp2_with fail
              go_meet
              exact ⟨{ s5 with files := s5.all, ops := [] }, HE5.out.1, HE5.out.2, rfl, Lib.hid (done_nooff HG5.out), F6⟩
            · have e1 := sync_state ho hl
              have HE1 := Lib.hid e1
              have q1 : s2.sync.2 = 0 := by rw [e1]
              rw [e1] at F4
              have HO := Lib.hid ho
              have HL := Lib.hid hl
              clear e1 ho hl
              go_wp2_with fail
              go_meet
              exact ⟨{ s2 with files := s2.all, ops := [] }, HO.out, HL.out, rfl, Lib.hid (done_nooff HG2.out), F4⟩
          obtain ⟨s3, ho3, hl3, hp3, HG3, F5⟩ := hcut
          have A7 := Lib.hid (F5.out.contents HG3.out (by omega))
          have HO3 := Lib.hid ho3
          have HP3 := Lib.hid hp3
          clear ho3 hp3
          go_wp2_with fail
          refine A7.out.mono ?_
          rintro e w7 ⟨v8, rfl, hr8, hb8, hv8⟩
          have F7 : Hid (TwoP w v8 (conts s3) w.heap.size s3 w1.heap.size s w7) := Lib.hid (F5.out.toP hb8 hr8 hv8)
          obtain ⟨a8, c8, hsh8⟩ := hr8.shape
          obtain ⟨n8, hn8⟩ : ∃ n8, (conts s3).length = n8 := ⟨_, rfl⟩
          rw [hn8] at hsh8
          subst hsh8
          clear hr8 hb8 hv8 hn8
          go_wp2_with fail
          go_loopw [9] (fun v9 wr => ∃ (j : Nat) (u t : St), j ≤ len2 ∧ v9 = .int .i64 j ∧ Hid (TwoP w (.slice a8 n8 c8) (conts s3) w.heap.size u w1.heap.size t wr) ∧ Hid (Good u (8040 + 201 * j)) ∧ Hid (Good t (8040 + 201 * j)) ∧ Hid (u.files = s3.files) ∧ Hid (u.left = -1)) (fun v9 _ => len2 - (intOf v9).toNat)
          case atStart => exact ⟨0, s3, s, Nat.zero_le _, rfl, F7, HG3, HGT, Lib.hid rfl, Lib.hid hl3⟩
          case round =>
            obtain ⟨j, u, t, hj, rfl, HFU, HGU, HGV, HUF, HUL⟩ := hrel
            by_cases hlt3 : j < len2
            · obtain ⟨c, hc⟩ : ∃ c, m[j]? = some c := ⟨m[j]'(by rw [HLEN2.out]; exact hlt3), by simp [HLEN2.out, hlt3]⟩
              have hco := HK2.out c (List.mem_of_getElem? hc)
              have hcf := HF2.out c (List.mem_of_getElem? hc)
              obtain ⟨b, o, rfl, hb, c0, c1, c2, c3, c4, c5, c6, c7⟩ := (HR2.out.below HFU.out.toF.toBelow).get hc
              have HSK := Lib.hid fun W => small_any c.kind 6 W hco.kind.1 hco.kind.2 (by omega) (by omega)
              obtain ⟨q, hq⟩ : ∃ q, c.kind % 6 = q := ⟨_, rfl⟩
              rw [hq] at HSK
              by_cases hq3 : q < 3
              · have A8 := Lib.hid (HFU.out.do2 HGU.out HGV.out (by omega) c hco hcf.1 hcf.2)
                have HG8 : Hid (Good (step c u).1 (8040 + 201 * (j + 1))) := Lib.hid ((HGU.out.step c hco hcf.1).mono (by omega))
                have HG9 : Hid (Good (step c t).1 (8040 + 201 * (j + 1))) := Lib.hid ((HGV.out.step c hco hcf.1).mono (by omega))
                have hst := step_push (c := c) (s := u) (by rw [hq]; exact hq3) HUL.out
                have HST := Lib.hid hst
                obtain ⟨u', hu'⟩ : ∃ u', (step c u).1 = u' := ⟨_, rfl⟩
                obtain ⟨t', ht'⟩ : ∃ t', (step c t).1 = t' := ⟨_, rfl⟩
                obtain ⟨bb, hbb⟩ : ∃ bb, ((step c u).2 == (step c t).2) = bb := ⟨_, rfl⟩
                rw [hu'] at A8 HG8 HST
                rw [ht'] at A8 HG9
                rw [hbb] at A8
                have d3 : decide (q < 3) = true := decide_eq_true hq3
                clear hc hco hcf hq hst hu' ht' hbb
                go_wp2_with fail
                refine (HSK.out _).mono ?_
                rintro e w8 ⟨rfl, hw8⟩
                have hw8' := hw8.symm
                subst hw8'
                go_wp2_with fail
                refine A8.out.mono ?_
                rintro e w9 ⟨rfl, F9⟩
                go_wp2_with fail
                go_roundw
                case rel => exact ⟨j + 1, u', t', by omega, by go_num, F9, HG8, HG9, Lib.hid (by rw [HST.out.1, HUF.out]), Lib.hid HST.out.2⟩
                case measure => simp [intOf]; omega
              · have d3 : decide (q < 3) = false := decide_eq_false hq3
                clear hc hco hcf hq
                go_wp2_with fail
                refine (HSK.out _).mono ?_
                rintro e w8 ⟨rfl, hw8⟩
                have hw8' := hw8.symm
                subst hw8'
                go_wp2_with fail
                go_roundw
                case rel => exact ⟨j + 1, u, t, by omega, by go_num, HFU, Lib.hid (HGU.out.mono (by omega)), Lib.hid (HGV.out.mono (by omega)), HUF, HUL⟩
                case measure => simp [intOf]; omega
            · obtain rfl : j = len2 := by omega
              have A9 := Lib.hid (HFU.out.crash (k := 0) (b := 0) HGU.out (by omega) ⟨by omega, by omega⟩ ⟨by omega, by omega⟩)
              have HGC := Lib.hid (HGU.out.crash 0 0)
              have hk0 : u.keep 0 = 0 := by unfold St.keep; simp
              have hfc : (u.crash 0 0).files = s3.files := by
                rw [crash_plain u 0 0 hk0 (fun n b _ h => absurd h (by decide))]
                exact HUF.out
              have hcc : conts (u.crash 0 0) = conts s3 := conts_same (by
                show (u.crash 0 0).files = s3.all
                unfold St.all
                rw [HP3.out, hfc]
                rfl) HO3.out.symm
              have HCC := Lib.hid hcc
              have hcl : (conts s3).length ≤ 1000000 := by
                have h1 := conts_len s3
                have h2 := names_len HG3.out
                omega
              have HCL := Lib.hid hcl
              clear hk0 hfc hcc hcl
              go_wp2_with fail
              refine A9.out.mono ?_
              rintro e w10 ⟨rfl, F10⟩
              have A10 := Lib.hid (F10.out.toF.contents HGC.out (by omega))
              rw [HCC.out] at A10
              go_wp2_with fail
              refine A10.out.mono ?_
              rintro e w11 ⟨v11, rfl, hr11, hb11, _⟩
              have A11 := Lib.hid (same_true v11 (.slice a8 n8 c8) (conts s3) w11 hr11 (F10.out.row.below hb11) HCL.out)
              have F11 := Lib.hid (F10.out.below hb11)
              clear hr11 hb11
              go_wp2_with fail
              refine A11.out.mono ?_
              rintro e w12 ⟨rfl, hb12⟩
              have F12 := Lib.hid (F11.out.below hb12)
              have A12 := Lib.hid F12.out.toF.pending
              have HB12 := Lib.hid F12.out.toF.toBelow
              clear hb12
              go_wp2_with fail
              refine A12.out.mono ?_
              rintro e w13 ⟨rfl, hw13⟩
              have hw13' := hw13.symm
              subst hw13'
              go_wp2_with fail
              refine (HA.out _).mono ?_
              rintro e w14 ⟨rfl, hb14⟩
              have HB14 := Lib.hid (HB12.out.trans (hb14.mono HB12.out.size))
              clear hb14
              go_wp2_with fail
              go_ret
              exact ⟨rfl, HB14.out⟩
end Go.Proofs.Ytlaodmpdngdhjaa
