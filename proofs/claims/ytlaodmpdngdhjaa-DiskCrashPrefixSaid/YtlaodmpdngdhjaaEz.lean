/- The law DiskCrashPrefix, walked. -/
import Derived.Test.YtlaodmpdngdhjaaEy
namespace Go.Proofs.Ytlaodmpdngdhjaa
set_option linter.unusedVariables false
set_option linter.unusedSimpArgs false
open Go.RowKit

theorem goods_snoc {ops : List Chg} {g : Chg} {M : Nat} (h : ∀ j, j ≤ ops.length → Good (SO (ops.take j)) M) (hg : Good (SO (ops ++ [g])) M) : ∀ j, j ≤ (ops ++ [g]).length → Good (SO ((ops ++ [g]).take j)) M := by
  intro j hj
  rw [List.length_append, List.length_singleton] at hj
  by_cases hl : j ≤ ops.length
  · rw [List.take_append_of_le_length hl]
    exact h j hl
  · rw [List.take_of_length_le (by rw [List.length_append, List.length_singleton]; omega)]
    exact hg
set_option maxRecDepth 100000 in
set_option maxHeartbeats 8000000 in
theorem prefix_law (a : Option Addr) (cap : Nat) (l : List Cl) (k0 : Int) (w : World) (hrow : CallRow w a l) (hl : l.length ≤ 140737488355328) (hok : ∀ c ∈ l, c.ok) (hk0 : fits64 k0) :
    Calls Try.prog 9 #[.slice a l.length cap, .int .i64 k0] w fun e w' => e = .returned (.bool true) ∧ Below w.heap.size w w' := by
  obtain ⟨i25, h25, h250, h251, h252⟩ := info_parts info25
  have HA := Lib.hid fun W => awake_any W
  have HS := Lib.hid (short_any l a cap w hrow hl hok)
  have HR := Lib.hid hrow
  have HK := Lib.hid hok
  cases hsh : shortB l with
  | false =>
    rw [hsh] at HS
    clear hrow hok hk0
    go_enter Try.func9, Try.ntmps9
    go_wp2_with fail
    refine HS.out.mono ?_
    rintro e w1 ⟨rfl, hw⟩
    have hw' := hw.symm
    subst hw'
    go_wp2_with fail
    refine (HA.out _).mono ?_
    rintro e w1 ⟨rfl, hb1⟩
    have HB1 := Lib.hid hb1
    clear hb1
    go_wp2_with fail
    go_ret
    exact ⟨rfl, HB1.out⟩
  | true =>
    rw [hsh] at HS
    obtain ⟨hl40, hF⟩ := short_cases hsh
    by_cases h20 : 20 < l.length
    · have q1 : decide ((20 : Int) < (l.length : Int)) = true := decide_eq_true (by omega)
      clear hrow hok hk0 hsh hF
      go_enter Try.func9, Try.ntmps9
      go_wp2_with fail
      refine HS.out.mono ?_
      rintro e w1 ⟨rfl, hw⟩
      have hw' := hw.symm
      subst hw'
      go_wp2_with fail
      refine (HA.out _).mono ?_
      rintro e w1 ⟨rfl, hb1⟩
      have HB1 := Lib.hid hb1
      clear hb1
      go_wp2_with fail
      go_ret
      exact ⟨rfl, HB1.out⟩
    · have HF := Lib.hid hF
      have HN := Lib.hid (fresh_new 2000 w (by omega) (by omega))
      have HG0 : Hid (Good (SO []) 0) := Lib.hid (St.new_good 2000 (by decide))
      have HKF := Lib.hid hk0
      obtain ⟨len, hlen⟩ : ∃ len, l.length = len := ⟨_, rfl⟩
      have HLEN := Lib.hid hlen
      rw [hlen] at HS hl40 h20 ⊢
      have q1 : decide ((20 : Int) < (len : Int)) = false := decide_eq_false (by omega)
      have hl20 : len ≤ 20 := by omega
      clear hrow hok hsh hlen hl hF hk0 h20 hl40
      go_enter Try.func9, Try.ntmps9
      go_wp2_with fail
      refine HS.out.mono ?_
      rintro e w1 ⟨rfl, hw⟩
      have hw' := hw.symm
      subst hw'
      go_wp2_with fail
      refine HN.out.mono ?_
      rintro e w1 ⟨rfl, F0, hlt⟩
      obtain ⟨dd, hdd⟩ : ∃ dd, w.heap.size = dd := ⟨_, rfl⟩
      have HDD := Lib.hid hdd
      have FN : Hid (Fan w dd [] [] (.slice none 0 0) w1) := Lib.hid (by rw [← hdd]; exact F0.out.fan)
      have C0 := Lib.hid (FN.out.copy HG0.out (by omega))
      rw [hdd]
      clear F0 hlt hdd
      obtain ⟨wd, hwd⟩ : ∃ wd, w.heap.size = wd := ⟨_, rfl⟩
      go_wp2_with fail
      refine C0.out.mono ?_
      rintro e w2 ⟨rfl, FC⟩
      obtain ⟨c0, hc0⟩ : ∃ c0, w1.heap.size = c0 := ⟨_, rfl⟩
      rw [hc0] at FC ⊢
      clear hc0 C0
      have SX : Hid (Src (w2.alloc (.cells #[ptr c0] 25)) 1 (.slice (some ⟨w2.heap.size, 0, none⟩) 1 1) 1 [ptr c0]) := Lib.hid (.inr ⟨_, _, rfl, rfl, cells_new' w2 [ptr c0] 25⟩)
      have HRW : Hid (w2.ownsRow w.heap.size 25 1 (.slice none 0 0) 0 []) := Lib.hid FC.out.row
      have hbs : w.heap.size ≤ w2.heap.size := FC.out.size
      clear hwd
      go_wp2_with (at_builtin; go_loud (refine wpList_app rfl (.tmp 24) (.tmp 27) 55 rfl w.heap.size 25 i25 (.pointer none) 1 8 Try.underlying55 h25 h250 h251 h252 rfl (by omega) (.slice none 0 0) 0 [] rfl (HRW.out.alloc _) (.slice (some ⟨w2.heap.size, 0, none⟩) 1 1) 1 [ptr c0] rfl SX.out (ptrs_one [c0]) (by unfold maxLen; omega) (by omega) (by simp; omega) ?_; intro v7 w7 o7 g7 q7))
      have FP : Hid (Fan w dd [] [c0] v7 w7) := Lib.hid (FC.out.push rfl ((Below.refl _ _).alloc (Nat.le_refl _) _) g7.out o7.out q7.out)
      have HG1 : Hid (∀ j, j ≤ ([] : List Chg).length → Good (SO (([] : List Chg).take j)) (201 * 0)) := Lib.hid (fun j hj => by rw [List.take_nil]; exact HG0.out)
      clear SX HRW hbs FC o7 g7 q7 FN
      go_wp2_with fail
      go_loopw [6, 7] (fun v6 v7 wr => ∃ (k : Nat) (ops : List Chg) (cp : List Nat), k ≤ len ∧ v7 = .int .i64 k ∧ Hid (Fan w dd ops cp v6 wr) ∧ Hid (∀ j, j ≤ ops.length → Good (SO (ops.take j)) (201 * k)) ∧ Hid (cp.length = ops.length + 1) ∧ ops.length ≤ k) (fun _ v7 _ => len - (intOf v7).toNat)
      case atStart => exact ⟨0, [], [c0], Nat.zero_le _, rfl, FP, HG1, Lib.hid rfl, Nat.le_refl _⟩
      case round =>
        obtain ⟨k, ops, cp, hk, rfl, HFN, HGS, HCL, hol⟩ := hrel
        obtain ⟨a6, n6, hv6⟩ := own_slice HFN.out.row
        subst hv6
        rw [HCL.out] at HFN ⊢
        by_cases hlt2 : k < len
        · obtain ⟨c, hc⟩ : ∃ c, l[k]? = some c := ⟨l[k]'(by rw [HLEN.out]; exact hlt2), by simp [HLEN.out, hlt2]⟩
          have hco := HK.out c (List.mem_of_getElem? hc)
          have hcf := HF.out c (List.mem_of_getElem? hc)
          obtain ⟨b, o, rfl, hb, c0, c1, c2, c3, c4, c5, c6, c7⟩ := (HR.out.below HFN.out.toBelow).get hc
          obtain ⟨J, hJ⟩ : ∃ J : Nat, c.kind % 6 = J := ⟨(c.kind % 6).toNat, by omega⟩
          have hJ6 : J < 6 := by omega
          have HSK := Lib.hid fun W => small_any c.kind 6 W hco.kind.1 hco.kind.2 (by omega) (by omega)
          rw [hJ] at HSK
          have HJ := Lib.hid hJ
          have HCO := Lib.hid hco
          have HCF := Lib.hid hcf
          clear hJ hco hcf hc
          by_cases hJ2 : 2 < J
          · have q2 : decide ((2 : Int) < (J : Int)) = true := decide_eq_true (by omega)
            clear hJ2
            go_wp2_with fail
            refine (HSK.out _).mono ?_
            rintro e wb ⟨rfl, hwb⟩
            have HFB : Hid (Fan w dd ops cp (.slice a6 (ops.length + 1) n6) wb) := Lib.hid (by rw [hwb]; exact HFN.out.below ((Below.refl _ _).alloc (Nat.le_refl _) _))
            clear hwb
            go_wp2_with fail
            go_roundw
            case rel => exact ⟨k + 1, ops, cp, by omega, by go_num, HFB, Lib.hid (fun j hj => (HGS.out j hj).mono (by omega)), HCL, by omega⟩
            case measure => simp [intOf]; omega
          · have q2 : decide ((2 : Int) < (J : Int)) = false := decide_eq_false (by omega)
            have HST := Lib.hid (step_so c ops (by have := HJ.out; omega))
            clear hJ2
            go_wp2_with fail
            refine (HSK.out _).mono ?_
            rintro e wb ⟨rfl, hwb⟩
            obtain ⟨C, hC⟩ : ∃ C, wr.heap.size = C := ⟨_, rfl⟩
            have HFB : Hid (Fan w dd ops cp (.slice a6 (ops.length + 1) n6) wb) := Lib.hid (by rw [hwb]; exact HFN.out.below ((Below.refl _ _).alloc (Nat.le_refl _) _))
            have HBX : Hid (wb.heap[C]? = some (.cells c.cells 48 (0, 0))) := Lib.hid (by rw [hwb, ← hC]; exact heap_alloc_new wr _)
            have hbx := row_cells HBX.out
            have x0 : wb.cell? ⟨C, 0, none⟩ = some (.int .i64 c.kind) := hbx.1 0
            have x1 : wb.cell? ⟨C, 1, none⟩ = some (.int .i64 c.from_) := hbx.1 1
            have x2 : wb.cell? ⟨C, 2, none⟩ = some (.int .i64 c.to_) := hbx.1 2
            have x3 : wb.cell? ⟨C, 3, none⟩ = some (.int .i64 c.n) := hbx.1 3
            have x4 : wb.cell? ⟨C, 4, none⟩ = some (.int .i64 c.m) := hbx.1 4
            have x5 : wb.cell? ⟨C, 5, none⟩ = some (.string c.name) := hbx.1 5
            have x6 : wb.cell? ⟨C, 6, none⟩ = some (.string c.data) := hbx.1 6
            have x7 : wb.cell? ⟨C, 7, none⟩ = some (.bool c.raw) := hbx.1 7
            have hxl : C < wb.heap.size := heap_lt HBX.out
            rw [hC]
            clear hbx hwb hC c0 c1 c2 c3 c4 c5 c6 c7 hb
            have HP := Lib.hid HFB.out.pending
            rcases HST.out with ⟨g, hg⟩ | hg
            · obtain ⟨ops2, ho2⟩ : ∃ o, ops ++ [g] = o := ⟨_, rfl⟩
              have hlen2 : ops2.length = ops.length + 1 := by rw [← ho2, List.length_append, List.length_singleton]
              have HTK : Hid (∀ j x, cp[j]? = some x → ops2.take j = ops.take j) := Lib.hid (by
                intro j x hx
                have := (List.getElem?_eq_some_iff.1 hx).1
                rw [HCL.out] at this
                rw [← ho2, List.take_append_of_le_length (by omega)])
              have HG2 : Hid (∀ j, j ≤ ops2.length → Good (SO (ops2.take j)) (201 * (k + 1))) := Lib.hid (by
                have h1 := HGS.out ops.length (Nat.le_refl _)
                rw [List.take_length] at h1
                have h2 := h1.step c HCO.out HCF.out.1
                rw [hg] at h2
                rw [← ho2]
                exact goods_snoc (fun j hj => (HGS.out j hj).mono (by omega)) (h2.mono (by omega)))
              have HGW : Hid (Good (SO ops2) (201 * (k + 1))) := Lib.hid (by have := HG2.out ops2.length (Nat.le_refl _); rw [List.take_length] at this; exact this)
              rw [ho2] at hg
              have HDO := Lib.hid fun (w3 : World) (r : Nat) hr hrs hb => HFB.out.do_ (w1 := w3) r hr hrs hb (M := 201 * k) (by have := HGS.out ops.length (Nat.le_refl _); rw [List.take_length] at this; exact this) (by omega) c HCO.out HCF.out.1 HCF.out.2 hg HTK.out
              have HL2 := Lib.hid hlen2
              have q3 : decide ((ops.length : Int) < (ops2.length : Int)) = true := decide_eq_true (by omega)
              have hq3 : ops.length < ops2.length := by omega
              have hq4 : (ops.length : Int) < (ops2.length : Int) := by omega
              clear ho2 hg HST hlen2
              go_wp2_with fail
              refine HP.out.mono ?_
              rintro e wc ⟨rfl, hwc⟩
              subst hwc
              go_upto_region 14 with fail
              go_region_with (first
                | (go_at_call 35; refine (rnew_any 0 _ (by omega) (by omega)).mono ?_; rintro e w3 ⟨rfl, hr3, hb3, hl3⟩; have HR3 := Lib.hid hr3; have HB3 : Hid (Below wc.heap.size wc w3) := Lib.hid (Below.trans (Below.drew (Below.refl _ _)) hb3); have y0 : w3.cell? ⟨C, 0, none⟩ = some (.int .i64 c.kind) := (HB3.out.cell (p := ⟨C, 0, none⟩) hxl).trans x0; have y1 : w3.cell? ⟨C, 1, none⟩ = some (.int .i64 c.from_) := (HB3.out.cell (p := ⟨C, 1, none⟩) hxl).trans x1; have y2 : w3.cell? ⟨C, 2, none⟩ = some (.int .i64 c.to_) := (HB3.out.cell (p := ⟨C, 2, none⟩) hxl).trans x2; have y3 : w3.cell? ⟨C, 3, none⟩ = some (.int .i64 c.n) := (HB3.out.cell (p := ⟨C, 3, none⟩) hxl).trans x3; have y4 : w3.cell? ⟨C, 4, none⟩ = some (.int .i64 c.m) := (HB3.out.cell (p := ⟨C, 4, none⟩) hxl).trans x4; have y5 : w3.cell? ⟨C, 5, none⟩ = some (.string c.name) := (HB3.out.cell (p := ⟨C, 5, none⟩) hxl).trans x5; have y6 : w3.cell? ⟨C, 6, none⟩ = some (.string c.data) := (HB3.out.cell (p := ⟨C, 6, none⟩) hxl).trans x6; have y7 : w3.cell? ⟨C, 7, none⟩ = some (.bool c.raw) := (HB3.out.cell (p := ⟨C, 7, none⟩) hxl).trans x7; clear hr3 hb3 hl3)
                | (go_at_call 36; refine (HDO.out _ _ HR3.out rfl HB3.out).mono ?_; rintro e w4 ⟨⟨x, rfl⟩, F4⟩))
              all_goals
                have HP2 := Lib.hid F4.out.pending
                have HCY := Lib.hid (F4.out.copy HGW.out (by omega))
                go_wp2_with fail
                refine HP2.out.mono ?_
                rintro e w5 ⟨rfl, hw5⟩
                subst hw5
                go_wp2_with fail
                refine HCY.out.mono ?_
                rintro e w6 ⟨rfl, FC⟩
                obtain ⟨c9, hc9⟩ : ∃ c9, w5.heap.size = c9 := ⟨_, rfl⟩
                rw [hc9] at FC ⊢
                clear hc9 HCY
                have SX : Hid (Src (w6.alloc (.cells #[ptr c9] 25)) 1 (.slice (some ⟨w6.heap.size, 0, none⟩) 1 1) 1 [ptr c9]) := Lib.hid (.inr ⟨_, _, rfl, rfl, cells_new' w6 [ptr c9] 25⟩)
                have HRW : Hid (w6.ownsRow w.heap.size 25 1 (.slice a6 (ops.length + 1) n6) (ops.length + 1) (cp.map ptr)) := Lib.hid (by have := FC.out.row; rw [HCL.out] at this; exact this)
                have hbs : w.heap.size ≤ w6.heap.size := FC.out.size
                go_wp2_with (at_builtin; go_loud (refine wpList_app rfl (.tmp 53) (.tmp 56) 55 rfl w.heap.size 25 i25 (.pointer none) 1 8 Try.underlying55 h25 h250 h251 h252 rfl (by omega) (.slice a6 (ops.length + 1) n6) (ops.length + 1) (cp.map ptr) rfl (HRW.out.alloc _) (.slice (some ⟨w6.heap.size, 0, none⟩) 1 1) 1 [ptr c9] rfl SX.out (ptrs_one [c9]) (by unfold maxLen; omega) (by omega) (by simp; omega) ?_; intro v9 w9 o9 g9 q9))
                have FP : Hid (Fan w dd ops2 (cp ++ [c9]) v9 w9) := Lib.hid (FC.out.push (by rw [HCL.out, HL2.out]) ((Below.refl _ _).alloc (Nat.le_refl _) _) g9.out (by rw [HCL.out]; exact o9.out) q9.out)
                go_roundw
                case rel => exact ⟨k + 1, ops2, cp ++ [c9], by omega, by go_num, FP, HG2, Lib.hid (by rw [List.length_append, HCL.out, HL2.out]; rfl), by have := HL2.out; omega⟩
                case measure => simp [intOf]; omega
            · have HDO := Lib.hid fun (w3 : World) (r : Nat) hr hrs hb => HFB.out.do_ (w1 := w3) r hr hrs hb (M := 201 * k) (by have := HGS.out ops.length (Nat.le_refl _); rw [List.take_length] at this; exact this) (by omega) c HCO.out HCF.out.1 HCF.out.2 hg (fun _ _ _ => rfl)
              have q3 : decide ((ops.length : Int) < (ops.length : Int)) = false := decide_eq_false (by omega)
              clear hg HST
              go_wp2_with fail
              refine HP.out.mono ?_
              rintro e wc ⟨rfl, hwc⟩
              subst hwc
              go_upto_region 14 with fail
              go_region_with (first
                | (go_at_call 35; refine (rnew_any 0 _ (by omega) (by omega)).mono ?_; rintro e w3 ⟨rfl, hr3, hb3, hl3⟩; have HR3 := Lib.hid hr3; have HB3 : Hid (Below wc.heap.size wc w3) := Lib.hid (Below.trans (Below.drew (Below.refl _ _)) hb3); have y0 : w3.cell? ⟨C, 0, none⟩ = some (.int .i64 c.kind) := (HB3.out.cell (p := ⟨C, 0, none⟩) hxl).trans x0; have y1 : w3.cell? ⟨C, 1, none⟩ = some (.int .i64 c.from_) := (HB3.out.cell (p := ⟨C, 1, none⟩) hxl).trans x1; have y2 : w3.cell? ⟨C, 2, none⟩ = some (.int .i64 c.to_) := (HB3.out.cell (p := ⟨C, 2, none⟩) hxl).trans x2; have y3 : w3.cell? ⟨C, 3, none⟩ = some (.int .i64 c.n) := (HB3.out.cell (p := ⟨C, 3, none⟩) hxl).trans x3; have y4 : w3.cell? ⟨C, 4, none⟩ = some (.int .i64 c.m) := (HB3.out.cell (p := ⟨C, 4, none⟩) hxl).trans x4; have y5 : w3.cell? ⟨C, 5, none⟩ = some (.string c.name) := (HB3.out.cell (p := ⟨C, 5, none⟩) hxl).trans x5; have y6 : w3.cell? ⟨C, 6, none⟩ = some (.string c.data) := (HB3.out.cell (p := ⟨C, 6, none⟩) hxl).trans x6; have y7 : w3.cell? ⟨C, 7, none⟩ = some (.bool c.raw) := (HB3.out.cell (p := ⟨C, 7, none⟩) hxl).trans x7; clear hr3 hb3 hl3)
                | (go_at_call 36; refine (HDO.out _ _ HR3.out rfl HB3.out).mono ?_; rintro e w4 ⟨⟨x, rfl⟩, F4⟩))
              all_goals
                have HP2 := Lib.hid F4.out.pending
                go_wp2_with fail
                refine HP2.out.mono ?_
                rintro e w5 ⟨rfl, hw5⟩
                subst hw5
                go_wp2_with fail
                go_roundw
                case rel => exact ⟨k + 1, ops, cp, by omega, by go_num, F4, Lib.hid (fun j hj => (HGS.out j hj).mono (by omega)), HCL, by omega⟩
                case measure => simp [intOf]; omega
        · obtain rfl : k = len := by omega
          obtain ⟨m, hm⟩ : ∃ m, ops.length + 1 = m := ⟨_, rfl⟩
          have hm1 : 0 < m := by omega
          have hm2 : m ≤ 21 := by omega
          have hn0 : ∃ n : Nat, k0 % (m : Int) = (n : Int) := ⟨(k0 % (m : Int)).toNat, by have := Int.emod_nonneg k0 (show (m : Int) ≠ 0 by omega); omega⟩
          obtain ⟨n, hn⟩ := hn0
          have hnm : n < m := by have := Int.emod_lt_of_pos k0 (show (0 : Int) < m by omega); omega
          have HM := Lib.hid fun W => small_any k0 m W HKF.out.1 HKF.out.2 (by omega) (by omega)
          rw [hn] at HM
          obtain ⟨c, hc⟩ : ∃ c, cp[n]? = some c := ⟨_, List.getElem?_eq_getElem (by have := HCL.out; omega)⟩
          obtain ⟨g, kk, hv, hcell⟩ := prow_get HFN.out.row hc (by have := HCL.out; omega)
          obtain ⟨ha6, _, _⟩ := Value.slice.inj hv
          subst ha6
          have hno : n ≤ ops.length := by omega
          have HGA : Hid (Good (SO ops) 4020) := Lib.hid (by have := HGS.out ops.length (Nat.le_refl _); rw [List.take_length] at this; exact this.mono (by omega))
          have HGN : Hid (Good (SO (ops.take n)) 4020) := Lib.hid ((HGS.out n hno).mono (by omega))
          have HCR := Lib.hid (HFN.out.crash HGA.out (by omega) n (by omega))
          have HGC : Hid (Good ((SO ops).crash n 0) 4020) := Lib.hid (HGA.out.crash _ _)
          have HCS := Lib.hid (crash_so ops n hno)
          have HC := Lib.hid hc
          have HNO := Lib.hid hno
          have hnmI : (n : Int) < (m : Int) := by omega
          have hn0I : (0 : Int) ≤ (n : Int) := by omega
          rw [hm] at HFN ⊢
          clear hm hn hc hv hno hol hk hlt2
          go_wp2_with fail
          refine (HM.out _).mono ?_
          rintro e w3 ⟨rfl, hw3⟩
          subst hw3
          go_wp2_with fail
          refine HCR.out.mono ?_
          rintro e w4 ⟨rfl, FE⟩
          have P1 := Lib.hid (FE.out.pend HC.out HNO.out)
          have P2 := Lib.hid (FE.out.conts HGC.out (by omega))
          go_wp2_with fail
          refine P1.out.mono ?_
          rintro e w5 ⟨rfl, hw5⟩
          subst hw5
          go_wp2_with fail
          refine P2.out.mono ?_
          rintro e w6 ⟨v1, rfl, r1, hb6⟩
          have FE6 := Lib.hid (FE.out.below hb6)
          have R1 := Lib.hid r1
          have P3 := Lib.hid (FE6.out.copy HC.out HGN.out (by omega))
          clear r1 hb6
          go_wp2_with fail
          refine P3.out.mono ?_
          rintro e w7 ⟨v2, rfl, r2, hb7⟩
          have HB7 := Lib.hid ((FE6.out.below hb7).2.2)
          have R1' := Lib.hid (R1.out.below hb7)
          have hln : (conts (SO (ops.take n))).length ≤ 1000000 := by
            have h1 := conts_len (SO (ops.take n))
            have h2 := names_len HGN.out
            omega
          have HSM := Lib.hid (same_any v1 v2 _ _ w7 R1'.out r2 (by rw [HCS.out]; exact hln) hln)
          rw [decide_eq_true HCS.out] at HSM
          clear r2 hb7 hln
          go_wp2_with fail
          refine HSM.out.mono ?_
          rintro e w8 ⟨rfl, hb8⟩
          have HB8 := Lib.hid (HB7.out.trans (hb8.mono HB7.out.size))
          clear hb8
          go_wp2_with fail
          refine (HA.out _).mono ?_
          rintro e w10 ⟨rfl, hb10⟩
          have HB10 := Lib.hid (HB8.out.trans (hb10.mono HB8.out.size))
          clear hb10
          go_wp2_with fail
          go_ret
          exact ⟨rfl, HB10.out⟩
end Go.Proofs.Ytlaodmpdngdhjaa
