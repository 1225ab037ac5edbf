/- The law DiskFuse. -/
import Derived.Test.YtlaodmpdngdhjaaDv
import Derived.Deep.RegionHeld3
namespace Go.Proofs.Ytlaodmpdngdhjaa
set_option linter.unusedVariables false
set_option linter.unusedSimpArgs false
open Go.RowKit Go.Maps Go.WideMaps

theorem DiskAt.lt {w : World} {d : Nat} {s : St} {rw ro : Nat → Prop} (h : DiskAt w d s rw ro) (b : Nat) (hb : rw b) : b < w.heap.size := by
  obtain ⟨vd, vf, vp, fuse, fcs, h⟩ := h
  exact h.lt b (.inl hb)
/-- What a changing call comes to, as the fuse sees it. -/
def Out (s s' : St) (e : Int) : Prop :=
  (e = 0 ∧ s.off = false ∧ s'.left = (if 0 < s.left then s.left - 1 else s.left)) ∨ (e ≠ 0 ∧ s'.left = s.left ∧ (e = 25 ↔ s.off = true))
theorem spend_left (s : St) : s.spend.left = if 0 < s.left then s.left - 1 else s.left := by
  unfold St.spend
  split <;> rfl
theorem out_append (s : St) (n b : ByteArray) : Out s (s.append n b).1 (s.append n b).2 := by
  unfold St.append
  cases h : s.off with
  | true => rw [if_pos rfl]; exact .inr ⟨by show (25 : Int) ≠ 0; decide, rfl, by simp [h]⟩
  | false =>
    rw [if_neg (by decide)]
    split
    · exact .inr ⟨by show (14 : Int) ≠ 0; decide, rfl, by simp [h]⟩
    · split
      · exact .inr ⟨by show (26 : Int) ≠ 0; decide, rfl, by simp [h]⟩
      · exact .inl ⟨rfl, h, spend_left _⟩
theorem out_rename (s : St) (x y : ByteArray) : Out s (s.rename x y).1 (s.rename x y).2 := by
  unfold St.rename
  cases h : s.off with
  | true => rw [if_pos rfl]; exact .inr ⟨by show (25 : Int) ≠ 0; decide, rfl, by simp [h]⟩
  | false =>
    rw [if_neg (by decide)]
    split
    · exact .inr ⟨by show (14 : Int) ≠ 0; decide, rfl, by simp [h]⟩
    · split
      · exact .inr ⟨by show (23 : Int) ≠ 0; decide, rfl, by simp [h]⟩
      · exact .inl ⟨rfl, h, spend_left _⟩
theorem out_remove (s : St) (x : ByteArray) : Out s (s.remove x).1 (s.remove x).2 := by
  unfold St.remove
  cases h : s.off with
  | true => rw [if_pos rfl]; exact .inr ⟨by show (25 : Int) ≠ 0; decide, rfl, by simp [h]⟩
  | false =>
    rw [if_neg (by decide)]
    split
    · exact .inr ⟨by show (14 : Int) ≠ 0; decide, rfl, by simp [h]⟩
    · split
      · exact .inr ⟨by show (23 : Int) ≠ 0; decide, rfl, by simp [h]⟩
      · exact .inl ⟨rfl, h, spend_left _⟩
theorem out_sync (s : St) : Out s s.sync.1 s.sync.2 := by
  unfold St.sync
  cases h : s.off with
  | true => rw [if_pos rfl]; exact .inr ⟨by show (25 : Int) ≠ 0; decide, rfl, by simp [h]⟩
  | false =>
    rw [if_neg (by decide)]
    exact .inl ⟨rfl, h, spend_left _⟩
set_option maxRecDepth 100000 in
set_option maxHeartbeats 4000000 in
theorem fuse_law (n0 : Int) (a : Option Addr) (cap : Nat) (l : List Cl) (w : World) (hrow : CallRow w a l) (hl : l.length ≤ 140737488355328) (hok : ∀ c ∈ l, c.ok) (hn : fits64 n0) :
    Calls Try.prog 8 #[.int .i64 n0, .slice a l.length cap] w fun e w' => e = .returned (.bool true) ∧ Below w.heap.size w w' := by
  have HA := Lib.hid fun W => awake_any W
  have HS := Lib.hid (short_any l a cap w hrow hl hok)
  have HR := Lib.hid hrow
  have HK := Lib.hid hok
  cases hsh : shortB l with
  | false =>
    rw [hsh] at HS
    clear hrow hok
    go_enter Try.func8, Try.ntmps8
    go_wp2_with fail
    refine HS.out.mono ?_
    rintro e w1 ⟨rfl, hw⟩
    have hw' := hw.symm
    subst hw'
    go_wp2_with fail
    refine (HA.out _).mono ?_
    rintro e w1 ⟨rfl, hb1⟩
    have HB1 := Lib.hid hb1
    clear hb1
    go_wp2_with fail
    go_ret
    exact ⟨rfl, HB1.out⟩
  | true =>
    rw [hsh] at HS
    have hl40 : l.length ≤ 40 := by
      unfold shortB at hsh
      rw [Bool.and_eq_true] at hsh
      exact of_decide_eq_true hsh.2
    have HF : Hid (∀ c ∈ l, c.data.size ≤ 200 ∧ c.name.size ≤ 100) := Lib.hid fun c hc => by
      unfold shortB at hsh
      rw [Bool.and_eq_true, List.all_eq_true] at hsh
      have := hsh.1 c hc
      unfold Cl.few at this
      rw [Bool.and_eq_true] at this
      exact ⟨of_decide_eq_true this.1, of_decide_eq_true this.2⟩
    obtain ⟨N, hN⟩ : ∃ N : Nat, n0 % 21 = N := ⟨(n0 % 21).toNat, by omega⟩
    have hN2 : N < 21 := by omega
    have HS0 := Lib.hid fun W => small_any n0 21 W hn.1 hn.2 (by omega) (by omega)
    rw [hN] at HS0
    have HN := Lib.hid (fresh_new 10000 w (by omega) (by omega))
    have gf : Good ((St.new 10000).fuse N) 0 := (St.new_good 10000 (by decide)).fuse N (by omega)
    have HGF := Lib.hid gf
    have HLF : Hid (((St.new 10000).fuse N).left = N) := Lib.hid (by
      unfold St.fuse
      rw [if_neg (by show ¬ false = true; decide)]
      show max (N : Int) (-1) = N
      omega)
    obtain ⟨len, hlen⟩ : ∃ len, l.length = len := ⟨_, rfl⟩
    have HLEN := Lib.hid hlen
    rw [hlen] at HS hl40 ⊢
    clear hrow hok hsh gf hlen hl hN hn
    go_enter Try.func8, Try.ntmps8
    go_wp2_with fail
    refine HS.out.mono ?_
    rintro e w1 ⟨rfl, hw⟩
    have hw' := hw.symm
    subst hw'
    go_wp2_with fail
    refine HN.out.mono ?_
    rintro e w1 ⟨rfl, F0, hlt⟩
    go_wp2_with fail
    refine (HS0.out _).mono ?_
    rintro e w1' ⟨rfl, hw1⟩
    subst hw1
    have A1 := Lib.hid (F0.out.fuse (n := N) (St.new_good 10000 (by decide)) (by omega) (by omega))
    go_wp2_with fail
    refine A1.out.mono ?_
    rintro e w2 ⟨rfl, F1⟩
    go_wp2_with fail
    go_loopw [6, 7] (fun v6 v7 wr => ∃ (k done : Nat) (s : St), k ≤ len ∧ done ≤ N ∧ v7 = .int .i64 k ∧ v6 = .int .i64 done ∧ Hid (Fresh w w.heap.size s wr) ∧ Hid (Good s (202 * k)) ∧ Hid (s.left = N - done)) (fun _ v7 _ => len - (intOf v7).toNat)
    case atStart => exact ⟨0, 0, _, Nat.zero_le _, Nat.zero_le _, rfl, rfl, F1, HGF, Lib.hid (by rw [HLF.out]; simp)⟩
    case round =>
      obtain ⟨k, done, s, hk, hdone, rfl, rfl, HFR, HGS, HLS⟩ := hrel
      by_cases hlt2 : k < len
      · obtain ⟨c, hc⟩ : ∃ c, l[k]? = some c := ⟨l[k]'(by rw [HLEN.out]; exact hlt2), by simp [HLEN.out, hlt2]⟩
        have hco := HK.out c (List.mem_of_getElem? hc)
        have hcf := HF.out c (List.mem_of_getElem? hc)
        obtain ⟨b, o, rfl, hb, c0, c1, c2, c3, c4, c5, c6, c7⟩ := (HR.out.below HFR.out.toBelow).get hc
        obtain ⟨J, hJ⟩ : ∃ J : Nat, c.kind % 4 = J := ⟨(c.kind % 4).toNat, by omega⟩
        have hJ4 : J < 4 := by omega
        have HSK := Lib.hid fun W => small_any c.kind 4 W hco.kind.1 hco.kind.2 (by omega) (by omega)
        rw [hJ] at HSK
        have HNM := Lib.hid fun k hk W => name_any c k W hk
        have hff := hco.from_
        have hft := hco.to_
        have hns : ∀ j, (nm c j).size ≤ 100 := fun j => by
          unfold nm
          split
          · exact hcf.2
          · have : ∀ x ∈ table, x.size ≤ 100 := by decide
            rw [List.getD_eq_getElem?_getD]
            cases hq : table[(j % 6).toNat]? with
            | none => exact Nat.zero_le _
            | some x => exact this x (List.mem_of_getElem? hq)
        have hnf : (nm c c.from_).size ≤ maxLen := Nat.le_trans (hns _) (by decide)
        have hnt : (nm c c.to_).size ≤ maxLen := Nat.le_trans (hns _) (by decide)
        have hds : c.data.size ≤ 200 := hcf.1
        have hM : 202 * k ≤ 500000 := by omega
        have HOA := Lib.hid (out_append s (nm c c.from_) c.data)
        have HGA : Hid (Good (s.append (nm c c.from_) c.data).1 (202 * (k + 1))) := Lib.hid ((HGS.out.append _ _).mono (by omega))
        have HOR := Lib.hid (out_rename s (nm c c.from_) (nm c c.to_))
        have HGR : Hid (Good (s.rename (nm c c.from_) (nm c c.to_)).1 (202 * (k + 1))) := Lib.hid ((HGS.out.rename _ _).mono (by omega))
        have HOD := Lib.hid (out_remove s (nm c c.from_))
        have HGD : Hid (Good (s.remove (nm c c.from_)).1 (202 * (k + 1))) := Lib.hid ((HGS.out.remove _).mono (by omega))
        have HOS := Lib.hid (out_sync s)
        have HGY : Hid (Good s.sync.1 (202 * (k + 1))) := Lib.hid (HGS.out.sync.mono (by omega))
        clear hJ hco hcf hns
        go_wp2_with fail
        refine (HSK.out _).mono ?_
        rintro e wb ⟨rfl, hwb⟩
        have HFB : Hid (Fresh w w.heap.size s wb) := Lib.hid (by rw [hwb]; exact HFR.out.below ((Below.refl _ _).alloc (Nat.le_refl _) _))
        have HBX : Hid (wb.heap[wr.heap.size]? = some (.cells c.cells 48 (0, 0))) := Lib.hid (by rw [hwb]; exact heap_alloc_new wr _)
        have hbx := row_cells HBX.out
        have x0 : wb.cell? ⟨wr.heap.size, 0, none⟩ = some (.int .i64 c.kind) := hbx.1 0
        have x1 : wb.cell? ⟨wr.heap.size, 1, none⟩ = some (.int .i64 c.from_) := hbx.1 1
        have x2 : wb.cell? ⟨wr.heap.size, 2, none⟩ = some (.int .i64 c.to_) := hbx.1 2
        have x3 : wb.cell? ⟨wr.heap.size, 3, none⟩ = some (.int .i64 c.n) := hbx.1 3
        have x4 : wb.cell? ⟨wr.heap.size, 4, none⟩ = some (.int .i64 c.m) := hbx.1 4
        have x5 : wb.cell? ⟨wr.heap.size, 5, none⟩ = some (.string c.name) := hbx.1 5
        have x6 : wb.cell? ⟨wr.heap.size, 6, none⟩ = some (.string c.data) := hbx.1 6
        have x7 : wb.cell? ⟨wr.heap.size, 7, none⟩ = some (.bool c.raw) := hbx.1 7
        obtain ⟨rw, ro, hdk0, hrw, hbb0⟩ := HFR.out
        have hrq : ¬ rw wr.heap.size := fun h => by
          have := hdk0.lt _ h
          omega
        have hbw : Below wr.heap.size wr wb := by rw [hwb]; exact (Below.refl _ _).alloc (Nat.le_refl _) _
        have hdk := hdk0.below hbw
        have hbb := hbb0.trans (hbw.mono hbb0.size)
        have HDK := Lib.hid hdk
        have HRW := Lib.hid hrw
        have HBB := Lib.hid hbb
        clear hdk hrw hbb hdk0 hbb0 hbw
        have hxl : wr.heap.size < wb.heap.size := heap_lt HBX.out
        clear hbx hwb c0 c1 c2 c3 c4 c5 c6 c7 hb
        go_upto_block 2 with fail
        go_cut [9] (fun v9 wx => ∃ (e : Int) (s' : St), v9 = .int .i64 e ∧ Hid (Out s s' e) ∧ Hid (Good s' (202 * (k + 1))) ∧ Hid (Fresh w w.heap.size s' wx))
        case first =>
          have hJ' : J = 0 ∨ J = 1 ∨ J = 2 ∨ J = 3 := by omega
          rcases hJ' with rfl | rfl | rfl | rfl
          · go_upto_region 17 with fail
            go_region_held3 (fun w' => w'.cell? ⟨wr.heap.size, 0, none⟩ = some (.int .i64 c.kind) ∧ w'.cell? ⟨wr.heap.size, 1, none⟩ = some (.int .i64 c.from_) ∧ w'.cell? ⟨wr.heap.size, 2, none⟩ = some (.int .i64 c.to_) ∧ w'.cell? ⟨wr.heap.size, 3, none⟩ = some (.int .i64 c.n) ∧ w'.cell? ⟨wr.heap.size, 4, none⟩ = some (.int .i64 c.m) ∧ w'.cell? ⟨wr.heap.size, 5, none⟩ = some (.string c.name) ∧ w'.cell? ⟨wr.heap.size, 6, none⟩ = some (.string c.data) ∧ w'.cell? ⟨wr.heap.size, 7, none⟩ = some (.bool c.raw)) (first | exact ⟨yw40, yw41, yw42, yw43, yw44, yw45, yw46, yw47⟩ | exact ⟨yw30, yw31, yw32, yw33, yw34, yw35, yw36, yw37⟩ | go_keep)
              (first
              | (go_at_call 40; refine (HNM.out _ (by first | exact hff | exact hft) _).mono ?_; rintro e w3 ⟨rfl, hb3⟩; have HB3 : Hid (Below wb.heap.size wb w3) := Lib.hid (Below.trans (Below.drew (Below.refl wb.heap.size wb)) hb3); have yw30 : w3.cell? ⟨wr.heap.size, 0, none⟩ = some (.int .i64 c.kind) := (HB3.out.cell (p := ⟨wr.heap.size, 0, none⟩) hxl).trans x0; have yw31 : w3.cell? ⟨wr.heap.size, 1, none⟩ = some (.int .i64 c.from_) := (HB3.out.cell (p := ⟨wr.heap.size, 1, none⟩) hxl).trans x1; have yw32 : w3.cell? ⟨wr.heap.size, 2, none⟩ = some (.int .i64 c.to_) := (HB3.out.cell (p := ⟨wr.heap.size, 2, none⟩) hxl).trans x2; have yw33 : w3.cell? ⟨wr.heap.size, 3, none⟩ = some (.int .i64 c.n) := (HB3.out.cell (p := ⟨wr.heap.size, 3, none⟩) hxl).trans x3; have yw34 : w3.cell? ⟨wr.heap.size, 4, none⟩ = some (.int .i64 c.m) := (HB3.out.cell (p := ⟨wr.heap.size, 4, none⟩) hxl).trans x4; have yw35 : w3.cell? ⟨wr.heap.size, 5, none⟩ = some (.string c.name) := (HB3.out.cell (p := ⟨wr.heap.size, 5, none⟩) hxl).trans x5; have yw36 : w3.cell? ⟨wr.heap.size, 6, none⟩ = some (.string c.data) := (HB3.out.cell (p := ⟨wr.heap.size, 6, none⟩) hxl).trans x6; have yw37 : w3.cell? ⟨wr.heap.size, 7, none⟩ = some (.bool c.raw) := (HB3.out.cell (p := ⟨wr.heap.size, 7, none⟩) hxl).trans x7; clear hb3)
              | (go_at_call 31; refine (append_any w.heap.size s rw ro (202 * k) (nm c c.from_) c.data _ (HDK.out.below HB3.out) HGS.out hM hnf (Nat.le_trans hds (by omega))).mono ?_; rintro e w4 hm; have HM4 := Lib.hid hm; obtain ⟨rfl, rw4, ro4, hd4, hk4⟩ := hm; have HQ4 : Hid (w4.heap[wr.heap.size]? = some (.cells c.cells 48 (0, 0))) := Lib.hid (by rw [hk4.block wr.heap.size (Nat.lt_of_lt_of_le hxl HB3.out.size) hrq, HB3.out.block _ hxl]; exact HBX.out); have HF4 : Hid (Fresh w w.heap.size _ w4) := Lib.hid ⟨rw4, ro4, hd4, fun b hb => (hk4.rw1 b hb).elim (HRW.out b) fun hq => Nat.le_trans HBB.out.size (Nat.le_trans HB3.out.size hq), hk4.toBelow HRW.out (HBB.out.trans (HB3.out.mono HBB.out.size))⟩; have yw40 : w4.cell? ⟨wr.heap.size, 0, none⟩ = some (.int .i64 c.kind) := (row_cells HQ4.out).1 0; have yw41 : w4.cell? ⟨wr.heap.size, 1, none⟩ = some (.int .i64 c.from_) := (row_cells HQ4.out).1 1; have yw42 : w4.cell? ⟨wr.heap.size, 2, none⟩ = some (.int .i64 c.to_) := (row_cells HQ4.out).1 2; have yw43 : w4.cell? ⟨wr.heap.size, 3, none⟩ = some (.int .i64 c.n) := (row_cells HQ4.out).1 3; have yw44 : w4.cell? ⟨wr.heap.size, 4, none⟩ = some (.int .i64 c.m) := (row_cells HQ4.out).1 4; have yw45 : w4.cell? ⟨wr.heap.size, 5, none⟩ = some (.string c.name) := (row_cells HQ4.out).1 5; have yw46 : w4.cell? ⟨wr.heap.size, 6, none⟩ = some (.string c.data) := (row_cells HQ4.out).1 6; have yw47 : w4.cell? ⟨wr.heap.size, 7, none⟩ = some (.bool c.raw) := (row_cells HQ4.out).1 7; clear hd4 hk4))
            all_goals
              go_wp2_with fail
              go_meet
              exact ⟨_, _, rfl, HOA, HGA, HF4⟩
          · go_upto_region 19 with fail
            go_region_held3 (fun w' => w'.cell? ⟨wr.heap.size, 0, none⟩ = some (.int .i64 c.kind) ∧ w'.cell? ⟨wr.heap.size, 1, none⟩ = some (.int .i64 c.from_) ∧ w'.cell? ⟨wr.heap.size, 2, none⟩ = some (.int .i64 c.to_) ∧ w'.cell? ⟨wr.heap.size, 3, none⟩ = some (.int .i64 c.n) ∧ w'.cell? ⟨wr.heap.size, 4, none⟩ = some (.int .i64 c.m) ∧ w'.cell? ⟨wr.heap.size, 5, none⟩ = some (.string c.name) ∧ w'.cell? ⟨wr.heap.size, 6, none⟩ = some (.string c.data) ∧ w'.cell? ⟨wr.heap.size, 7, none⟩ = some (.bool c.raw)) (first | exact ⟨yw40, yw41, yw42, yw43, yw44, yw45, yw46, yw47⟩ | exact ⟨yw50, yw51, yw52, yw53, yw54, yw55, yw56, yw57⟩ | exact ⟨yw30, yw31, yw32, yw33, yw34, yw35, yw36, yw37⟩ | go_keep)
              (first
              | (go_at_call 40; refine (HNM.out _ (by first | exact hff | exact hft) _).mono ?_; rintro e w5 ⟨rfl, hb5⟩; have HB5 : Hid (Below wb.heap.size wb w5) := Lib.hid (HB3.out.trans (hb5.mono HB3.out.size)); have yw50 : w5.cell? ⟨wr.heap.size, 0, none⟩ = some (.int .i64 c.kind) := (HB5.out.cell (p := ⟨wr.heap.size, 0, none⟩) hxl).trans x0; have yw51 : w5.cell? ⟨wr.heap.size, 1, none⟩ = some (.int .i64 c.from_) := (HB5.out.cell (p := ⟨wr.heap.size, 1, none⟩) hxl).trans x1; have yw52 : w5.cell? ⟨wr.heap.size, 2, none⟩ = some (.int .i64 c.to_) := (HB5.out.cell (p := ⟨wr.heap.size, 2, none⟩) hxl).trans x2; have yw53 : w5.cell? ⟨wr.heap.size, 3, none⟩ = some (.int .i64 c.n) := (HB5.out.cell (p := ⟨wr.heap.size, 3, none⟩) hxl).trans x3; have yw54 : w5.cell? ⟨wr.heap.size, 4, none⟩ = some (.int .i64 c.m) := (HB5.out.cell (p := ⟨wr.heap.size, 4, none⟩) hxl).trans x4; have yw55 : w5.cell? ⟨wr.heap.size, 5, none⟩ = some (.string c.name) := (HB5.out.cell (p := ⟨wr.heap.size, 5, none⟩) hxl).trans x5; have yw56 : w5.cell? ⟨wr.heap.size, 6, none⟩ = some (.string c.data) := (HB5.out.cell (p := ⟨wr.heap.size, 6, none⟩) hxl).trans x6; have yw57 : w5.cell? ⟨wr.heap.size, 7, none⟩ = some (.bool c.raw) := (HB5.out.cell (p := ⟨wr.heap.size, 7, none⟩) hxl).trans x7; clear hb5)
              | (go_at_call 40; refine (HNM.out _ (by first | exact hff | exact hft) _).mono ?_; rintro e w3 ⟨rfl, hb3⟩; have HB3 : Hid (Below wb.heap.size wb w3) := Lib.hid (Below.trans (Below.drew (Below.refl wb.heap.size wb)) hb3); have yw30 : w3.cell? ⟨wr.heap.size, 0, none⟩ = some (.int .i64 c.kind) := (HB3.out.cell (p := ⟨wr.heap.size, 0, none⟩) hxl).trans x0; have yw31 : w3.cell? ⟨wr.heap.size, 1, none⟩ = some (.int .i64 c.from_) := (HB3.out.cell (p := ⟨wr.heap.size, 1, none⟩) hxl).trans x1; have yw32 : w3.cell? ⟨wr.heap.size, 2, none⟩ = some (.int .i64 c.to_) := (HB3.out.cell (p := ⟨wr.heap.size, 2, none⟩) hxl).trans x2; have yw33 : w3.cell? ⟨wr.heap.size, 3, none⟩ = some (.int .i64 c.n) := (HB3.out.cell (p := ⟨wr.heap.size, 3, none⟩) hxl).trans x3; have yw34 : w3.cell? ⟨wr.heap.size, 4, none⟩ = some (.int .i64 c.m) := (HB3.out.cell (p := ⟨wr.heap.size, 4, none⟩) hxl).trans x4; have yw35 : w3.cell? ⟨wr.heap.size, 5, none⟩ = some (.string c.name) := (HB3.out.cell (p := ⟨wr.heap.size, 5, none⟩) hxl).trans x5; have yw36 : w3.cell? ⟨wr.heap.size, 6, none⟩ = some (.string c.data) := (HB3.out.cell (p := ⟨wr.heap.size, 6, none⟩) hxl).trans x6; have yw37 : w3.cell? ⟨wr.heap.size, 7, none⟩ = some (.bool c.raw) := (HB3.out.cell (p := ⟨wr.heap.size, 7, none⟩) hxl).trans x7; clear hb3)
              | (go_at_call 41; refine (rename_any w.heap.size s rw ro (202 * k) (nm c c.from_) (nm c c.to_) w5 (HDK.out.below HB5.out) HGS.out hM hnf hnt).mono ?_; rintro e w4 hm; have HM4 := Lib.hid hm; obtain ⟨rfl, rw4, ro4, hd4, hk4⟩ := hm; have HQ4 : Hid (w4.heap[wr.heap.size]? = some (.cells c.cells 48 (0, 0))) := Lib.hid (by rw [hk4.block wr.heap.size (Nat.lt_of_lt_of_le hxl HB5.out.size) hrq, HB5.out.block _ hxl]; exact HBX.out); have HF4 : Hid (Fresh w w.heap.size _ w4) := Lib.hid ⟨rw4, ro4, hd4, fun b hb => (hk4.rw1 b hb).elim (HRW.out b) fun hq => Nat.le_trans HBB.out.size (Nat.le_trans HB5.out.size hq), hk4.toBelow HRW.out (HBB.out.trans (HB5.out.mono HBB.out.size))⟩; have yw40 : w4.cell? ⟨wr.heap.size, 0, none⟩ = some (.int .i64 c.kind) := (row_cells HQ4.out).1 0; have yw41 : w4.cell? ⟨wr.heap.size, 1, none⟩ = some (.int .i64 c.from_) := (row_cells HQ4.out).1 1; have yw42 : w4.cell? ⟨wr.heap.size, 2, none⟩ = some (.int .i64 c.to_) := (row_cells HQ4.out).1 2; have yw43 : w4.cell? ⟨wr.heap.size, 3, none⟩ = some (.int .i64 c.n) := (row_cells HQ4.out).1 3; have yw44 : w4.cell? ⟨wr.heap.size, 4, none⟩ = some (.int .i64 c.m) := (row_cells HQ4.out).1 4; have yw45 : w4.cell? ⟨wr.heap.size, 5, none⟩ = some (.string c.name) := (row_cells HQ4.out).1 5; have yw46 : w4.cell? ⟨wr.heap.size, 6, none⟩ = some (.string c.data) := (row_cells HQ4.out).1 6; have yw47 : w4.cell? ⟨wr.heap.size, 7, none⟩ = some (.bool c.raw) := (row_cells HQ4.out).1 7; clear hd4 hk4))
            all_goals
              go_wp2_with fail
              go_meet
              exact ⟨_, _, rfl, HOR, HGR, HF4⟩
          · go_wp2_with fail
            refine (HNM.out _ hff _).mono ?_
            rintro e w3 ⟨rfl, hb3⟩
            have A3 := Lib.hid ((HFB.out.below hb3).remove HGS.out hM hnf)
            clear hb3
            go_wp2_with fail
            refine A3.out.mono ?_
            rintro e w4 ⟨rfl, HF4⟩
            go_wp2_with fail
            go_meet
            exact ⟨_, _, rfl, HOD, HGD, HF4⟩
          · have A3 := Lib.hid (HFB.out.sync HGS.out hM)
            go_wp2_with fail
            refine A3.out.mono ?_
            rintro e w4 ⟨rfl, HF4⟩
            go_wp2_with fail
            go_meet
            exact ⟨_, _, rfl, HOS, HGY, HF4⟩
        obtain ⟨e, s', rfl, HO, HG', HF'⟩ := hcut
        clear HOA HGA HOR HGR HOD HGD HOS HGY HNM HSK x0 x1 x2 x3 x4 x5 x6 x7
        have hoff := HGS.out.off
        have hls := HLS.out
        rcases HO.out with ⟨rfl, ho, hl'⟩ | ⟨he, hl', hoo⟩
        · have hne : ¬ s.left = 0 := by
            intro h
            rw [hoff, decide_eq_true h] at ho
            cases ho
          have hdn : done < N := by omega
          have q1 : ((done : Int) == (N : Int)) = false := by rw [beq_eq_false_iff_ne]; omega
          have HL' : Hid (s'.left = (N : Int) - (done + 1 : Nat)) := Lib.hid (by
            rw [hl', if_pos (by omega)]
            omega)
          clear hoff hls ho hl' hne
          go_wp2_with fail
          go_roundw
          case rel => exact ⟨k + 1, done + 1, s', by omega, by omega, by go_num, by go_num, HF', HG', HL'⟩
          case measure => simp [intOf]; omega
        · have HL' : Hid (s'.left = (N : Int) - done) := Lib.hid (by rw [hl', hls])
          have q0 : (e == 0) = false := by rw [beq_eq_false_iff_ne]; exact he
          cases ho : s.off with
          | true =>
            have e25 : e = 25 := hoo.2 ho
            subst e25
            have hz : s.left = 0 := by
              rw [ho] at hoff
              exact of_decide_eq_true hoff.symm
            have q1 : ((done : Int) == (N : Int)) = true := by rw [beq_iff_eq]; omega
            clear hoff hls ho hl' hz hoo
            go_wp2_with fail
            go_roundw
            case rel => exact ⟨k + 1, done, s', by omega, by omega, by go_num, rfl, HF', HG', HL'⟩
            case measure => simp [intOf]; omega
          | false =>
            have q25 : (e == 25) = false := by
              rw [beq_eq_false_iff_ne]
              intro h
              rw [hoo.1 h] at ho
              cases ho
            have hne : ¬ s.left = 0 := by
              intro h
              rw [hoff, decide_eq_true h] at ho
              cases ho
            have q1 : ((done : Int) == (N : Int)) = false := by rw [beq_eq_false_iff_ne]; omega
            clear hoff hls ho hl' hne hoo
            go_wp2_with fail
            go_roundw
            case rel => exact ⟨k + 1, done, s', by omega, by omega, by go_num, rfl, HF', HG', HL'⟩
            case measure => simp [intOf]; omega
      · obtain rfl : k = len := by omega
        have A8 := Lib.hid (HFR.out.crash (k := 0) (b := 0) HGS.out (by omega) (by omega) (by omega))
        have hsy : ((s.crash 0 0).sync).2 = 0 := by
          unfold St.sync
          rw [if_neg (by show ¬ false = true; decide)]
        have HSY := Lib.hid hsy
        clear hsy
        go_wp2_with fail
        refine A8.out.mono ?_
        rintro e w8 ⟨rfl, F8⟩
        have A9 := Lib.hid (F8.out.sync (HGS.out.crash 0 0) (by omega))
        rw [HSY.out] at A9
        go_wp2_with fail
        refine A9.out.mono ?_
        rintro e w9 ⟨rfl, F9⟩
        have HB9 := Lib.hid F9.out.toBelow
        go_wp2_with fail
        refine (HA.out _).mono ?_
        rintro e w10 ⟨rfl, hb10⟩
        have HB10 := Lib.hid (HB9.out.trans (hb10.mono HB9.out.size))
        clear hb10
        go_wp2_with fail
        go_ret
        exact ⟨rfl, HB10.out⟩
end Go.Proofs.Ytlaodmpdngdhjaa
