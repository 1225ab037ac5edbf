/- agree: all queries agree on disks of one state. -/
import Derived.Test.YtlaodmpdngdhjaaEl
namespace Go.Proofs.Ytlaodmpdngdhjaa
set_option linter.unusedVariables false
set_option linter.unusedSimpArgs false
open Go.RowKit

theorem same_true (v1 v2 : Value) (L : List ByteArray) (w : World) (h1 : RowS w v1 L) (h2 : RowS w v2 L) (l1 : L.length ≤ 1000000) :
    Calls Try.prog 29 #[v1, v2] w fun e w' => e = .returned (.bool true) ∧ Below w.heap.size w w' := by
  have := same_any v1 v2 L L w h1 h2 l1 l1
  rw [decide_eq_true rfl] at this
  exact this
theorem names_len {s : St} {M : Nat} (h : Good s M) : s.names.length ≤ M := by
  unfold St.names
  split
  · exact Nat.zero_le _
  · rw [srtB_length, List.length_map]
    have := h.szAll
    omega
def cl0 : Cl := ⟨0, 0, 0, 0, 0, ⟨#[]⟩, ⟨#[]⟩, false⟩
set_option maxRecDepth 100000 in
set_option maxHeartbeats 4000000 in
theorem agree_any (d r : Nat) (s : St) (rw ro : Nat → Prop) (M : Nat) (w : World) (h : Two w d s r s rw ro) (gs : Good s M) (hM : M ≤ 500000) :
    Calls Try.prog 37 #[ptr d, ptr r] w fun e w' => e = .returned (.bool true) ∧ Below w.heap.size w w' := by
  have HT := Lib.hid h
  have HG := Lib.hid gs
  have HRN := Lib.hid (h.rnames gs hM)
  have hnl : s.names.length ≤ 1000000 := Nat.le_trans (names_len gs) (by omega)
  have HNL := Lib.hid hnl
  have HNM := Lib.hid fun k (hk : fits64 k) W => name_any cl0 k W hk
  have HNS : Hid (∀ k, (nm cl0 k).size ≤ maxLen) := Lib.hid fun k => nm_size cl0 k (by decide)
  clear h gs hnl
  go_enter Try.func37, Try.ntmps37
  go_wp2_with fail
  refine HRN.out.mono ?_
  rintro e w1 ⟨v5, rfl, hr5, hb5⟩
  have HR5 := Lib.hid hr5
  have HB5 := Lib.hid hb5
  have HT1 := Lib.hid (HT.out.below hb5)
  obtain ⟨a, cp, k2, hr1⟩ := HT1.out.ops
  have k2d : w1.drew.cell? ⟨r, 2, none⟩ = some (.slice a s.ops.length cp) := k2
  clear hr5 hb5
  go_upto_region 2 with fail
  go_cut [28] (fun v wx => v = .bool false ∧ Hid (Below w1.heap.size w1 wx))
  case first =>
    go_region_held3 (fun w' => w'.cell? ⟨r, 2, none⟩ = some (.slice a s.ops.length cp)) (first | exact yw4 | exact yw3 | go_keep)
      (first
      | (go_at_call 45; refine ((HT1.out.below (Below.drew (Below.refl _ _))).names HG.out hM).mono ?_; rintro e w3 ⟨v3, rfl, hr3, hb3⟩; have HR3 := Lib.hid hr3; have HB3 : Hid (Below w1.heap.size w1 w3) := Lib.hid (Below.trans (Below.drew (Below.refl w1.heap.size w1)) hb3); have yw3 : w3.cell? ⟨r, 2, none⟩ = some (.slice a s.ops.length cp) := (HB3.out.cell (p := ⟨r, 2, none⟩) hr1).trans k2; clear hr3 hb3)
      | (go_at_call 29; refine (same_true _ _ s.names _ HR3.out (HR5.out.below HB3.out) HNL.out).mono ?_; rintro e w4 ⟨rfl, hb4⟩; have HB4 : Hid (Below w1.heap.size w1 w4) := Lib.hid (HB3.out.trans (hb4.mono HB3.out.size)); have yw4 : w4.cell? ⟨r, 2, none⟩ = some (.slice a s.ops.length cp) := (HB4.out.cell (p := ⟨r, 2, none⟩) hr1).trans k2; clear hb4)
      | (go_at_call 39; refine (HT1.out.below HB4.out).pending.mono ?_; rintro e w5 ⟨rfl, hw5⟩; subst hw5))
    all_goals
      go_wp2_with fail
      go_meet
      exact ⟨rfl, HB4⟩
  obtain ⟨rfl, HBC⟩ := hcut
  have HTC := Lib.hid (HT1.out.below HBC.out)
  have HBW : Hid (Below w.heap.size w wc) := Lib.hid (HB5.out.trans (HBC.out.mono HB5.out.size))
  clear k2 k2d hr1
  go_wp2_with fail
  go_loopw [6] (fun i wr => ∃ k : Nat, k ≤ 6 ∧ i = .int .i64 k ∧ Hid (Below wc.heap.size wc wr)) (fun i _ => 6 - (intOf i).toNat)
  case atStart => exact ⟨0, Nat.zero_le _, rfl, Lib.hid (Below.refl _ _)⟩
  case round =>
    obtain ⟨k, hk, rfl, HB⟩ := hrel
    by_cases hlt : k < 6
    · have hk64 : fits64 (k : Int) := ⟨by omega, by omega⟩
      obtain ⟨x, hx⟩ : ∃ x, nm cl0 k = x := ⟨_, rfl⟩
      have HK := Lib.hid (HNM.out k hk64)
      have hxs := HNS.out k
      rw [hx] at HK hxs
      obtain ⟨p, hp⟩ : ∃ p, s.read x = p := ⟨_, rfl⟩
      have HP := Lib.hid hp
      clear hx hp
      go_wp2_with fail
      refine (HK.out _).mono ?_
      rintro e w3 ⟨rfl, hb3⟩
      have HB3 : Hid (Below wc.heap.size wc w3) := Lib.hid (HB.out.trans (hb3.mono HB.out.size))
      have HR3 := Lib.hid ((HTC.out.below HB3.out).read HG.out hM hxs)
      have HQ3 := Lib.hid ((HTC.out.below HB3.out).rread HG.out hM hxs)
      rw [HP.out] at HR3 HQ3
      clear hb3
      go_wp2_with fail
      refine HR3.out.mono ?_
      rintro e w4 ⟨rfl, hw4⟩
      have hw4' := hw4.symm
      subst hw4'
      go_wp2_with fail
      refine HQ3.out.mono ?_
      rintro e w5 ⟨rfl, hb5⟩
      have HB5' : Hid (Below wc.heap.size wc w5) := Lib.hid (HB3.out.trans (hb5.mono HB3.out.size))
      clear hb5
      go_wp2_with fail
      go_roundw
      case rel => exact ⟨k + 1, by omega, by go_num, HB5'⟩
      case measure => simp [intOf]; omega
    · obtain rfl : k = 6 := by omega
      go_wp2_with fail
      go_ret
      exact ⟨rfl, HBW.out.trans (HB.out.mono HBW.out.size)⟩
end Go.Proofs.Ytlaodmpdngdhjaa
