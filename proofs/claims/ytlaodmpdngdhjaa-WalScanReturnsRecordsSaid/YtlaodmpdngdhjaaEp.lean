/- contents: the contents of all files, by name. -/
import Derived.Test.YtlaodmpdngdhjaaEn
namespace Go.Proofs.Ytlaodmpdngdhjaa
set_option linter.unusedVariables false
set_option linter.unusedSimpArgs false
open Go.RowKit

def conts (s : St) : List ByteArray := if s.names.all (fun n => decide ((s.read n).2 = 0)) then s.names.flatMap (fun n => [n, (s.read n).1]) else []
theorem conts_no {s : St} {k : Nat} {x : ByteArray} (hk : s.names[k]? = some x) (h : (s.read x).2 ≠ 0) : conts s = [] := by
  unfold conts
  have : s.names.all (fun n => decide ((s.read n).2 = 0)) = false := by
    rw [List.all_eq_false]
    obtain ⟨hlt, rfl⟩ := List.getElem?_eq_some_iff.1 hk
    exact ⟨_, List.getElem_mem hlt, by simpa using h⟩
  rw [this]
  rfl
theorem conts_yes {s : St} (h : ∀ j x, j < s.names.length → s.names[j]? = some x → (s.read x).2 = 0) : conts s = s.names.flatMap (fun n => [n, (s.read n).1]) := by
  unfold conts
  rw [if_pos]
  rw [List.all_eq_true]
  intro x hx
  obtain ⟨i, hi, rfl⟩ := List.getElem_of_mem hx
  exact decide_eq_true (h i _ hi (by simp))
theorem cont_len (s : St) (k : Nat) : ((s.names.take k).flatMap (fun n => [n, (s.read n).1])).length = (s.names.take k).length * 2 := by
  induction s.names.take k with
  | nil => rfl
  | cons a r ih => simp only [List.flatMap_cons, List.length_append, ih, List.length_cons, List.length_nil]; omega
theorem cont_snoc (s : St) (k : Nat) (x : ByteArray) (h : s.names[k]? = some x) : (s.names.take (k + 1)).flatMap (fun n => [n, (s.read n).1]) = (s.names.take k).flatMap (fun n => [n, (s.read n).1]) ++ [x, (s.read x).1] := by
  rw [List.take_add_one, h]
  simp
theorem names_keys {s : St} {x : ByteArray} (h : x ∈ s.names) : ∃ p ∈ s.all, p.1 = x := by
  unfold St.names at h
  split at h
  · simp at h
  · have := (srtB_perm _).mem_iff.1 h
    obtain ⟨p, hp, e⟩ := List.mem_map.1 this
    exact ⟨p, hp, e⟩
set_option maxRecDepth 100000 in
set_option maxHeartbeats 4000000 in
theorem contents_any (d : Nat) (s : St) (rw ro : Nat → Prop) (M : Nat) (w : World) (h : DiskAt w d s rw ro) (gs : Good s M) (hM : M ≤ 500000) (hns : ∀ x ∈ s.names, x.size ≤ maxLen) :
    Calls Try.prog 38 #[ptr d] w fun e w' => ∃ v, e = .returned v ∧ RowS w' v (conts s) ∧ Below w.heap.size w w' ∧ (∀ b, v.ownBlock = some b → w.heap.size ≤ b) := by
  obtain ⟨i0, hi, hi0, hi1, hi2⟩ := info_parts info9
  have HD := Lib.hid h
  have HG := Lib.hid gs
  have HNS := Lib.hid hns
  have HN := Lib.hid (names_any d s rw ro M w h gs hM)
  have hnl := names_len gs
  obtain ⟨n, hn⟩ : ∃ n, s.names.length = n := ⟨_, rfl⟩
  have HNL := Lib.hid hn
  rw [hn] at hnl HN
  clear h gs hn hns
  go_enter Try.func38, Try.ntmps38
  go_wp2_with fail
  refine HN.out.mono ?_
  rintro e w1 ⟨v1, rfl, hr1, hb1⟩
  have HR1 := Lib.hid (RowS.of_own hr1 HNL.out.symm)
  have HB1 := Lib.hid hb1
  obtain ⟨a1, c1, rfl⟩ := own_slice hr1
  have HD1 := Lib.hid (HD.out |>.below hb1)
  clear hr1 hb1
  go_wp2_with fail
  go_loopw [3, 5] (fun v i wr => ∃ k : Nat, k ≤ n ∧ i = .int .i64 k ∧ Hid (wr.ownsRow w1.heap.size 9 1 v (k * 2) (strs ((s.names.take k).flatMap (fun n => [n, (s.read n).1])))) ∧ Hid (Below w1.heap.size w1 wr) ∧ Hid (∀ j x, j < k → s.names[j]? = some x → (s.read x).2 = 0)) (fun _ i _ => n - (intOf i).toNat)
  case atStart => exact ⟨0, Nat.zero_le _, rfl, Lib.hid (World.ownsRow_nil _ _ _ _), Lib.hid (Below.refl _ _), Lib.hid (by intro j x h; omega)⟩
  case round =>
    obtain ⟨k, hk, rfl, HO, HB, HA⟩ := hrel
    by_cases hlt : k < n
    · obtain ⟨x, hx⟩ : ∃ x, s.names[k]? = some x := ⟨s.names[k]'(by rw [HNL.out]; exact hlt), by simp [HNL.out, hlt]⟩
      obtain ⟨g, o, rfl, hg, c0⟩ := HR1.out.get hx
      have hxs := HNS.out x (List.mem_of_getElem? hx)
      have hck : wr.cell? ⟨g, o + k, none⟩ = some (.string x) := (HB.out.cell (p := ⟨g, o + k, none⟩) hg).trans c0
      have HRD := Lib.hid (read_any d s rw ro M x wr (HD1.out.below HB.out) HG.out hM hxs)
      obtain ⟨y, q, hyq⟩ : ∃ y q, s.read x = (y, q) := ⟨_, _, rfl⟩
      rw [hyq] at HRD
      have HX := Lib.hid hx
      have HYQ := Lib.hid hyq
      clear hx c0 hyq
      by_cases hq : q = 0
      · subst hq
        have SX : Hid (∀ W : World, Src (W.alloc (.cells #[.string x, .string y] 9)) 1 (.slice (some ⟨W.heap.size, 0, none⟩) 2 2) 2 (strs [x, y])) := Lib.hid fun W => .inr ⟨_, _, rfl, rfl, cells_new' W [.string x, .string y] 9⟩
        have hk5 : k * 2 ≤ 1000000 := by omega
        go_wp2_with fail
        refine HRD.out.mono ?_
        rintro e w3 ⟨rfl, hw3⟩
        have hw3' := hw3.symm
        subst hw3'
        go_wp2_with (at_builtin; go_loud (refine wpList_app rfl (.tmp 27) (.tmp 33) 22 rfl w1.heap.size 9 i0 (.string ⟨#[]⟩) 1 16 Try.underlying22 hi hi0 hi1 hi2 rfl (by omega) u3 (k * 2) (strs ((s.names.take k).flatMap (fun n => [n, (s.read n).1]))) rfl (HO.out.alloc _) (.slice (some ⟨wr.heap.size, 0, none⟩) 2 2) 2 (strs [x, y]) rfl (SX.out wr) (strs_one _) (by unfold maxLen; omega) (by omega) (by have := HB.out.size; simp; omega) ?_; intro v9 w9 o9 g9 q9))
        go_roundw
        case rel => exact ⟨k + 1, by omega, by go_num, Lib.hid (by
          rw [cont_snoc s k x HX.out, HYQ.out]
          have := o9.out
          rw [show k * 2 + 2 = (k + 1) * 2 by omega] at this
          simpa [strs] using this), Lib.hid ((HB.out.alloc HB.out.size _).grown g9.out (by have := HB.out.size; simp; omega) (fun j hj => (HO.out.lt j hj).1)), Lib.hid (by
            intro j z hj hz
            by_cases e : j = k
            · subst e
              rw [HX.out] at hz
              cases hz
              rw [HYQ.out]
            · exact HA.out j z (by omega) hz)⟩
        case measure => simp [intOf]; omega
      · have HC : Hid (conts s = []) := Lib.hid (conts_no HX.out (by rw [HYQ.out]; exact hq))
        have hb0 : (q == 0) = false := by rw [beq_eq_false_iff_ne]; exact hq
        have hb2 : (q != 0) = true := by rw [bne_iff_ne]; exact hq
        clear hq
        go_wp2_with fail
        refine HRD.out.mono ?_
        rintro e w3 ⟨rfl, hw3⟩
        have hw3' := hw3.symm
        subst hw3'
        go_wp2_with fail
        go_ret
        exact ⟨_, rfl, by rw [HC.out]; exact .inl ⟨rfl, none, 0, rfl⟩, HB1.out.trans (HB.out.mono HB1.out.size), fun b e => by cases e⟩
    · obtain rfl : k = n := by omega
      have HC : Hid (conts s = (s.names.take k).flatMap (fun n => [n, (s.read n).1])) := Lib.hid (by
        rw [conts_yes (by rw [HNL.out]; exact HA.out), ← HNL.out, List.take_length])
      have HL : Hid (k * 2 = (conts s).length) := Lib.hid (by
        rw [HC.out, cont_len, List.length_take, HNL.out, Nat.min_self])
      go_wp2_with fail
      go_ret
      refine ⟨_, rfl, RowS.of_own (base := w1.heap.size) (n := k * 2) ?_ HL.out, HB1.out.trans (HB.out.mono HB1.out.size), fun b e => Nat.le_trans HB1.out.size (HO.out.lt b e).1⟩
      rw [HC.out]
      exact HO.out
end Go.Proofs.Ytlaodmpdngdhjaa
