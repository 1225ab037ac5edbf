import Derived.Test.YtpcdbgfhlghocaaTe
namespace Go.Proofs.Ytpcdbgfhlghocaa
set_option linter.unusedVariables false
set_option linter.unusedSimpArgs false
open Go.RowKit

/-- 'Few': all is small. -/
theorem few_any (n : Nat) (a : Option Addr) (c : Nat) (xs : List ByteArray) (m z : Nat) (w : World) (hrow : StrRow w a xs) (hn : n = xs.length) (hl : xs.length ≤ 140737488355328)
    (hsz : ∀ x ∈ xs, x.size ≤ maxLen) (hm : m ≤ 1000) (hz : z ≤ 1000) :
    Calls Try.prog 11 #[.slice a n c, .int .i64 m, .int .i64 z] w fun e w' => e = .returned (.bool (decide (xs.length ≤ m) && xs.all fun x => decide (x.size ≤ z))) ∧ w = w' := by
  have HR := Lib.hid hrow
  have HN := Lib.hid hn
  have HZ := Lib.hid hsz
  by_cases hbig : m < n
  · have hf : (decide (xs.length ≤ m) && xs.all fun x => decide (x.size ≤ z)) = false := by simp; intro h; omega
    have HF := Lib.hid hf
    clear hf hn hrow hsz hl
    go_enter Try.func11, Try.ntmps11
    go_wp2
    go_ret
    exact ⟨by rw [HF.out]; rfl, rfl⟩
  · have hle : n ≤ m := by omega
    have hl' : n ≤ 140737488355328 := by omega
    clear hn hrow hsz hl
    go_enter Try.func11, Try.ntmps11
    go_wp2
    go_loop [15] (fun i => ∃ k : Nat, k ≤ n ∧ i = .int .i64 k ∧ ∀ x ∈ xs.take k, x.size ≤ z) (fun i => n - (intOf i).toNat)
    case atStart => exact ⟨0, Nat.zero_le _, rfl, by simp⟩
    case round =>
      obtain ⟨k, hk, rfl, hall⟩ := hrel
      have HA := Lib.hid hall
      clear hall
      by_cases hlt : k < n
      · have hlen : k < xs.length := by rw [← HN.out]; exact hlt
        obtain ⟨x, hx⟩ : ∃ x, xs[k]? = some x := ⟨xs[k], by simp [hlen]⟩
        obtain ⟨bk, o, rfl, hbk, hcs⟩ : ∃ bk o, a = some ⟨bk, o, none⟩ ∧ bk < w.heap.size ∧ ∀ j x, xs[j]? = some x → w.cell? ⟨bk, o + j, none⟩ = some (.string x) := by
          rcases HR.out with h | h
          · rw [h] at hlen; simp at hlen
          · exact h
        have hck := hcs k x hx
        have hxm := List.mem_of_getElem? hx
        have hxz := HZ.out x hxm
        unfold maxLen at hxz
        have HX := Lib.hid hx
        have HXM := Lib.hid hxm
        clear hcs hx hxm hlen
        by_cases hxs : z < x.size
        · have hf : (decide (xs.length ≤ m) && xs.all fun x => decide (x.size ≤ z)) = false := by
            rw [Bool.and_eq_false_iff]
            right
            rw [List.all_eq_false]
            exact ⟨x, HXM.out, by simp; exact hxs⟩
          have HF := Lib.hid hf
          clear hf
          go_wp2
          go_ret
          exact ⟨by rw [HF.out]; rfl, rfl⟩
        · go_wp2
          go_round
          case rel => exact ⟨k + 1, by omega, by go_num, by
            rw [List.take_add_one, HX.out]
            intro y hy
            simp only [Option.toList, List.mem_append, List.mem_singleton] at hy
            rcases hy with hy | rfl
            · exact HA.out y hy
            · omega⟩
          case measure => simp [intOf]; omega
      · obtain rfl : k = n := by omega
        have hf : (decide (xs.length ≤ m) && xs.all fun x => decide (x.size ≤ z)) = true := by
          have h1 := HN.out
          have h2 := HA.out
          rw [h1, List.take_length] at h2
          rw [Bool.and_eq_true, List.all_eq_true]
          exact ⟨by simp; omega, fun x hx => by simpa using h2 x hx⟩
        have HF := Lib.hid hf
        clear hf
        go_wp2
        go_ret
        exact ⟨by rw [HF.out]; rfl, rfl⟩

theorem tot_le (xs : List ByteArray) (z : Nat) (h : ∀ x ∈ xs, x.size ≤ z) : tot xs ≤ xs.length * z := by
  induction xs with
  | nil => simp [tot]
  | cons x r ih =>
    have h1 := h x (by simp)
    have h2 := ih fun y hy => h y (by simp [hy])
    unfold tot at *
    simp only [List.map_cons, List.sum_cons, List.length_cons]
    rw [Nat.succ_mul]
    omega
def fewB (xs : List ByteArray) (m z : Nat) : Bool := decide (xs.length ≤ m) && xs.all fun x => decide (x.size ≤ z)
theorem fewB_true {xs : List ByteArray} {m z : Nat} (h : fewB xs m z = true) : xs.length ≤ m ∧ ∀ x ∈ xs, x.size ≤ z := by
  unfold fewB at h
  rw [Bool.and_eq_true, List.all_eq_true] at h
  exact ⟨by simpa using h.1, fun x hx => by simpa using h.2 x hx⟩

/-- The law's walk. -/
def Ok (W w : World) (e : Ending) (w' : World) : Prop := e = .returned (.bool true) ∧ Below W.heap.size w w'

set_option maxHeartbeats 1000000 in
theorem law_TlvWrap (t : Int) (n : Nat) (a : Option Addr) (c : Nat) (xs : List ByteArray) (w : World) (hrow : StrRow w a xs) (hn : n = xs.length) (hc : xs.length ≤ c) (hl : xs.length ≤ 140737488355328)
    (hsz : ∀ x ∈ xs, x.size ≤ maxLen) : Calls Try.prog 3 #[.int .i64 t, .slice a n c] w (Ok w w) := by
  have HR := Lib.hid hrow
  have HN := Lib.hid hn
  have hfew := few_any n a c xs 20 400 w hrow hn hl hsz (by decide) (by decide)
  cases hf : fewB xs 20 400 with
  | false =>
    rw [show (decide (xs.length ≤ 20) && xs.all fun x => decide (x.size ≤ 400)) = false from hf] at hfew
    have HFEW := Lib.hid hfew
    clear hfew hf hn hrow hsz hl hc
    go_enter Try.func3, Try.ntmps3
    go_wp2_with (first | (go_at_call 11; refine HFEW.out.mono ?_; rintro e w1 ⟨rfl, rfl⟩) | (go_at_call 12; refine (awake_any _).mono ?_; rintro e w1 ⟨rfl, hb1⟩))
    go_ret
    exact ⟨rfl, hb1⟩
  | true =>
    rw [show (decide (xs.length ≤ 20) && xs.all fun x => decide (x.size ≤ 400)) = true from hf] at hfew
    have HFEW := Lib.hid hfew
    have h2 := fewB_true hf
    have htot : tot xs ≤ 140737488355328 := by
      have := tot_le xs 400 h2.2
      have := Nat.mul_le_mul_right 400 h2.1
      omega
    have W1 := Lib.hid (fun (W : World) (h : StrRow W a xs) (t : Int) => wrap_any t n a c xs W h hn hc hl hsz)
    have W2 := Lib.hid (fun (W : World) (h : StrRow W a xs) (t : Int) => rwrap_any t n a c xs W h hn hl htot)
    clear hfew hf hn hrow hsz hl hc htot h2
    go_enter Try.func3, Try.ntmps3
    go_wp2_with (first | (go_at_call 11; refine HFEW.out.mono ?_; rintro e w1 ⟨rfl, rfl⟩))
    obtain ⟨t1, ht1⟩ : ∃ x, x = bits BinOp.and IntKind.i64 t 255 := ⟨_, rfl⟩
    obtain ⟨t2, ht2⟩ : ∃ x, x = bits BinOp.and IntKind.i64 t 31 := ⟨_, rfl⟩
    rw [← ht1, ← ht2]
    clear ht1 ht2
    go_loopw [22] (fun i wr => ∃ k : Nat, k ≤ 3 ∧ i = .int .i64 k ∧ Below (w.heap.size + 1) (w.alloc (.cells #[.int .i64 t, .int .i64 t1, .int .i64 t2] 3)) wr) (fun i _ => 3 - (intOf i).toNat)
    case atStart => exact ⟨0, Nat.zero_le _, rfl, Below.refl _ _⟩
    case round =>
      obtain ⟨k, hk, rfl, hb⟩ := hrel
      have HB := Lib.hid hb
      by_cases hlt : k < 3
      · obtain ⟨tk, htk⟩ : ∃ tk : Int, wr.cell? ⟨w.heap.size, k, none⟩ = some (.int .i64 tk) := by
          rw [hb.cell (p := ⟨w.heap.size, k, none⟩) (by simp)]
          obtain rfl | rfl | rfl : k = 0 ∨ k = 1 ∨ k = 2 := by omega
          · exact ⟨t, by unfold World.cell?; rw [heap_alloc_new w _]; rfl⟩
          · exact ⟨t1, by unfold World.cell?; rw [heap_alloc_new w _]; rfl⟩
          · exact ⟨t2, by unfold World.cell?; rw [heap_alloc_new w _]; rfl⟩
        have hbw : Below w.heap.size w wr := ((Below.refl _ _).alloc (Nat.le_refl _) _).trans (hb.mono (Nat.le_succ _))
        have HBW := Lib.hid hbw
        have c1 := W1.out wr (HR.out.below hbw) tk
        have c2 := fun W (h : Below w.heap.size w W) => W2.out W (HR.out.below h) tk
        unfold valW at c1 c2
        generalize wrp tk xs = r at *
        obtain ⟨rs, re⟩ := r
        have C1 := Lib.hid c1
        have C2 := Lib.hid c2
        clear c1 c2 hb hbw
        go_wp2_with (first | (go_at_call 13; refine C1.out.mono ?_; rintro e w2 ⟨rfl, hb2⟩) | (go_at_call 14; refine (C2.out _ (HBW.out.trans (hb2.mono HBW.out.size))).mono ?_; rintro e w3 ⟨rfl, hb3⟩))
        go_roundw
        case rel => exact ⟨k + 1, by omega, by go_num, HB.out.trans ((hb2.mono (by have := HB.out.size; simpa using this)).trans (hb3.mono (by have := HB.out.size; have h2 := hb2.size; simp at this; omega)))⟩
        case measure => simp [intOf]; omega
      · obtain rfl : k = 3 := by omega
        go_wp2_with (first | (go_at_call 12; refine (awake_any _).mono ?_; rintro e w1 ⟨rfl, hb1⟩))
        go_ret
        exact ⟨rfl, (((Below.refl _ _).alloc (Nat.le_refl _) _).trans (HB.out.mono (Nat.le_succ _))).trans (hb1.mono (by have := HB.out.size; simp at this; omega))⟩
end Go.Proofs.Ytpcdbgfhlghocaa
