import Derived.Test.YtpcdbgfhlghocaaTx
namespace Go.Proofs.Ytpcdbgfhlghocaa
set_option linter.unusedVariables false
set_option linter.unusedSimpArgs false
open Go.RowKit

/-- Wrap of three strings in new memory. -/
theorem wrap_three (t : Int) (x y z : ByteArray) (hx : x.size ≤ maxLen) (hy : y.size ≤ maxLen) (hz : z.size ≤ maxLen) (w : World) (blk : Nat) (hb : blk = w.heap.size) :
    Calls Try.prog 13 #[.int .i64 t, .slice (some ⟨blk, 0, none⟩) 3 3] (w.alloc (.cells #[.string x, .string y, .string z] 9)) fun e w' => e = .returned (valW (wrp t [x, y, z])) ∧ Below (w.heap.size + 1) (w.alloc (.cells #[.string x, .string y, .string z] 9)) w' := by
  subst hb
  have h := wrap_any t 3 (some ⟨w.heap.size, 0, none⟩) 3 [x, y, z] (w.alloc (.cells #[.string x, .string y, .string z] 9)) (StrRow.lit w [x, y, z]) rfl (by simp) (by simp) (by intro u hu; simp at hu; rcases hu with rfl | rfl | rfl <;> assumption)
  simpa using h

theorem wrp_three (m b : ByteArray) (hm : m.size ≤ 2) (hb : b.size ≤ 1000) : ∃ S, wrp 48 [m, b, m] = (S, 0) ∧ S.size ≤ b.size + 9 := by
  have htot : tot [m, b, m] = m.size + b.size + m.size := by simp [tot]; omega
  refine ⟨⟨(hdr (48 : Int).toNat (tot [m, b, m]) ++ cat [m, b, m]).toArray⟩, ?_, ?_⟩
  · unfold wrp
    rw [if_neg (by omega), if_neg (by omega)]
  · rw [str_size, List.length_append, cat_length, htot]
    have := hdr_len (48 : Int).toNat (m.size + b.size + m.size)
    omega

set_option maxRecDepth 100000 in
set_option maxHeartbeats 2000000 in
theorem nested_yes (N : Nat) (a : Option Addr) (n c : Nat) (xs : List Int) (wd : Nat) (w : World) (hN : N ≤ 255) (hwd : wd ≤ 255) (hrow : IntRow w a xs) (hn : n = xs.length) (hnl : n ≤ 9000000000000000000)
    (hx : ∀ x ∈ xs, -9223372036854775808 ≤ x ∧ x ≤ 9223372036854775807) (h3b : ((wd : Int) % 3 == 1) = true) : Calls Try.prog 9 #[.int .u8 N, .slice a n c, .int .u8 wd] w (Ok w w) := by
  have D1 := Lib.hid (fun W b s (h : DeckAt w W b a n c) (hs : s.size ≤ 1000000) => damage_any w W b a n c xs s h hrow hn hnl hx hs)
  clear hrow hn hx
  obtain ⟨q, hq, hq2⟩ : ∃ q : Nat, (N : Int) % 20 = (q : Int) ∧ q < 20 := ⟨N % 20, by omega, by omega⟩
  go_enter Try.func9, Try.ntmps9
  go_wp2_with fail
  go_loopw [7, 8] (fun s i wr => ∃ (b : ByteArray) (k : Nat), s = .string b ∧ i = .int .i64 k ∧ k ≤ q ∧ b.size ≤ 3 + 9 * k ∧ Below w.heap.size w wr) (fun _ i _ => q - (intOf i).toNat)
  case atStart => exact ⟨⟨#[48, 0]⟩, 0, rfl, rfl, Nat.zero_le _, by decide, Below.refl _ _⟩
  case round =>
    obtain ⟨b, k, rfl, rfl, hk, hb, hbw⟩ := hrel
    have HB := Lib.hid hbw
    clear hbw
    by_cases hlt : k < q
    · by_cases hm : (wd : Int) % 5 = (k : Int) % 5
      · have hm1 : ((wd : Int) % 5 == (k : Int) % 5) = true := by rw [beq_iff_eq]; exact hm
        clear hm
        obtain ⟨S, hS, hS2⟩ := wrp_three ⟨#[5, 0]⟩ b (by decide) (by omega)
        have c1 := fun W blk h => wrap_three 48 ⟨#[5, 0]⟩ b ⟨#[5, 0]⟩ (by decide) (by unfold maxLen; omega) (by decide) W blk h
        rw [hS] at c1
        unfold valW at c1
        have C1 := Lib.hid c1
        clear c1 hS
        go_wp2_with fail
        refine (C1.out _ _ rfl).mono ?_
        rintro e w2 ⟨rfl, hb2⟩
        go_wp2_with fail
        go_roundw
        case rel => exact ⟨S, k + 1, rfl, by go_num, by omega, by omega, (HB.out.alloc HB.out.size _).trans (hb2.mono (by have := HB.out.size; omega))⟩
        case measure => simp [intOf]; omega
      · have hm1 : ((wd : Int) % 5 == (k : Int) % 5) = false := by rw [beq_eq_false_iff_ne]; exact hm
        clear hm
        obtain ⟨S, hS, hS2⟩ := wrp_three ⟨#[]⟩ b (by decide) (by omega)
        have c1 := fun W blk h => wrap_three 48 ⟨#[]⟩ b ⟨#[]⟩ (by decide) (by unfold maxLen; omega) (by decide) W blk h
        rw [hS] at c1
        unfold valW at c1
        have C1 := Lib.hid c1
        clear c1 hS
        go_wp2_with fail
        refine (C1.out _ _ rfl).mono ?_
        rintro e w2 ⟨rfl, hb2⟩
        go_wp2_with fail
        go_roundw
        case rel => exact ⟨S, k + 1, rfl, by go_num, by omega, by omega, (HB.out.alloc HB.out.size _).trans (hb2.mono (by have := HB.out.size; omega))⟩
        case measure => simp [intOf]; omega
    · have c2 := fun W => check_any b W (by unfold maxLen; omega)
      have c3 := fun W => rcheckall_any b W (by unfold maxLen; omega)
      have hb9 : b.size ≤ 300 := by omega
      generalize check b = ck at *
      have C2 := Lib.hid c2
      have C3 := Lib.hid c3
      clear c2 c3 hk hb
      go_wp2_with fail
      refine (awake_any _).mono ?_
      rintro e w2 ⟨rfl, hb2⟩
      have hB2 := HB.out.trans (hb2.mono HB.out.size)
      go_wp2_with fail
      refine (C2.out _).mono ?_
      rintro e w3 ⟨rfl, hb3⟩
      have hB3 := hB2.trans (hb3.mono hB2.size)
      go_wp2_with fail
      refine (C3.out _).mono ?_
      rintro e w4 ⟨rfl, hb4⟩
      have hB4 := hB3.trans (hb4.mono hB3.size)
      go_wp2_with fail
      refine (new_any _ _ _ _).mono ?_
      rintro e w5 ⟨rfl, rfl⟩
      have hd : DeckAt w (w4.alloc (.cells #[.slice a n c, .int .i64 0] 62)) w4.heap.size a n c := ⟨hB4.size, by simp, hB4.alloc hB4.size _, 0, Nat.zero_le _, heap_alloc_new w4 _⟩
      have HD := Lib.hid hd
      clear hd
      go_wp2_with fail
      refine (D1.out _ _ _ HD.out (by omega)).mono ?_
      rintro e w6 ⟨S, rfl, hS, hB6⟩
      have c4 := fun W => same_any S W (by omega)
      have C4 := Lib.hid c4
      clear c4
      go_wp2_with fail
      refine (C4.out _).mono ?_
      rintro e w7 ⟨rfl, hb7⟩
      go_wp2_with fail
      go_ret
      exact ⟨rfl, hB6.trans (hb7.mono hB6.size)⟩

set_option maxRecDepth 100000 in
set_option maxHeartbeats 2000000 in
theorem nested_no (N : Nat) (a : Option Addr) (n c : Nat) (xs : List Int) (wd : Nat) (w : World) (hN : N ≤ 255) (hwd : wd ≤ 255) (hrow : IntRow w a xs) (hn : n = xs.length) (hnl : n ≤ 9000000000000000000)
    (hx : ∀ x ∈ xs, -9223372036854775808 ≤ x ∧ x ≤ 9223372036854775807) (h3b : ((wd : Int) % 3 == 1) = false) : Calls Try.prog 9 #[.int .u8 N, .slice a n c, .int .u8 wd] w (Ok w w) := by
  have D1 := Lib.hid (fun W b s (h : DeckAt w W b a n c) (hs : s.size ≤ 1000000) => damage_any w W b a n c xs s h hrow hn hnl hx hs)
  clear hrow hn hx
  obtain ⟨q, hq, hq2⟩ : ∃ q : Nat, (N : Int) % 20 = (q : Int) ∧ q < 20 := ⟨N % 20, by omega, by omega⟩
  go_enter Try.func9, Try.ntmps9
  go_wp2_with fail
  go_loopw [7, 8] (fun s i wr => ∃ (b : ByteArray) (k : Nat), s = .string b ∧ i = .int .i64 k ∧ k ≤ q ∧ b.size ≤ 3 + 9 * k ∧ Below w.heap.size w wr) (fun _ i _ => q - (intOf i).toNat)
  case atStart => exact ⟨⟨#[4, 1, 120]⟩, 0, rfl, rfl, Nat.zero_le _, by decide, Below.refl _ _⟩
  case round =>
    obtain ⟨b, k, rfl, rfl, hk, hb, hbw⟩ := hrel
    have HB := Lib.hid hbw
    clear hbw
    by_cases hlt : k < q
    · by_cases hm : (wd : Int) % 5 = (k : Int) % 5
      · have hm1 : ((wd : Int) % 5 == (k : Int) % 5) = true := by rw [beq_iff_eq]; exact hm
        clear hm
        obtain ⟨S, hS, hS2⟩ := wrp_three ⟨#[5, 0]⟩ b (by decide) (by omega)
        have c1 := fun W blk h => wrap_three 48 ⟨#[5, 0]⟩ b ⟨#[5, 0]⟩ (by decide) (by unfold maxLen; omega) (by decide) W blk h
        rw [hS] at c1
        unfold valW at c1
        have C1 := Lib.hid c1
        clear c1 hS
        go_wp2_with fail
        refine (C1.out _ _ rfl).mono ?_
        rintro e w2 ⟨rfl, hb2⟩
        go_wp2_with fail
        go_roundw
        case rel => exact ⟨S, k + 1, rfl, by go_num, by omega, by omega, (HB.out.alloc HB.out.size _).trans (hb2.mono (by have := HB.out.size; omega))⟩
        case measure => simp [intOf]; omega
      · have hm1 : ((wd : Int) % 5 == (k : Int) % 5) = false := by rw [beq_eq_false_iff_ne]; exact hm
        clear hm
        obtain ⟨S, hS, hS2⟩ := wrp_three ⟨#[]⟩ b (by decide) (by omega)
        have c1 := fun W blk h => wrap_three 48 ⟨#[]⟩ b ⟨#[]⟩ (by decide) (by unfold maxLen; omega) (by decide) W blk h
        rw [hS] at c1
        unfold valW at c1
        have C1 := Lib.hid c1
        clear c1 hS
        go_wp2_with fail
        refine (C1.out _ _ rfl).mono ?_
        rintro e w2 ⟨rfl, hb2⟩
        go_wp2_with fail
        go_roundw
        case rel => exact ⟨S, k + 1, rfl, by go_num, by omega, by omega, (HB.out.alloc HB.out.size _).trans (hb2.mono (by have := HB.out.size; omega))⟩
        case measure => simp [intOf]; omega
    · have c2 := fun W => check_any b W (by unfold maxLen; omega)
      have c3 := fun W => rcheckall_any b W (by unfold maxLen; omega)
      have hb9 : b.size ≤ 300 := by omega
      generalize check b = ck at *
      have C2 := Lib.hid c2
      have C3 := Lib.hid c3
      clear c2 c3 hk hb
      go_wp2_with fail
      refine (awake_any _).mono ?_
      rintro e w2 ⟨rfl, hb2⟩
      have hB2 := HB.out.trans (hb2.mono HB.out.size)
      go_wp2_with fail
      refine (C2.out _).mono ?_
      rintro e w3 ⟨rfl, hb3⟩
      have hB3 := hB2.trans (hb3.mono hB2.size)
      go_wp2_with fail
      refine (C3.out _).mono ?_
      rintro e w4 ⟨rfl, hb4⟩
      have hB4 := hB3.trans (hb4.mono hB3.size)
      go_wp2_with fail
      refine (new_any _ _ _ _).mono ?_
      rintro e w5 ⟨rfl, rfl⟩
      have hd : DeckAt w (w4.alloc (.cells #[.slice a n c, .int .i64 0] 62)) w4.heap.size a n c := ⟨hB4.size, by simp, hB4.alloc hB4.size _, 0, Nat.zero_le _, heap_alloc_new w4 _⟩
      have HD := Lib.hid hd
      clear hd
      go_wp2_with fail
      refine (D1.out _ _ _ HD.out (by omega)).mono ?_
      rintro e w6 ⟨S, rfl, hS, hB6⟩
      have c4 := fun W => same_any S W (by omega)
      have C4 := Lib.hid c4
      clear c4
      go_wp2_with fail
      refine (C4.out _).mono ?_
      rintro e w7 ⟨rfl, hb7⟩
      go_wp2_with fail
      go_ret
      exact ⟨rfl, hB6.trans (hb7.mono hB6.size)⟩

theorem law_TlvNested (N : Nat) (a : Option Addr) (n c : Nat) (xs : List Int) (wd : Nat) (w : World) (hN : N ≤ 255) (hwd : wd ≤ 255) (hrow : IntRow w a xs) (hn : n = xs.length) (hnl : n ≤ 9000000000000000000)
    (hx : ∀ x ∈ xs, -9223372036854775808 ≤ x ∧ x ≤ 9223372036854775807) : Calls Try.prog 9 #[.int .u8 N, .slice a n c, .int .u8 wd] w (Ok w w) := by
  cases h : ((wd : Int) % 3 == 1) with
  | true => exact nested_yes N a n c xs wd w hN hwd hrow hn hnl hx h
  | false => exact nested_no N a n c xs wd w hN hwd hrow hn hnl hx h
end Go.Proofs.Ytpcdbgfhlghocaa
