import Derived.Test.YtpcdbgfhlghocaaProg
import Derived.Test.YtpcdbgfhlghocaaShelf
import Derived.Test.YtpcdbgfhlghocaaTz
import Derived.Test.YtpcdbgfhlghocaaTq
import Derived.WalkKit
import Derived.OwnWalk
import Derived.Deep.RegionWith
import Derived.Lib.Hide
import Derived.WalkSpells
import Derived.WalkLawsBesides
namespace Go.Proofs.Ytpcdbgfhlghocaa
set_option linter.unusedVariables false
set_option linter.unusedSimpArgs false
open Go.RowKit

theorem intercalate_nil : ∀ (xs : List (List UInt8)), [].intercalate xs = xs.flatten
  | [] => rfl
  | [x] => by simp [List.intercalate]
  | x :: y :: r => by
    have h := intercalate_nil (y :: r)
    simp only [List.intercalate, List.intersperse, List.flatten_cons, List.nil_append] at *
    rw [h]

theorem StrRow.below {w w' : World} {a : Option Addr} {xs : List ByteArray} (h : StrRow w a xs) (hb : Below w.heap.size w w') : StrRow w' a xs := by
  rcases h with h | ⟨bk, o, ha, hbk, hc⟩
  · exact Or.inl h
  · exact Or.inr ⟨bk, o, ha, Nat.lt_of_lt_of_le hbk hb.size, fun j x hx => by rw [hb.cell (p := ⟨bk, o + j, none⟩) hbk]; exact hc j x hx⟩

/-- strings.Join with no separator. -/
theorem join_any (a : Option Addr) (c n : Nat) (xs : List ByteArray) (w : World) (hrow : StrRow w a xs) (hn : n = xs.length) (hc : xs.length ≤ c) (hl : xs.length ≤ 140737488355328) (ht : tot xs ≤ 140737488355328) :
    Calls Try.prog 27 #[.slice a n c, .string ⟨#[]⟩] w fun e w' => e = .returned (.string ⟨(cat xs).toArray⟩) ∧ Below w.heap.size w w' := by
  subst hn
  have e : Lib.join (xs.map (·.data.toList)) (⟨#[]⟩ : ByteArray).data.toList = cat xs := by
    unfold Lib.join cat
    exact intercalate_nil _
  rcases hrow with rfl | ⟨bk, o, rfl, hbk, hcells⟩
  · exact (Try.strings_Join_none a c _ w).mono fun e w' ⟨he, hw⟩ => ⟨he, hw ▸ Below.refl _ _⟩
  · have h := Try.strings_Join bk o c xs ⟨#[]⟩ w hcells hbk hl hc (by rw [e, cat_length]; exact ht)
    rw [e] at h
    exact h

theorem own_lit (w : World) (base : Nat) (C : Array Value) (hb : base ≤ w.heap.size) (hm : C.size ≤ maxLen) :
    (w.alloc (.cells C 5)).ownsRow base 5 1 (.slice (some ⟨w.heap.size, 0, none⟩) C.size C.size) C.size C.toList :=
  ⟨by simp, .inr ⟨w.heap.size, C.size, C, rfl, hb, heap_alloc_new w _, Nat.le_refl _, hm, by simp, by rw [Nat.mul_one]; exact List.take_of_length_le (by simp)⟩⟩

def byteVals (l : List UInt8) : List Value := l.map fun b => .int .u8 b.toNat

theorem conv_own {w : World} {base n : Nat} {v : Value} {l : List UInt8} (h : w.ownsRow base 5 1 v n (byteVals l)) (h0 : 0 < n) :
    (convert 30 9 v).run Try.prog w = .ok (.string ⟨l.toArray⟩) w := by
  obtain ⟨hlen, hh⟩ := h
  rcases hh with ⟨_, h⟩ | ⟨g, cap, cur, rfl, hg, hblk, hn, hcap, hsz, htk⟩
  · omega
  · have hl : l.length = n := by simpa [byteVals] using hlen
    subst hl
    exact run_convert_bytes_back (P := Try.prog) w 30 9 5 ⟨g, 0, none⟩ cap l Try.underlying30 Try.underlying5 Try.underlying9 fun j hj => by
      have h1 : (byteVals l)[j]? = some (.int .u8 (l[j].toNat : Int)) := by simp [byteVals, hj]
      rw [← htk, List.getElem?_take_of_lt (by omega)] at h1
      rw [show (⟨g, 0, none⟩ : Addr).add j = ⟨g, j, none⟩ by simp [Addr.add]; omega]
      unfold World.cell?
      rw [show w.heap[g]? = _ from hblk]
      simpa using h1

set_option maxHeartbeats 400000 in
theorem wrap_bad (t : Int) (n : Nat) (a : Option Addr) (c : Nat) (w : World) (ht : t < 0 ∨ 255 < t ∨ t % 32 = 31) :
    Calls Try.prog 13 #[.int .i64 t, .slice a n c] w fun e w' => e = .returned (valW (⟨#[]⟩, 5)) ∧ w = w' := by
  by_cases h0 : t < 0
  · go_enter Try.func13, Try.ntmps13
    go_wp2
    go_ret2
    exact ⟨rfl, rfl⟩
  by_cases h1 : 255 < t
  · go_enter Try.func13, Try.ntmps13
    go_wp2
    go_ret2
    exact ⟨rfl, rfl⟩
  have h2 : t % 32 = 31 := by omega
  obtain ⟨m, rfl⟩ := Int.eq_ofNat_of_zero_le (by omega : 0 ≤ t)
  have hb : bits BinOp.and IntKind.i64 (m : Int) 31 = 31 := by rw [bits31 m (by omega)]; omega
  clear h2 ht
  go_enter Try.func13, Try.ntmps13
  go_wp2
  go_ret2
  exact ⟨rfl, rfl⟩

/-- A literal's cells, behind another block. -/
theorem new_cell1 (w : World) (A : Obj) (C : Array Value) (T : TypeId) (f : Nat × Nat) (k : Nat) : ((w.alloc A).alloc (Obj.cells C T f)).cell? ⟨w.heap.size + 1, k, none⟩ = C[k]? := by
  have h : ((w.heap.push A).push (Obj.cells C T f))[w.heap.size + 1]? = some (Obj.cells C T f) := by
    rw [Array.getElem?_push, if_pos (by simp)]
  unfold World.cell?
  simp only [World.alloc]
  rw [h]
  rfl
theorem news_cells (w : World) (A : Obj) (L : List Value) : ∀ j u, L[j]? = some u → ((w.alloc A).alloc (Obj.cells L.toArray 5)).cell? ((⟨w.heap.size + 1, 0, none⟩ : Addr).add j) = some u := fun j u h => by
  rw [show (⟨w.heap.size + 1, 0, none⟩ : Addr).add j = ⟨w.heap.size + 1, j, none⟩ by simp [Addr.add]; omega, new_cell1]
  simpa using h
theorem info5 : (Try.prog.info? 5).map (fun i => (i.zero, i.size, i.bytes)) = some (some (.int .u8 0), 1, 1) := by kernel_rfl

theorem bytes_one (l : List Int) : ∀ u ∈ l.map (Value.int .u8), u.oneCell' = true := fun u hu => by
  obtain ⟨x, _, rfl⟩ := List.mem_map.1 hu
  rfl
theorem grown_of_below {w w' : World} (h : Below w.heap.size w w') : w.grownBy w' none := ⟨h.os, h.tape, h.output, h.size, fun k hk _ => h.block k hk⟩
theorem small_len {n : Nat} (h : n ≤ 100) : n ≤ maxLen := by unfold maxLen; omega
theorem hdr_len (m N : Nat) : (hdr m N).length ≤ 5 := by
  unfold hdr
  split
  · simp
  · split
    · simp
    · split <;> simp
theorem vals_b8 (n : Nat) : Value.int .u8 ((b8 n).toNat : Int) = .int .u8 ((n : Int) % 256) := by rw [b8_nat]; rfl
theorem hdr_1 {m N : Nat} (hm : m < 256) (h : N < 128) : byteVals (hdr m N) = [.int .u8 (m : Int)] ++ [.int .u8 (N : Int)] := by
  unfold hdr
  rw [if_pos h]
  simp only [byteVals, List.map_cons, List.map_nil, vals_b8, List.cons_append, List.nil_append]
  rw [Int.emod_eq_of_lt (by omega) (by omega), Int.emod_eq_of_lt (by omega) (by omega)]
theorem hdr_2 {m N : Nat} (hm : m < 256) (h1 : ¬ N < 128) (h : N < 256) : byteVals (hdr m N) = [.int .u8 (m : Int)] ++ [.int .u8 129, .int .u8 (N : Int)] := by
  unfold hdr
  rw [if_neg h1, if_pos h]
  simp only [byteVals, List.map_cons, List.map_nil, vals_b8, List.cons_append, List.nil_append]
  rw [Int.emod_eq_of_lt (by omega) (by omega), Int.emod_eq_of_lt (by omega) (by omega)]
  rfl
theorem wrap8 (x : Int) : IntKind.u8.wrap x = x % 256 := IntKind.wrap_u8 x
theorem hdr_3 {m N : Nat} (hm : m < 256) (h1 : ¬ N < 256) (h : N < 65536) : byteVals (hdr m N) = [.int .u8 (m : Int)] ++ [.int .u8 130, .int .u8 (IntKind.u8.wrap ((N : Int) / 256)), .int .u8 (IntKind.u8.wrap (N : Int))] := by
  unfold hdr
  rw [if_neg (by omega), if_neg h1, if_pos h]
  simp only [byteVals, List.map_cons, List.map_nil, vals_b8, List.cons_append, List.nil_append, wrap8]
  rw [Int.emod_eq_of_lt (by omega) (by omega)]
  rfl
theorem hdr_4 {m N : Nat} (hm : m < 256) (h1 : ¬ N < 65536) (h : N ≤ 131072) : byteVals (hdr m N) = [.int .u8 (m : Int)] ++ [.int .u8 131, .int .u8 (IntKind.u8.wrap ((N : Int) / 65536)), .int .u8 (IntKind.u8.wrap ((N : Int) / 256)), .int .u8 (IntKind.u8.wrap (N : Int))] := by
  unfold hdr
  rw [if_neg (by omega), if_neg (by omega), if_neg h1]
  simp only [byteVals, List.map_cons, List.map_nil, vals_b8, List.cons_append, List.nil_append, wrap8]
  rw [Int.emod_eq_of_lt (by omega) (by omega)]
  rfl
theorem cat_ends (m : Nat) (xs : List ByteArray) (k N : Nat) (hk : k = xs.length) (hN : N = tot xs) (hT : N ≤ 131072)
    (hw : wrp m xs = if 131072 < tot xs then (⟨#[]⟩, 6) else (⟨(hdr m (tot xs) ++ cat xs).toArray⟩, 0)) :
    Ending.returned (.tuple #[.string ((⟨(hdr m N).toArray⟩ : ByteArray) ++ ⟨(cat xs).toArray⟩), .int .i64 0]) = Ending.returned (valW (wrp m xs)) := by
  rw [hw, ← hN, if_neg (by omega)]
  have h : ((⟨(hdr m N).toArray⟩ : ByteArray) ++ ⟨(cat xs).toArray⟩) = ⟨(hdr m N ++ cat xs).toArray⟩ := by
    apply ByteArray.ext
    simp [ByteArray.data_append]
  rw [h]
  rfl

set_option maxRecDepth 100000 in
set_option maxHeartbeats 1000000 in
theorem wrap_ok (m : Nat) (hm : m < 256) (hm31 : m % 32 ≠ 31) (n : Nat) (a : Option Addr) (c : Nat) (xs : List ByteArray) (w : World) (hrow : StrRow w a xs) (hn : n = xs.length) (hc : xs.length ≤ c) (hl : xs.length ≤ 140737488355328)
    (hsz : ∀ x ∈ xs, x.size ≤ maxLen) :
    Calls Try.prog 13 #[.int .i64 m, .slice a n c] w fun e w' => e = .returned (valW (wrp m xs)) ∧ Below w.heap.size w w' := by
  have hb : (bits BinOp.and IntKind.i64 (m : Int) 31 == 31) = false := tag_no hm hm31
  have hwrp : wrp m xs = if 131072 < tot xs then (⟨#[]⟩, 6) else (⟨(hdr m (tot xs) ++ cat xs).toArray⟩, 0) := by
    unfold wrp
    rw [if_neg (by omega)]
    rfl
  have HW := Lib.hid hwrp
  have HR := Lib.hid hrow
  have HN := Lib.hid hn
  clear hwrp hrow hn hm31
  go_enter Try.func13, Try.ntmps13
  go_wp2
  go_loop [6, 8, 23] (fun s _ i => ∃ k : Nat, k ≤ n ∧ i = .int .i64 k ∧ s = .int .i64 (tot (xs.take k)) ∧ tot (xs.take k) ≤ 131072) (fun _ _ i => n - (intOf i).toNat)
  case atStart => exact ⟨0, Nat.zero_le _, rfl, rfl, by simp [tot]⟩
  case round =>
    obtain ⟨k, hk, rfl, rfl, hT⟩ := hrel
    by_cases hlt : k < n
    · have hlen : k < xs.length := by rw [← HN.out]; exact hlt
      obtain ⟨x, hx⟩ : ∃ x, xs[k]? = some x := ⟨xs[k], by simp [hlen]⟩
      have hxs : x.size ≤ maxLen := hsz x (List.mem_of_getElem? hx)
      unfold maxLen at hxs
      obtain ⟨bk, o, rfl, hbk, hcs⟩ : ∃ bk o, a = some ⟨bk, o, none⟩ ∧ bk < w.heap.size ∧ ∀ j x, xs[j]? = some x → w.cell? ⟨bk, o + j, none⟩ = some (.string x) := by
        rcases HR.out with h | h
        · rw [h] at hlen; simp at hlen
        · exact h
      have hck := hcs k x hx
      have hsn := tot_snoc xs k x hx
      have htt := tot_take xs (k + 1)
      clear hcs
      have HSN := Lib.hid hsn
      by_cases hbig : 131072 < tot (xs.take k) + x.size
      · have hf : wrp m xs = (⟨#[]⟩, 6) := by rw [HW.out, if_pos (by omega)]
        have HF := Lib.hid hf
        clear hf hsn
        go_wp2
        go_ret2
        exact ⟨by rw [HF.out]; rfl, Below.refl _ _⟩
      · clear hsn
        go_wp2
        go_round
        case rel => exact ⟨k + 1, by omega, by go_num, by rw [HSN.out]; go_num, by rw [HSN.out]; omega⟩
        case measure => simp [intOf]; omega
    · obtain rfl : k = n := by omega
      have hT2 : tot (xs.take k) = tot xs := by rw [HN.out, List.take_length]
      clear hlt hk
      generalize hN : tot (xs.take k) = N at *
      have HNN := Lib.hid hT2
      have HC := Lib.hid hc
      have HL := Lib.hid hl
      clear hN hT2 hc hl hsz hb
      obtain ⟨i0, hi, hz0, hz1, hz2⟩ := info_parts info5
      have hown0 : (w.alloc (.cells #[.int .u8 m] 5)).ownsRow w.heap.size 5 1 (.slice (some ⟨w.heap.size, 0, none⟩) 1 1) 1 [.int .u8 m] := own_lit w w.heap.size #[.int .u8 m] (Nat.le_refl _) (by show 1 ≤ maxLen; unfold maxLen; omega)
      by_cases hA : N < 128
      · have hone : ∀ u ∈ ([.int .u8 ((N : Int))] : List Value), u.oneCell' = true := bytes_one [((N : Int))]
        go_wp2_with (at_builtin; go_loud (refine wpList_append_own _ rfl _ _ 30 rfl w.heap.size 5 i0 (.int .u8 0) 1 1 Try.underlying30 hi hz0 hz1 hz2 rfl (by decide) _ 1 [.int .u8 m] rfl (hown0.alloc _) ⟨w.heap.size + 1, 0, none⟩ 1 1 [.int .u8 ((N : Int))] rfl rfl (news_cells w _ [.int .u8 ((N : Int))]) hone (small_len (by omega)) (by omega) (by simp; omega) ?_); intro v1 w1 hown1 hg1 _)
        have hown2 : w1.ownsRow w.heap.size 5 1 v1 (1 + 1) (byteVals (hdr m N)) := by
          rw [hdr_1 hm hA]
          exact hown1
        have hbel : Below w.heap.size w w1 := ((((Below.refl _ _).alloc (Nat.le_refl _) _).alloc (by simp) _).grown hg1 (by simp; omega) (fun k hk => by cases hk; exact Nat.le_refl _))
        clear hown1 hown0 hg1
        have hs1 : (hdr m N).length ≤ 5 := hdr_len m N
        have hs2 : (cat xs).length ≤ 131072 := by rw [cat_length]; have := HNN.out; omega
        have hcv1 := conv_own (hown2.drew) (by omega)
        go_region_with (go_at_call 27; refine (join_any a c k xs _ (HR.out.below hbel.drew) HN.out HC.out HL.out (by have := HNN.out; omega)).mono ?_; rintro e w2 ⟨rfl, hb2⟩; have hcv2 := conv_own ((hown2.drew).kept (grown_of_below hb2) (Classical.em _)) (by omega))
        all_goals
          go_wp2
          go_ret2
          exact ⟨cat_ends m xs k N HN.out HNN.out hT HW.out, hbel.drew.trans (hb2.mono hbel.size)⟩
      by_cases hB : N < 256
      · have hone : ∀ u ∈ ([.int .u8 (129), .int .u8 ((N : Int))] : List Value), u.oneCell' = true := bytes_one [(129), ((N : Int))]
        go_wp2_with (at_builtin; go_loud (refine wpList_append_own _ rfl _ _ 30 rfl w.heap.size 5 i0 (.int .u8 0) 1 1 Try.underlying30 hi hz0 hz1 hz2 rfl (by decide) _ 1 [.int .u8 m] rfl (hown0.alloc _) ⟨w.heap.size + 1, 0, none⟩ 2 2 [.int .u8 (129), .int .u8 ((N : Int))] rfl rfl (news_cells w _ [.int .u8 (129), .int .u8 ((N : Int))]) hone (small_len (by omega)) (by omega) (by simp; omega) ?_); intro v1 w1 hown1 hg1 _)
        have hown2 : w1.ownsRow w.heap.size 5 1 v1 (1 + 2) (byteVals (hdr m N)) := by
          rw [hdr_2 hm hA hB]
          exact hown1
        have hbel : Below w.heap.size w w1 := ((((Below.refl _ _).alloc (Nat.le_refl _) _).alloc (by simp) _).grown hg1 (by simp; omega) (fun k hk => by cases hk; exact Nat.le_refl _))
        clear hown1 hown0 hg1
        have hs1 : (hdr m N).length ≤ 5 := hdr_len m N
        have hs2 : (cat xs).length ≤ 131072 := by rw [cat_length]; have := HNN.out; omega
        have hcv1 := conv_own (hown2.drew) (by omega)
        go_region_with (go_at_call 27; refine (join_any a c k xs _ (HR.out.below hbel.drew) HN.out HC.out HL.out (by have := HNN.out; omega)).mono ?_; rintro e w2 ⟨rfl, hb2⟩; have hcv2 := conv_own ((hown2.drew).kept (grown_of_below hb2) (Classical.em _)) (by omega))
        all_goals
          go_wp2
          go_ret2
          exact ⟨cat_ends m xs k N HN.out HNN.out hT HW.out, hbel.drew.trans (hb2.mono hbel.size)⟩
      by_cases hC : N < 65536
      · have heq : byteVals (hdr m N) = [.int .u8 (m : Int)] ++ [.int .u8 (130), .int .u8 (IntKind.u8.wrap ((N : Int) / 256)), .int .u8 (IntKind.u8.wrap (N : Int))] := hdr_3 hm hB hC
        have hbs : N ≤ 131072 := hT
        have hs1 : (hdr m N).length ≤ 5 := hdr_len m N
        have hs2 : (cat xs).length ≤ 131072 := by rw [cat_length]; have := HNN.out; omega
        have hjt : tot xs ≤ 140737488355328 := by have := HNN.out; omega
        have hend := cat_ends m xs k N HN.out HNN.out hT HW.out
        have HEQ := Lib.hid heq
        have HJT := Lib.hid hjt
        have HEND := Lib.hid hend
        have hA2 : decide ((N : Int) < 128) = false := by simp; omega
        have hB2 : decide ((N : Int) < 256) = false := by simp; omega
        have hC2 : decide ((N : Int) < 65536) = true := by simp; omega
        clear hA hB hC hT hm hbs heq hend hjt HNN
        go_upto_region 18 with (fail)
        clear hA2 hB2 hC2
        have hone : ∀ u ∈ ([.int .u8 (130), .int .u8 (IntKind.u8.wrap ((N : Int) / 256)), .int .u8 (IntKind.u8.wrap (N : Int))] : List Value), u.oneCell' = true := bytes_one [(130), (IntKind.u8.wrap ((N : Int) / 256)), (IntKind.u8.wrap (N : Int))]
        go_wp2_with (at_builtin; go_loud (refine wpList_append_own _ rfl _ _ 30 rfl w.heap.size 5 i0 (.int .u8 0) 1 1 Try.underlying30 hi hz0 hz1 hz2 rfl (by decide) _ 1 [.int .u8 m] rfl (hown0.alloc _) ⟨w.heap.size + 1, 0, none⟩ 3 3 [.int .u8 (130), .int .u8 (IntKind.u8.wrap ((N : Int) / 256)), .int .u8 (IntKind.u8.wrap (N : Int))] rfl rfl (news_cells w _ [.int .u8 (130), .int .u8 (IntKind.u8.wrap ((N : Int) / 256)), .int .u8 (IntKind.u8.wrap (N : Int))]) hone (small_len (by omega)) (by omega) (by simp; omega) ?_); intro v1 w1 hown1 hg1 _)
        have hown2 : w1.ownsRow w.heap.size 5 1 v1 (1 + 3) (byteVals (hdr m N)) := by
          rw [HEQ.out]
          exact hown1
        have hbel : Below w.heap.size w w1 := ((((Below.refl _ _).alloc (Nat.le_refl _) _).alloc (by simp) _).grown hg1 (by simp; omega) (fun k hk => by cases hk; exact Nat.le_refl _))
        clear hown1 hown0 hg1
        have hcv1 := conv_own (hown2.drew) (by omega)
        go_region_with (go_at_call 27; refine (join_any a c k xs _ (HR.out.below hbel.drew) HN.out HC.out HL.out HJT.out).mono ?_; rintro e w2 ⟨rfl, hb2⟩; have hcv2 := conv_own ((hown2.drew).kept (grown_of_below hb2) (Classical.em _)) (by omega))
        all_goals
          go_wp2
          go_ret2
          exact ⟨HEND.out, hbel.drew.trans (hb2.mono hbel.size)⟩
      · have heq : byteVals (hdr m N) = [.int .u8 (m : Int)] ++ [.int .u8 (131), .int .u8 (IntKind.u8.wrap ((N : Int) / 65536)), .int .u8 (IntKind.u8.wrap ((N : Int) / 256)), .int .u8 (IntKind.u8.wrap (N : Int))] := hdr_4 hm hC hT
        have hbs : N ≤ 131072 := hT
        have hs1 : (hdr m N).length ≤ 5 := hdr_len m N
        have hs2 : (cat xs).length ≤ 131072 := by rw [cat_length]; have := HNN.out; omega
        have hjt : tot xs ≤ 140737488355328 := by have := HNN.out; omega
        have hend := cat_ends m xs k N HN.out HNN.out hT HW.out
        have HEQ := Lib.hid heq
        have HJT := Lib.hid hjt
        have HEND := Lib.hid hend
        have hA2 : decide ((N : Int) < 128) = false := by simp; omega
        have hB2 : decide ((N : Int) < 256) = false := by simp; omega
        have hC2 : decide ((N : Int) < 65536) = false := by simp; omega
        clear hA hB hC hT hm hbs heq hend hjt HNN
        go_upto_region 12 with (fail)
        clear hA2 hB2 hC2
        have hone : ∀ u ∈ ([.int .u8 (131), .int .u8 (IntKind.u8.wrap ((N : Int) / 65536)), .int .u8 (IntKind.u8.wrap ((N : Int) / 256)), .int .u8 (IntKind.u8.wrap (N : Int))] : List Value), u.oneCell' = true := bytes_one [(131), (IntKind.u8.wrap ((N : Int) / 65536)), (IntKind.u8.wrap ((N : Int) / 256)), (IntKind.u8.wrap (N : Int))]
        go_wp2_with (at_builtin; go_loud (refine wpList_append_own _ rfl _ _ 30 rfl w.heap.size 5 i0 (.int .u8 0) 1 1 Try.underlying30 hi hz0 hz1 hz2 rfl (by decide) _ 1 [.int .u8 m] rfl (hown0.alloc _) ⟨w.heap.size + 1, 0, none⟩ 4 4 [.int .u8 (131), .int .u8 (IntKind.u8.wrap ((N : Int) / 65536)), .int .u8 (IntKind.u8.wrap ((N : Int) / 256)), .int .u8 (IntKind.u8.wrap (N : Int))] rfl rfl (news_cells w _ [.int .u8 (131), .int .u8 (IntKind.u8.wrap ((N : Int) / 65536)), .int .u8 (IntKind.u8.wrap ((N : Int) / 256)), .int .u8 (IntKind.u8.wrap (N : Int))]) hone (small_len (by omega)) (by omega) (by simp; omega) ?_); intro v1 w1 hown1 hg1 _)
        have hown2 : w1.ownsRow w.heap.size 5 1 v1 (1 + 4) (byteVals (hdr m N)) := by
          rw [HEQ.out]
          exact hown1
        have hbel : Below w.heap.size w w1 := ((((Below.refl _ _).alloc (Nat.le_refl _) _).alloc (by simp) _).grown hg1 (by simp; omega) (fun k hk => by cases hk; exact Nat.le_refl _))
        clear hown1 hown0 hg1
        have hcv1 := conv_own (hown2.drew) (by omega)
        go_region_with (go_at_call 27; refine (join_any a c k xs _ (HR.out.below hbel.drew) HN.out HC.out HL.out HJT.out).mono ?_; rintro e w2 ⟨rfl, hb2⟩; have hcv2 := conv_own ((hown2.drew).kept (grown_of_below hb2) (Classical.em _)) (by omega))
        all_goals
          go_wp2
          go_ret2
          exact ⟨HEND.out, hbel.drew.trans (hb2.mono hbel.size)⟩
end Go.Proofs.Ytpcdbgfhlghocaa
