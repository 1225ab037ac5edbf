import Derived.Test.YtpcdbgfhlghocaaUe
import Derived.Test.YtpcdbgfhlghocaaTf
namespace Go.Proofs.Ytpcdbgfhlghocaa
set_option linter.unusedVariables false
set_option linter.unusedSimpArgs false
open Go.RowKit

/-- Two values that do not own one block. -/
def apart (u v : Value) : Prop := ∀ g, u.ownBlock = some g → v.ownBlock = some g → False
theorem apart.symm {u v : Value} (h : apart u v) : apart v u := fun g h1 h2 => h g h2 h1
theorem kept_apart {w w' : World} {base : Nat} {e : TypeId} {size : Nat} {u v : Value} {n : Nat} {xs : List Value} (h : w.ownsRow base e size u n xs) (hg : w.grownBy w' v.ownBlock) (ha : apart u v) : w'.ownsRow base e size u n xs :=
  h.kept hg (by
    cases hv : u.ownBlock with
    | none => exact .inl rfl
    | some g => exact .inr fun e => ha g hv e.symm)
theorem apart_new {w : World} {base : Nat} {e : TypeId} {size : Nat} {u v v' : Value} {n : Nat} {xs : List Value} (h : w.ownsRow base e size u n xs) (ha : apart u v) (q : v'.ownBlock = v.ownBlock ∨ v'.ownBlock = some w.heap.size) : apart u v' := by
  intro g h1 h2
  rcases q with q | q
  · exact ha g h1 (q ▸ h2)
  · have := (h.lt g h1).2
    rw [q] at h2
    cases h2
    omega
/-- Three slices of the call's own. -/
structure Three (W : World) (B : Nat) (v3 : Value) (k3 : Nat) (c3 : List Value) (v4 : Value) (k4 : Nat) (c4 : List Value) (v5 : Value) (k5 : Nat) (c5 : List Value) : Prop where
  o3 : W.ownsRow B 9 1 v3 k3 c3
  o4 : W.ownsRow B 9 1 v4 k4 c4
  o5 : W.ownsRow B 32 3 v5 k5 c5
  a34 : apart v3 v4
  a35 : apart v3 v5
  a45 : apart v4 v5
section
variable {W W' : World} {B : Nat} {v3 v4 v5 v' : Value} {k3 k4 k5 k' : Nat} {c3 c4 c5 c' : List Value}
theorem Three.kept (h : Three W B v3 k3 c3 v4 k4 c4 v5 k5 c5) (hg : W.grownBy W' none) : Three W' B v3 k3 c3 v4 k4 c4 v5 k5 c5 :=
  ⟨h.o3.kept hg (Classical.em _), h.o4.kept hg (Classical.em _), h.o5.kept hg (Classical.em _), h.a34, h.a35, h.a45⟩
theorem Three.alloc (h : Three W B v3 k3 c3 v4 k4 c4 v5 k5 c5) (o : Obj) : Three (W.alloc o) B v3 k3 c3 v4 k4 c4 v5 k5 c5 :=
  ⟨h.o3.alloc _, h.o4.alloc _, h.o5.alloc _, h.a34, h.a35, h.a45⟩
theorem Three.s3 (h : Three W B v3 k3 c3 v4 k4 c4 v5 k5 c5) (hg : W.grownBy W' v3.ownBlock) (o : W'.ownsRow B 9 1 v' k' c') (q : v'.ownBlock = v3.ownBlock ∨ v'.ownBlock = some W.heap.size) : Three W' B v' k' c' v4 k4 c4 v5 k5 c5 :=
  ⟨o, kept_apart h.o4 hg h.a34.symm, kept_apart h.o5 hg h.a35.symm, (apart_new h.o4 h.a34.symm q).symm, (apart_new h.o5 h.a35.symm q).symm, h.a45⟩
theorem Three.s4 (h : Three W B v3 k3 c3 v4 k4 c4 v5 k5 c5) (hg : W.grownBy W' v4.ownBlock) (o : W'.ownsRow B 9 1 v' k' c') (q : v'.ownBlock = v4.ownBlock ∨ v'.ownBlock = some W.heap.size) : Three W' B v3 k3 c3 v' k' c' v5 k5 c5 :=
  ⟨kept_apart h.o3 hg h.a34, o, kept_apart h.o5 hg h.a45.symm, apart_new h.o3 h.a34 q, h.a35, (apart_new h.o5 h.a45.symm q).symm⟩
theorem Three.s5 (h : Three W B v3 k3 c3 v4 k4 c4 v5 k5 c5) (hg : W.grownBy W' v5.ownBlock) (o : W'.ownsRow B 32 3 v' k' c') (q : v'.ownBlock = v5.ownBlock ∨ v'.ownBlock = some W.heap.size) : Three W' B v3 k3 c3 v4 k4 c4 v' k' c' :=
  ⟨kept_apart h.o3 hg h.a35, kept_apart h.o4 hg h.a45, o, h.a34, apart_new h.o3 h.a35 q, apart_new h.o4 h.a45 q⟩
end
def elsOf (ys : List ByteArray) : List El := ys.map fun s => (4, s, encB s)

set_option maxRecDepth 100000 in
set_option maxHeartbeats 4000000 in
theorem law_TlvOrder (n : Nat) (a : Option Addr) (c : Nat) (xs : List ByteArray) (w : World) (hrow : StrRow w a xs) (hn : n = xs.length) (hc : xs.length ≤ c) (hl : xs.length ≤ 140737488355328)
    (hsz : ∀ x ∈ xs, x.size ≤ maxLen) : Calls Try.prog 10 #[.slice a n c] w (Ok w w) := by
  have HR := Lib.hid hrow
  have HN := Lib.hid hn
  have hfew := few_any n a c xs 20 100 w hrow hn hl hsz (by decide) (by decide)
  cases hf : fewB xs 20 100 with
  | false =>
    rw [show (decide (xs.length ≤ 20) && xs.all fun x => decide (x.size ≤ 100)) = false from hf] at hfew
    have HFEW := Lib.hid hfew
    clear hfew hf hn hrow hsz hl hc
    go_enter Try.func10, Try.ntmps10
    go_wp2_with (first | (go_at_call 11; refine HFEW.out.mono ?_; rintro e w1 ⟨rfl, rfl⟩) | (go_at_call 12; refine (awake_any _).mono ?_; rintro e w1 ⟨rfl, hb1⟩))
    go_ret
    exact ⟨rfl, hb1⟩
  | true =>
    rw [show (decide (xs.length ≤ 20) && xs.all fun x => decide (x.size ≤ 100)) = true from hf] at hfew
    have HFEW := Lib.hid hfew
    have h2 := fewB_true hf
    have hn20 : n ≤ 20 := by omega
    have HX := Lib.hid h2.2
    obtain ⟨i9, hi, hi0, hi1, hi2⟩ := info_parts info9
    obtain ⟨i32, hj, hj0, hj1, hj2⟩ := info_parts info32
    clear hfew hf hn hrow hsz hl hc h2
    go_enter Try.func10, Try.ntmps10
    go_wp2_with (first | (go_at_call 11; refine HFEW.out.mono ?_; rintro e w1 ⟨rfl, rfl⟩))
    go_loopw [3, 4, 5, 18] (fun x3 x4 x5 i wr => ∃ k : Nat, k ≤ n ∧ i = .int .i64 k ∧ Hid (Three wr w.heap.size x3 k (strs (xs.take k)) x4 k (strs ((xs.take k).map encB)) x5 k (rowCells (elsOf (xs.take k)))) ∧ Hid (Below w.heap.size w wr)) (fun _ _ _ i _ => n - (intOf i).toNat)
    case atStart => exact ⟨0, Nat.zero_le _, rfl, Lib.hid ⟨World.ownsRow_nil _ _ _ _, World.ownsRow_nil _ _ _ _, World.ownsRow_nil _ _ _ _, (by intro g h; cases h), (by intro g h; cases h), (by intro g h; cases h)⟩, Lib.hid (Below.refl _ _)⟩
    case round =>
      obtain ⟨k, hk, rfl, HT, HB⟩ := hrel
      by_cases hlt : k < n
      · have hlen : k < xs.length := by rw [← HN.out]; exact hlt
        obtain ⟨x, hx⟩ : ∃ x, xs[k]? = some x := ⟨xs[k], by simp [hlen]⟩
        obtain ⟨bk, o, rfl, hbk, hcs⟩ : ∃ bk o, a = some ⟨bk, o, none⟩ ∧ bk < w.heap.size ∧ ∀ j x, xs[j]? = some x → w.cell? ⟨bk, o + j, none⟩ = some (.string x) := by
          rcases HR.out with h | h
          · rw [h] at hlen; simp at hlen
          · exact h
        have hck : wr.cell? ⟨bk, o + k, none⟩ = some (.string x) := by rw [(bcell HB.out).1 _ _ hbk]; exact hcs k x hx
        have hxs : x.size ≤ 100 := HX.out x (List.mem_of_getElem? hx)
        have c1 := fun W blk h => rwrap_one 4 x (by omega) W blk h
        rw [encB_wrp hxs] at c1
        unfold valW at c1
        have C1 := Lib.hid c1
        have H := Lib.hid hx
        clear hx hcs hlen c1
        have hz0 := Lib.hid HB.out.size
        go_wp2_with (first
          | (go_at_call 14; refine (C1.out _ _ rfl).mono ?_; rintro e w2 ⟨rfl, hb2⟩; have T2 := Lib.hid ((HT.out.alloc (.cells #[.string x] 9)).kept (grown_of_below (by simpa using hb2))); have B2 : Hid (Below w.heap.size w w2) := Lib.hid ((HB.out.alloc hz0.out _).trans (hb2.mono (Nat.le_succ_of_le hz0.out))); clear hb2)
          | (at_builtin; refine wpList_app rfl (.tmp 28) (.tmp 30) 22 rfl w.heap.size 9 i9 (.string ⟨#[]⟩) 1 16 Try.underlying22 hi hi0 hi1 hi2 rfl (by omega) u3 k (strs (xs.take k)) rfl (T2.out.o3.alloc _) (.slice (some ⟨w2.heap.size, 0, none⟩) 1 1) 1 [.string x] rfl (.inr ⟨_, _, rfl, rfl, cell_one_new _ _ _⟩) (by intro u hu; rw [List.mem_singleton.1 hu]; rfl) (by unfold maxLen; omega) (by omega) (B2.out.alloc B2.out.size _).size ?_; intro v3 w3 p3 g3 q3; have T3 := Lib.hid ((T2.out.alloc (.cells #[.string x] 9)).s3 g3.out p3.out q3.out); have B3 : Hid (Below w.heap.size w w3) := Lib.hid ((B2.out.alloc B2.out.size _).grown g3.out (B2.out.alloc B2.out.size _).size fun k hk => (T2.out.o3.lt k hk).1); clear p3 g3 q3)
          | (at_builtin; refine wpList_app rfl (.tmp 32) (.tmp 34) 22 rfl w.heap.size 9 i9 (.string ⟨#[]⟩) 1 16 Try.underlying22 hi hi0 hi1 hi2 rfl (by omega) u4 k (strs ((xs.take k).map encB)) rfl (T3.out.o4.alloc _) (.slice (some ⟨w3.heap.size, 0, none⟩) 1 1) 1 [.string (encB x)] rfl (.inr ⟨_, _, rfl, rfl, cell_one_new _ _ _⟩) (by intro u hu; rw [List.mem_singleton.1 hu]; rfl) (by unfold maxLen; omega) (by omega) (B3.out.alloc B3.out.size _).size ?_; intro v4 w4 p4 g4 q4; have T4 := Lib.hid ((T3.out.alloc (.cells #[.string (encB x)] 9)).s4 g4.out p4.out q4.out); have B4 : Hid (Below w.heap.size w w4) := Lib.hid ((B3.out.alloc B3.out.size _).grown g4.out (B3.out.alloc B3.out.size _).size fun k hk => (T3.out.o4.lt k hk).1); clear p4 g4 q4)
          | (at_builtin; go_loud (refine wpList_app rfl (.tmp 36) (.tmp 40) 51 rfl w.heap.size 32 i32 (.agg #[.int .i64 0, .string ⟨#[]⟩, .string ⟨#[]⟩]) 3 40 Try.underlying51 hj hj0 hj1 hj2 rfl (by omega) u5 k (rowCells (elsOf (xs.take k))) rfl (T4.out.o5.alloc _) (.slice (some ⟨w4.heap.size, 0, none⟩) 1 1) 1 (elCells (4, x, encB x)) rfl (.inr ⟨_, _, rfl, rfl, el_cells w4 (4, x, encB x)⟩) (el_one _) (by unfold maxLen; omega) (by omega) (B4.out.alloc B4.out.size _).size ?_; intro v5 w5 p5 g5 q5; have T5 := Lib.hid ((T4.out.alloc (.cells (elCells (4, x, encB x)).toArray 32)).s5 g5.out p5.out q5.out); have B5 : Hid (Below w.heap.size w w5) := Lib.hid ((B4.out.alloc B4.out.size _).grown g5.out (B4.out.alloc B4.out.size _).size fun k hk => (T4.out.o5.lt k hk).1); clear p5 g5 q5)))
        go_roundw
        case rel => exact ⟨k + 1, by omega, by go_num, Lib.hid (by
          have e : xs.take (k + 1) = xs.take k ++ [x] := by rw [List.take_add_one, H.out]; rfl
          rw [e]
          simpa [strs, elsOf, rowCells, List.map_append] using T5.out), B5⟩
        case measure => simp [intOf]; omega
      · obtain rfl : k = n := by omega
        have e0 : xs.take k = xs := by rw [HN.out, List.take_length]
        rw [e0] at HT
        have htot : tot xs ≤ 10000000 := by
          have := tot_le xs 100 HX.out
          have := HN.out
          omega
        have htot2 : tot (xs.map encB) ≤ 10000000 := by
          have h := tot_le (xs.map encB) 200 (by
            intro y hy
            obtain ⟨c, hc, rfl⟩ := List.mem_map.1 hy
            have := (encB_size (HX.out c hc)).2
            omega)
          have := HN.out
          rw [List.length_map] at h
          omega
        obtain ⟨a3, c3, rfl, hc3, hr3⟩ := row_of_own HT.out.o3
        have hel : (elsOf xs).length = k := by simp [elsOf]; exact HN.out.symm
        have A1 := Lib.hid (fun (W : World) (hb : Below wr.heap.size wr W) => order_any w.heap.size k _ xs W (HT.out.o3.kept (grown_of_below hb) (Classical.em _)) (by omega) htot)
        have A2 := Lib.hid (fun (W : World) (hb : Below wr.heap.size wr W) => rorder_any k a3 c3 xs W (hr3.below hb) HN.out (by have := HN.out; omega) htot)
        rw [← sort_same] at A2
        have A3 := Lib.hid (fun (W : World) (hb : Below wr.heap.size wr W) => asc_any (elsOf xs) w.heap.size u5 W (by omega) (by rw [hel]; exact HT.out.o5.kept (grown_of_below hb) (Classical.em _)))
        have A4 := Lib.hid (fun (W : World) (hb : Below wr.heap.size wr W) => rasc_any (elsOf xs) w.heap.size u5 W (by omega) (by rw [hel]; exact HT.out.o5.kept (grown_of_below hb) (Classical.em _)))
        have A5 := Lib.hid (fun (W : World) (hb : Below wr.heap.size wr W) => order_any w.heap.size k u4 (xs.map encB) W (HT.out.o4.kept (grown_of_below hb) (Classical.em _)) (by omega) htot2)
        obtain ⟨els, hels, hlen, hasc⟩ := list_sorted xs HX.out
        have A6 := Lib.hid (fun (W : World) => list_any ⟨(cat (sortB (xs.map encB))).toArray⟩ W (by
          have : (⟨(cat (sortB (xs.map encB))).toArray⟩ : ByteArray).size = tot (sortB (xs.map encB)) := by rw [size_list]; simp [cat_length]
          rw [this, perm_tot (sortB_perm _)]
          have h := tot_le (xs.map encB) 200 (by
            intro y hy
            obtain ⟨c, hc, rfl⟩ := List.mem_map.1 hy
            have := (encB_size (HX.out c hc)).2
            omega)
          have := HN.out
          rw [List.length_map] at h
          omega))
        rw [hels] at A6
        have A7 := Lib.hid (fun (W : World) (b : Nat) (v : Value) (h : W.ownsRow b 32 3 v els.length (rowCells els)) => asc_any els b v W (by have := HN.out; omega) h)
        rw [hasc] at A7
        obtain ⟨S1, hS1⟩ : ∃ S, (⟨(cat (sortB xs)).toArray⟩ : ByteArray) = S := ⟨_, rfl⟩
        obtain ⟨S2, hS2⟩ : ∃ S, (⟨(cat (sortB (xs.map encB))).toArray⟩ : ByteArray) = S := ⟨_, rfl⟩
        obtain ⟨bb, hbb⟩ : ∃ b, ascB (elsOf xs) = b := ⟨_, rfl⟩
        rw [hS1] at A1 A2
        rw [hS2] at A5 A6
        rw [hbb] at A3 A4
        have hlen2 : els.length = k := by rw [hlen]; exact HN.out.symm
        rw [hlen2] at A7
        have A6' : Hid (∀ W : World, Calls Try.prog 26 #[.string S2] W fun e w' => ∃ a c, e = .returned (.tuple #[.slice a k c, .int .i64 0]) ∧ w'.ownsRow W.heap.size 32 3 (.slice a k c) k (rowCells els) ∧ Below W.heap.size W w') := Lib.hid (by
          intro W
          refine (A6.out W).mono ?_
          rintro e w' ⟨v, rfl, h2, h3⟩
          obtain ⟨a, c, rfl⟩ := row_shape h2
          rw [show els.length = k from hlen2] at h2
          rw [show (els, (0 : Int)).1.length = k from hlen2]
          exact ⟨a, c, rfl, h2, h3⟩)
        clear hels hlen hasc hS1 hS2 hbb hlen2 hel hr3 e0 htot htot2 A6
        go_wp2_with fail
        refine (A1.out _ (Below.refl _ _)).mono ?_
        rintro e w1 ⟨rfl, hb1⟩
        have B1 : Hid (Below wr.heap.size wr w1) := Lib.hid hb1
        clear hb1
        go_wp2_with fail
        refine (A2.out _ B1.out).mono ?_
        rintro e w2 ⟨rfl, hb2⟩
        have B2 : Hid (Below wr.heap.size wr w2) := Lib.hid (B1.out.trans (hb2.mono B1.out.size))
        clear hb2
        go_wp2_with fail
        refine (A3.out _ B2.out).mono ?_
        rintro e w3 ⟨rfl, hb3⟩
        have B3 : Hid (Below wr.heap.size wr w3) := Lib.hid (B2.out.trans (hb3.mono B2.out.size))
        clear hb3
        go_wp2_with fail
        refine (A4.out _ B3.out).mono ?_
        rintro e w4 ⟨rfl, hb4⟩
        have B4 : Hid (Below wr.heap.size wr w4) := Lib.hid (B3.out.trans (hb4.mono B3.out.size))
        clear hb4
        go_wp2_with fail
        refine (A5.out _ B4.out).mono ?_
        rintro e w5 ⟨rfl, hb5⟩
        have B5 : Hid (Below wr.heap.size wr w5) := Lib.hid (B4.out.trans (hb5.mono B4.out.size))
        clear hb5
        go_wp2_with fail
        refine (A6'.out _).mono ?_
        rintro e w6 ⟨a6, c6, rfl, o6, hb6⟩
        have O6 := Lib.hid o6
        have B6 : Hid (Below wr.heap.size wr w6) := Lib.hid (B5.out.trans (hb6.mono B5.out.size))
        clear hb6 o6
        go_wp2_with fail
        refine (awake_any _).mono ?_
        rintro e w7 ⟨rfl, hb7⟩
        have O7 := Lib.hid (O6.out.kept (grown_of_below hb7) (Classical.em _))
        have B7 : Hid (Below wr.heap.size wr w7) := Lib.hid (B6.out.trans (hb7.mono B6.out.size))
        clear hb7
        go_wp2_with fail
        refine (A7.out _ _ _ O7.out).mono ?_
        rintro e w8 ⟨rfl, hb8⟩
        have B8 : Hid (Below wr.heap.size wr w8) := Lib.hid (B7.out.trans (hb8.mono B7.out.size))
        clear hb8
        go_wp2_with fail
        go_ret
        exact ⟨rfl, HB.out.trans (B8.out.mono HB.out.size)⟩
end Go.Proofs.Ytpcdbgfhlghocaa
