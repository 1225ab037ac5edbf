/- Joined texts: Sf Sg Sh Si. -/
import Derived.Test.YtlaodmpdngdhjaaSc
import Derived.Test.YtlaodmpdngdhjaaSe
import Derived.Test.YtlaodmpdngdhjaaEl
import Derived.Lib.AppendStr
import Derived.Deep.RegionWith
/- hash.Start, (*Stream).Write. -/
namespace Go.Proofs.Ytlaodmpdngdhjaa
set_option linter.unusedVariables false
set_option linter.unusedSimpArgs false
open Go.RowKit

def scells (v : V8) (vr : Value) (n : Nat) : Array Value := #[u3 v.a, u3 v.b, u3 v.c, u3 v.d, u3 v.e, u3 v.f, u3 v.g, u3 v.h, vr, .int .i64 n]
/-- Block s is a stream to which these bytes were written. -/
def StrmAt (w : World) (base s : Nat) (B : List UInt8) : Prop :=
  ∃ v vr, w.heap[s]? = some (.cells (scells v vr B.length) 140 (0, 0)) ∧ (B.length ≠ 0 → v = stv B) ∧ w.ownsRow base 5 1 vr (B.length % 64) (bys (rst B))
/-- All blocks but d are as they were. -/
structure But (d : Nat) (w w' : World) : Prop where
  os : w'.os = w.os
  tape : w'.tape = w.tape
  output : w'.output = w.output
  size : w.heap.size ≤ w'.heap.size
  block : ∀ b, b < w.heap.size → b ≠ d → w'.heap[b]? = w.heap[b]?
theorem But.refl (d : Nat) (w : World) : But d w w := ⟨rfl, rfl, rfl, Nat.le_refl _, fun _ _ _ => rfl⟩
theorem But.trans {d : Nat} {a b c : World} (h : But d a b) (k : But d b c) : But d a c :=
  ⟨k.os.trans h.os, k.tape.trans h.tape, k.output.trans h.output, Nat.le_trans h.size k.size, fun i hi hd => (k.block i (Nat.lt_of_lt_of_le hi h.size) hd).trans (h.block i hi hd)⟩
theorem But.of_turn {d : Nat} {w w' : World} (h : Turn d w w') : But d w w' := ⟨h.os, h.tape, h.output, Nat.le_of_eq h.size.symm, fun b _ hd => h.block b hd⟩
theorem But.of_below {d : Nat} {w w' : World} (h : Below w.heap.size w w') : But d w w' := ⟨h.os, h.tape, h.output, h.size, fun b hb _ => h.block b hb⟩
theorem But.toBelow {d base : Nat} {w w' : World} (h : But d w w') (h1 : base ≤ d) (h2 : base ≤ w.heap.size) : Below base w w' :=
  ⟨h.os, h.tape, h.output, h.size, fun b hb => h.block b (by omega) (by omega)⟩
theorem But.drew {d : Nat} {a b : World} (h : But d a b) : But d a b.drew := ⟨h.os, h.tape, h.output, h.size, h.block⟩

theorem info5 : (Try.prog.info? 5).map (fun i => (i.zero, i.size, i.bytes)) = some (some (.int .u8 0), 1, 1) := by kernel_rfl
/-- Behind a contract that ends in 'Below': all old cells and all old marks read as before. -/
theorem bcell {W w1 : World} (hb : Below W.heap.size W w1) : (∀ b o, b < W.heap.size → w1.cell? ⟨b, o, none⟩ = W.cell? ⟨b, o, none⟩) ∧ (∀ b o, b < W.heap.size → w1.frozen? ⟨b, o, none⟩ = W.frozen? ⟨b, o, none⟩) :=
  ⟨fun b o h => hb.cell (p := ⟨b, o, none⟩) h, fun b o h => hb.frozen (p := ⟨b, o, none⟩) h⟩
theorem conv_row {w : World} {base n : Nat} {v : Value} {l : List UInt8} (h : w.ownsRow base 5 1 v n (bys l)) (h0 : 0 < n) :
    (convert 69 9 v).run Try.prog w = .ok (.string ⟨l.toArray⟩) w := by
  obtain ⟨hlen, hh⟩ := h
  rcases hh with ⟨_, h⟩ | ⟨g, cap, cur, rfl, hg, hblk, hn, hcap, hsz, htk⟩
  · omega
  · have hl : l.length = n := by simpa [bys] using hlen
    subst hl
    exact run_convert_bytes_back (P := Try.prog) w 69 9 5 ⟨g, 0, none⟩ cap l Try.underlying69 Try.underlying5 Try.underlying9 fun j hj => by
      have h1 : (bys l)[j]? = some (.int .u8 (l[j].toNat : Int)) := by simp [bys, hj]
      rw [← htk, List.getElem?_take_of_lt (by omega)] at h1
      rw [show (⟨g, 0, none⟩ : Addr).add j = ⟨g, j, none⟩ by simp [Addr.add]; omega]
      unfold World.cell?
      rw [show w.heap[g]? = _ from hblk]
      simpa using h1
theorem start_any (w : World) : Calls Try.prog 100 #[] w fun e w' => e = .returned (.pointer (some ⟨w.heap.size, 0, none⟩)) ∧ StrmAt w' w.heap.size w.heap.size [] ∧ Below w.heap.size w w' ∧ w.heap.size < w'.heap.size := by
  go_enter Try.func100, Try.ntmps100
  go_wp2
  go_ret
  exact ⟨rfl, ⟨⟨0, 0, 0, 0, 0, 0, 0, 0⟩, .slice none 0 0, heap_alloc_new _ _, fun h => absurd rfl h, World.ownsRow_nil _ _ _ _⟩, (Below.refl _ _).alloc (Nat.le_refl _) _, by simp⟩
theorem src_row {w : World} {base : Nat} {e : TypeId} {v : Value} {n : Nat} {xs : List Value} (h : w.ownsRow base e 1 v n xs) : Src w 1 v n xs := by
  have hh := h
  rcases h.2 with ⟨rfl, rfl⟩ | ⟨g, cap, cur, rfl, hg, hb, h1, h2, h3, h4⟩
  · exact .inl ⟨rfl, rfl, List.eq_nil_of_length_eq_zero (by simpa using h.1)⟩
  · exact .inr ⟨_, _, rfl, h.1, fun j u hu => hh.cells (g := g) rfl j u hu⟩
theorem sset8 {w : World} {d : Nat} {v : V8} {vr : Value} {n : Nat} {t : TypeId} (h : w.heap[d]? = some (.cells (scells v vr n) t (0, 0))) (x : V8) :
    ((((((((w.setCell ⟨d, 0, none⟩ (u3 x.a)).setCell ⟨d, 1, none⟩ (u3 x.b)).setCell ⟨d, 2, none⟩ (u3 x.c)).setCell ⟨d, 3, none⟩ (u3 x.d)).setCell ⟨d, 4, none⟩ (u3 x.e)).setCell ⟨d, 5, none⟩ (u3 x.f)).setCell ⟨d, 6, none⟩ (u3 x.g)).setCell ⟨d, 7, none⟩ (u3 x.h)).heap[d]? = some (.cells (scells x vr n) t (0, 0)) ∧
    Turn d w ((((((((w.setCell ⟨d, 0, none⟩ (u3 x.a)).setCell ⟨d, 1, none⟩ (u3 x.b)).setCell ⟨d, 2, none⟩ (u3 x.c)).setCell ⟨d, 3, none⟩ (u3 x.d)).setCell ⟨d, 4, none⟩ (u3 x.e)).setCell ⟨d, 5, none⟩ (u3 x.f)).setCell ⟨d, 6, none⟩ (u3 x.g)).setCell ⟨d, 7, none⟩ (u3 x.h)) := by
  refine ⟨?_, (((((((set_turn _ _ _ _).trans (set_turn _ _ _ _)).trans (set_turn _ _ _ _)).trans (set_turn _ _ _ _)).trans (set_turn _ _ _ _)).trans (set_turn _ _ _ _)).trans (set_turn _ _ _ _)).trans (set_turn _ _ _ _)⟩
  have h0 := set_heap h 0 (u3 x.a)
  have h1 := set_heap h0 1 (u3 x.b)
  have h2 := set_heap h1 2 (u3 x.c)
  have h3 := set_heap h2 3 (u3 x.d)
  have h4 := set_heap h3 4 (u3 x.e)
  have h5 := set_heap h4 5 (u3 x.f)
  have h6 := set_heap h5 6 (u3 x.g)
  have h7 := set_heap h6 7 (u3 x.h)
  have e1 : ((((((((scells v vr n).setIfInBounds 0 (u3 x.a)).setIfInBounds 1 (u3 x.b)).setIfInBounds 2 (u3 x.c)).setIfInBounds 3 (u3 x.d)).setIfInBounds 4 (u3 x.e)).setIfInBounds 5 (u3 x.f)).setIfInBounds 6 (u3 x.g)).setIfInBounds 7 (u3 x.h) = scells x vr n := by
    apply Array.toList_inj.1
    simp [scells]
  rw [e1] at h7
  exact h7
end Go.Proofs.Ytlaodmpdngdhjaa

/- (*Stream).Write. -/
namespace Go.Proofs.Ytlaodmpdngdhjaa
set_option linter.unusedVariables false
set_option linter.unusedSimpArgs false
open Go.RowKit

set_option maxRecDepth 100000 in
set_option maxHeartbeats 4000000 in
theorem write_any (base s : Nat) (B : List UInt8) (b : ByteArray) (w : World) (h : StrmAt w base s B) (hbase : base ≤ s) (hl : B.length + b.size ≤ 1099511627776) :
    Calls Try.prog 101 #[ptr s, .string b] w fun e w' => e = .returned (.tuple #[]) ∧ StrmAt w' base s (B ++ b.data.toList) ∧ Below base w w' := by
  obtain ⟨i5, h5, h50, h51, h52⟩ := info_parts info5
  by_cases hb0 : b.size = 0
  · obtain rfl : b = ⟨#[]⟩ := by
      apply ByteArray.ext
      exact Array.eq_empty_of_size_eq_zero hb0
    have HR := Lib.hid h
    clear h hl
    go_enter Try.func101, Try.ntmps101
    go_wp2_with fail
    refine bodyPost_ret (results_none rfl _ _ _) rfl ?_
    exact ⟨rfl, by rw [show B ++ (⟨#[]⟩ : ByteArray).data.toList = B from List.append_nil _]; exact HR.out, Below.refl _ _⟩
  · have hz : b.toList.isEmpty = false := by
      cases hq : b.toList.isEmpty with
      | false => rfl
      | true =>
        exfalso
        rw [List.isEmpty_iff, ByteArray.toList_eq] at hq
        have : b.data.toList.length = b.size := by rw [Array.length_toList]; rfl
        rw [hq] at this
        exact hb0 this.symm
    obtain ⟨v, vr, hs, hv, hr⟩ := h
    obtain ⟨n, hn⟩ : ∃ n, B.length = n := ⟨_, rfl⟩
    rw [hn] at hs hr hl hv
    have HN := Lib.hid hn
    have HV := Lib.hid hv
    have HR := Lib.hid hr
    have HS := Lib.hid hs
    have hsl := heap_lt hs
    obtain ⟨hc, hf⟩ := row_cells hs
    have k8 : w.cell? ⟨s, 8, none⟩ = some vr := hc 8
    have k9 : w.cell? ⟨s, 9, none⟩ = some (.int .i64 n) := hc 9
    have f9 := hf 9
    clear hn hv hr hs
    by_cases h0 : n = 0
    case' pos =>
      have c0 : w.cell? ⟨s, 0, none⟩ = some (u3 v.a) := hc 0
      have c1 : w.cell? ⟨s, 1, none⟩ = some (u3 v.b) := hc 1
      have c2 : w.cell? ⟨s, 2, none⟩ = some (u3 v.c) := hc 2
      have c3 : w.cell? ⟨s, 3, none⟩ = some (u3 v.d) := hc 3
      have c4 : w.cell? ⟨s, 4, none⟩ = some (u3 v.e) := hc 4
      have c5 : w.cell? ⟨s, 5, none⟩ = some (u3 v.f) := hc 5
      have c6 : w.cell? ⟨s, 6, none⟩ = some (u3 v.g) := hc 6
      have c7 : w.cell? ⟨s, 7, none⟩ = some (u3 v.h) := hc 7
      have f0 := hf 0
      have f1 := hf 1
      have f2 := hf 2
      have f3 := hf 3
      have f4 := hf 4
      have f5 := hf 5
      have f6 := hf 6
      have f7 := hf 7
      have HI : Hid (∀ W : World, Calls Try.prog 106 #[] W fun e w' => e = .returned (.agg #[u3 ini.a, u3 ini.b, u3 ini.c, u3 ini.d, u3 ini.e, u3 ini.f, u3 ini.g, u3 ini.h]) ∧ Below W.heap.size W w') := Lib.hid fun W => initial_any W
      have hn0 : ((n : Int) == 0) = true := by rw [beq_iff_eq]; omega
      have HN0 := Lib.hid h0
      clear hc hf h0
      go_enter Try.func101, Try.ntmps101
      go_upto_region 4 with ((go_at_call 106; refine (HI.out _).mono ?_; rintro e w2 ⟨rfl, hb2⟩; obtain ⟨bc, bf⟩ := bcell hb2; have HB2 := Lib.hid hb2; clear hb2))
      obtain ⟨w1, hw1⟩ : ∃ w1, (((((((((w2.setCell ⟨s, 0, none⟩ (u3 ini.a)).setCell ⟨s, 1, none⟩ (u3 ini.b)).setCell ⟨s, 2, none⟩ (u3 ini.c)).setCell ⟨s, 3, none⟩ (u3 ini.d)).setCell ⟨s, 4, none⟩ (u3 ini.e)).setCell ⟨s, 5, none⟩ (u3 ini.f)).setCell ⟨s, 6, none⟩ (u3 ini.g)).setCell ⟨s, 7, none⟩ (u3 ini.h)).setCell ⟨s, 9, none⟩ (.int .i64 ((n : Int) + b.size))) = w1 := ⟨_, rfl⟩
      have hs2 : w2.heap[s]? = some (.cells (scells v vr n) 140 (0, 0)) := by rw [HB2.out.block s hsl]; exact HS.out
      have h8 := sset8 hs2 ini
      have HS1 : Hid (w1.heap[s]? = some (.cells (scells (stv B) vr (n + b.size)) 140 (0, 0))) := Lib.hid (by
        rw [← hw1, set_heap h8.1]
        have e1 : stv B = ini := by
          have : B = [] := List.eq_nil_of_length_eq_zero (by rw [HN.out, HN0.out])
          rw [this]
          exact blocks_zero _ _
        rw [e1]
        congr 2)
      have HB1 : Hid (But s w w1) := Lib.hid (by rw [← hw1]; exact ((But.of_below HB2.out).trans (.of_turn h8.2)).trans (.of_turn (set_turn _ _ _ _)))
      show Code.wp _ _ _ _ (((((((((w2.setCell ⟨s, 0, none⟩ (u3 ini.a)).setCell ⟨s, 1, none⟩ (u3 ini.b)).setCell ⟨s, 2, none⟩ (u3 ini.c)).setCell ⟨s, 3, none⟩ (u3 ini.d)).setCell ⟨s, 4, none⟩ (u3 ini.e)).setCell ⟨s, 5, none⟩ (u3 ini.f)).setCell ⟨s, 6, none⟩ (u3 ini.g)).setCell ⟨s, 7, none⟩ (u3 ini.h)).setCell ⟨s, 9, none⟩ (.int .i64 ((n : Int) + b.size)))
      rw [hw1]
      clear hw1 hs2 h8 c0 c1 c2 c3 c4 c5 c6 c7 f0 f1 f2 f3 f4 f5 f6 f7 bc bf
    case' neg =>
      have hn0 : ((n : Int) == 0) = false := by rw [beq_eq_false_iff_ne]; omega
      have e1 : v = stv B := HV.out h0
      clear hc hf
      go_enter Try.func101, Try.ntmps101
      go_upto_region 4 with fail
      obtain ⟨w1, hw1⟩ : ∃ w1, w.setCell ⟨s, 9, none⟩ (.int .i64 ((n : Int) + b.size)) = w1 := ⟨_, rfl⟩
      have HS1 : Hid (w1.heap[s]? = some (.cells (scells (stv B) vr (n + b.size)) 140 (0, 0))) := Lib.hid (by
        rw [← hw1, set_heap HS.out, e1]
        congr 2)
      have HB1 : Hid (But s w w1) := Lib.hid (by rw [← hw1]; exact .of_turn (set_turn _ _ _ _))
      rw [hw1]
      clear hw1 e1
    all_goals
      have HR1 : Hid (w1.ownsRow base 5 1 vr (n % 64) (bys (rst B))) := Lib.hid (row_kept HR.out fun g e => by
        obtain ⟨cur, fr, ho⟩ := own_obj HR.out e
        exact HB1.out.block g (heap_lt ho) (by
          rintro rfl
          rw [HS.out] at ho
          cases ho))
      have j8 : w1.cell? ⟨s, 8, none⟩ = some vr := (row_cells HS1.out).1 8
      have hs1l : s < w1.heap.size := heap_lt HS1.out
      have HSRC := Lib.hid (src_row HR1.out)
      clear k8 k9 f9 hn0
      go_wp2_with (at_builtin; (first
        | (refine Lib.wpList_append_own_string _ rfl (.tmp 33) (.tmp 34) 69 9 rfl w1.heap.size 5 i5 Try.underlying69 Try.underlying9 h5 h50 h51 h52 _ _ _ rfl o3.out b rfl (by unfold maxLen; omega) (by omega) g3.out.size ?_; intro v4 w4 o4 g4 q4)
        | (refine wpList_app rfl (.const (.slice none 0 0)) (.tmp 32) 69 rfl w1.heap.size 5 i5 (.int .u8 0) 1 1 Try.underlying69 h5 h50 h51 h52 rfl (by omega) (.slice none 0 0) 0 [] rfl (World.ownsRow_nil _ _ _ _) vr (n % 64) (bys (rst B)) rfl HSRC.out (bys_one _) (by unfold maxLen; omega) (by omega) (Nat.le_refl _) ?_; intro v3 w3 o3 g3 q3)))
      obtain ⟨N, hN⟩ : ∃ N, n % 64 + b.size = N := ⟨_, rfl⟩
      have HO4 : Hid (w4.ownsRow w1.heap.size 5 1 v4 N (bys (rst B ++ b.data.toList))) := Lib.hid (by
        have := o4
        rw [Nat.zero_add, hN, List.nil_append] at this
        rw [bys_append]
        exact this)
      have HLN : Hid ((rst B ++ b.data.toList).length = N) := Lib.hid (by rw [List.length_append, rst_len, HN.out, Array.length_toList]; exact hN)
      have HB4 : Hid (Below w1.heap.size w1 w4) := Lib.hid (((Below.refl _ _).grown g3.out (Nat.le_refl _) (fun k hk => by cases hk)).grown g4 g3.out.size (fun k hk => (o3.out.lt k hk).1))
      have hN0 : 0 < N := by omega
      obtain ⟨g, c4, hv4, hc4, hgb, hgl, hcell⟩ : ∃ g c, v4 = .slice (some ⟨g, 0, none⟩) N c ∧ N ≤ c ∧ w1.heap.size ≤ g ∧ g < w4.heap.size ∧ ∀ j u, (bys (rst B ++ b.data.toList))[j]? = some u → w4.cell? ⟨g, j, none⟩ = some u := by
        have hh := HO4.out
        rcases hh.2 with ⟨_, h0⟩ | ⟨g, cap, cur, rfl, hg, hb, h1, h2, h3, h4⟩
        · omega
        · refine ⟨g, cap, rfl, h1, hg, heap_lt hb, fun j u hu => ?_⟩
          have := hh.cells (g := g) rfl j u hu
          rwa [Addr.add_lit, Nat.zero_add] at this
      subst hv4
      have HCE := Lib.hid hcell
      have HS4 : Hid (w4.heap[s]? = some (.cells (scells (stv B) vr (n + b.size)) 140 (0, 0))) := Lib.hid (by rw [HB4.out.block s hs1l]; exact HS1.out)
      obtain ⟨L, hL⟩ : ∃ L, rst B ++ b.data.toList = L := ⟨_, rfl⟩
      rw [hL] at HCE HLN
      have HLL := Lib.hid hL
      have hNb : N ≤ 1099511627776 := by omega
      have HNN := Lib.hid hN
      clear hcell hL hN o3 g3 q3 o4 g4 q4 HO4 HSRC j8
      go_loopw [4] (fun v wr => ∃ i o c : Nat, 64 * i ≤ N ∧ v = .slice (some ⟨g, o, none⟩) (N - 64 * i) c ∧ (64 * i < N → o = 64 * i) ∧ N - 64 * i ≤ c ∧ Hid (wr.heap[s]? = some (.cells (scells (blocks (stv B) i L) vr (n + b.size)) 140 (0, 0))) ∧ Hid (But s w4 wr)) (fun v _ => (match v with | .slice _ n _ => n | _ => 0))
      case atStart => exact ⟨0, 0, c4, by omega, rfl, fun _ => rfl, hc4, HS4, Lib.hid (But.refl _ _)⟩
      case round =>
        obtain ⟨i, o, c, hi, rfl, ho, hcM, HSr, HBr⟩ := hrel
        obtain ⟨M, hM⟩ : ∃ M, N - 64 * i = M := ⟨_, rfl⟩
        rw [hM] at hcM ⊢
        have HM := Lib.hid hM
        by_cases hlt : 64 ≤ M
        · have ho' := ho (by omega)
          subst ho'
          obtain ⟨q, hq⟩ : ∃ q, blocks (stv B) i L = q := ⟨_, rfl⟩
          have hqo : q.Ok := by rw [← hq]; exact blocks_ok (blocks_ok ini_ok _ _) _ _
          rw [hq] at HSr
          have HQ := Lib.hid hq
          have HQO := Lib.hid hqo
          obtain ⟨hc, hf⟩ := row_cells HSr.out
          obtain ⟨qa, qb, qc, qd, qe, qf, qg, qh⟩ := q
          have c0 : wr.cell? ⟨s, 0, none⟩ = some (u3 qa) := hc 0
          have c1 : wr.cell? ⟨s, 1, none⟩ = some (u3 qb) := hc 1
          have c2 : wr.cell? ⟨s, 2, none⟩ = some (u3 qc) := hc 2
          have c3 : wr.cell? ⟨s, 3, none⟩ = some (u3 qd) := hc 3
          have c4' : wr.cell? ⟨s, 4, none⟩ = some (u3 qe) := hc 4
          have c5 : wr.cell? ⟨s, 5, none⟩ = some (u3 qf) := hc 5
          have c6 : wr.cell? ⟨s, 6, none⟩ = some (u3 qg) := hc 6
          have c7 : wr.cell? ⟨s, 7, none⟩ = some (u3 qh) := hc 7
          have f0 := hf 0
          have f1 := hf 1
          have f2 := hf 2
          have f3 := hf 3
          have f4 := hf 4
          have f5 := hf 5
          have f6 := hf 6
          have f7 := hf 7
          have hsr : s < wr.heap.size := heap_lt HSr.out
          have hgr : g < wr.heap.size := Nat.lt_of_lt_of_le hgl HBr.out.size
          have HBY : Hid (BytesAt wr g (64 * i) (mo (L.drop (64 * i)))) := Lib.hid (by
            intro j hj
            refine ⟨?_, mo_bd _ _⟩
            rw [World.cell?_of_block (HBr.out.block g hgl (by omega))]
            refine HCE.out _ _ ?_
            rw [bys_get (by rw [HLN.out]; omega)]
            congr 2
            unfold mo
            rw [List.getD_eq_getElem?_getD, List.getD_eq_getElem?_getD, List.getElem?_drop])
          have hM64 : (64 : Int) ≤ (M : Int) := by omega
          have hc64 : (64 : Int) ≤ (c : Int) := by omega
          clear hc hf hq hqo
          obtain ⟨x, hx⟩ : ∃ x, cmp ⟨qa, qb, qc, qd, qe, qf, qg, qh⟩ (mo (L.drop (64 * i))) = x := ⟨_, rfl⟩
          have HX : Hid (blocks (stv B) (i + 1) L = x) := Lib.hid (by rw [blocks_snoc, HQ.out]; exact hx)
          have HCB := block_any ⟨qa, qb, qc, qd, qe, qf, qg, qh⟩ HQO.out g (64 * i) c (mo (L.drop (64 * i))) wr.drew HBY.out hgr
          rw [hx] at HCB
          obtain ⟨x0, x1, x2, x3, x4, x5, x6, x7⟩ := x
          have HCB := Lib.hid HCB
          clear hx
          rcases Nat.lt_or_ge 64 c with hcc | hcc
          case' inr =>
            obtain rfl : c = 64 := by omega
            clear hcc hc64
          case' inl =>
            have hc1 : ¬ c = 64 := by omega
            have hc2 : ¬ 64 = c := by omega
          all_goals
            go_wp2_with fail
            go_region_with (go_at_call 107; refine HCB.out.mono ?_; rintro e w6 ⟨rfl, hb6⟩; dsimp only [V8.cells]; have d0 : w6.cell? ⟨s, 0, none⟩ = some (u3 qa) := (hb6.cell (p := ⟨s, 0, none⟩) hsr).trans c0; have z0 : w6.frozen? ⟨s, 0, none⟩ = false := (hb6.frozen (p := ⟨s, 0, none⟩) hsr).trans f0; have d1 : w6.cell? ⟨s, 1, none⟩ = some (u3 qb) := (hb6.cell (p := ⟨s, 1, none⟩) hsr).trans c1; have z1 : w6.frozen? ⟨s, 1, none⟩ = false := (hb6.frozen (p := ⟨s, 1, none⟩) hsr).trans f1; have d2 : w6.cell? ⟨s, 2, none⟩ = some (u3 qc) := (hb6.cell (p := ⟨s, 2, none⟩) hsr).trans c2; have z2 : w6.frozen? ⟨s, 2, none⟩ = false := (hb6.frozen (p := ⟨s, 2, none⟩) hsr).trans f2; have d3 : w6.cell? ⟨s, 3, none⟩ = some (u3 qd) := (hb6.cell (p := ⟨s, 3, none⟩) hsr).trans c3; have z3 : w6.frozen? ⟨s, 3, none⟩ = false := (hb6.frozen (p := ⟨s, 3, none⟩) hsr).trans f3; have d4 : w6.cell? ⟨s, 4, none⟩ = some (u3 qe) := (hb6.cell (p := ⟨s, 4, none⟩) hsr).trans c4'; have z4 : w6.frozen? ⟨s, 4, none⟩ = false := (hb6.frozen (p := ⟨s, 4, none⟩) hsr).trans f4; have d5 : w6.cell? ⟨s, 5, none⟩ = some (u3 qf) := (hb6.cell (p := ⟨s, 5, none⟩) hsr).trans c5; have z5 : w6.frozen? ⟨s, 5, none⟩ = false := (hb6.frozen (p := ⟨s, 5, none⟩) hsr).trans f5; have d6 : w6.cell? ⟨s, 6, none⟩ = some (u3 qg) := (hb6.cell (p := ⟨s, 6, none⟩) hsr).trans c6; have z6 : w6.frozen? ⟨s, 6, none⟩ = false := (hb6.frozen (p := ⟨s, 6, none⟩) hsr).trans f6; have d7 : w6.cell? ⟨s, 7, none⟩ = some (u3 qh) := (hb6.cell (p := ⟨s, 7, none⟩) hsr).trans c7; have z7 : w6.frozen? ⟨s, 7, none⟩ = false := (hb6.frozen (p := ⟨s, 7, none⟩) hsr).trans f7; have HB6 := Lib.hid hb6; clear hb6)
            go_wp2_with fail
            go_roundw
            case rel =>
              have hm := HM.out
              have hs6 : w6.heap[s]? = some (.cells (scells ⟨qa, qb, qc, qd, qe, qf, qg, qh⟩ vr (n + b.size)) 140 (0, 0)) := by
                rw [HB6.out.block s hsr]
                exact HSr.out
              have h8 := sset8 hs6 ⟨x0, x1, x2, x3, x4, x5, x6, x7⟩
              refine ⟨i + 1, _, _, by omega, (by first | (rw [show N - 64 * (i + 1) = M - 64 by omega]; done) | (rw [show N - 64 * (i + 1) = 0 by omega]; done)), fun h => by omega, by omega, Lib.hid ?_, Lib.hid ((HBr.out.trans (((But.refl s wr).drew).trans (.of_below HB6.out))).trans (.of_turn h8.2))⟩
              rw [HX.out]
              exact h8.1
            case measure =>
              first
                | (show M - 64 < M; omega)
                | (show 0 < M; omega)
        · have hsr : s < wr.heap.size := heap_lt HSr.out
          have hm64 : ¬ (64 : Int) ≤ (M : Int) := by omega
          have hd64 : decide ((64 : Int) ≤ (M : Int)) = false := decide_eq_false hm64
          have hmm : M = N % 64 := by omega
          have hii : i = N / 64 := by omega
          have hend : L.drop (64 * i) = rst (B ++ b.data.toList) := by
            have := more_rst B b.data.toList
            rw [HLL.out, HLN.out] at this
            rw [hii]
            exact this
          have hst : blocks (stv B) i L = stv (B ++ b.data.toList) := by
            have := more_stv B b.data.toList
            rw [HLL.out, HLN.out] at this
            rw [hii]
            exact this
          rw [hst] at HSr
          have hlen : (B ++ b.data.toList).length = n + b.size := by rw [List.length_append, HN.out, Array.length_toList]; rfl
          have HLEN := Lib.hid hlen
          have hMr : (n + b.size) % 64 = M := by have := HNN.out; omega
          have HMR := Lib.hid hMr
          have HSRC : Hid (Src wr 1 (.slice (some ⟨g, o, none⟩) M c) M (bys (rst (B ++ b.data.toList)))) := Lib.hid (.inr ⟨_, _, rfl, by rw [bys_len, rst_len, hlen, Nat.mul_one]; exact hMr, fun j u hu => by
            have hj : j < M := by
              have := (List.getElem?_eq_some_iff.1 hu).1
              rw [bys_len, rst_len, hlen] at this
              omega
            rw [Addr.add_lit, ho (by omega), World.cell?_of_block (HBr.out.block g hgl (by omega))]
            refine HCE.out _ _ ?_
            rw [← hend] at hu
            rw [← hu]
            simp [bys]⟩)
          have hMb : M < 64 := by omega
          clear hst hend hmm hii hlen hMr ho hcM hm64 hM HLL HLN HCE HM hlt
          go_wp2_with (at_builtin; (refine wpList_app rfl (.const (.slice none 0 0)) (.tmp 52) 69 rfl wr.heap.size 5 i5 (.int .u8 0) 1 1 Try.underlying69 h5 h50 h51 h52 rfl (by omega) (.slice none 0 0) 0 [] rfl (World.ownsRow_nil _ _ _ _) (.slice (some ⟨g, o, none⟩) M c) M (bys (rst (B ++ b.data.toList))) rfl HSRC.out (bys_one _) (by unfold maxLen; omega) (by omega) (Nat.le_refl _) ?_; intro v9 w9 o9 g9 q9; have hs9 : w9.heap[s]? = some (.cells (scells (stv (B ++ b.data.toList)) vr (n + b.size)) 140 (0, 0)) := (by rw [g9.out.block s hsr (by intro h; cases h)]; exact HSr.out); have y8 : w9.cell? ⟨s, 8, none⟩ = some vr := (row_cells hs9).1 8; have z8 := (row_cells hs9).2 8; have HS9 := Lib.hid hs9; clear hs9; have p9 := o9.out; rw [Nat.zero_add, List.nil_append] at p9; clear o9 q9; have O9 := Lib.hid p9; obtain ⟨a9, c9, hv9⟩ := own_slice p9; clear p9; subst hv9))
          go_end0
          have T9 := set_turn w9 s 8 (Value.slice a9 M c9)
          have hb9 : Below wr.heap.size wr w9 := (Below.refl _ _).grown g9.out (Nat.le_refl _) (fun k hk => by cases hk)
          have z0 := HB1.out.size
          have z1 := HB4.out.size
          have z2 := HBr.out.size
          have z3 := hb9.size
          refine ⟨rfl, ⟨stv (B ++ b.data.toList), Value.slice a9 M c9, ?_, fun _ => rfl, ?_⟩, ?_⟩
          · rw [set_heap HS9.out, HLEN.out]
            congr 2
          · rw [HLEN.out, HMR.out]
            have o2 := row_kept O9.out fun gg e => T9.block gg (by have := (O9.out.lt gg e).1; omega)
            exact row_mono o2 (base' := base) (by omega)
          · exact ((((HB1.out.toBelow hbase (by omega)).trans (HB4.out.mono (by omega))).trans (HBr.out.toBelow hbase (by omega))).trans (hb9.mono (by omega))).trans (T9.toBelow hbase)
end Go.Proofs.Ytlaodmpdngdhjaa

/- (*Stream).Sum. -/
namespace Go.Proofs.Ytlaodmpdngdhjaa
set_option linter.unusedVariables false
set_option linter.unusedSimpArgs false
open Go.RowKit

set_option maxRecDepth 100000 in
set_option maxHeartbeats 4000000 in
theorem ssum_any (base s : Nat) (B : List UInt8) (w : World) (h : StrmAt w base s B) (hl : B.length ≤ 1099511627776) :
    Calls Try.prog 102 #[ptr s] w fun e w' => e = .returned (.string (sha B)) ∧ Below w.heap.size w w' := by
  obtain ⟨i5, h5, h50, h51, h52⟩ := info_parts info5
  obtain ⟨v, vr, hs, hv, hr⟩ := h
  obtain ⟨n, hn⟩ : ∃ n, B.length = n := ⟨_, rfl⟩
  rw [hn] at hs hr hl hv
  have HN := Lib.hid hn
  have HV := Lib.hid hv
  have HR := Lib.hid hr
  have HS := Lib.hid hs
  have hsl := heap_lt hs
  have HI : Hid (∀ W : World, Calls Try.prog 106 #[] W fun e w' => e = .returned (.agg #[u3 ini.a, u3 ini.b, u3 ini.c, u3 ini.d, u3 ini.e, u3 ini.f, u3 ini.g, u3 ini.h]) ∧ Below W.heap.size W w') := Lib.hid fun W => initial_any W
  clear hn hv hr hs
  go_enter Try.func102, Try.ntmps102
  go_upto_region 4 with ((go_at_call 106; refine (HI.out _).mono ?_; rintro e w2 ⟨rfl, hb2⟩; have HB2 := Lib.hid hb2; clear hb2))
  obtain ⟨D, hD⟩ : ∃ D, w2.heap.size = D := ⟨_, rfl⟩
  show Code.wp _ _ _ _ (w2.alloc (.cells ini.cells 138))
  obtain ⟨w3, hw3⟩ : ∃ w3, w2.alloc (.cells ini.cells 138) = w3 := ⟨_, rfl⟩
  have HD3 : Hid (w3.heap[D]? = some (.cells ini.cells 138 (0, 0))) := Lib.hid (by rw [← hw3, ← hD]; exact heap_alloc_new _ _)
  have HB3 : Hid (Below w.heap.size w w3) := Lib.hid (by rw [← hw3]; exact HB2.out.alloc HB2.out.size _)
  have hwD : w.heap.size ≤ D := by rw [← hD]; exact HB2.out.size
  have HZ3 : Hid (w3.heap.size = D + 1) := Lib.hid (by rw [← hw3, ← hD]; simp)
  rw [hD, hw3]
  clear hw3 hD HB2
  have hs3 : w3.heap[s]? = some (.cells (scells v vr n) 140 (0, 0)) := by rw [HB3.out.block s hsl]; exact HS.out
  have HS3 := Lib.hid hs3
  have hr3 : w3.ownsRow base 5 1 vr (n % 64) (bys (rst B)) := row_kept HR.out fun g e => HB3.out.block g (by
    obtain ⟨cur, fr, ho⟩ := own_obj HR.out e
    exact heap_lt ho)
  have HR3 := Lib.hid hr3
  have hsD : s ≠ D := by omega
  obtain ⟨hc, _⟩ := row_cells hs3
  have c8 : w3.cell? ⟨s, 8, none⟩ = some vr := hc 8
  have c9 : w3.cell? ⟨s, 9, none⟩ = some (.int .i64 n) := hc 9
  clear hs3 hr3
  obtain ⟨bb, hbb⟩ : ∃ bb, decide ((0 : Int) < (n : Int)) = bb := ⟨_, rfl⟩
  have HC := Lib.hid hc
  clear hc
  go_upto_if 19 with (fail)
  go_cut [4, 5] (fun v4 v5 wx => v5 = .int .i64 n ∧ Hid (wx.ownsRow (D + 1) 5 1 v4 (n % 64) (bys (rst B))) ∧ Hid (wx.heap[D]? = some (.cells (stv B).cells 138 (0, 0))) ∧ Hid (Below w.heap.size w wx) ∧ Hid (D < wx.heap.size))
  case first =>
    by_cases h0 : n = 0
    · have hgt : ¬ (0 : Int) < (n : Int) := by omega
      obtain rfl : bb = false := by rw [← hbb]; exact decide_eq_false hgt
      clear hbb
      have hB : B = [] := List.eq_nil_of_length_eq_zero (by rw [HN.out, h0])
      have HX3 : Hid (w3.heap[D]? = some (.cells (stv B).cells 138 (0, 0))) := Lib.hid (by
        rw [hB, show stv [] = ini from blocks_zero _ _]
        exact HD3.out)
      have HO3 : Hid (w3.ownsRow (D + 1) 5 1 (.slice none 0 0) (n % 64) (bys (rst B))) := Lib.hid (by
        rw [hB, h0]
        exact World.ownsRow_nil _ _ _ _)
      have HL3 : Hid (D < w3.heap.size) := Lib.hid (by rw [HZ3.out]; omega)
      have H0 := Lib.hid h0
      clear hB
      go_wp2_with fail
      go_meet
      exact ⟨by rw [H0.out]; rfl, HO3, HX3, HB3, HL3⟩
    · have hgt : (0 : Int) < (n : Int) := by omega
      obtain rfl : bb = true := by rw [← hbb]; exact decide_eq_true hgt
      clear hbb
      have c0 : w3.cell? ⟨s, 0, none⟩ = some (u3 v.a) := HC.out 0
      have c1 : w3.cell? ⟨s, 1, none⟩ = some (u3 v.b) := HC.out 1
      have c2 : w3.cell? ⟨s, 2, none⟩ = some (u3 v.c) := HC.out 2
      have c3 : w3.cell? ⟨s, 3, none⟩ = some (u3 v.d) := HC.out 3
      have c4 : w3.cell? ⟨s, 4, none⟩ = some (u3 v.e) := HC.out 4
      have c5 : w3.cell? ⟨s, 5, none⟩ = some (u3 v.f) := HC.out 5
      have c6 : w3.cell? ⟨s, 6, none⟩ = some (u3 v.g) := HC.out 6
      have c7 : w3.cell? ⟨s, 7, none⟩ = some (u3 v.h) := HC.out 7
      obtain ⟨hd, hfz⟩ := row_cells HD3.out
      have d0 : w3.cell? ⟨D, 0, none⟩ = some (u3 ini.a) := hd 0
      have d1 : w3.cell? ⟨D, 1, none⟩ = some (u3 ini.b) := hd 1
      have d2 : w3.cell? ⟨D, 2, none⟩ = some (u3 ini.c) := hd 2
      have d3 : w3.cell? ⟨D, 3, none⟩ = some (u3 ini.d) := hd 3
      have d4 : w3.cell? ⟨D, 4, none⟩ = some (u3 ini.e) := hd 4
      have d5 : w3.cell? ⟨D, 5, none⟩ = some (u3 ini.f) := hd 5
      have d6 : w3.cell? ⟨D, 6, none⟩ = some (u3 ini.g) := hd 6
      have d7 : w3.cell? ⟨D, 7, none⟩ = some (u3 ini.h) := hd 7
      have f0 : w3.frozen? ⟨D, 0, none⟩ = false := hfz 0
      have f1 : w3.frozen? ⟨D, 1, none⟩ = false := hfz 1
      have f2 : w3.frozen? ⟨D, 2, none⟩ = false := hfz 2
      have f3 : w3.frozen? ⟨D, 3, none⟩ = false := hfz 3
      have f4 : w3.frozen? ⟨D, 4, none⟩ = false := hfz 4
      have f5 : w3.frozen? ⟨D, 5, none⟩ = false := hfz 5
      have f6 : w3.frozen? ⟨D, 6, none⟩ = false := hfz 6
      have f7 : w3.frozen? ⟨D, 7, none⟩ = false := hfz 7
      have hsD' : ¬ D = s := fun e => hsD e.symm
      have e1 : v = stv B := HV.out h0
      have HE1 := Lib.hid e1
      have HSRC3 := Lib.hid (src_row HR3.out)
      have hsl3 : s < w3.heap.size := heap_lt HS3.out
      have hDl : D < w3.heap.size := heap_lt HD3.out
      clear hd hfz e1
      go_upto_region 5 with fail
      go_region_held3 (fun w' => w'.cell? ⟨s, 0, none⟩ = some (u3 v.a) ∧ w'.cell? ⟨s, 1, none⟩ = some (u3 v.b) ∧ w'.cell? ⟨s, 2, none⟩ = some (u3 v.c) ∧ w'.cell? ⟨s, 3, none⟩ = some (u3 v.d) ∧ w'.cell? ⟨s, 4, none⟩ = some (u3 v.e) ∧ w'.cell? ⟨s, 5, none⟩ = some (u3 v.f) ∧ w'.cell? ⟨s, 6, none⟩ = some (u3 v.g) ∧ w'.cell? ⟨s, 7, none⟩ = some (u3 v.h) ∧ w'.cell? ⟨s, 9, none⟩ = some (.int .i64 n)) (go_keep) (fail)
      obtain ⟨w4, hw4⟩ : ∃ w4, (((((((((w3.setCell ⟨D, 0, none⟩ (u3 v.a)).setCell ⟨D, 1, none⟩ (u3 v.b)).setCell ⟨D, 2, none⟩ (u3 v.c)).setCell ⟨D, 3, none⟩ (u3 v.d)).setCell ⟨D, 4, none⟩ (u3 v.e)).setCell ⟨D, 5, none⟩ (u3 v.f)).setCell ⟨D, 6, none⟩ (u3 v.g)).setCell ⟨D, 7, none⟩ (u3 v.h)).drew) = w4 := ⟨_, rfl⟩
      have T4 : Turn D w3 w4 := by rw [← hw4]; exact (set8 HD3.out _ _ _ _ _ _ _ _).2.drew
      have hx4 : w4.heap[D]? = some (.cells v.cells 138 (0, 0)) := by rw [← hw4, heap_drew]; exact (set8 HD3.out _ _ _ _ _ _ _ _).1
      show Exit.then _ _ _ _ (((((((((w3.setCell ⟨D, 0, none⟩ (u3 v.a)).setCell ⟨D, 1, none⟩ (u3 v.b)).setCell ⟨D, 2, none⟩ (u3 v.c)).setCell ⟨D, 3, none⟩ (u3 v.d)).setCell ⟨D, 4, none⟩ (u3 v.e)).setCell ⟨D, 5, none⟩ (u3 v.f)).setCell ⟨D, 6, none⟩ (u3 v.g)).setCell ⟨D, 7, none⟩ (u3 v.h)).drew)
      rw [hw4]
      have HT4 := Lib.hid T4
      have HX4 := Lib.hid hx4
      have hDl4 : D + 1 ≤ w4.heap.size := by rw [T4.size]; omega
      have hr4 : w4.ownsRow base 5 1 vr (n % 64) (bys (rst B)) := row_kept HR3.out fun g e => T4.block g (by
        rintro rfl
        obtain ⟨cur, fr, ho⟩ := own_obj HR.out e
        have := heap_lt ho
        omega)
      have HSRC4 := Lib.hid (src_row hr4)
      have y8 : w4.cell? ⟨s, 8, none⟩ = some vr := (World.cell?_of_block (T4.block s hsD)).trans c8
      clear hw4 T4 hx4 hr4 c0 c1 c2 c3 c4 c5 c6 c7 c8 c9 d0 d1 d2 d3 d4 d5 d6 d7 f0 f1 f2 f3 f4 f5 f6 f7 HSRC3
      go_wp2_with (at_builtin; go_loud (refine wpList_app rfl (.tmp 28) (.tmp 32) 69 rfl (D + 1) 5 i5 (.int .u8 0) 1 1 Try.underlying69 h5 h50 h51 h52 rfl (by omega) (.slice none 0 0) 0 [] rfl (World.ownsRow_nil _ _ _ _) vr (n % 64) (bys (rst B)) rfl HSRC4.out (bys_one _) (by unfold maxLen; omega) (by omega) hDl4 ?_; intro v5 w5 o5 g5 q5))
      go_meet
      have o5' := o5.out
      rw [Nat.zero_add, List.nil_append] at o5'
      have gb := g5.out.size
      refine ⟨rfl, Lib.hid o5', Lib.hid ?_, Lib.hid ?_, Lib.hid (by omega)⟩
      · rw [g5.out.block D (by omega) (by intro h; cases h), HX4.out, HE1.out]
      · exact ((HB3.out.trans (HT4.out.toBelow hwD))).grown g5.out (by omega) (fun k hk => by cases hk)
  obtain ⟨rfl, HO, HX, HB, HL⟩ := hcut
  have hDc := HL.out
  have SX : Hid (∀ (W : World) (x : Int), Src (W.alloc (.cells #[.int .u8 x] 5)) 1 (.slice (some ⟨W.heap.size, 0, none⟩) 1 1) 1 [.int .u8 x]) := Lib.hid fun W x => .inr ⟨_, _, rfl, rfl, cells_new' W [.int .u8 x] 5⟩
  have hO1 : ∀ x : Int, ∀ u ∈ [Value.int .u8 x], u.oneCell' = true := by
    intro x u hu
    rw [List.mem_singleton.1 hu]
    rfl
  have HO1 := Lib.hid hO1
  clear hO1
  go_wp2_with (at_builtin; go_loud (refine wpList_app rfl (.tmp 34) (.tmp 35) 69 rfl (D + 1) 5 i5 (.int .u8 0) 1 1 Try.underlying69 h5 h50 h51 h52 rfl (by omega) _ (n % 64) (bys (rst B)) rfl (HO.out.alloc _) (.slice (some ⟨wc.heap.size, 0, none⟩) 1 1) 1 [.int .u8 128] rfl (SX.out wc 128) (HO1.out 128) (by unfold maxLen; omega) (by omega) (by simp; omega) ?_; intro v6 w6 o6 g6 q6))
  have HO6 : Hid (w6.ownsRow (D + 1) 5 1 v6 (n % 64 + 1 + 0) (bys (rst B ++ 128 :: List.replicate 0 0))) := Lib.hid (by rw [bys_append]; exact o6.out)
  have HX6 : Hid (w6.heap[D]? = some (.cells (stv B).cells 138 (0, 0))) := Lib.hid (by
    rw [g6.out.block D (by simp; omega) (by intro h; have := (HO.out.lt D h.symm).1; omega), Below.heap_alloc _ _ _ hDc]
    exact HX.out)
  have HB6 : Hid (Below w.heap.size w w6) := Lib.hid ((HB.out.alloc HB.out.size _).grown g6.out (by have := HB.out.size; simp; omega) (fun k hk => by have := (HO.out.lt k hk).1; omega))
  have HL6 : Hid (D < w6.heap.size) := Lib.hid (by have := g6.out.size; simp at this; omega)
  clear o6 g6 q6 HO HX HB HL hDc
  obtain ⟨z, hz⟩ : ∃ z, zs n = z := ⟨_, rfl⟩
  have hz64 : z < 64 := by rw [← hz]; exact (zs_total n).2
  have HZS : Hid (z = (119 - n % 64) % 64) := Lib.hid (by rw [← hz]; rfl)
  have HZZ := Lib.hid hz
  clear hz
  go_loopw [4] (fun v wr => ∃ j, j ≤ z ∧ Hid (wr.ownsRow (D + 1) 5 1 v (n % 64 + 1 + j) (bys (rst B ++ 128 :: List.replicate j 0))) ∧ Hid (wr.heap[D]? = some (.cells (stv B).cells 138 (0, 0))) ∧ Hid (Below w.heap.size w wr) ∧ Hid (D < wr.heap.size)) (fun v _ => (match v with | .slice _ n _ => 200 - n | _ => 0))
  case atStart => exact ⟨0, Nat.zero_le _, HO6, HX6, HB6, HL6⟩
  case round =>
    obtain ⟨j, hj, HO, HX, HB, HL⟩ := hrel
    obtain ⟨a, c, rfl⟩ := own_slice HO.out
    have hDc := HL.out
    obtain ⟨q, hq⟩ : ∃ q, n % 64 + 1 + j = q := ⟨_, rfl⟩
    rw [hq] at HO ⊢
    have HQ := Lib.hid hq
    by_cases hlt : j < z
    · have htest : (((q : Int) % 64) != 56) = true := by have := HZS.out; rw [bne_iff_ne]; omega
      have hq2 : q < 200 := by omega
      clear hq
      go_wp2_with (at_builtin; go_loud (refine wpList_app rfl (.tmp 41) (.tmp 42) 69 rfl (D + 1) 5 i5 (.int .u8 0) 1 1 Try.underlying69 h5 h50 h51 h52 rfl (by omega) _ q _ rfl (HO.out.alloc _) (.slice (some ⟨wr.heap.size, 0, none⟩) 1 1) 1 [.int .u8 0] rfl (SX.out wr 0) (HO1.out 0) (by unfold maxLen; omega) (by omega) (by simp; omega) ?_; intro v7 w7 o7 g7 q7))
      go_roundw
      case rel =>
        have hq' := HQ.out
        have gs := g7.out.size
        simp at gs
        refine ⟨j + 1, by omega, Lib.hid ?_, Lib.hid ?_, Lib.hid ((HB.out.alloc HB.out.size _).grown g7.out (by have := HB.out.size; simp; omega) (fun k hk => by have := (HO.out.lt k hk).1; omega)), Lib.hid (by omega)⟩
        · rw [show n % 64 + 1 + (j + 1) = q + 1 by omega, List.replicate_succ', show rst B ++ 128 :: (List.replicate j 0 ++ [0]) = (rst B ++ 128 :: List.replicate j 0) ++ [0] by simp, bys_append]
          exact o7.out
        · rw [g7.out.block D (by simp; omega) (by intro h; have := (HO.out.lt D h.symm).1; omega), Below.heap_alloc _ _ _ hDc]
          exact HX.out
      case measure =>
        obtain ⟨a7, c7, rfl⟩ := own_slice o7.out
        show 200 - (q + 1) < 200 - q
        omega
    · obtain rfl : j = z := by omega
      have htest : (((q : Int) % 64) != 56) = false := by have := HZS.out; rw [bne_eq_false_iff_eq]; omega
      have hq2 : q < 200 := by omega
      clear hq
      go_wp2_with fail
      have HO8 : Hid (wr.ownsRow (D + 1) 5 1 (.slice a q c) (q + 0) (bys (rst B ++ 128 :: (List.replicate j 0 ++ (tl8 n).take 0)))) := Lib.hid (by rw [List.take_zero, List.append_nil]; exact HO.out)
      clear HO htest
      go_loopw [4, 6] (fun v i wr => ∃ k : Nat, k ≤ 8 ∧ i = .int .i64 (7 - (k : Int)) ∧ Hid (wr.ownsRow (D + 1) 5 1 v (q + k) (bys (rst B ++ 128 :: (List.replicate j 0 ++ (tl8 n).take k)))) ∧ Hid (wr.heap[D]? = some (.cells (stv B).cells 138 (0, 0))) ∧ Hid (Below w.heap.size w wr) ∧ Hid (D < wr.heap.size)) (fun _ i _ => (intOf i + 1).toNat)
      case atStart => exact ⟨0, Nat.zero_le _, rfl, HO8, HX, HB, HL⟩
      case round =>
        clear HX HB HL hDc
        obtain ⟨k, hk, rfl, HO, HX, HB, HL⟩ := hrel
        obtain ⟨a, c, rfl⟩ := own_slice HO.out
        have hDc := HL.out
        by_cases hlt : k < 8
        · have hO2 : Hid (∃ L, L = rst B ++ 128 :: (List.replicate j 0 ++ (tl8 n).take k)) := Lib.hid ⟨_, rfl⟩
          obtain ⟨i, hi⟩ : ∃ i : Int, 7 - (k : Int) = i := ⟨_, rfl⟩
          rw [hi]
          have HK := Lib.hid (show ∃ K, k = K ∧ K < 8 from ⟨k, rfl, hlt⟩)
          obtain ⟨K, hK, hK8⟩ := HK.out
          have hi7 : i = 7 ∨ i = 6 ∨ i = 5 ∨ i = 4 ∨ i = 3 ∨ i = 2 ∨ i = 1 ∨ i = 0 := by omega
          have HI' := Lib.hid hi
          clear hi hK hK8 HK hO2
          rcases hi7 with rfl | rfl | rfl | rfl | rfl | rfl | rfl | rfl
          all_goals
            go_wp2_with (at_builtin; go_loud (refine wpList_app rfl (.tmp 48) (.tmp 57) 69 rfl (D + 1) 5 i5 (.int .u8 0) 1 1 Try.underlying69 h5 h50 h51 h52 rfl (by omega) _ _ _ rfl (HO.out.alloc _) (.slice (some ⟨wr.heap.size, 0, none⟩) 1 1) 1 _ rfl (SX.out wr _) (HO1.out _) (by unfold maxLen; omega) (by omega) (by simp; omega) ?_; intro v7 w7 o7 g7 q7))
            go_roundw
            case measure => simp [intOf]
            case rel =>
              have hi := HI'.out
              have gs := g7.out.size
              simp at gs
              refine ⟨k + 1, by omega, by go_num, Lib.hid ?_, Lib.hid ?_, Lib.hid ((HB.out.alloc HB.out.size _).grown g7.out (by have := HB.out.size; simp; omega) (fun k hk => by have := (HO.out.lt k hk).1; omega)), Lib.hid (by omega)⟩
              · have o' := o7.out
                first
                  | (obtain rfl : k = 0 := by omega
                     rw [tl8_step n 0 72057594037927936 (rst B) (List.replicate j 0) ((n : Int) * 8 / 72057594037927936) (by omega) (by decide) (by omega)]
                     exact o')
                  | (obtain rfl : k = 1 := by omega
                     rw [tl8_step n 1 281474976710656 (rst B) (List.replicate j 0) ((n : Int) * 8 / 281474976710656) (by omega) (by decide) (by omega)]
                     exact o')
                  | (obtain rfl : k = 2 := by omega
                     rw [tl8_step n 2 1099511627776 (rst B) (List.replicate j 0) ((n : Int) * 8 / 1099511627776) (by omega) (by decide) (by omega)]
                     exact o')
                  | (obtain rfl : k = 3 := by omega
                     rw [tl8_step n 3 4294967296 (rst B) (List.replicate j 0) ((n : Int) * 8 / 4294967296 % 256) (by omega) (by decide) (by omega)]
                     exact o')
                  | (obtain rfl : k = 4 := by omega
                     rw [tl8_step n 4 16777216 (rst B) (List.replicate j 0) ((n : Int) * 8 / 16777216 % 256) (by omega) (by decide) (by omega)]
                     exact o')
                  | (obtain rfl : k = 5 := by omega
                     rw [tl8_step n 5 65536 (rst B) (List.replicate j 0) ((n : Int) * 8 / 65536 % 256) (by omega) (by decide) (by omega)]
                     exact o')
                  | (obtain rfl : k = 6 := by omega
                     rw [tl8_step n 6 256 (rst B) (List.replicate j 0) ((n : Int) * 8 / 256 % 256) (by omega) (by decide) (by omega)]
                     exact o')
                  | (obtain rfl : k = 7 := by omega
                     rw [tl8_step n 7 1 (rst B) (List.replicate j 0) ((n : Int) * 8 % 256) (by omega) (by decide) (by omega)]
                     exact o')
              · rw [g7.out.block D (by simp; omega) (by intro h; have := (HO.out.lt D h.symm).1; omega), Below.heap_alloc _ _ _ hDc]
                exact HX.out
        · obtain rfl : k = 8 := by omega
          go_wp2_with fail
          rw [show (7 : Int) - ((8 : Nat) : Int) = -1 from rfl]
          obtain ⟨N, hN⟩ : ∃ N, q + 8 = N := ⟨_, rfl⟩
          have hLp : rst B ++ 128 :: (List.replicate j 0 ++ (tl8 n).take 8) = rst B ++ pdg n := by
            unfold pdg
            rw [HZZ.out]
            rfl
          rw [hN, hLp] at HO
          rw [hN]
          have hNT : N % 64 = 0 := by
            have := (zs_total n).1
            rw [HZZ.out] at this
            have := HQ.out
            omega
          have HLN : Hid ((rst B ++ pdg n).length = N) := Lib.hid (by
            rw [List.length_append, rst_len, HN.out, pdg_len, HZZ.out]
            have := HQ.out
            omega)
          have hN0 : 0 < N := by omega
          have hNb : N ≤ 1000 := by omega
          obtain ⟨g, c4, hv4, hc4, hgb, hgl, hcell⟩ : ∃ g c4, Value.slice a N c = .slice (some ⟨g, 0, none⟩) N c4 ∧ N ≤ c4 ∧ D + 1 ≤ g ∧ g < wr.heap.size ∧ ∀ j u, (bys (rst B ++ pdg n))[j]? = some u → wr.cell? ⟨g, j, none⟩ = some u := by
            have hh := HO.out
            rcases hh.2 with ⟨_, h0⟩ | ⟨g, cap, cur, hvv, hg, hb, h1, h2, h3, h4⟩
            · omega
            · refine ⟨g, cap, hvv, h1, hg, heap_lt hb, fun j u hu => ?_⟩
              have := hh.cells (g := g) (by rw [hvv]; rfl) j u hu
              rwa [Addr.add_lit, Nat.zero_add] at this
          rw [hv4]
          have HCE := Lib.hid hcell
          obtain ⟨L, hL⟩ : ∃ L, rst B ++ pdg n = L := ⟨_, rfl⟩
          rw [hL] at HCE HLN
          have HLL := Lib.hid hL
          obtain ⟨wo, rfl⟩ : ∃ wo : World, wo = wr := ⟨_, rfl⟩
          clear hcell hL hN hLp HO hv4
          go_loopw [4] (fun v wx => ∃ i o c : Nat, 64 * i ≤ N ∧ v = .slice (some ⟨g, o, none⟩) (N - 64 * i) c ∧ (64 * i < N → o = 64 * i) ∧ N - 64 * i ≤ c ∧ Hid (wx.heap[D]? = some (.cells (blocks (stv B) i L).cells 138 (0, 0))) ∧ Hid (But D wo wx)) (fun v _ => (match v with | .slice _ n _ => n | _ => 0))
          case atStart => exact ⟨0, 0, c4, by omega, rfl, fun _ => rfl, hc4, HX, Lib.hid (But.refl _ _)⟩
          case round =>
            obtain ⟨i, o, c, hi, rfl, ho, hcM, HSr, HBr⟩ := hrel
            obtain ⟨M, hM⟩ : ∃ M, N - 64 * i = M := ⟨_, rfl⟩
            rw [hM] at hcM ⊢
            have HM := Lib.hid hM
            by_cases hlt : 64 ≤ M
            · have ho' := ho (by omega)
              subst ho'
              obtain ⟨q', hq'⟩ : ∃ q, blocks (stv B) i L = q := ⟨_, rfl⟩
              have hqo : q'.Ok := by rw [← hq']; exact blocks_ok (blocks_ok ini_ok _ _) _ _
              rw [hq'] at HSr
              have HQ' := Lib.hid hq'
              have HQO := Lib.hid hqo
              obtain ⟨hc, hf⟩ := row_cells HSr.out
              obtain ⟨qa, qb, qc, qd, qe, qf, qg, qh⟩ := q'
              have c0 : wr.cell? ⟨D, 0, none⟩ = some (u3 qa) := hc 0
              have c1 : wr.cell? ⟨D, 1, none⟩ = some (u3 qb) := hc 1
              have c2 : wr.cell? ⟨D, 2, none⟩ = some (u3 qc) := hc 2
              have c3 : wr.cell? ⟨D, 3, none⟩ = some (u3 qd) := hc 3
              have c4' : wr.cell? ⟨D, 4, none⟩ = some (u3 qe) := hc 4
              have c5 : wr.cell? ⟨D, 5, none⟩ = some (u3 qf) := hc 5
              have c6 : wr.cell? ⟨D, 6, none⟩ = some (u3 qg) := hc 6
              have c7 : wr.cell? ⟨D, 7, none⟩ = some (u3 qh) := hc 7
              have f0 := hf 0
              have f1 := hf 1
              have f2 := hf 2
              have f3 := hf 3
              have f4 := hf 4
              have f5 := hf 5
              have f6 := hf 6
              have f7 := hf 7
              have hsr : D < wr.heap.size := heap_lt HSr.out
              have hgr : g < wr.heap.size := Nat.lt_of_lt_of_le hgl HBr.out.size
              have HBY : Hid (BytesAt wr g (64 * i) (mo (L.drop (64 * i)))) := Lib.hid (by
                intro j hj
                refine ⟨?_, mo_bd _ _⟩
                rw [World.cell?_of_block (HBr.out.block g hgl (by omega))]
                refine HCE.out _ _ ?_
                rw [bys_get (by rw [HLN.out]; omega)]
                congr 2
                unfold mo
                rw [List.getD_eq_getElem?_getD, List.getD_eq_getElem?_getD, List.getElem?_drop])
              have hM0 : (0 : Int) < (M : Int) := by omega
              have hM64 : (64 : Int) ≤ (M : Int) := by omega
              have hc64 : (64 : Int) ≤ (c : Int) := by omega
              clear hc hf hq' hqo
              obtain ⟨x, hx⟩ : ∃ x, cmp ⟨qa, qb, qc, qd, qe, qf, qg, qh⟩ (mo (L.drop (64 * i))) = x := ⟨_, rfl⟩
              have HXX : Hid (blocks (stv B) (i + 1) L = x) := Lib.hid (by rw [blocks_snoc, HQ'.out]; exact hx)
              have HCB := block_any ⟨qa, qb, qc, qd, qe, qf, qg, qh⟩ HQO.out g (64 * i) c (mo (L.drop (64 * i))) wr.drew HBY.out hgr
              rw [hx] at HCB
              obtain ⟨x0, x1, x2, x3, x4, x5, x6, x7⟩ := x
              have HCB := Lib.hid HCB
              clear hx
              rcases Nat.lt_or_ge 64 c with hcc | hcc
              case' inr =>
                obtain rfl : c = 64 := by omega
                clear hcc hc64
              case' inl =>
                have hc1 : ¬ c = 64 := by omega
                have hc2 : ¬ 64 = c := by omega
              all_goals
                go_wp2_with fail
                go_region_with (go_at_call 107; refine HCB.out.mono ?_; rintro e w6 ⟨rfl, hb6⟩; dsimp only [V8.cells]; have d0 : w6.cell? ⟨D, 0, none⟩ = some (u3 qa) := (hb6.cell (p := ⟨D, 0, none⟩) hsr).trans c0; have z0 : w6.frozen? ⟨D, 0, none⟩ = false := (hb6.frozen (p := ⟨D, 0, none⟩) hsr).trans f0; have d1 : w6.cell? ⟨D, 1, none⟩ = some (u3 qb) := (hb6.cell (p := ⟨D, 1, none⟩) hsr).trans c1; have z1 : w6.frozen? ⟨D, 1, none⟩ = false := (hb6.frozen (p := ⟨D, 1, none⟩) hsr).trans f1; have d2 : w6.cell? ⟨D, 2, none⟩ = some (u3 qc) := (hb6.cell (p := ⟨D, 2, none⟩) hsr).trans c2; have z2 : w6.frozen? ⟨D, 2, none⟩ = false := (hb6.frozen (p := ⟨D, 2, none⟩) hsr).trans f2; have d3 : w6.cell? ⟨D, 3, none⟩ = some (u3 qd) := (hb6.cell (p := ⟨D, 3, none⟩) hsr).trans c3; have z3 : w6.frozen? ⟨D, 3, none⟩ = false := (hb6.frozen (p := ⟨D, 3, none⟩) hsr).trans f3; have d4 : w6.cell? ⟨D, 4, none⟩ = some (u3 qe) := (hb6.cell (p := ⟨D, 4, none⟩) hsr).trans c4'; have z4 : w6.frozen? ⟨D, 4, none⟩ = false := (hb6.frozen (p := ⟨D, 4, none⟩) hsr).trans f4; have d5 : w6.cell? ⟨D, 5, none⟩ = some (u3 qf) := (hb6.cell (p := ⟨D, 5, none⟩) hsr).trans c5; have z5 : w6.frozen? ⟨D, 5, none⟩ = false := (hb6.frozen (p := ⟨D, 5, none⟩) hsr).trans f5; have d6 : w6.cell? ⟨D, 6, none⟩ = some (u3 qg) := (hb6.cell (p := ⟨D, 6, none⟩) hsr).trans c6; have z6 : w6.frozen? ⟨D, 6, none⟩ = false := (hb6.frozen (p := ⟨D, 6, none⟩) hsr).trans f6; have d7 : w6.cell? ⟨D, 7, none⟩ = some (u3 qh) := (hb6.cell (p := ⟨D, 7, none⟩) hsr).trans c7; have z7 : w6.frozen? ⟨D, 7, none⟩ = false := (hb6.frozen (p := ⟨D, 7, none⟩) hsr).trans f7; have HB6 := Lib.hid hb6; clear hb6)
                go_wp2_with fail
                go_roundw
                case rel =>
                  have hm := HM.out
                  have hs6 : w6.heap[D]? = some (.cells (V8.mk qa qb qc qd qe qf qg qh).cells 138 (0, 0)) := by
                    rw [HB6.out.block D hsr]
                    exact HSr.out
                  have h8 := set8 hs6 (u3 x0) (u3 x1) (u3 x2) (u3 x3) (u3 x4) (u3 x5) (u3 x6) (u3 x7)
                  refine ⟨i + 1, _, _, by omega, (by first | (rw [show N - 64 * (i + 1) = M - 64 by omega]; done) | (rw [show N - 64 * (i + 1) = 0 by omega]; done)), fun h => by omega, by omega, Lib.hid ?_, Lib.hid ((HBr.out.trans (((But.refl D wr).drew).trans (.of_below HB6.out))).trans (.of_turn h8.2))⟩
                  rw [HXX.out]
                  exact h8.1
                case measure =>
                  first
                    | (show M - 64 < M; omega)
                    | (show 0 < M; omega)
            · have hM0 : M = 0 := by omega
              subst hM0
              have hst : blocks (stv B) i L = blocks ini ((n + zs n + 9) / 64) (B ++ pdg n) := by
                have := end_stream B
                rw [HN.out, HLL.out, HLN.out] at this
                rw [← this, show i = N / 64 by omega]
              rw [hst] at HSr
              have HSH : Hid (shaL B = outV (blocks ini ((n + zs n + 9) / 64) (B ++ pdg n))) := Lib.hid (by unfold shaL; rw [HN.out])
              obtain ⟨r, hr⟩ : ∃ r, blocks ini ((n + zs n + 9) / 64) (B ++ pdg n) = r := ⟨_, rfl⟩
              have hro : r.Ok := by rw [← hr]; exact blocks_ok ini_ok _ _
              rw [hr] at HSr HSH
              have HRO := Lib.hid hro
              clear hst hr hro hM ho hcM HM hlt
              obtain ⟨hc, _⟩ := row_cells HSr.out
              obtain ⟨r0, r1, r2, r3, r4, r5, r6, r7⟩ := r
              have c0' : wr.cell? ⟨D, 0, none⟩ = some (u3 r0) := hc 0
              have c1' : wr.cell? ⟨D, 1, none⟩ = some (u3 r1) := hc 1
              have c2' : wr.cell? ⟨D, 2, none⟩ = some (u3 r2) := hc 2
              have c3' : wr.cell? ⟨D, 3, none⟩ = some (u3 r3) := hc 3
              have c4' : wr.cell? ⟨D, 4, none⟩ = some (u3 r4) := hc 4
              have c5' : wr.cell? ⟨D, 5, none⟩ = some (u3 r5) := hc 5
              have c6' : wr.cell? ⟨D, 6, none⟩ = some (u3 r6) := hc 6
              have c7' : wr.cell? ⟨D, 7, none⟩ = some (u3 r7) := hc 7
              have IX : Hid (∀ k, k < 8 → ∀ W : World, (Instr.index 138 (.agg #[u3 r0, u3 r1, u3 r2, u3 r3, u3 r4, u3 r5, u3 r6, u3 r7]) (.int .i64 (k : Nat))).run Try.prog W = .ok (u3 ((V8.mk r0 r1 r2 r3 r4 r5 r6 r7).lst.getD k 0)) W) := Lib.hid (by
                intro k hk W
                rcases (show k = 0 ∨ k = 1 ∨ k = 2 ∨ k = 3 ∨ k = 4 ∨ k = 5 ∨ k = 6 ∨ k = 7 by omega) with rfl | rfl | rfl | rfl | rfl | rfl | rfl | rfl <;> rfl)
              have hB9 := (HB.out.trans (HBr.out.toBelow hwD HB.out.size))
              have HB9 := Lib.hid hB9
              have hw9 := hB9.size
              clear hc hB9
              obtain ⟨wo2, rfl⟩ : ∃ wo2 : World, wo2 = wr := ⟨_, rfl⟩
              go_wp2_with fail
              go_loopw [7, 69, 9] (fun v i _ wx => ∃ k : Nat, k ≤ 8 ∧ i = .int .i64 k ∧ Hid (wx.ownsRow wo2.heap.size 5 1 v (4 * k) (bys ((outV ⟨r0, r1, r2, r3, r4, r5, r6, r7⟩).take (4 * k)))) ∧ Hid (Below wo2.heap.size wo2 wx)) (fun _ i _ _ => (8 - intOf i).toNat)
              case atStart => exact ⟨0, Nat.zero_le _, rfl, Lib.hid (World.ownsRow_nil _ _ _ _), Lib.hid (Below.refl _ _)⟩
              case round =>
                obtain ⟨k, hk, rfl, HO, HBx⟩ := hrel
                by_cases hlt : k < 8
                · obtain ⟨x, hx⟩ : ∃ x, (V8.mk r0 r1 r2 r3 r4 r5 r6 r7).lst.getD k 0 = x := ⟨_, rfl⟩
                  have hxb : B32 x := by rw [← hx]; exact HRO.out.all k
                  have ix := IX.out k hlt
                  rw [hx] at ix
                  have HXX := Lib.hid hx
                  have HXB := Lib.hid hxb
                  obtain ⟨x0, x1⟩ := hxb
                  have S4 : Hid (∀ (W : World) (a b c d : Value), Src (W.alloc (.cells #[a, b, c, d] 5)) 1 (.slice (some ⟨W.heap.size, 0, none⟩) 4 4) 4 [a, b, c, d]) := Lib.hid fun W a b c d => .inr ⟨_, _, rfl, rfl, cells_new' W [a, b, c, d] 5⟩
                  have hwx := HBx.out.size
                  clear hx
                  go_wp2_with (at_builtin; go_loud (refine wpList_app rfl (.tmp 72) (.tmp 84) 69 rfl wo2.heap.size 5 i5 (.int .u8 0) 1 1 Try.underlying69 h5 h50 h51 h52 rfl (by omega) _ (4 * k) _ rfl (HO.out.alloc _) (.slice (some ⟨wr.heap.size, 0, none⟩) 4 4) 4 [.int .u8 (x / 16777216), .int .u8 (x / 65536 % 256), .int .u8 (x / 256 % 256), .int .u8 (x % 256)] rfl (S4.out wr _ _ _ _) (by rw [← bys_outW x HXB.out]; exact bys_one _) (by unfold maxLen; omega) (by omega) (by simp; omega) ?_; intro v7 w7 o7 g7 q7))
                  go_roundw
                  case rel =>
                    have gs := g7.out.size
                    simp at gs
                    refine ⟨k + 1, by omega, by go_num, Lib.hid ?_, Lib.hid ((HBx.out.alloc HBx.out.size _).grown g7.out (by simp; omega) (fun k hk => (HO.out.lt k hk).1))⟩
                    rw [outV_take _ k hlt, bys_append, HXX.out, bys_outW x HXB.out, show 4 * (k + 1) = 4 * k + 4 by omega]
                    exact o7.out
                  case measure => simp [intOf]; omega
                · obtain rfl : k = 8 := by omega
                  have hcv := conv_row HO.out (by omega)
                  go_wp2_with fail
                  go_ret
                  refine ⟨?_, HB9.out.trans (HBx.out.mono hw9)⟩
                  unfold sha
                  rw [HSH.out]
                  rfl
end Go.Proofs.Ytlaodmpdngdhjaa

/- hash.Sum. -/
namespace Go.Proofs.Ytlaodmpdngdhjaa
set_option linter.unusedVariables false
set_option linter.unusedSimpArgs false
open Go.RowKit

/-- Strings, one after the other. -/
def cat (L : List ByteArray) : List UInt8 := (L.map fun b => b.data.toList).flatten
theorem cat_snoc (L : List ByteArray) (k : Nat) (x : ByteArray) (h : L[k]? = some x) : cat (L.take (k + 1)) = cat (L.take k) ++ x.data.toList := by
  unfold cat
  rw [List.take_add_one, h]
  simp
theorem cat_take (L : List ByteArray) (k : Nat) : (cat (L.take k)).length ≤ (cat L).length := by
  conv => rhs; rw [← List.take_append_drop k L]
  unfold cat
  rw [List.map_append, List.flatten_append, List.length_append]
  omega
set_option maxRecDepth 100000 in
set_option maxHeartbeats 4000000 in
theorem hsum_any (v : Value) (L : List ByteArray) (w : World) (h : RowS w v L) (hl : L.length ≤ 1000000) (ht : (cat L).length ≤ 1099511627776) :
    Calls Try.prog 93 #[v] w fun e w' => e = .returned (.string (sha (cat L))) ∧ Below w.heap.size w w' := by
  obtain ⟨a, c, rfl⟩ := h.shape
  have HS := Lib.hid (start_any w)
  have HR := Lib.hid h
  obtain ⟨n, hn⟩ : ∃ n, L.length = n := ⟨_, rfl⟩
  have HN := Lib.hid hn
  have HT := Lib.hid ht
  rw [hn] at HR hl ⊢
  clear h hn ht
  go_enter Try.func93, Try.ntmps93
  go_wp2_with fail
  refine HS.out.mono ?_
  rintro e w1 ⟨rfl, hst, hb1, hz1⟩
  have HST := Lib.hid hst
  have HB1 := Lib.hid hb1
  clear hst hb1
  go_wp2_with fail
  go_loopw [9, 5] (fun i _ wr => ∃ k : Nat, k ≤ n ∧ i = .int .i64 k ∧ Hid (StrmAt wr w.heap.size w.heap.size (cat (L.take k))) ∧ Hid (Below w.heap.size w wr)) (fun i _ _ => n - (intOf i).toNat)
  case atStart => exact ⟨0, Nat.zero_le _, rfl, HST, HB1⟩
  case round =>
    obtain ⟨k, hk, rfl, HSR, HB⟩ := hrel
    by_cases hlt : k < n
    · obtain ⟨x, hx⟩ : ∃ x, L[k]? = some x := ⟨L[k]'(by rw [HN.out]; exact hlt), by simp [HN.out, hlt]⟩
      obtain ⟨g, o, rfl, hg, c0⟩ := HR.out.get hx
      have hck : wr.cell? ⟨g, o + k, none⟩ = some (.string x) := (HB.out.cell (p := ⟨g, o + k, none⟩) hg).trans c0
      have hsn := cat_snoc L k x hx
      have HSN := Lib.hid hsn
      have hle := cat_take L (k + 1)
      rw [hsn, List.length_append, show x.data.toList.length = x.size by rw [Array.length_toList]; rfl] at hle
      have hle2 := Nat.le_trans hle HT.out
      have HW := Lib.hid (write_any w.heap.size w.heap.size _ x wr HSR.out (Nat.le_refl _) hle2)
      clear hx c0 hsn hle hle2
      go_wp2_with fail
      refine HW.out.mono ?_
      rintro e w2 ⟨rfl, hs2, hb2⟩
      have HS2 := Lib.hid hs2
      have HB2 := Lib.hid hb2
      clear hs2 hb2
      go_wp2_with fail
      go_roundw
      case rel => exact ⟨k + 1, by omega, by go_num, Lib.hid (by rw [HSN.out]; exact HS2.out), Lib.hid (HB.out.trans HB2.out)⟩
      case measure => simp [intOf]; omega
    · obtain rfl : k = n := by omega
      have HSS : Hid (StrmAt wr w.heap.size w.heap.size (cat L)) := Lib.hid (by have := HSR.out; rw [← HN.out, List.take_length] at this; exact this)
      have HSU := Lib.hid (ssum_any _ _ _ wr HSS.out HT.out)
      go_wp2_with fail
      refine HSU.out.mono ?_
      rintro e w2 ⟨rfl, hb2⟩
      have HB2 := Lib.hid hb2
      clear hb2
      go_wp2_with fail
      go_ret
      exact ⟨rfl, HB.out.trans (HB2.out.mono HB.out.size)⟩
end Go.Proofs.Ytlaodmpdngdhjaa
