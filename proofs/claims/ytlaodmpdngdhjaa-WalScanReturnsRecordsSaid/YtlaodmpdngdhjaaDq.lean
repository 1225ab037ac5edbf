/- Crash of the program's disk. -/
import Derived.Test.YtlaodmpdngdhjaaDp
import Derived.Deep.Cut
import Derived.Laws.EntriesVeiled
import Derived.Deep.CutBlock
import Derived.Deep.DeepCutAuto
namespace Go.Proofs.Ytlaodmpdngdhjaa
set_option linter.unusedVariables false
set_option linter.unusedSimpArgs false
open Go.RowKit Go.Maps Go.WideMaps

theorem chgs_len {w : World} {ro : Nat → Prop} : ∀ {l : List (List Value)} {m : List Chg}, ChgsAt w ro l m → ∀ cs ∈ l, cs.length = 2
  | [], [], _, _, h => by simp at h
  | cs :: r, c :: m, h, x, hx => by
    rcases List.mem_cons.1 hx with rfl | hx
    · have h1 := h.1
      cases c with
      | app n b => obtain ⟨_, _, rfl, _⟩ := h1; rfl
      | ren a b => obtain ⟨_, _, rfl, _⟩ := h1; rfl
      | del n => obtain ⟨_, rfl, _⟩ := h1; rfl
    · exact chgs_len h.2 x hx
  | [], _ :: _, h, _, _ => h.elim
  | _ :: _, [], h, _, _ => h.elim
theorem chgs_length {w : World} {ro : Nat → Prop} : ∀ {l : List (List Value)} {m : List Chg}, ChgsAt w ro l m → l.length = m.length
  | [], [], _ => rfl
  | _ :: _, _ :: _, h => by simp [chgs_length h.2]
  | [], _ :: _, h => h.elim
  | _ :: _, [], h => h.elim
theorem flat2 : ∀ {l : List (List Value)}, (∀ cs ∈ l, cs.length = 2) → ∀ {k : Nat} {x y : Value}, l[k]? = some [x, y] → l.flatten[k * 2]? = some x ∧ l.flatten[k * 2 + 1]? = some y
  | [], _, k, x, y, h => by simp at h
  | cs :: r, hl, 0, x, y, h => by
    simp only [List.getElem?_cons_zero, Option.some.injEq] at h
    subst h
    simp
  | cs :: r, hl, k + 1, x, y, h => by
    have h1 := hl cs (by simp)
    have h2 := flat2 (l := r) (fun c hc => hl c (by simp [hc])) (k := k) (x := x) (y := y) (by simpa using h)
    obtain ⟨p, q, rfl⟩ : ∃ p q, cs = [p, q] := by
      match cs, h1 with
      | [p, q], _ => exact ⟨p, q, rfl⟩
    have e1 : (k + 1) * 2 = k * 2 + 2 := by omega
    have e2 : (k + 1) * 2 + 1 = (k * 2 + 1) + 2 := by omega
    rw [e2, e1]
    simpa using h2
theorem row2 {w : World} {base : Nat} {e : TypeId} {v : Value} {n : Nat} {fcs : List (List Value)} (h : w.ownsRow base e 2 v n fcs.flatten) (hl : ∀ cs ∈ fcs, cs.length = 2) {k : Nat} {x y : Value} (hk : fcs[k]? = some [x, y]) :
    ∃ g cap, v = .slice (some ⟨g, 0, none⟩) n cap ∧ n ≤ cap ∧ g < w.heap.size ∧ w.cell? ⟨g, k * 2, none⟩ = some x ∧ w.cell? ⟨g, k * 2 + 1, none⟩ = some y := by
  obtain ⟨h1, h2⟩ := flat2 hl hk
  have hh := h
  obtain ⟨hlen, ⟨_, h0⟩ | ⟨g, cap, cur, rfl, hg, hblk, hn, hcap, hsz, htk⟩⟩ := h
  · subst h0
    have : fcs.flatten = [] := List.eq_nil_of_length_eq_zero (by simpa using hlen)
    rw [this] at h1
    simp at h1
  · have h3 := hh.cells (g := g) rfl _ _ h1
    have h4 := hh.cells (g := g) rfl _ _ h2
    rw [Addr.add_lit, Nat.zero_add] at h3 h4
    exact ⟨g, cap, rfl, hn, heap_lt hblk, h3, h4⟩
theorem renOK_get {F : List File} {l : List Chg} (h : RenOK F l) {k : Nat} {c : Chg} (hk : l[k]? = some c) : okc ((l.take k).foldl appl F) c := by
  have e : l = l.take k ++ c :: l.drop (k + 1) := by
    obtain ⟨hlt, rfl⟩ := List.getElem?_eq_some_iff.1 hk
    rw [List.getElem_cons_drop, List.take_append_drop]
  rw [e] at h
  exact ((renOK_append F _ _).1 h).2.1
theorem fold_step (F : List File) (l : List Chg) {k : Nat} {c : Chg} (hk : l[k]? = some c) : (l.take (k + 1)).foldl appl F = appl ((l.take k).foldl appl F) c := by
  rw [List.take_add_one, hk]
  simp [List.foldl_append]
theorem ssz_take (l : List Chg) (k : Nat) : ssz (l.take k) ≤ ssz l := by
  have e : ssz l = ssz (l.take k) + ssz (l.drop k) := by
    conv => lhs; rw [← List.take_append_drop k l]
    unfold ssz
    rw [List.map_append, List.sum_append]
  omega
theorem Good.part {s : St} {M : Nat} (h : Good s M) (k : Nat) : KeysND ((s.ops.take k).foldl appl s.files) ∧ szs ((s.ops.take k).foldl appl s.files) + ((s.ops.take k).foldl appl s.files).length ≤ M := by
  refine ⟨nd_fold h.nd _, ?_⟩
  have h1 := szs_fold s.files (s.ops.take k)
  have h2 := len_fold s.files (s.ops.take k)
  have h3 := ssz_take s.ops k
  have h4 : (s.ops.take k).length ≤ s.ops.length := by rw [List.length_take]; omega
  have := h.wt
  omega
theorem le_sum_mem : ∀ {l : List Nat} {x : Nat}, x ∈ l → x ≤ l.sum
  | y :: r, x, h => by
    rw [List.sum_cons]
    rcases List.mem_cons.1 h with rfl | h
    · omega
    · have := le_sum_mem h; omega
/-- A change met again. -/
theorem Good.csz_le {s : St} {M : Nat} (h : Good s M) {k : Nat} {c : Chg} (hk : s.ops[k]? = some c) : csz c ≤ M := by
  have h1 : csz c ≤ ssz s.ops := by
    unfold ssz
    obtain ⟨hlt, rfl⟩ := List.getElem?_eq_some_iff.1 hk
    exact le_sum_mem (List.mem_map.2 ⟨_, List.getElem_mem hlt, rfl⟩)
  have := h.wt
  omega
theorem MapOf.alloc {w : World} {v : Value} {F : List File} (h : MapOf w v F) (o : Obj) : MapOf (w.alloc o) v F := h.kept fun b e => by
  subst e
  exact Below.heap_alloc w o b h.lt
/-- What the closures do, in any later world. -/
structure Does (w : World) (bf : Nat) (F : List File) (c : Chg) (k : Int) (G : List File) : Prop where
  app : ∀ n b bd bn, c = .app n b → w.cell? ⟨bd, 0, none⟩ = some (.string b) → w.cell? ⟨bn, 0, none⟩ = some (.string n) → n.size ≤ 32 → ∀ W, Below w.heap.size w W → MapOf W (.map (some bf)) F → Calls Try.prog 73 #[.map (some bf), .int .i64 k, ptr bd, ptr bn] W (Appl bf W G)
  ren : ∀ x y ba bb, c = .ren x y → w.cell? ⟨ba, 0, none⟩ = some (.string x) → w.cell? ⟨bb, 0, none⟩ = some (.string y) → x.size ≤ 32 → y.size ≤ 32 → ∀ W, Below w.heap.size w W → MapOf W (.map (some bf)) F → Calls Try.prog 78 #[.map (some bf), .int .i64 k, ptr ba, ptr bb] W (Appl bf W G)
  del : ∀ n bn, c = .del n → w.cell? ⟨bn, 0, none⟩ = some (.string n) → n.size ≤ 32 → ∀ W, Below w.heap.size w W → MapOf W (.map (some bf)) F → Calls Try.prog 79 #[.map (some bf), .int .i64 k, ptr bn] W (Appl bf W G)
theorem does_all (w : World) (bf : Nat) (hbf : w.heap.size ≤ bf) (F : List File) (c : Chg) (hnd : KeysND F) (hl : szs F + F.length ≤ 500000) (hc : okc F c) (hz : csz c ≤ 500000) : Does w bf F c (-1) (appl F c) := by
  refine ⟨?_, ?_, ?_⟩
  · rintro n b bd bn rfl c1 c2 hn W hB hm
    have hz' : b.size ≤ 500000 := hz
    exact app_any bf bd bn (-1) n b b F W hm (by rw [hB.cell (cell_lt c2)]; exact c2) (by rw [hB.cell (cell_lt c1)]; exact c1) hn hnd (by omega) (by omega) (by rw [if_neg (by omega)])
  · rintro x y ba bb rfl c1 c2 hx hy W hB hm
    exact ren_any bf ba bb (-1) x y F W hm (by rw [hB.cell (cell_lt c1)]; exact c1) (by rw [hB.cell (cell_lt c2)]; exact c2) hx hy hnd (by omega) (by have := look_size (F := F) (n := x); omega) hc ⟨by have := cell_lt c1; omega, by have := cell_lt c2; omega⟩
  · rintro n bn rfl c1 hn W hB hm
    exact rem_any bf bn (-1) n F W hm (by rw [hB.cell (cell_lt c1)]; exact c1) hn hnd
theorem torn_app (n b : ByteArray) (k : Int) (hk : 0 < k) : torn (.app n b) k = [.app n (if 0 ≤ k ∧ k < b.size then b.extract 0 k.toNat else b)] := by
  show (if 0 < k then [Chg.app n (b.extract 0 (min k.toNat b.size))] else []) = _
  rw [if_pos hk]
  congr 2
  by_cases h : k < b.size
  · rw [if_pos ⟨by omega, h⟩, Nat.min_eq_left (by omega)]
  · rw [if_neg (by omega), Nat.min_eq_right (by omega)]
    simp
theorem crash_files (s : St) (kp bytes : Int) {K : Nat} (h : s.keep kp = K) : (s.crash kp bytes).files = (match s.ops[K]? with | some c => torn c bytes | none => []).foldl appl ((s.ops.take K).foldl appl s.files) := by
  unfold St.crash
  rw [h, ← List.foldl_append]
  rfl
theorem crash_plain (s : St) (kp bytes : Int) {K : Nat} (h : s.keep kp = K) (hn : ∀ n b, s.ops[K]? = some (.app n b) → ¬ 0 < bytes) : (s.crash kp bytes).files = (s.ops.take K).foldl appl s.files := by
  rw [crash_files s kp bytes h]
  cases hc : s.ops[K]? with
  | none => rfl
  | some c =>
    cases c with
    | app n b =>
      show (if 0 < bytes then [Chg.app n (b.extract 0 (min bytes.toNat b.size))] else []).foldl appl _ = _
      rw [if_neg (hn n b hc)]
      rfl
    | ren x y => rfl
    | del n => rfl
theorem crash_torn (s : St) (kp bytes : Int) {K : Nat} (h : s.keep kp = K) {n b : ByteArray} (hc : s.ops[K]? = some (.app n b)) (hb : 0 < bytes) :
    (s.crash kp bytes).files = appl ((s.ops.take K).foldl appl s.files) (.app n (if 0 ≤ bytes ∧ bytes < b.size then b.extract 0 bytes.toNat else b)) := by
  rw [crash_files s kp bytes h, hc]
  show (torn (.app n b) bytes).foldl appl _ = _
  rw [torn_app n b bytes hb]
  rfl
set_option maxRecDepth 100000 in
set_option maxHeartbeats 4000000 in
theorem crash_any (d : Nat) (s : St) (rw ro : Nat → Prop) (M : Nat) (kp bytes : Int) (w : World) (h : DiskAt w d s rw ro) (hg : Good s M) (hM : M ≤ 500000) (hk : -9223372036854775808 ≤ kp ∧ kp < 9223372036854775808) (hb : -9223372036854775808 ≤ bytes ∧ bytes < 9223372036854775808) :
    Calls Try.prog 28 #[ptr d, .int .i64 kp, .int .i64 bytes] w (Meth w d (s.crash kp bytes) rw ro (.tuple #[])) := by
  obtain ⟨hk1, hk2⟩ := hk
  obtain ⟨hb1, hb2⟩ := hb
  obtain ⟨vd, vf, vp, fuse, fcs, h⟩ := h
  have HD := Lib.hid h
  have HG := Lib.hid hg
  have hops : s.ops.length ≤ 500000 := by have := hg.wt; omega
  obtain ⟨K, hK⟩ : ∃ K, s.keep kp = K := ⟨_, rfl⟩
  have hKl : K ≤ s.ops.length := by rw [← hK]; unfold St.keep; omega
  have HK := Lib.hid hK
  have he : min (max kp 0) (s.ops.length : Int) = (K : Int) := by rw [← hK]; unfold St.keep; omega
  have HE := Lib.hid he
  obtain ⟨a, cap, hvp, hcap⟩ : ∃ a cap, vp = .slice a s.ops.length cap ∧ s.ops.length ≤ cap := by
    rcases h.row.2 with ⟨h1, h2⟩ | ⟨g, cap, cur, h1, _, _, h2, _⟩
    · exact ⟨none, 0, by rw [h1, h2], by omega⟩
    · exact ⟨_, _, h1, h2⟩
  subst hvp
  obtain ⟨hc, hf⟩ := row_cells h.blk
  have k1 : w.cell? ⟨d, 1, none⟩ = some vd := hc 1
  have k3 : w.cell? ⟨d, 3, none⟩ = some (.slice a s.ops.length cap) := hc 3
  have HC := Lib.hid (clone_any vd s.files w h.mapd)
  have hmm := @run_makeMap Try.prog
  have hq := fun W o => run_eql_map_nil_sl (P := Try.prog) W 59 _ _ o Try.underlying59
  have hd := heap_lt h.blk
  clear h hg hK he hc hf
  go_enter Try.func28, Try.ntmps28
  go_upto_region 1 with fail
  go_cut [1] (fun v wx => v = .int .i64 K ∧ wx = w)
  case first =>
    go_wp2_with fail
    go_meet
    exact ⟨congrArg _ HE.out, rfl⟩
  obtain ⟨rfl, hw⟩ := hcut
  have hw' := hw.symm
  subst hw'
  go_wp2_with fail
  refine HC.out.mono ?_
  rintro e w2 ⟨o, rfl, hm, hb, ho⟩
  have HM := Lib.hid hm
  have HB := Lib.hid hb
  have HO := Lib.hid ho
  clear hm hb ho
  go_upto_if 25 with fail
  go_cut [6] (fun v wx => ∃ bf, v = .map (some bf) ∧ w.heap.size ≤ bf ∧ Hid (MapOf wx (.map (some bf)) s.files) ∧ Hid (Below w.heap.size w wx))
  case first =>
    cases o with
    | none =>
      have HF : Hid (s.files = []) := Lib.hid (by
        rcases HM.out with ⟨_, h⟩ | ⟨b, n, D, h, _⟩
        · exact h
        · cases h)
      go_wp2_with fail
      go_meet
      exact ⟨_, rfl, HB.out.size, Lib.hid (by rw [HF.out]; exact MapOf.made _), Lib.hid (HB.out.alloc HB.out.size _)⟩
    | some b =>
      have e := HO.out b rfl
      go_wp2_with fail
      go_meet
      exact ⟨_, rfl, by omega, HM, HB⟩
  obtain ⟨bf, rfl, hbf, HM0, HB0⟩ := hcut
  clear HM HO HC hmm hq k1
  have k3' : wc.cell? ⟨d, 3, none⟩ = some (.slice a s.ops.length cap) := by rw [HB0.out.cell hd]; exact k3
  have hdc : d < wc.heap.size := Nat.lt_of_lt_of_le hd HB0.out.size
  clear k3 hw HB
  go_wp2_with fail
  go_loopw [34] (fun i wr => ∃ k : Nat, k ≤ K ∧ i = .int .i64 k ∧ Hid (MapOf wr (.map (some bf)) ((s.ops.take k).foldl appl s.files)) ∧ Hid (Below w.heap.size w wr)) (fun i _ => K - (intOf i).toNat)
  case atStart => exact ⟨0, Nat.zero_le _, rfl, HM0, HB0⟩
  case round =>
    obtain ⟨k, hk, rfl, HM, HB⟩ := hrel
    by_cases hlt : k < K
    · obtain ⟨c, hc⟩ : ∃ c, s.ops[k]? = some c := ⟨s.ops[k]'(by omega), by simp⟩
      obtain ⟨cs, hcs, hch⟩ := HD.out.chg.get hc
      have HST := Lib.hid (fold_step s.files s.ops hc)
      have HDO := Lib.hid (does_all w bf hbf ((s.ops.take k).foldl appl s.files) c (HG.out.part k).1 (Nat.le_trans (HG.out.part k).2 hM) (renOK_get HG.out.ren hc) (Nat.le_trans (HG.out.csz_le hc) hM))
      obtain ⟨F, hF⟩ : ∃ F, (s.ops.take k).foldl appl s.files = F := ⟨_, rfl⟩
      rw [hF] at HM HDO HST
      have HCS := Lib.hid hcs
      have HL := Lib.hid (chgs_len HD.out.chg)
      clear hF hc hcs
      cases c with
      | app n b =>
        obtain ⟨bd, bn, rfl, c1, c2, r1, r2, hn⟩ := hch
        obtain ⟨g, cap', e, hcc, hgl, x1, y1⟩ := row2 HD.out.row HL.out HCS.out
        obtain ⟨rfl, rfl⟩ : a = some ⟨g, 0, none⟩ ∧ cap = cap' := by simpa using e
        clear e
        have x2 : wr.cell? ⟨g, k * 2, none⟩ = _ := (HB.out.cell (p := ⟨g, k * 2, none⟩) hgl).trans x1
        have y2 : wr.cell? ⟨g, k * 2 + 1, none⟩ = _ := (HB.out.cell (p := ⟨g, k * 2 + 1, none⟩) hgl).trans y1
        clear x1 y1 hcc
        go_wp2_with fail
        refine (HDO.out.app n b bd bn rfl c1 c2 hn _ (HB.out.alloc HB.out.size _) (HM.out.alloc _)).mono ?_
        rintro e w3 ⟨rfl, hm3, hg3⟩
        have HM3 := Lib.hid hm3
        have HG3 := Lib.hid hg3
        clear hm3 hg3
        go_wp2_with fail
        go_roundw
        case rel => exact ⟨k + 1, by omega, by go_num, Lib.hid (by rw [HST.out]; exact HM3.out), Lib.hid ((HB.out.alloc HB.out.size _).grown HG3.out (by simp; exact Nat.le_succ_of_le HB.out.size) (by intro j hj; cases hj; exact hbf))⟩
        case measure => simp [intOf]; omega
      | ren x y =>
        obtain ⟨ba, bb, rfl, c1, c2, r1, r2, hx, hy⟩ := hch
        obtain ⟨g, cap', e, hcc, hgl, x1, y1⟩ := row2 HD.out.row HL.out HCS.out
        obtain ⟨rfl, rfl⟩ : a = some ⟨g, 0, none⟩ ∧ cap = cap' := by simpa using e
        clear e
        have x2 : wr.cell? ⟨g, k * 2, none⟩ = _ := (HB.out.cell (p := ⟨g, k * 2, none⟩) hgl).trans x1
        have y2 : wr.cell? ⟨g, k * 2 + 1, none⟩ = _ := (HB.out.cell (p := ⟨g, k * 2 + 1, none⟩) hgl).trans y1
        clear x1 y1 hcc
        go_wp2_with fail
        refine (HDO.out.ren x y ba bb rfl c1 c2 hx hy _ (HB.out.alloc HB.out.size _) (HM.out.alloc _)).mono ?_
        rintro e w3 ⟨rfl, hm3, hg3⟩
        have HM3 := Lib.hid hm3
        have HG3 := Lib.hid hg3
        clear hm3 hg3
        go_wp2_with fail
        go_roundw
        case rel => exact ⟨k + 1, by omega, by go_num, Lib.hid (by rw [HST.out]; exact HM3.out), Lib.hid ((HB.out.alloc HB.out.size _).grown HG3.out (by simp; exact Nat.le_succ_of_le HB.out.size) (by intro j hj; cases hj; exact hbf))⟩
        case measure => simp [intOf]; omega
      | del n =>
        obtain ⟨bn, rfl, c1, r1, hn⟩ := hch
        obtain ⟨g, cap', e, hcc, hgl, x1, y1⟩ := row2 HD.out.row HL.out HCS.out
        obtain ⟨rfl, rfl⟩ : a = some ⟨g, 0, none⟩ ∧ cap = cap' := by simpa using e
        clear e
        have x2 : wr.cell? ⟨g, k * 2, none⟩ = _ := (HB.out.cell (p := ⟨g, k * 2, none⟩) hgl).trans x1
        have y2 : wr.cell? ⟨g, k * 2 + 1, none⟩ = _ := (HB.out.cell (p := ⟨g, k * 2 + 1, none⟩) hgl).trans y1
        clear x1 y1 hcc
        go_wp2_with fail
        refine (HDO.out.del n bn rfl c1 hn _ (HB.out.alloc HB.out.size _) (HM.out.alloc _)).mono ?_
        rintro e w3 ⟨rfl, hm3, hg3⟩
        have HM3 := Lib.hid hm3
        have HG3 := Lib.hid hg3
        clear hm3 hg3
        go_wp2_with fail
        go_roundw
        case rel => exact ⟨k + 1, by omega, by go_num, Lib.hid (by rw [HST.out]; exact HM3.out), Lib.hid ((HB.out.alloc HB.out.size _).grown HG3.out (by simp; exact Nat.le_succ_of_le HB.out.size) (by intro j hj; cases hj; exact hbf))⟩
        case measure => simp [intOf]; omega
    · obtain rfl : k = K := by omega
      have k4 : wr.cell? ⟨d, 3, none⟩ = some (.slice a s.ops.length cap) := by rw [HB.out.cell (p := ⟨d, 3, none⟩) hd, ← HB0.out.cell (p := ⟨d, 3, none⟩) hd]; exact k3'
      obtain ⟨fl, hfl⟩ : ∃ fl, (match s.ops[k]? with | some (.app _ _) => decide (0 < bytes) | _ => false) = fl := ⟨_, rfl⟩
      have HFL := Lib.hid hfl
      clear hfl k3' hdc HM0 HB0
      have hdr : d < wr.heap.size := Nat.lt_of_lt_of_le hd HB.out.size
      go_upto_region 10 with fail
      go_cut [63] (fun v wx => v = .bool fl ∧ wx = wr)
      case first =>
        by_cases hkl : k < s.ops.length
        · obtain ⟨c, hc⟩ : ∃ c, s.ops[k]? = some c := ⟨s.ops[k], by simp [hkl]⟩
          obtain ⟨cs, hcs, hch⟩ := HD.out.chg.get hc
          have HC := Lib.hid hc
          clear hc
          cases c with
          | app n b =>
          obtain ⟨bd, bn, rfl, c1, c2, r1, r2, hn⟩ := hch
          obtain ⟨g, cap', e, hcc, hgl, x1, y1⟩ := row2 HD.out.row (chgs_len HD.out.chg) hcs
          obtain ⟨rfl, rfl⟩ : a = some ⟨g, 0, none⟩ ∧ cap = cap' := by simpa using e
          clear e
          have y2 : wr.cell? ⟨g, k * 2 + 1, none⟩ = _ := (HB.out.cell (p := ⟨g, k * 2 + 1, none⟩) hgl).trans y1
          clear x1 y1 hcc
          by_cases hb0 : 0 < bytes
          · have hd0 : decide (0 < bytes) = true := decide_eq_true hb0
            go_wp2_with fail
            go_meet
            exact ⟨by rw [← HFL.out, HC.out]; simp [hb0], rfl⟩
          · have hd0 : decide (0 < bytes) = false := decide_eq_false hb0
            go_wp2_with fail
            go_meet
            exact ⟨by rw [← HFL.out, HC.out]; simp [hb0], rfl⟩
          | ren x y =>
          obtain ⟨ba, bb, rfl, c1, c2, r1, r2, hx, hy⟩ := hch
          obtain ⟨g, cap', e, hcc, hgl, x1, y1⟩ := row2 HD.out.row (chgs_len HD.out.chg) hcs
          obtain ⟨rfl, rfl⟩ : a = some ⟨g, 0, none⟩ ∧ cap = cap' := by simpa using e
          clear e
          have y2 : wr.cell? ⟨g, k * 2 + 1, none⟩ = _ := (HB.out.cell (p := ⟨g, k * 2 + 1, none⟩) hgl).trans y1
          clear x1 y1 hcc
          go_wp2_with fail
          go_meet
          exact ⟨by rw [← HFL.out, HC.out], rfl⟩
          | del n =>
          obtain ⟨bn, rfl, c1, r1, hn⟩ := hch
          obtain ⟨g, cap', e, hcc, hgl, x1, y1⟩ := row2 HD.out.row (chgs_len HD.out.chg) hcs
          obtain ⟨rfl, rfl⟩ : a = some ⟨g, 0, none⟩ ∧ cap = cap' := by simpa using e
          clear e
          have y2 : wr.cell? ⟨g, k * 2 + 1, none⟩ = _ := (HB.out.cell (p := ⟨g, k * 2 + 1, none⟩) hgl).trans y1
          clear x1 y1 hcc
          go_wp2_with fail
          go_meet
          exact ⟨by rw [← HFL.out, HC.out], rfl⟩
        · have e : fl = false := by rw [← HFL.out, List.getElem?_eq_none (by omega)]
          go_wp2_with fail
          go_meet
          exact ⟨by rw [e], rfl⟩
      obtain ⟨rfl, hw⟩ := hcut
      have hw' := hw.symm
      subst hw'
      clear hw
      go_upto_if 63 with fail
      go_cut [] (fun wx => Hid (MapOf wx (.map (some bf)) (s.crash kp bytes).files) ∧ Hid (Below w.heap.size w wx))
      case first =>
        cases fl with
        | false =>
          have e := crash_plain s kp bytes HK.out (by
            intro n b h hb
            have := HFL.out
            rw [h] at this
            simp [hb] at this)
          go_wp2_with fail
          go_meet
          exact ⟨Lib.hid (by rw [e]; exact HM.out), HB⟩
        | true =>
          obtain ⟨n, b, hc, hb0⟩ : ∃ n b, s.ops[k]? = some (.app n b) ∧ 0 < bytes := by
            have := HFL.out
            cases hc : s.ops[k]? with
            | none => rw [hc] at this; cases this
            | some c =>
              rw [hc] at this
              cases c with
              | app n b => exact ⟨n, b, rfl, of_decide_eq_true this⟩
              | ren x y => cases this
              | del n => cases this
          have hkl : k < s.ops.length := (List.getElem?_eq_some_iff.1 hc).1
          obtain ⟨cs, hcs, hch⟩ := HD.out.chg.get hc
          obtain ⟨bd, bn, rfl, c1, c2, r1, r2, hn⟩ := hch
          obtain ⟨g, cap', e, hcc, hgl, x1, y1⟩ := row2 HD.out.row (chgs_len HD.out.chg) hcs
          obtain ⟨rfl, rfl⟩ : a = some ⟨g, 0, none⟩ ∧ cap = cap' := by simpa using e
          clear e
          have x2 : wr.cell? ⟨g, k * 2, none⟩ = _ := (HB.out.cell (p := ⟨g, k * 2, none⟩) hgl).trans x1
          have hz : b.size ≤ 500000 := Nat.le_trans (HG.out.csz_le hc) hM
          have hp := HG.out.part k
          have HA := Lib.hid (app_any bf bd bn bytes n b _ _ wr HM.out (by rw [HB.out.cell (cell_lt c2)]; exact c2) (by rw [HB.out.cell (cell_lt c1)]; exact c1) hn hp.1 (by have := hp.2; omega) (by have := hp.2; omega) rfl)
          have HE2 := Lib.hid (crash_torn s kp bytes HK.out hc hb0)
          clear x1 y1 hcc hp hc hcs
          go_wp2_with fail
          refine HA.out.mono ?_
          rintro e w3 ⟨rfl, hm3, hg3⟩
          have HM3 := Lib.hid hm3
          have HG3 := Lib.hid hg3
          clear hm3 hg3
          go_wp2_with fail
          go_meet
          exact ⟨Lib.hid (by rw [HE2.out]; exact HM3.out), Lib.hid (HB.out.grown HG3.out HB.out.size (by intro j hj; cases hj; exact hbf))⟩
      rename_i wq
      obtain ⟨HMF, HBF⟩ := hcut
      obtain ⟨S', hS⟩ : ∃ S', s.crash kp bytes = S' := ⟨_, rfl⟩
      have e1 : S'.ops = [] := by rw [← hS]; rfl
      have e2 : S'.cap = s.cap := by rw [← hS]; rfl
      have e3 : S'.off = false := by rw [← hS]; rfl
      have e4 : S'.left = -1 := by rw [← hS]; rfl
      rw [hS] at HMF
      have HS := Lib.hid hS
      have HE1 := Lib.hid e1
      have HE2 := Lib.hid e2
      have HE3 := Lib.hid e3
      have HE4 := Lib.hid e4
      clear e1 e2 e3 e4 hS
      have HCL := Lib.hid (clone_any (.map (some bf)) S'.files wc HMF.out)
      have HBK : Hid (wc.heap[d]? = some (.cells (dcells s vd vf (.slice a s.ops.length cap) fuse) 62 (0, 0))) := Lib.hid (by rw [HBF.out.block d hd]; exact HD.out.blk)
      go_wp2_with fail
      refine HCL.out.mono ?_
      rintro e w5 ⟨o5, rfl, hm5, hb5, ho5⟩
      have HM5 := Lib.hid hm5
      have HB5 := Lib.hid hb5
      have HO5 := Lib.hid ho5
      have hdw : d < wc.heap.size := heap_lt HBK.out
      have HBK5 : Hid (w5.heap[d]? = some (.cells (dcells s vd vf (.slice a s.ops.length cap) fuse) 62 (0, 0))) := Lib.hid (by rw [hb5.block d hdw]; exact HBK.out)
      obtain ⟨hc5, hf5⟩ := row_cells HBK5.out
      have q1 : w5.cell? ⟨d, 1, none⟩ = some vd := hc5 1
      have q2 : w5.cell? ⟨d, 2, none⟩ = some vf := hc5 2
      have q3 : w5.cell? ⟨d, 3, none⟩ = some (.slice a s.ops.length cap) := hc5 3
      have q4 : w5.cell? ⟨d, 4, none⟩ = some (.bool s.off) := hc5 4
      have q5 : w5.cell? ⟨d, 5, none⟩ = some (.bool (decide (0 < s.left))) := hc5 5
      have g1 := hf5 1
      have g2 := hf5 2
      have g3 := hf5 3
      have g4 := hf5 4
      have g5 := hf5 5
      have hd5 := heap_lt HBK5.out
      clear hm5 hb5 ho5 hc5 hf5
      go_wp2_with fail
      go_end0
      rw [HS.out]
      obtain ⟨wf, hwf⟩ : ∃ wf, ((((w5.setCell ⟨d, 1, none⟩ (.map (some bf))).setCell ⟨d, 2, none⟩ (.map o5)).setCell ⟨d, 3, none⟩ (.slice none 0 0)).setCell ⟨d, 4, none⟩ (.bool false)).setCell ⟨d, 5, none⟩ (.bool false) = wf := ⟨_, rfl⟩
      have T : Turn d w5 wf := by
        rw [← hwf]
        exact (((((set_turn _ _ _ _).trans (set_turn _ _ _ _)).trans (set_turn _ _ _ _)).trans (set_turn _ _ _ _)).trans (set_turn _ _ _ _))
      have HBF5 : wf.heap[d]? = some (.cells (dcells S' (.map (some bf)) (.map o5) (.slice none 0 0) fuse) 62 (0, 0)) := by
        rw [← hwf, set_heap (set_heap (set_heap (set_heap (set_heap HBK5.out 1 _) 2 _) 3 _) 4 _) 5 _]
        simp [dcells, HE2.out, HE3.out, HE4.out]
      rw [hwf]
      have B5 : Below w.heap.size w w5 := HBF.out.trans (HB5.out.mono HBF.out.size)
      have hsz : w.heap.size ≤ wf.heap.size := by rw [T.size]; exact B5.size
      have hall : S'.all = S'.files := by unfold St.all; rw [HE1.out]; rfl
      have hmap : ∀ v F, MapOf w5 v F → MapOf wf v F := fun v F hm => hm.kept fun b e => T.block b (by
        rintro rfl
        rw [e] at hm
        obtain ⟨es, cc, ho⟩ := hm.obj
        rw [HBK5.out] at ho
        cases ho)
      have hbfc : bf < wc.heap.size := HMF.out.lt
      have hwc := HBF.out.size
      refine ⟨rfl, fun b => rw b ∨ b = bf ∨ o5 = some b, ro, ⟨.map (some bf), .map o5, .slice none 0 0, fuse, [], ?_⟩, ?_⟩
      · refine ⟨HBF5, fun h => ?_, hmap _ _ (HMF.out.kept fun b e => (by cases e; exact HB5.out.block bf hbfc)), by rw [hall]; exact hmap _ _ HM5.out, by rw [HE1.out]; exact World.ownsRow_nil _ _ _ _, by rw [HE1.out]; trivial, .inl HD.out.rwd, fun b e => (by cases e; exact .inr (.inl rfl)), fun b e => (by cases e; exact .inr (.inr rfl)), fun b e => (by cases e), ?_, ?_, ?_⟩
        · rw [HE4.out] at h
          omega
        · intro b e1 e2
          cases e1
          cases e2
          have := HO5.out bf rfl
          omega
        · rintro b ((hr | rfl | hr) | hr)
          · exact Nat.lt_of_lt_of_le (HD.out.lt b (.inl hr)) hsz
          · rw [T.size]; exact Nat.lt_of_lt_of_le hbfc HB5.out.size
          · have h5 := HM5.out
            rw [hr] at h5
            rw [T.size]; exact h5.lt
          · exact Nat.lt_of_lt_of_le (HD.out.lt b (.inr hr)) hsz
        · rintro b (hr | rfl | hr) hr2
          · exact HD.out.dis b hr hr2
          · have := HD.out.lt _ (.inr hr2); omega
          · have := HD.out.lt _ (.inr hr2)
            have := HO5.out b hr
            omega
      · refine ⟨T.os.trans B5.os, T.tape.trans B5.tape, T.output.trans B5.output, hsz, fun b hb hr => ?_, ?_, fun b h => .inl h⟩
        · rw [T.block b (by rintro rfl; exact hr HD.out.rwd)]
          exact B5.block b hb
        · rintro b (hr | rfl | hr)
          · exact .inl hr
          · exact .inr hbf
          · exact .inr (by have := HO5.out b hr; omega)
theorem crash_nil (kp bytes : Int) (w : World) : Calls Try.prog 28 #[.pointer none, .int .i64 kp, .int .i64 bytes] w fun e w' => e = .returned (.tuple #[]) ∧ w' = w := by
  go_enter Try.func28, Try.ntmps28
  go_wp2_with fail
  (try simp only [Exit.inBlock, Exit.then])
  refine bodyPost_ret (results_none rfl _ _ _) rfl ?_
  exact ⟨rfl, rfl⟩
end Go.Proofs.Ytlaodmpdngdhjaa
