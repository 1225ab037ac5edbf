/- fits: is there space? -/
import Derived.Test.YtlaodmpdngdhjaaDj
import Derived.Maps.RangeWalk
import Derived.Maps.Ext
import Derived.Laws.IdiomRangeMap
import Derived.BigQuiet
import Derived.OwnWalk
namespace Go.Proofs.Ytlaodmpdngdhjaa
set_option linter.unusedVariables false
set_option linter.unusedSimpArgs false
open Go.RowKit Go.Maps Go.WideMaps

/-- What the loop has met so far. -/
def struck (left : Lit → Bool) (F : List File) : Nat := (F.map fun p => if left (lk p.1) then 0 else p.2.size).sum
theorem struck_le (left : Lit → Bool) (F : List File) : struck left F ≤ szs F := by
  induction F with
  | nil => simp [struck, szs]
  | cons p r ih =>
    simp only [struck, szs, List.map_cons, List.sum_cons] at *
    split <;> omega
theorem struck_none {left : Lit → Bool} {F : List File} (h : ∀ k, left k = false) : struck left F = szs F := by
  unfold struck szs
  congr 1
  exact List.map_congr_left fun p _ => by rw [h]; rfl
theorem struck_all {left : Lit → Bool} {F : List File} (h : ∀ p ∈ F, left (lk p.1) = true) : struck left F = 0 := by
  induction F with
  | nil => rfl
  | cons p r ih =>
    have h1 := h p (by simp)
    have h2 := ih fun q hq => h q (by simp [hq])
    simp only [struck, List.map_cons, List.sum_cons] at *
    rw [h1, h2]
    rfl
theorem same_lk (x y : ByteArray) : (lk x).sameKey (lk y) = decide (x = y) := by
  by_cases h : x = y
  · subst h
    rw [decide_eq_true rfl]
    exact WideAt.sameKey_self keylit
  · rw [decide_eq_false h]
    exact sameKey_ne fun e => h (lk_inj e)
theorem struck_step {left : Lit → Bool} {F : List File} (hn : KeysND F) {x c : ByteArray} (hl : left (lk x) = true) (hx : look F x = some c) :
    struck (fun z => left z && !z.sameKey (lk x)) F = struck left F + c.size := by
  induction F with
  | nil => simp [look] at hx
  | cons p r ih =>
    unfold KeysND at hn
    rw [List.map_cons, List.nodup_cons] at hn
    rw [look_cons] at hx
    have e : ∀ G : List File, struck (fun z => left z && !z.sameKey (lk x)) (p :: G) = (if left (lk p.1) && !decide (p.1 = x) then 0 else p.2.size) + struck (fun z => left z && !z.sameKey (lk x)) G := by
      intro G
      simp only [struck, List.map_cons, List.sum_cons, same_lk]
    have e2 : ∀ G : List File, struck left (p :: G) = (if left (lk p.1) then 0 else p.2.size) + struck left G := by
      intro G
      simp only [struck, List.map_cons, List.sum_cons]
    rw [e, e2]
    by_cases hp : p.1 = x
    · rw [if_pos hp] at hx
      cases hx
      have hr : struck (fun z => left z && !z.sameKey (lk x)) r = struck left r := by
        unfold struck
        congr 1
        refine List.map_congr_left fun q hq => ?_
        have : q.1 ≠ x := by
          rintro rfl
          exact hn.1 (List.mem_map.2 ⟨q, hq, hp.symm⟩)
        simp [same_lk, this]
      rw [hr]
      simp [hp, hl]
      omega
    · rw [if_neg hp] at hx
      rw [ih hn.2 hx]
      simp [hp]
      split <;> omega
theorem at_look {D : DataW Unit} {F : List File} (h : Agr D F) {x c : ByteArray} (hat : ∀ z, D.atKey (lk x) z = dv c) : look F x = some c := by
  cases hl : look F x with
  | none =>
    have := agr_none h hl
    rw [has_true_of_atKey hat] at this
    cases this
  | some b =>
    have h1 := (agr_some h hl).2 (dv b)
    rw [hat] at h1
    have h2 : c.data.toList = b.data.toList := by simpa using h1
    rw [ByteArray.ext (Array.toList_inj.1 h2)]
theorem agr_size {D : DataW Unit} {F : List File} (h : Agr D F) {x c : ByteArray} (hx : look F x = some c) : c.size ≤ szs F := by
  have := look_size (F := F) (n := x)
  rw [hx] at this
  exact this
section
variable {w : World} {ops : Array Oper} {rest : List Oper} {o : Oper} {a : Act} {Q : Exit → Act → World → Prop}
/-- The step of a range over the files. -/
theorem wpList_next_file (hg : o.guard = none) (it : Operand) (hop : o.op = Op.next it false) (b r n : Nat) (D : DataW Unit) (F : List File) (ha : Agr D F) (left : Lit → Bool) (cnt : Nat)
    (hit : a.eval it = .pointer (some ⟨r, 0, none⟩)) (h : w.ranges Try.prog 9 rdr b r n D left cnt)
    (hDone : (∀ kl, left kl = false) → wpList Try.prog ops Q rest (a.put o.dst (.tuple #[.bool false])) w)
    (hMore : ∀ (x c : ByteArray) (w' : World) (cnt' : Nat), Hid (look F x = some c) → Hid (left (lk x) = true) → Hid (w'.ranges Try.prog 9 rdr b r n D (fun z => left z && !z.sameKey (lk x)) cnt') → cnt' < cnt →
      Hid (w.grownBy w' (some r)) → w'.heap.size = w.heap.size → (Instr.entry (.pointer (some ⟨r, 0, none⟩))).run Try.prog w' = .ok (.tuple #[.string x, .string c]) w' → wpList Try.prog ops Q rest (a.put o.dst (.tuple #[.bool true, .string x, .string c])) w') :
    wpList Try.prog ops Q (o :: rest) a w :=
  wpList_next_ranges w hg it hop 9 law9 rdr Value.string Value.string (fun key kl hkey => by obtain ⟨x, h2, _, _⟩ := Maps.keyOf_str Try.underlying9 hkey; exact ⟨⟨x.toArray⟩, h2⟩) (fun v y hv => by obtain ⟨c, rfl, _⟩ := plainElem_string_inv Try.underlying9 hv; exact ⟨c, rfl⟩)
    b r n D left cnt hit h (fun _ h => hDone h) (fun x c kl y w' cnt' hkey hlk hv hat hrg hlt hgr hsz hen => by
      obtain ⟨x', h2, h3, _⟩ := Maps.keyOf_str Try.underlying9 hkey
      obtain ⟨c', ec, rfl, hwc⟩ := plainElem_string_inv Try.underlying9 hv
      cases ec
      have e : kl = lk x := by
        have h4 : x = ⟨x'.toArray⟩ := by simpa [encStr] using h2
        rw [h3, h4]
      subst e
      exact hMore x c w' cnt' (Lib.hid (at_look ha hat)) (Lib.hid hlk) (Lib.hid hrg) hlt (Lib.hid hgr) hsz hen)
end

def fitsB (cap : Nat) (F : List File) (n : ByteArray) (more : Nat) : Bool := !((look F n).isNone && decide (16 ≤ F.length)) && decide ((more : Int) ≤ cap - szs F)

set_option maxRecDepth 100000 in
set_option maxHeartbeats 2000000 in
theorem fits_any (d : Nat) (vf : Value) (cap : Nat) (F : List File) (n : ByteArray) (more : Nat) (w : World) (h0 : w.cell? ⟨d, 0, none⟩ = some (.int .i64 cap)) (h2 : w.cell? ⟨d, 2, none⟩ = some vf) (hm : MapOf w vf F) (hd : d < w.heap.size)
    (hn : n.size ≤ maxLen) (hnd : KeysND F) (hl : F.length ≤ 1000000) (hsz : szs F ≤ 1000000) (hcap : cap < 9223372036854775808) (hmore : more ≤ 140737488355328) :
    Calls Try.prog 71 #[ptr d, .string n, .int .i64 more] w fun e w' => e = .returned (.bool (fitsB cap F n more)) ∧ Below w.heap.size w w' := by
  have hlook := hm.look_ok hn
  have hlen := hm.len hnd 3
  obtain ⟨y, hy⟩ : ∃ y, (look F n).getD ⟨#[]⟩ = y := ⟨_, rfl⟩
  obtain ⟨b, hb⟩ : ∃ b, (look F n).isSome = b := ⟨_, rfl⟩
  rw [hy, hb] at hlook
  clear hy
  have hno : (look F n).isNone = !b := by rw [← hb]; cases look F n <;> rfl
  have HNO := Lib.hid hno
  have HND := Lib.hid hnd
  have HSZ := Lib.hid hsz
  clear hno hb hn hnd
  obtain ⟨o, rfl⟩ : ∃ o, vf = .map o := by
    rcases hm.shape with ⟨h1, _⟩ | ⟨b, h1, _⟩
    · exact ⟨_, h1⟩
    · exact ⟨_, h1⟩
  have HM := Lib.hid hm
  clear hm
  obtain ⟨full, hfull⟩ : ∃ full, ((look F n).isNone && decide (16 ≤ F.length)) = full := ⟨_, rfl⟩
  have HF := Lib.hid hfull
  cases full with
  | true =>
    have HRES : Hid (fitsB cap F n more = false) := Lib.hid (by unfold fitsB; rw [HF.out]; rfl)
    rw [HNO.out] at hfull
    clear HF
    cases b with
    | true => cases hfull
    | false =>
      have h16 : 16 ≤ F.length := by simpa using hfull
      clear hfull
      go_enter Try.func71, Try.ntmps71
      go_wp2
      go_ret
      exact ⟨by rw [HRES.out]; rfl, Below.refl _ _⟩
  | false =>
    have HRES : Hid (fitsB cap F n more = decide ((more : Int) ≤ cap - szs F)) := Lib.hid (by unfold fitsB; rw [HF.out]; rfl)
    rw [HNO.out] at hfull
    clear HF
    have hcase : b = true ∨ b = false ∧ F.length < 16 := by
      cases b with
      | true => exact .inl rfl
      | false => right; refine ⟨rfl, ?_⟩; simpa using hfull
    clear hfull
    cases o with
    | none =>
      have hF : F = [] := by
        rcases HM.out with ⟨_, h⟩ | ⟨b, n, D, h, _⟩
        · exact h
        · cases h
      subst hF
      have HZ : Hid (decide ((more : Int) ≤ cap - szs []) = decide (more ≤ cap)) := Lib.hid (by simp [szs])
      have hrg := run_range_nilMap (P := Try.prog) w 59 9 9 Try.underlying59
      have hnx : ∀ ty, (Instr.next (.pointer (some ⟨w.heap.size, 0, none⟩)) false ty).run Try.prog (w.alloc (.mapIter none 0 #[] 0)) = _ := fun ty => run_next_nilMap _ ty 0 0 #[]
      rcases hcase with rfl | ⟨rfl, h16⟩
      all_goals
        go_enter Try.func71, Try.ntmps71
        go_wp2
        refine wp_loop_rounds 1 ?_
        rw [rounds_succ]
        go_wp2
        go_ret
        exact ⟨by rw [HRES.out, HZ.out]; rfl, (Below.refl _ _).alloc (Nat.le_refl _) _⟩
    | some bm =>
      obtain ⟨nm, D, hown, hagr⟩ : ∃ nm D, w.ownsMap Try.prog 9 rdr bm nm D ∧ Agr D F := by
        rcases HM.out with ⟨h, _⟩ | ⟨b, n, D, h, h1, h2⟩
        · cases h
        · cases h
          exact ⟨n, D, h1, h2⟩
      have HAG := Lib.hid hagr
      have HLT := Lib.hid hown.lt
      clear hagr
      have HST : Hid (struck (Maps.has D) F = 0) := Lib.hid (struck_all fun p hp => by
        have : (look F p.1).isSome = true := look_mem.2 (List.mem_map.2 ⟨p, hp, rfl⟩)
        cases hl : look F p.1 with
        | none => rw [hl] at this; cases this
        | some c => exact (agr_some HAG.out hl).1)
      rcases hcase with rfl | ⟨rfl, h16⟩
      all_goals
        go_enter Try.func71, Try.ntmps71
        go_wp2_with (first
          | (at_range; refine wpList_range_own _ rfl _ 59 rfl 9 9 law9 Try.underlying59 rdr bm nm D rfl hown ?_; intro w0 hrg0 hg0 hs0)
          | go_in)
        go_frame
        have HR0 := Lib.hid hrg0
        have HG0 := Lib.hid hg0
        clear hrg0 hg0
        go_loopw [9] (fun v wr => ∃ (left : Lit → Bool) (cnt : Nat) (S : Nat), v = .int .i64 (cap - S) ∧ Hid (S = struck left F) ∧ Hid (wr.ranges Try.prog 9 rdr bm w.heap.size nm D left cnt) ∧ Hid (Below w.heap.size w wr))
          (fun _ wr => wr.rangeLeft bm w.heap.size)
        case atStart => exact ⟨_, _, 0, by simp, Lib.hid HST.out.symm, HR0, Lib.hid ((Below.refl _ _).grown HG0.out (by simp) (fun j hj => by cases hj))⟩
        case round =>
          obtain ⟨left, cnt, S, rfl, HS, HRG, HB⟩ := hrel
          have hS1 : S ≤ 1000000 := by have := struck_le left F; rw [← HS.out] at this; have := HSZ.out; omega
          go_wp2_with (first
            | (at_next; refine wpList_next_file rfl _ rfl bm w.heap.size nm D F HAG.out left cnt rfl HRG.out ?_ ?_)
            | go_in)
          · intro hl0
            have HE : Hid (S = szs F) := Lib.hid (by rw [HS.out, struck_none hl0])
            clear hl0
            go_wp2
            go_ret
            exact ⟨by rw [HRES.out, HE.out]; rfl, HB.out⟩
          · intro x c w1 cnt1 hx hlx hrg1 hlt hg1 hs1 hen
            have hc1 : c.size ≤ 1000000 := by have := agr_size HAG.out hx.out; have := HSZ.out; omega
            have HST1 := Lib.hid (struck_step HND.out hlx.out hx.out)
            go_wp2
            go_roundw
            case rel => exact ⟨_, cnt1, S + c.size, by go_num, Lib.hid (by rw [HST1.out, HS.out]), hrg1, Lib.hid (HB.out.grown hg1.out HB.out.size (fun j hj => by cases hj; exact Nat.le_refl _))⟩
            case measure => rw [hrg1.out.left_eq, HRG.out.left_eq]; exact hlt
end Go.Proofs.Ytlaodmpdngdhjaa
