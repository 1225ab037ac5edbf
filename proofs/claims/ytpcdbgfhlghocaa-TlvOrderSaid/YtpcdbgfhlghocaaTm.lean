import Derived.Test.YtpcdbgfhlghocaaTg
namespace Go.Proofs.Ytpcdbgfhlghocaa
set_option linter.unusedVariables false
set_option linter.unusedSimpArgs false
open Go.RowKit

/-- Contents within others: 'levels' more may be nested; 'fuel' bounds the elements. -/
def lp (f : Option (Nat → ByteArray → Int)) : Nat → ByteArray → Int
  | 0, _ => 0
  | n + 1, c =>
    if c.size = 0 then 0 else if (rd c).2.2.2.2 ≠ 0 then (rd c).2.2.2.2
    else match f with
      | none => 8
      | some g => if g (rd c).1 (rd c).2.1 ≠ 0 then g (rd c).1 (rd c).2.1 else lp f n (rd c).2.2.2.1
def chk : Nat → Nat → ByteArray → Int
  | 0, t, c => if t / 32 % 2 = 0 then 0 else lp none (c.size + 1) c
  | L + 1, t, c => if t / 32 % 2 = 0 then 0 else lp (some (chk L)) (c.size + 1) c
def check (s : ByteArray) : Int := if (one s).2.2.2 ≠ 0 then (one s).2.2.2 else chk 15 (one s).1 (one s).2.1

theorem lp_step {f : Option (Nat → ByteArray → Int)} {n : Nat} {c : ByteArray} (h0 : c.size ≠ 0) (he : (rd c).2.2.2.2 = 0) {g : Nat → ByteArray → Int} (hf : f = some g) (hg : g (rd c).1 (rd c).2.1 = 0) :
    lp f (n + 1) c = lp f n (rd c).2.2.2.1 := by
  subst hf
  simp only [lp]
  rw [if_neg h0, if_neg (by simpa using he), if_neg (by simpa using hg)]

theorem rd_sizes {s : ByteArray} (h : (rd s).2.2.2.2 = 0) : (rd s).1 < 256 ∧ (rd s).2.1.size ≤ s.size ∧ (rd s).2.2.2.1.size + 2 ≤ s.size := by
  refine ⟨?_, ?_, rest_lt h⟩
  · obtain ⟨n, _, _, h3, _, h5⟩ := read_ok h
    rw [h5, fin_eq h3]
    exact bt_lt s 0
  · obtain ⟨n, _, _, h3, _, h5⟩ := read_ok h
    rw [h5, fin_eq h3]
    simp
    omega

theorem and32 (x : Nat) (h : x < 256) : bits BinOp.and IntKind.i64 (x : Int) 32 = ((x / 32 % 2 * 32 : Nat) : Int) := by
  have : ∀ y : Fin 256, bits BinOp.and IntKind.i64 ((y.val : Nat) : Int) 32 = ((y.val / 32 % 2 * 32 : Nat) : Int) := by decide +kernel
  exact this ⟨x, h⟩

/-- What one call answers. -/
def Chk (v : Int) (W : World) (e : Ending) (w' : World) : Prop := e = .returned (.int .i64 v) ∧ Below W.heap.size W w'

def strLen : Value → Nat | .string s => s.size | _ => 0
theorem lp_stop {f : Option (Nat → ByteArray → Int)} {n : Nat} {c : ByteArray} (h0 : c.size = 0) : lp f n c = 0 := by
  cases n with
  | zero => rfl
  | succ n => simp only [lp]; rw [if_pos h0]
theorem lp_err {f : Option (Nat → ByteArray → Int)} {n : Nat} {c : ByteArray} (h0 : c.size ≠ 0) (he : (rd c).2.2.2.2 ≠ 0) : lp f (n + 1) c = (rd c).2.2.2.2 := by
  simp only [lp]; rw [if_neg h0, if_pos he]
theorem lp_deep {n : Nat} {c : ByteArray} (h0 : c.size ≠ 0) (he : (rd c).2.2.2.2 = 0) : lp none (n + 1) c = 8 := by
  simp only [lp]; rw [if_neg h0, if_neg (by simpa using he)]
theorem lp_in {g : Nat → ByteArray → Int} {n : Nat} {c : ByteArray} (h0 : c.size ≠ 0) (he : (rd c).2.2.2.2 = 0) (hg : g (rd c).1 (rd c).2.1 ≠ 0) : lp (some g) (n + 1) c = g (rd c).1 (rd c).2.1 := by
  simp only [lp]; rw [if_neg h0, if_neg (by simpa using he), if_pos hg]

set_option maxRecDepth 100000 in
set_option maxHeartbeats 2000000 in
/-- 'tlv.within'. -/
theorem within_any (L : Nat) : ∀ (t : Nat) (c r : ByteArray) (d : Int) (w : World), L ≤ 15 → d = 16 - (L : Int) → t < 256 → c.size ≤ maxLen →
    Calls Try.prog 33 #[.agg #[.int .i64 t, .string c, .string r], .int .i64 d] w (Chk (chk L t c) w) := by
  induction L with
  | zero =>
    intro t c r d w hL hd ht hc
    have hb := and32 t ht
    by_cases h32 : t / 32 % 2 = 0
    · have hv : chk 0 t c = 0 := by simp only [chk]; rw [if_pos h32]
      rw [h32] at hb
      have hb2 : bits BinOp.and IntKind.i64 (t : Int) 32 = 0 := hb
      rw [hv]
      clear h32 hv  hd hL ht
      go_enter Try.func33, Try.ntmps33
      go_wp2_with fail
      go_ret
      exact ⟨rfl, (Below.refl _ _).alloc (Nat.le_refl _) _⟩
    · have hv : chk 0 t c = lp none (c.size + 1) c := by simp only [chk]; rw [if_neg h32]
      rw [show t / 32 % 2 = 1 by omega] at hb
      have hb2 : bits BinOp.and IntKind.i64 (t : Int) 32 = 32 := hb
      have HV := Lib.hid hv
      have HD := Lib.hid hd
      have HL := Lib.hid hL
      
      have hd1 : 0 ≤ d ∧ d ≤ 16 := by omega
      have hd2 : 16 ≤ d := by omega
      clear hv h32 hd hL ht 
      unfold maxLen at hc
      go_enter Try.func33, Try.ntmps33
      go_wp2_with fail
      go_loopw [5] (fun s wr => ∃ (x : ByteArray) (n : Nat), s = .string x ∧ x.size ≤ c.size ∧ x.size < n ∧ Hid (lp none (c.size + 1) c = lp none n x) ∧ Below w.heap.size w wr) (fun s _ => strLen s)
      case atStart => exact ⟨c, c.size + 1, rfl, Nat.le_refl _, by omega, rfl, (Below.refl _ _).alloc (Nat.le_refl _) _⟩
      case round =>
        obtain ⟨x, n, rfl, hx, hn, hlp, hbw⟩ := hrel
        obtain ⟨k, rfl⟩ : ∃ k, n = k + 1 := ⟨n - 1, by omega⟩
        have HB := Lib.hid hbw
        have HZ := Lib.hid hbw.size
        clear hbw
        by_cases hz : x.size = 0
        · have hres : chk 0 t c = 0 := by rw [HV.out, hlp.out]; exact lp_stop hz
          have HRES := Lib.hid hres
          have hz1 := empty_list hz
          have hz3 : (!x.toList.isEmpty) = false := by rw [hz1]; rfl
          clear hz hres hx hn
          go_wp2_with fail
          go_ret
          exact ⟨by rw [HRES.out]; rfl, HB.out⟩
        · have hr := fun W => read_any x W (by unfold maxLen; omega)
          unfold valR at hr
          have hsz := @rd_sizes x
          have herr := @lp_err none k x hz
          have hdeep := @lp_deep k x hz
          
          obtain ⟨q, hq⟩ : ∃ q, rd x = q := ⟨_, rfl⟩
          rw [hq] at hr hsz herr hdeep
          obtain ⟨t', c', r', m', e'⟩ := q
          have HR := Lib.hid hr
          have hz1 := ne_list (s := x) (by omega)
          have hz3 : (!x.toList.isEmpty) = true := by rw [hz1]; rfl
          by_cases he : e' = 0
          · subst he
            obtain ⟨ht', hc', hm'⟩ := hsz rfl
            have hm3 : m'.size + 2 ≤ x.size := hm'
            have hc3 : c'.size ≤ x.size := hc'
            have ht3 : t' < 256 := ht'
            clear ht' hc' hm'
            have ht' := ht3
            have hc' := hc3
            have hm' := hm3
            clear ht3 hc3 hm3
            clear herr hr hq hsz
            have hres : chk 0 t c = 8 := by rw [HV.out, hlp.out]; exact hdeep rfl
            have HRES := Lib.hid hres
            clear hres hdeep hz hx hn ht' hc' hm' hc
            go_wp2_with fail
            refine (HR.out _).mono ?_
            rintro e w2 ⟨rfl, hb2⟩
            go_wp2_with fail
            go_ret
            exact ⟨by rw [HRES.out]; rfl, (HB.out.trans (hb2.mono HZ.out)).alloc (Nat.le_trans HZ.out hb2.size) _⟩
          · have hres : chk 0 t c = e' := by rw [HV.out, hlp.out]; exact herr he
            have HRES := Lib.hid hres
            have he1 : (e' != 0) = true := by rw [bne_iff_ne]; exact he
            clear hres herr he hr hq hsz hdeep hz hx hn
            go_wp2_with fail
            refine (HR.out _).mono ?_
            rintro e w2 ⟨rfl, hb2⟩
            go_wp2_with fail
            go_ret
            exact ⟨by rw [HRES.out]; rfl, (HB.out.trans (hb2.mono HZ.out)).alloc (Nat.le_trans HZ.out hb2.size) _⟩
  | succ L ih =>
    intro t c r d w hL hd ht hc
    have hb := and32 t ht
    by_cases h32 : t / 32 % 2 = 0
    · have hv : chk (L + 1) t c = 0 := by simp only [chk]; rw [if_pos h32]
      rw [h32] at hb
      have hb2 : bits BinOp.and IntKind.i64 (t : Int) 32 = 0 := hb
      rw [hv]
      clear h32 hv ih hd hL ht
      go_enter Try.func33, Try.ntmps33
      go_wp2_with fail
      go_ret
      exact ⟨rfl, (Below.refl _ _).alloc (Nat.le_refl _) _⟩
    · have hv : chk (L + 1) t c = lp (some (chk L)) (c.size + 1) c := by simp only [chk]; rw [if_neg h32]
      rw [show t / 32 % 2 = 1 by omega] at hb
      have hb2 : bits BinOp.and IntKind.i64 (t : Int) 32 = 32 := hb
      have HV := Lib.hid hv
      have HD := Lib.hid hd
      have HL := Lib.hid hL
      have IH := Lib.hid ih
      have hd1 : 0 ≤ d ∧ d ≤ 16 := by omega
      have hd2 : d < 16 := by omega
      clear hv h32 hd hL ht ih
      unfold maxLen at hc
      go_enter Try.func33, Try.ntmps33
      go_wp2_with fail
      go_loopw [5] (fun s wr => ∃ (x : ByteArray) (n : Nat), s = .string x ∧ x.size ≤ c.size ∧ x.size < n ∧ Hid (lp (some (chk L)) (c.size + 1) c = lp (some (chk L)) n x) ∧ Below w.heap.size w wr) (fun s _ => strLen s)
      case atStart => exact ⟨c, c.size + 1, rfl, Nat.le_refl _, by omega, rfl, (Below.refl _ _).alloc (Nat.le_refl _) _⟩
      case round =>
        obtain ⟨x, n, rfl, hx, hn, hlp, hbw⟩ := hrel
        obtain ⟨k, rfl⟩ : ∃ k, n = k + 1 := ⟨n - 1, by omega⟩
        have HB := Lib.hid hbw
        have HZ := Lib.hid hbw.size
        clear hbw
        by_cases hz : x.size = 0
        · have hres : chk (L + 1) t c = 0 := by rw [HV.out, hlp.out]; exact lp_stop hz
          have HRES := Lib.hid hres
          have hz1 := empty_list hz
          have hz3 : (!x.toList.isEmpty) = false := by rw [hz1]; rfl
          clear hz hres hx hn
          go_wp2_with fail
          go_ret
          exact ⟨by rw [HRES.out]; rfl, HB.out⟩
        · have hr := fun W => read_any x W (by unfold maxLen; omega)
          unfold valR at hr
          have hsz := @rd_sizes x
          have herr := @lp_err (some (chk L)) k x hz
          have hin := fun he hg => @lp_in (chk L) k x hz he hg
          have hst := fun he hg => @lp_step (some (chk L)) k x hz he (chk L) rfl hg
          obtain ⟨q, hq⟩ : ∃ q, rd x = q := ⟨_, rfl⟩
          rw [hq] at hr hsz herr hin hst
          obtain ⟨t', c', r', m', e'⟩ := q
          have HR := Lib.hid hr
          have hz1 := ne_list (s := x) (by omega)
          have hz3 : (!x.toList.isEmpty) = true := by rw [hz1]; rfl
          by_cases he : e' = 0
          · subst he
            obtain ⟨ht', hc', hm'⟩ := hsz rfl
            have hm3 : m'.size + 2 ≤ x.size := hm'
            have hc3 : c'.size ≤ x.size := hc'
            have ht3 : t' < 256 := ht'
            clear ht' hc' hm'
            have ht' := ht3
            have hc' := hc3
            have hm' := hm3
            clear ht3 hc3 hm3
            clear herr hr hq hsz
            have hcall := fun W => IH.out t' c' r' (d + 1) W (by have := HL.out; omega) (by have := HD.out; omega) ht' (Nat.le_trans hc' (by unfold maxLen; omega))
            by_cases hg : chk L t' c' = 0
            · have hnext : lp (some (chk L)) (k + 1) x = lp (some (chk L)) k m' := hst rfl hg
              have HN := Lib.hid hnext
              have hgv : chk L t' c' = 0 := hg
              rw [hg] at hcall
              have HC := Lib.hid hcall
              have hm2 : m'.size < x.size := by omega
              clear hnext hgv hg hcall hin hst ht' hc' hm' hz
              go_wp2_with fail
              refine (HR.out _).mono ?_
              rintro e w2 ⟨rfl, hb2⟩
              go_wp2_with fail
              refine (HC.out _).mono ?_
              rintro e w3 ⟨rfl, hb3⟩
              go_wp2_with fail
              go_roundw
              case rel => exact ⟨m', k, rfl, by omega, by omega, by show lp _ _ _ = _; rw [hlp.out, HN.out], ((HB.out.trans (hb2.mono HZ.out)).alloc (Nat.le_trans HZ.out hb2.size) _).trans (hb3.mono (by have := hb2.size; have := HZ.out; simp; omega))⟩
              case measure => simp [strLen]; omega
            · have hres : chk (L + 1) t c = chk L t' c' := by rw [HV.out, hlp.out]; exact hin rfl hg
              have HRES := Lib.hid hres
              have HC := Lib.hid hcall
              have hg1 : (chk L t' c' != 0) = true := by rw [bne_iff_ne]; exact hg
              generalize chk L t' c' = G at *
              clear hres hg hcall hin hst ht' hc' hm' hz
              go_wp2_with fail
              refine (HR.out _).mono ?_
              rintro e w2 ⟨rfl, hb2⟩
              go_wp2_with fail
              refine (HC.out _).mono ?_
              rintro e w3 ⟨rfl, hb3⟩
              go_wp2_with fail
              go_ret
              exact ⟨by rw [HRES.out]; rfl, ((HB.out.trans (hb2.mono HZ.out)).alloc (Nat.le_trans HZ.out hb2.size) _).trans (hb3.mono (by have := hb2.size; have := HZ.out; simp; omega))⟩
          · have hres : chk (L + 1) t c = e' := by rw [HV.out, hlp.out]; exact herr he
            have HRES := Lib.hid hres
            have he1 : (e' != 0) = true := by rw [bne_iff_ne]; exact he
            clear hres herr he hr hq hsz hin hst hz hx hn
            go_wp2_with fail
            refine (HR.out _).mono ?_
            rintro e w2 ⟨rfl, hb2⟩
            go_wp2_with fail
            go_ret
            exact ⟨by rw [HRES.out]; rfl, (HB.out.trans (hb2.mono HZ.out)).alloc (Nat.le_trans HZ.out hb2.size) _⟩


set_option maxRecDepth 100000 in
set_option maxHeartbeats 2000000 in
/-- 'certpathref01.check'. -/
theorem rcheck_any (L : Nat) : ∀ (t : Nat) (c r : ByteArray) (d : Int) (w : World), L ≤ 15 → d = 15 - (L : Int) → t < 256 → c.size ≤ maxLen →
    Calls Try.prog 34 #[.agg #[.int .i64 t, .string c, .string r], .int .i64 d] w (Chk (chk L t c) w) := by
  induction L with
  | zero =>
    intro t c r d w hL hd ht hc
    have hb : True := trivial
    by_cases h32 : t / 32 % 2 = 0
    · have hv : chk 0 t c = 0 := by simp only [chk]; rw [if_pos h32]
      have hb2 : ((t : Int) / 32 % 2 == 0) = true := by rw [beq_iff_eq]; omega
      rw [hv]
      clear h32 hv  hd hL
      go_enter Try.func34, Try.ntmps34
      go_wp2_with fail
      go_ret
      exact ⟨rfl, (Below.refl _ _).alloc (Nat.le_refl _) _⟩
    · have hv : chk 0 t c = lp none (c.size + 1) c := by simp only [chk]; rw [if_neg h32]
      have hb2 : ((t : Int) / 32 % 2 == 0) = false := by rw [beq_eq_false_iff_ne]; omega
      have HV := Lib.hid hv
      have HD := Lib.hid hd
      have HL := Lib.hid hL
      
      have hd1 : 0 ≤ d ∧ d ≤ 16 := by omega
      have hd2 : 16 ≤ d + 1 := by omega
      clear hv h32 hd hL
      unfold maxLen at hc
      go_enter Try.func34, Try.ntmps34
      go_wp2_with fail
      go_loopw [5] (fun s wr => ∃ (x : ByteArray) (n : Nat), s = .string x ∧ x.size ≤ c.size ∧ x.size < n ∧ Hid (lp none (c.size + 1) c = lp none n x) ∧ Below w.heap.size w wr) (fun s _ => strLen s)
      case atStart => exact ⟨c, c.size + 1, rfl, Nat.le_refl _, by omega, rfl, (Below.refl _ _).alloc (Nat.le_refl _) _⟩
      case round =>
        obtain ⟨x, n, rfl, hx, hn, hlp, hbw⟩ := hrel
        obtain ⟨k, rfl⟩ : ∃ k, n = k + 1 := ⟨n - 1, by omega⟩
        have HB := Lib.hid hbw
        have HZ := Lib.hid hbw.size
        clear hbw
        by_cases hz : x.size = 0
        · have hres : chk 0 t c = 0 := by rw [HV.out, hlp.out]; exact lp_stop hz
          have HRES := Lib.hid hres
          have hz1 : ¬ 0 < x.size := by omega
          clear hz hres hx hn
          go_wp2_with fail
          go_ret
          exact ⟨by rw [HRES.out]; rfl, HB.out⟩
        · have hr := fun W => rread_any x W (by unfold maxLen; omega)
          unfold valR at hr
          have hsz := @rd_sizes x
          have herr := @lp_err none k x hz
          have hdeep := @lp_deep k x hz
          
          obtain ⟨q, hq⟩ : ∃ q, rd x = q := ⟨_, rfl⟩
          rw [hq] at hr hsz herr hdeep
          obtain ⟨t', c', r', m', e'⟩ := q
          have HR := Lib.hid hr
          have hz1 : 0 < x.size := by omega
          by_cases he : e' = 0
          · subst he
            obtain ⟨ht', hc', hm'⟩ := hsz rfl
            have hm3 : m'.size + 2 ≤ x.size := hm'
            have hc3 : c'.size ≤ x.size := hc'
            have ht3 : t' < 256 := ht'
            clear ht' hc' hm'
            have ht' := ht3
            have hc' := hc3
            have hm' := hm3
            clear ht3 hc3 hm3
            clear herr hr hq hsz
            have hres : chk 0 t c = 8 := by rw [HV.out, hlp.out]; exact hdeep rfl
            have HRES := Lib.hid hres
            clear hres hdeep hz hx hn ht' hc' hm' hc
            go_wp2_with fail
            refine (HR.out _).mono ?_
            rintro e w2 ⟨rfl, hb2⟩
            go_wp2_with fail
            go_ret
            exact ⟨by rw [HRES.out]; rfl, (HB.out.trans (hb2.mono HZ.out)).alloc (Nat.le_trans HZ.out hb2.size) _⟩
          · have hres : chk 0 t c = e' := by rw [HV.out, hlp.out]; exact herr he
            have HRES := Lib.hid hres
            have he1 : (e' != 0) = true := by rw [bne_iff_ne]; exact he
            clear hres herr he hr hq hsz hdeep hz hx hn
            go_wp2_with fail
            refine (HR.out _).mono ?_
            rintro e w2 ⟨rfl, hb2⟩
            go_wp2_with fail
            go_ret
            exact ⟨by rw [HRES.out]; rfl, (HB.out.trans (hb2.mono HZ.out)).alloc (Nat.le_trans HZ.out hb2.size) _⟩
  | succ L ih =>
    intro t c r d w hL hd ht hc
    have hb : True := trivial
    by_cases h32 : t / 32 % 2 = 0
    · have hv : chk (L + 1) t c = 0 := by simp only [chk]; rw [if_pos h32]
      have hb2 : ((t : Int) / 32 % 2 == 0) = true := by rw [beq_iff_eq]; omega
      rw [hv]
      clear h32 hv ih hd hL
      go_enter Try.func34, Try.ntmps34
      go_wp2_with fail
      go_ret
      exact ⟨rfl, (Below.refl _ _).alloc (Nat.le_refl _) _⟩
    · have hv : chk (L + 1) t c = lp (some (chk L)) (c.size + 1) c := by simp only [chk]; rw [if_neg h32]
      have hb2 : ((t : Int) / 32 % 2 == 0) = false := by rw [beq_eq_false_iff_ne]; omega
      have HV := Lib.hid hv
      have HD := Lib.hid hd
      have HL := Lib.hid hL
      have IH := Lib.hid ih
      have hd1 : 0 ≤ d ∧ d ≤ 16 := by omega
      have hd2 : d + 1 < 16 := by omega
      clear hv h32 hd hL ih
      unfold maxLen at hc
      go_enter Try.func34, Try.ntmps34
      go_wp2_with fail
      go_loopw [5] (fun s wr => ∃ (x : ByteArray) (n : Nat), s = .string x ∧ x.size ≤ c.size ∧ x.size < n ∧ Hid (lp (some (chk L)) (c.size + 1) c = lp (some (chk L)) n x) ∧ Below w.heap.size w wr) (fun s _ => strLen s)
      case atStart => exact ⟨c, c.size + 1, rfl, Nat.le_refl _, by omega, rfl, (Below.refl _ _).alloc (Nat.le_refl _) _⟩
      case round =>
        obtain ⟨x, n, rfl, hx, hn, hlp, hbw⟩ := hrel
        obtain ⟨k, rfl⟩ : ∃ k, n = k + 1 := ⟨n - 1, by omega⟩
        have HB := Lib.hid hbw
        have HZ := Lib.hid hbw.size
        clear hbw
        by_cases hz : x.size = 0
        · have hres : chk (L + 1) t c = 0 := by rw [HV.out, hlp.out]; exact lp_stop hz
          have HRES := Lib.hid hres
          have hz1 : ¬ 0 < x.size := by omega
          clear hz hres hx hn
          go_wp2_with fail
          go_ret
          exact ⟨by rw [HRES.out]; rfl, HB.out⟩
        · have hr := fun W => rread_any x W (by unfold maxLen; omega)
          unfold valR at hr
          have hsz := @rd_sizes x
          have herr := @lp_err (some (chk L)) k x hz
          have hin := fun he hg => @lp_in (chk L) k x hz he hg
          have hst := fun he hg => @lp_step (some (chk L)) k x hz he (chk L) rfl hg
          obtain ⟨q, hq⟩ : ∃ q, rd x = q := ⟨_, rfl⟩
          rw [hq] at hr hsz herr hin hst
          obtain ⟨t', c', r', m', e'⟩ := q
          have HR := Lib.hid hr
          have hz1 : 0 < x.size := by omega
          by_cases he : e' = 0
          · subst he
            obtain ⟨ht', hc', hm'⟩ := hsz rfl
            have hm3 : m'.size + 2 ≤ x.size := hm'
            have hc3 : c'.size ≤ x.size := hc'
            have ht3 : t' < 256 := ht'
            clear ht' hc' hm'
            have ht' := ht3
            have hc' := hc3
            have hm' := hm3
            clear ht3 hc3 hm3
            clear herr hr hq hsz
            have hcall := fun W => IH.out t' c' r' (d + 1) W (by have := HL.out; omega) (by have := HD.out; omega) ht' (Nat.le_trans hc' (by unfold maxLen; omega))
            by_cases hg : chk L t' c' = 0
            · have hnext : lp (some (chk L)) (k + 1) x = lp (some (chk L)) k m' := hst rfl hg
              have HN := Lib.hid hnext
              have hgv : chk L t' c' = 0 := hg
              rw [hg] at hcall
              have HC := Lib.hid hcall
              have hm2 : m'.size < x.size := by omega
              clear hnext hgv hg hcall hin hst ht' hc' hm' hz
              go_wp2_with fail
              refine (HR.out _).mono ?_
              rintro e w2 ⟨rfl, hb2⟩
              go_wp2_with fail
              refine (HC.out _).mono ?_
              rintro e w3 ⟨rfl, hb3⟩
              go_wp2_with fail
              go_roundw
              case rel => exact ⟨m', k, rfl, by omega, by omega, by show lp _ _ _ = _; rw [hlp.out, HN.out], ((HB.out.trans (hb2.mono HZ.out)).alloc (Nat.le_trans HZ.out hb2.size) _).trans (hb3.mono (by have := hb2.size; have := HZ.out; simp; omega))⟩
              case measure => simp [strLen]; omega
            · have hres : chk (L + 1) t c = chk L t' c' := by rw [HV.out, hlp.out]; exact hin rfl hg
              have HRES := Lib.hid hres
              have HC := Lib.hid hcall
              have hg1 : (chk L t' c' != 0) = true := by rw [bne_iff_ne]; exact hg
              generalize chk L t' c' = G at *
              clear hres hg hcall hin hst ht' hc' hm' hz
              go_wp2_with fail
              refine (HR.out _).mono ?_
              rintro e w2 ⟨rfl, hb2⟩
              go_wp2_with fail
              refine (HC.out _).mono ?_
              rintro e w3 ⟨rfl, hb3⟩
              go_wp2_with fail
              go_ret
              exact ⟨by rw [HRES.out]; rfl, ((HB.out.trans (hb2.mono HZ.out)).alloc (Nat.le_trans HZ.out hb2.size) _).trans (hb3.mono (by have := hb2.size; have := HZ.out; simp; omega))⟩
          · have hres : chk (L + 1) t c = e' := by rw [HV.out, hlp.out]; exact herr he
            have HRES := Lib.hid hres
            have he1 : (e' != 0) = true := by rw [bne_iff_ne]; exact he
            clear hres herr he hr hq hsz hin hst hz hx hn
            go_wp2_with fail
            refine (HR.out _).mono ?_
            rintro e w2 ⟨rfl, hb2⟩
            go_wp2_with fail
            go_ret
            exact ⟨by rw [HRES.out]; rfl, (HB.out.trans (hb2.mono HZ.out)).alloc (Nat.le_trans HZ.out hb2.size) _⟩

end Go.Proofs.Ytpcdbgfhlghocaa
