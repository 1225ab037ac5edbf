import Derived.Test.YtpcdbgfhlghocaaTm
import Derived.Test.YtpcdbgfhlghocaaTh
import Derived.OwnWalk
namespace Go.Proofs.Ytpcdbgfhlghocaa
set_option linter.unusedVariables false
set_option linter.unusedSimpArgs false
open Go.RowKit

abbrev El := Nat × ByteArray × ByteArray
def elCells (x : El) : List Value := [.int .i64 x.1, .string x.2.1, .string x.2.2]
def rowCells (l : List El) : List Value := (l.map elCells).flatten
def lst : Nat → List El → ByteArray → List El × Int
  | 0, acc, _ => (acc, 0)
  | n + 1, acc, s => if s.size = 0 then (acc, 0) else if (rd s).2.2.2.2 ≠ 0 then ([], (rd s).2.2.2.2) else lst n (acc ++ [((rd s).1, (rd s).2.1, (rd s).2.2.1)]) (rd s).2.2.2.1
def list (s : ByteArray) : List El × Int := lst (s.size + 1) [] s
theorem lst_stop {n : Nat} {acc : List El} {s : ByteArray} (h : s.size = 0) : lst n acc s = (acc, 0) := by
  cases n with
  | zero => rfl
  | succ n => simp only [lst]; rw [if_pos h]
theorem lst_err {n : Nat} {acc : List El} {s : ByteArray} (h : s.size ≠ 0) (he : (rd s).2.2.2.2 ≠ 0) : lst (n + 1) acc s = ([], (rd s).2.2.2.2) := by
  simp only [lst]; rw [if_neg h, if_pos he]
theorem lst_step {n : Nat} {acc : List El} {s : ByteArray} (h : s.size ≠ 0) (he : (rd s).2.2.2.2 = 0) : lst (n + 1) acc s = lst n (acc ++ [((rd s).1, (rd s).2.1, (rd s).2.2.1)]) (rd s).2.2.2.1 := by
  simp only [lst]; rw [if_neg h, if_neg (by simpa using he)]
theorem rowCells_snoc (l : List El) (x : El) : rowCells (l ++ [x]) = rowCells l ++ elCells x := by simp [rowCells]
theorem rowCells_length (l : List El) : (rowCells l).length = l.length * 3 := by
  induction l with
  | nil => rfl
  | cons x r ih =>
    unfold rowCells at *
    simp [elCells] at *
    omega
theorem info32 : (Try.prog.info? 32).map (fun i => (i.zero, i.size, i.bytes)) = some (some (.agg #[.int .i64 0, .string ⟨#[]⟩, .string ⟨#[]⟩]), 3, 40) := by kernel_rfl
theorem el_one (x : El) : ∀ u ∈ elCells x, u.oneCell' = true := by
  intro u hu
  simp only [elCells, List.mem_cons, List.not_mem_nil, or_false] at hu
  rcases hu with rfl | rfl | rfl <;> rfl
theorem el_cells (w : World) (x : El) : ∀ j u, (elCells x)[j]? = some u → (w.alloc (Obj.cells (elCells x).toArray 32)).cell? ((⟨w.heap.size, 0, none⟩ : Addr).add j) = some u := fun j u h => by
  rw [show (⟨w.heap.size, 0, none⟩ : Addr).add j = ⟨w.heap.size, j, none⟩ by simp [Addr.add]; omega, World.cell?_alloc_at _ _ _ _ rfl]
  simpa using h

/-- What List answers. -/
def Lst (r : List El × Int) (W : World) (e : Ending) (w' : World) : Prop :=
  ∃ v, e = .returned (.tuple #[v, .int .i64 r.2]) ∧ w'.ownsRow W.heap.size 32 3 v r.1.length (rowCells r.1) ∧ Below W.heap.size W w'

set_option maxRecDepth 100000 in
set_option maxHeartbeats 2000000 in
/-- 'tlv.List'. -/
theorem list_any (s : ByteArray) (w : World) (hs : s.size ≤ 1000000) : Calls Try.prog 26 #[.string s] w (Lst (list s) w) := by
  obtain ⟨i0, hi, hi0, hi1, hi2⟩ := info_parts info32
  go_enter Try.func26, Try.ntmps26
  go_wp2_with fail
  go_loopw [0, 4] (fun s' v wr => ∃ (x : ByteArray) (acc : List El) (n : Nat), s' = .string x ∧ x.size < n ∧ acc.length + x.size ≤ s.size ∧ Hid (list s = lst n acc x) ∧ wr.ownsRow w.heap.size 32 3 v acc.length (rowCells acc) ∧ Below w.heap.size w wr) (fun s' _ _ => strLen s')
  case atStart => exact ⟨s, [], s.size + 1, rfl, by omega, by simp, rfl, World.ownsRow_nil _ _ _ _, Below.refl _ _⟩
  case round =>
    obtain ⟨x, acc, n, rfl, hn, hx, hl, hown, hbw⟩ := hrel
    obtain ⟨k, rfl⟩ : ∃ k, n = k + 1 := ⟨n - 1, by omega⟩
    have HB := Lib.hid hbw
    have HZ := Lib.hid hbw.size
    have HO := Lib.hid hown
    clear hbw hown
    by_cases hz : x.size = 0
    · have hres : list s = (acc, 0) := by rw [hl.out]; exact lst_stop hz
      have HRES := Lib.hid hres
      have hz1 := empty_list hz
      have hz3 : (!x.toList.isEmpty) = false := by rw [hz1]; rfl
      clear hz hres hx hn
      go_wp2_with fail
      go_ret2
      exact ⟨u4, by rw [HRES.out]; rfl, by rw [HRES.out]; exact HO.out, HB.out⟩
    · have hr := fun W => read_any x W (by unfold maxLen; omega)
      unfold valR at hr
      have hsz := @rd_sizes x
      have herr := @lst_err k acc x hz
      have hst := @lst_step k acc x hz
      obtain ⟨q, hq⟩ : ∃ q, rd x = q := ⟨_, rfl⟩
      rw [hq] at hr hsz herr hst
      obtain ⟨t', c', r', m', e'⟩ := q
      have HR := Lib.hid hr
      have hz1 := ne_list (s := x) (by omega)
      have hz3 : (!x.toList.isEmpty) = true := by rw [hz1]; rfl
      by_cases he : e' = 0
      · subst he
        have hm' : m'.size + 2 ≤ x.size := (hsz rfl).2.2
        have hnext : lst (k + 1) acc x = lst k (acc ++ [(t', c', r')]) m' := hst rfl
        have HN := Lib.hid hnext
        clear herr hr hq hsz hst hnext hz
        have hlen := Nat.le_trans (Nat.le_add_right _ _) hx
        go_wp2_with (first | (go_at_call 16; refine (HR.out _).mono ?_; rintro e w2 ⟨rfl, hb2⟩) | (at_builtin; go_loud (refine wpList_append_own _ rfl _ _ 51 rfl w.heap.size 32 i0 (.agg #[.int .i64 0, .string ⟨#[]⟩, .string ⟨#[]⟩]) 3 40 Try.underlying51 hi hi0 hi1 hi2 rfl (by decide) u4 acc.length (rowCells acc) rfl ((((HO.out.kept (grown_of_below hb2) (Classical.em _)).alloc _)).alloc _) ⟨w2.heap.size + 1, 0, none⟩ 1 1 (elCells (t', c', r')) rfl rfl (fun j u h => by have := el_cells (w2.alloc (.cells (elCells (t', c', r')).toArray 32)) (t', c', r') j u h; simpa [elCells] using this) (el_one _) (by unfold maxLen; omega) (by omega) (by have := hb2.size; have := HZ.out; simp; omega) ?_); intro v1 w3 hown1 hg1 _))
        go_roundw
        case rel => exact ⟨m', acc ++ [(t', c', r')], k, rfl, by omega, by simp; omega, by show list s = _; rw [hl.out, HN.out], by rw [rowCells_snoc, List.length_append]; exact hown1, ((((HB.out.trans (hb2.mono HZ.out)).alloc (Nat.le_trans HZ.out hb2.size) _).alloc (by have := hb2.size; have := HZ.out; simp; omega) _).grown hg1 (by have := hb2.size; have := HZ.out; simp; omega) (fun k hk => (HO.out.lt k hk).1))⟩
        case measure => simp [strLen]; omega
      · have hres : list s = ([], e') := by rw [hl.out]; exact herr he
        have HRES := Lib.hid hres
        have he1 : (e' != 0) = true := by rw [bne_iff_ne]; exact he
        clear hres herr he hr hq hsz hst hz hx hn
        go_wp2_with fail
        refine (HR.out _).mono ?_
        rintro e w2 ⟨rfl, hb2⟩
        go_wp2_with fail
        go_ret2
        exact ⟨.slice none 0 0, by rw [HRES.out]; rfl, by rw [HRES.out]; exact World.ownsRow_nil _ _ _ _, (HB.out.trans (hb2.mono HZ.out)).alloc (Nat.le_trans HZ.out hb2.size) _⟩

set_option maxRecDepth 100000 in
set_option maxHeartbeats 2000000 in
/-- 'certpathref01.List'. -/
theorem rlist_any (s : ByteArray) (w : World) (hs : s.size ≤ 1000000) : Calls Try.prog 31 #[.string s] w (Lst (list s) w) := by
  obtain ⟨i0, hi, hi0, hi1, hi2⟩ := info_parts info32
  go_enter Try.func31, Try.ntmps31
  go_wp2_with fail
  go_loopw [0, 4] (fun s' v wr => ∃ (x : ByteArray) (acc : List El) (n : Nat), s' = .string x ∧ x.size < n ∧ acc.length + x.size ≤ s.size ∧ Hid (list s = lst n acc x) ∧ wr.ownsRow w.heap.size 32 3 v acc.length (rowCells acc) ∧ Below w.heap.size w wr) (fun s' _ _ => strLen s')
  case atStart => exact ⟨s, [], s.size + 1, rfl, by omega, by simp, rfl, World.ownsRow_nil _ _ _ _, Below.refl _ _⟩
  case round =>
    obtain ⟨x, acc, n, rfl, hn, hx, hl, hown, hbw⟩ := hrel
    obtain ⟨k, rfl⟩ : ∃ k, n = k + 1 := ⟨n - 1, by omega⟩
    have HB := Lib.hid hbw
    have HZ := Lib.hid hbw.size
    have HO := Lib.hid hown
    clear hbw hown
    by_cases hz : x.size = 0
    · have hres : list s = (acc, 0) := by rw [hl.out]; exact lst_stop hz
      have HRES := Lib.hid hres
      have hz1 : ¬ 0 < x.size := by omega
      clear hz hres hx hn
      go_wp2_with fail
      go_ret2
      exact ⟨u4, by rw [HRES.out]; rfl, by rw [HRES.out]; exact HO.out, HB.out⟩
    · have hr := fun W => rread_any x W (by unfold maxLen; omega)
      unfold valR at hr
      have hsz := @rd_sizes x
      have herr := @lst_err k acc x hz
      have hst := @lst_step k acc x hz
      obtain ⟨q, hq⟩ : ∃ q, rd x = q := ⟨_, rfl⟩
      rw [hq] at hr hsz herr hst
      obtain ⟨t', c', r', m', e'⟩ := q
      have HR := Lib.hid hr
      have hz1 : 0 < x.size := by omega
      by_cases he : e' = 0
      · subst he
        have hm' : m'.size + 2 ≤ x.size := (hsz rfl).2.2
        have hnext : lst (k + 1) acc x = lst k (acc ++ [(t', c', r')]) m' := hst rfl
        have HN := Lib.hid hnext
        clear herr hr hq hsz hst hnext hz
        have hlen := Nat.le_trans (Nat.le_add_right _ _) hx
        go_wp2_with (first | (go_at_call 29; refine (HR.out _).mono ?_; rintro e w2 ⟨rfl, hb2⟩) | (at_builtin; go_loud (refine wpList_append_own _ rfl _ _ 51 rfl w.heap.size 32 i0 (.agg #[.int .i64 0, .string ⟨#[]⟩, .string ⟨#[]⟩]) 3 40 Try.underlying51 hi hi0 hi1 hi2 rfl (by decide) u4 acc.length (rowCells acc) rfl ((((HO.out.kept (grown_of_below hb2) (Classical.em _)).alloc _)).alloc _) ⟨w2.heap.size + 1, 0, none⟩ 1 1 (elCells (t', c', r')) rfl rfl (fun j u h => by have := el_cells (w2.alloc (.cells (elCells (t', c', r')).toArray 32)) (t', c', r') j u h; simpa [elCells] using this) (el_one _) (by unfold maxLen; omega) (by omega) (by have := hb2.size; have := HZ.out; simp; omega) ?_); intro v1 w3 hown1 hg1 _))
        go_roundw
        case rel => exact ⟨m', acc ++ [(t', c', r')], k, rfl, by omega, by simp; omega, by show list s = _; rw [hl.out, HN.out], by rw [rowCells_snoc, List.length_append]; exact hown1, ((((HB.out.trans (hb2.mono HZ.out)).alloc (Nat.le_trans HZ.out hb2.size) _).alloc (by have := hb2.size; have := HZ.out; simp; omega) _).grown hg1 (by have := hb2.size; have := HZ.out; simp; omega) (fun k hk => (HO.out.lt k hk).1))⟩
        case measure => simp [strLen]; omega
      · have hres : list s = ([], e') := by rw [hl.out]; exact herr he
        have HRES := Lib.hid hres
        have he1 : (e' != 0) = true := by rw [bne_iff_ne]; exact he
        clear hres herr he hr hq hsz hst hz hx hn
        go_wp2_with fail
        refine (HR.out _).mono ?_
        rintro e w2 ⟨rfl, hb2⟩
        go_wp2_with fail
        go_ret2
        exact ⟨.slice none 0 0, by rw [HRES.out]; rfl, by rw [HRES.out]; exact World.ownsRow_nil _ _ _ _, (HB.out.trans (hb2.mono HZ.out)).alloc (Nat.le_trans HZ.out hb2.size) _⟩

theorem row_cell {w : World} {base n : Nat} {v : Value} {l : List El} (h : w.ownsRow base 32 3 v n (rowCells l)) {k : Nat} (hk : k < l.length) :
    ∃ g cap, v = .slice (some ⟨g, 0, none⟩) n cap ∧ n ≤ cap ∧ w.cell? ⟨g, k * 3, none⟩ = some (.int .i64 (l[k].1 : Nat)) ∧ w.cell? ⟨g, k * 3 + 1, none⟩ = some (.string l[k].2.1) ∧ w.cell? ⟨g, k * 3 + 2, none⟩ = some (.string l[k].2.2) := by
  obtain ⟨hlen, hh⟩ := h
  rw [rowCells_length] at hlen
  rcases hh with ⟨_, h⟩ | ⟨g, cap, cur, rfl, hg, hblk, hn, hcap, hsz, htk⟩
  · omega
  refine ⟨g, cap, rfl, hn, ?_⟩
  have hc : ∀ j, j < 3 → w.cell? ⟨g, k * 3 + j, none⟩ = (elCells l[k])[j]? := fun j hj => by
    have h1 : (rowCells l)[k * 3 + j]? = (elCells l[k])[j]? := by
      clear htk hlen hn
      induction l generalizing k with
      | nil => simp at hk
      | cons x r ih =>
        have e : rowCells (x :: r) = elCells x ++ rowCells r := by simp [rowCells]
        rw [e]
        cases k with
        | zero => rw [List.getElem?_append_left (by simp [elCells]; omega)]; simp
        | succ k =>
          rw [List.getElem?_append_right (by simp [elCells]; omega)]
          have := ih (k := k) (by simpa using hk)
          rw [show (k + 1) * 3 + j - (elCells x).length = k * 3 + j by simp [elCells]; omega]
          simpa using this
    rw [← h1, ← htk, List.getElem?_take_of_lt (by omega)]
    unfold World.cell?
    rw [show w.heap[g]? = _ from hblk]
    simp
  exact ⟨hc 0 (by omega), hc 1 (by omega), hc 2 (by omega)⟩

end Go.Proofs.Ytpcdbgfhlghocaa
