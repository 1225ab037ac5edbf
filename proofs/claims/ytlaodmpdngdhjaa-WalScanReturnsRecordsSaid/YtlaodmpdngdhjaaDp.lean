/- Names, New of the program's disk. -/
import Derived.Test.YtlaodmpdngdhjaaDo
import Derived.Test.YtlaodmpdngdhjaaDs
namespace Go.Proofs.Ytlaodmpdngdhjaa
set_option linter.unusedVariables false
set_option linter.unusedSimpArgs false
open Go.RowKit Go.Maps Go.WideMaps Go.Sort

theorem perm_keys {w : World} {b n : Nat} {D : DataW Unit} {F : List File} (h : w.ownsMap Try.prog 9 rdr b n D) (ha : Agr D F) (hn : KeysND F) : (lists F).Perm (strKeys D) := by
  obtain ⟨es, rfl, hes⟩ := h.tidy law9
  obtain ⟨es', he, hk⟩ := h.keysOf
  cases he
  have hs : ∀ p ∈ es, ∃ x, p.1 = .string x := by
    intro p hp
    obtain ⟨v, hv⟩ := hk p hp
    obtain ⟨x, _, h2, _⟩ := Maps.keyOf_str Try.underlying9 hv
    exact ⟨x, h2⟩
  have hnd : (lists F).Nodup := by
    unfold lists List.Nodup
    unfold KeysND List.Nodup at hn
    rw [List.pairwise_map] at hn ⊢
    exact hn.imp fun {a b} hab e => hab (ByteArray.ext (Array.toList_inj.1 e))
  exact perm_strKeys (H := Unit) hes hs (ss := lists F) hnd (by
    intro x
    have hx : x = (⟨x.toArray⟩ : ByteArray).data.toList := by simp
    have h1 := ha ⟨x.toArray⟩
    cases hl : look F ⟨x.toArray⟩ with
    | none =>
      rw [hl] at h1
      simp only [lk, List.toList_toArray] at h1
      rw [h1]
      simp only [Bool.false_eq_true, iff_false]
      intro hm
      unfold lists at hm
      obtain ⟨p, hp, e⟩ := List.mem_map.1 hm
      have : (look F p.1).isSome = true := look_mem.2 (List.mem_map.2 ⟨p, hp, rfl⟩)
      have e2 : p.1 = ⟨x.toArray⟩ := ByteArray.ext (by rw [← e])
      rw [e2, hl] at this
      cases this
    | some c =>
      rw [hl] at h1
      simp only [lk, List.toList_toArray] at h1
      rw [h1.1]
      simp only [iff_true]
      have : (look F ⟨x.toArray⟩).isSome = true := by rw [hl]; rfl
      obtain ⟨p, hp, e⟩ := List.mem_map.1 (look_mem.1 this)
      unfold lists
      exact List.mem_map.2 ⟨p, hp, by rw [e]⟩)
def St.names (s : St) : List ByteArray := if s.off then [] else srtB (s.all.map (·.1))
theorem sorted_perm {a b : List (List UInt8)} (h : a.Perm b) : a.mergeSort leB = b.mergeSort leB := by
  have tr : ∀ a b c : List UInt8, leB a b = true → leB b c = true → leB a c = true := fun a b c h1 h2 => by simp only [leB, decide_eq_true_eq] at *; exact List.le_trans h1 h2
  have tot2 : ∀ a b : List UInt8, (leB a b || leB b a) = true := fun a b => by simp only [leB, Bool.or_eq_true, decide_eq_true_eq]; exact List.le_total a b
  exact List.Perm.eq_of_pairwise (le := fun a b => leB a b = true) (fun a b _ _ h1 h2 => by simp only [leB, decide_eq_true_eq] at h1 h2; exact List.le_antisymm h1 h2) (List.pairwise_mergeSort tr tot2 a) (List.pairwise_mergeSort tr tot2 b)
    ((List.mergeSort_perm a leB).trans (h.trans (List.mergeSort_perm b leB).symm))
/-- The keys, sorted: from the map itself. -/
theorem sorted_any (v : Value) (F : List File) (w : World) (h : MapOf w v F) (hn : KeysND F) (hl : F.length ≤ 1000000) :
    Calls Try.prog 81 #[.func (.func 97) #[] #[.pointer (some ⟨w.heap.size, 0, none⟩)]] (w.alloc (.cells #[v] 59)) fun e w' => ∃ v', e = .returned v' ∧ w'.ownsRow w.heap.size 9 1 v' (srtB (F.map (·.1))).length (strs (srtB (F.map (·.1)))) ∧ Below w.heap.size w w' := by
  have hB : Below w.heap.size w (w.alloc (.cells #[v] 59)) := (Below.refl _ _).alloc (Nat.le_refl _) _
  have hlist : lists F = listsB (F.map (·.1)) := by simp [lists, listsB, Function.comp_def]
  rcases h with ⟨rfl, rfl⟩ | ⟨b, n, D, rfl, h1, h2⟩
  · refine (callsIn_wide.1 (Try.slices_Sorted_keys_nil_81_82 w)).mono ?_
    rintro e w' ⟨v', ss, rfl, rfl, h3, _, h5⟩
    have h4 : w'.ownsRow (w.alloc (.cells #[.map none] 59)).heap.size 9 1 v' 0 [] := by simpa using h3
    exact ⟨v', rfl, row_mono h4 (by simp), hB.trans (h5.mono (by simp))⟩
  · have hsz : Maps.size D = F.length := size_agr h1 h2 hn
    refine (callsIn_wide.1 (Try.slices_Sorted_keys_81_82 b n D rdr w h1 (by unfold maxLen; omega) (by omega))).mono ?_
    rintro e w' ⟨v', ss, rfl, hp, h3, _, h5⟩
    have e1 : (ss.mergeSort fun x y => decide (x ≤ y)) = (listsB (F.map (·.1))).mergeSort leB := by
      rw [← hlist]
      exact sorted_perm (hp.trans (perm_keys h1 h2 hn).symm)
    have e2 : ss.length = (srtB (F.map (·.1))).length := by
      rw [srtB_length, hp.length_eq, ← (perm_keys h1 h2 hn).length_eq]
      simp [lists]
    rw [e1, sortB_strs, sort_same, e2] at h3
    exact ⟨v', rfl, row_mono h3 (by simp), hB.trans (h5.mono (by simp))⟩
set_option maxRecDepth 100000 in
set_option maxHeartbeats 2000000 in
theorem names_any (d : Nat) (s : St) (rw ro : Nat → Prop) (M : Nat) (w : World) (h : DiskAt w d s rw ro) (hg : Good s M) (hM : M ≤ 500000) :
    Calls Try.prog 45 #[ptr d] w fun e w' => ∃ v, e = .returned v ∧ w'.ownsRow w.heap.size 9 1 v s.names.length (strs s.names) ∧ Below w.heap.size w w' := by
  have HDN := Lib.hid ((h.within hg hM).down _ (Below.refl _ w))
  cases hoff : s.off with
  | true =>
    have e1 : s.names = [] := by unfold St.names; rw [if_pos hoff]
    rw [e1]
    rw [hoff] at HDN
    clear h hg
    go_enter Try.func45, Try.ntmps45
    go_wp2_with fail
    refine HDN.out.mono ?_
    rintro e w1 ⟨rfl, hw1⟩
    have hw1' := hw1.symm
    subst hw1'
    go_wp2_with fail
    go_ret
    exact ⟨_, rfl, World.ownsRow_nil _ _ _ _, Below.refl _ _⟩
  | false =>
    have e1 : s.names = srtB (s.all.map (·.1)) := by unfold St.names; rw [if_neg (by rw [hoff]; decide)]
    have hsz := hg.szAll
    obtain ⟨vd, vf, vp, fuse, fcs, h⟩ := h
    have k2 : w.cell? ⟨d, 2, none⟩ = some vf := (row_cells h.blk).1 2
    rw [hoff] at HDN
    have HS := Lib.hid (sorted_any vf s.all w h.mapf hg.ndAll (by omega))
    have HK := Lib.hid (fun o => callsIn_wide.1 (Try.maps_Keys_82 o w))
    have hsh : ∃ o, vf = .map o := by
      rcases h.mapf.shape with ⟨h1, _⟩ | ⟨b, h1, _⟩
      · exact ⟨_, h1⟩
      · exact ⟨_, h1⟩
    obtain ⟨o, rfl⟩ := hsh
    rw [← e1] at HS
    clear h hg e1 hsz
    go_enter Try.func45, Try.ntmps45
    go_wp2_with fail
    refine HDN.out.mono ?_
    rintro e w1 ⟨rfl, hw1⟩
    have hw1' := hw1.symm
    subst hw1'
    go_wp2_with fail
    refine (HK.out o).mono ?_
    rintro e w2 ⟨rfl, hw2⟩
    subst hw2
    go_wp2_with fail
    refine HS.out.mono ?_
    rintro e w3 ⟨v', rfl, hr, hb⟩
    have HR := Lib.hid hr
    have HB := Lib.hid hb
    clear hr hb
    go_wp2_with fail
    go_ret
    exact ⟨v', rfl, HR.out, HB.out⟩
theorem names_nil (w : World) : Calls Try.prog 45 #[.pointer none] w fun e w' => e = .returned (.slice none 0 0) ∧ w' = w := by
  have HDN := Lib.hid (down_nil w)
  go_enter Try.func45, Try.ntmps45
  go_wp2_with fail
  refine HDN.out.mono ?_
  rintro e w1 ⟨rfl, rfl⟩
  go_wp2_with fail
  go_ret
  exact ⟨rfl, rfl⟩
/-- A new disk. -/
def St.new (cap : Int) : St := { cap := cap.toNat, files := [], ops := [], left := -1, off := false }
theorem St.new_good (cap : Int) (h : cap < 9223372036854775808) : Good (St.new cap) 0 :=
  ⟨List.Pairwise.nil, trivial, rfl, by show (-1 : Int) ≤ -1; omega, by show (-1 : Int) < _; omega, by show cap.toNat < _; omega, Nat.le_refl _⟩
/-- A block of a new disk's cells is a disk. -/
theorem disk_of_cells {w : World} {d : Nat} (cap : Nat) (fuse : Int) (h : w.heap[d]? = some (.cells #[.int .i64 cap, .map none, .map none, .slice none 0 0, .bool false, .bool false, .int .i64 fuse] 62 (0, 0))) :
    DiskAt w d { cap := cap, files := [], ops := [], left := -1, off := false } (fun b => b = d) (fun _ => False) := by
  refine ⟨.map none, .map none, .slice none 0 0, fuse, [], h, fun h => absurd (show (0 : Int) < -1 from h) (by decide), .inl ⟨rfl, rfl⟩, .inl ⟨rfl, rfl⟩, World.ownsRow_nil _ _ _ _, trivial, rfl, fun b e => (by cases e), fun b e => (by cases e), fun b e => (by cases e), fun b e => (by cases e), ?_, fun _ _ h => h⟩
  rintro b (rfl | h2)
  · exact heap_lt h
  · exact h2.elim
set_option maxRecDepth 100000 in
theorem new_any (cap : Int) (w : World) (h1 : -9223372036854775808 ≤ cap) (h2 : cap < 9223372036854775808) :
    Calls Try.prog 21 #[.int .i64 cap] w fun e w' => e = .returned (ptr w.heap.size) ∧ DiskAt w' w.heap.size (St.new cap) (fun b => b = w.heap.size) (fun _ => False) ∧ Below w.heap.size w w' ∧ w.heap.size < w'.heap.size := by
  have e : max cap 0 = (cap.toNat : Int) := by omega
  have HE := Lib.hid e
  clear e
  go_enter Try.func21, Try.ntmps21
  go_wp2_with fail
  go_ret
  exact ⟨rfl, disk_of_cells cap.toNat 0 (by rw [← HE.out]; exact heap_alloc_new w _), (Below.refl _ _).alloc (Nat.le_refl _) _, by simp⟩
end Go.Proofs.Ytlaodmpdngdhjaa
