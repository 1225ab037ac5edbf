/- Small methods of the program's disk. -/
import Derived.Test.YtlaodmpdngdhjaaDe
import Derived.WalkSpells
import Derived.WalkLawsBesides
import Derived.OwnWalk
namespace Go.Proofs.Ytlaodmpdngdhjaa
set_option linter.unusedVariables false
set_option linter.unusedSimpArgs false
open Go.RowKit Go.Maps Go.WideMaps

theorem row_cells {w : World} {d : Nat} {cs : Array Value} {t : TypeId} (h : w.heap[d]? = some (.cells cs t (0, 0))) : (∀ i : Nat, w.cell? ⟨d, i, none⟩ = cs[i]?) ∧ ∀ i : Nat, w.frozen? ⟨d, i, none⟩ = false :=
  ⟨fun i => cell_of_row w d i cs t (0, 0) h, fun i => by simp [World.frozen?, h]⟩

theorem down_any (d : Nat) (cs : Array Value) (w : World) (x : Bool) (h : w.cell? ⟨d, 4, none⟩ = some (.bool x)) : Calls Try.prog 66 #[ptr d] w fun e w' => e = .returned (.bool x) ∧ w' = w := by
  go_enter Try.func66, Try.ntmps66
  go_wp2
  go_ret
  exact ⟨rfl, rfl⟩
theorem down_nil (w : World) : Calls Try.prog 66 #[.pointer none] w fun e w' => e = .returned (.bool true) ∧ w' = w := by
  go_enter Try.func66, Try.ntmps66
  go_wp2
  go_ret
  exact ⟨rfl, rfl⟩
set_option maxHeartbeats 1000000 in
theorem has_any (d : Nat) (vf : Value) (F : List File) (x : ByteArray) (w : World) (h : w.cell? ⟨d, 2, none⟩ = some vf) (hm : MapOf w vf F) (hx : x.size ≤ maxLen) :
    Calls Try.prog 75 #[ptr d, .string x] w fun e w' => e = .returned (.bool (look F x).isSome) ∧ w' = w := by
  have hl := hm.look_ok hx
  clear hm
  obtain ⟨y, hy⟩ : ∃ y, (look F x).getD ⟨#[]⟩ = y := ⟨_, rfl⟩
  obtain ⟨b, hb⟩ : ∃ b, (look F x).isSome = b := ⟨_, rfl⟩
  rw [hy, hb] at hl
  rw [hb]
  clear hy hb hx
  go_enter Try.func75, Try.ntmps75
  go_wp2
  go_ret
  exact ⟨rfl, rfl⟩
end Go.Proofs.Ytlaodmpdngdhjaa
