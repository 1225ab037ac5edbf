/- The calls of the laws: name, short. -/
import Derived.Test.YtlaodmpdngdhjaaDr
namespace Go.Proofs.Ytlaodmpdngdhjaa
set_option linter.unusedVariables false
set_option linter.unusedSimpArgs false
open Go.RowKit Go.Maps Go.WideMaps

/-- A call of a method, as the laws have it. -/
structure Cl where
  kind : Int
  from_ : Int
  to_ : Int
  n : Int
  m : Int
  name : ByteArray
  data : ByteArray
  raw : Bool
def fits64 (a : Int) : Prop := -9223372036854775808 ≤ a ∧ a < 9223372036854775808
structure Cl.ok (c : Cl) : Prop where
  kind : fits64 c.kind
  from_ : fits64 c.from_
  to_ : fits64 c.to_
  n : fits64 c.n
  m : fits64 c.m
  name : c.name.size ≤ maxLen
  data : c.data.size ≤ maxLen
def Cl.cells (c : Cl) : Array Value := #[.int .i64 c.kind, .int .i64 c.from_, .int .i64 c.to_, .int .i64 c.n, .int .i64 c.m, .string c.name, .string c.data, .bool c.raw]
def table : List ByteArray := [⟨#[97]⟩, ⟨#[98]⟩, ⟨#[108, 111, 103, 45, 49]⟩, ⟨#[120, 46, 110, 101, 119]⟩, ⟨#[65]⟩, ⟨#[]⟩]
/-- The file name of a number. -/
def nm (c : Cl) (k : Int) : ByteArray := if c.raw then c.name else table.getD (k % 6).toNat ⟨#[]⟩
/-- A slice of calls that came in. -/
def CallRow (w : World) (a : Option Addr) (l : List Cl) : Prop :=
  l = [] ∨ ∃ b o, a = some ⟨b, o, none⟩ ∧ b < w.heap.size ∧ ∀ (j : Nat) (c : Cl), l[j]? = some c → ∀ (i : Nat) (v : Value), c.cells[i]? = some v → w.cell? ⟨b, o + j * 8 + i, none⟩ = some v
set_option maxRecDepth 100000 in
theorem name_any (c : Cl) (k : Int) (w : World) (hk : fits64 k) :
    Calls Try.prog 40 #[.agg c.cells, .int .i64 k] w fun e w' => e = .returned (.string (nm c k)) ∧ Below w.heap.size w w' := by
  obtain ⟨kind, fr, tt, n, m, name, data, raw⟩ := c
  cases raw with
  | true =>
    have HR : Hid (nm ⟨kind, fr, tt, n, m, name, data, true⟩ k = name) := Lib.hid rfl
    unfold Cl.cells
    go_enter Try.func40, Try.ntmps40
    go_wp2_with fail
    go_ret
    exact ⟨by rw [HR.out]; rfl, (Below.refl _ _).alloc (Nat.le_refl _) _⟩
  | false =>
    obtain ⟨j, hj⟩ : ∃ j : Nat, k % 6 = j := ⟨(k % 6).toNat, by omega⟩
    have hj6 : j < 6 := by omega
    have HR : Hid (nm ⟨kind, fr, tt, n, m, name, data, false⟩ k = table.getD j ⟨#[]⟩) := Lib.hid (by
      show table.getD (k % 6).toNat ⟨#[]⟩ = _
      rw [hj]
      rfl)
    have HS := Lib.hid fun W => small_any k 6 W hk.1 hk.2 (by omega) (by omega)
    rw [hj] at HS
    clear hj
    unfold Cl.cells
    go_enter Try.func40, Try.ntmps40
    go_wp2_with fail
    refine (HS.out _).mono ?_
    rintro e w1 ⟨rfl, hw⟩
    subst hw
    have hj' : j = 0 ∨ j = 1 ∨ j = 2 ∨ j = 3 ∨ j = 4 ∨ j = 5 := by omega
    rcases hj' with rfl | rfl | rfl | rfl | rfl | rfl
    all_goals
      go_wp2_with fail
      go_ret
      exact ⟨by rw [HR.out]; rfl, ((Below.refl _ _).alloc (Nat.le_refl _) _).alloc (by simp) _⟩
end Go.Proofs.Ytlaodmpdngdhjaa
