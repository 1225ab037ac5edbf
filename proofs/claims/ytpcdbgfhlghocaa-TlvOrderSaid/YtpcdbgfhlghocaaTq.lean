/- The plain functions of the writer of elements: what tlv.Wrap and certpathref01.Wrap compute. -/
import Derived.Test.YtpcdbgfhlghocaaTp
namespace Go.Proofs.Ytpcdbgfhlghocaa
set_option linter.unusedVariables false
set_option linter.unusedSimpArgs false
def tot (xs : List ByteArray) : Nat := (xs.map ByteArray.size).sum
def cat (xs : List ByteArray) : List UInt8 := (xs.map (·.data.toList)).flatten
def b8 (n : Nat) : UInt8 := UInt8.ofNat n
theorem b8_nat (n : Nat) : (b8 n).toNat = n % 256 := by simp [b8]
def hdr (t n : Nat) : List UInt8 :=
  b8 t :: (if n < 128 then [b8 n] else if n < 256 then [129, b8 n] else if n < 65536 then [130, b8 (n / 256), b8 n] else [131, b8 (n / 65536), b8 (n / 256), b8 n])
def wrp (t : Int) (xs : List ByteArray) : ByteArray × Int :=
  if t < 0 ∨ 255 < t ∨ t % 32 = 31 then (⟨#[]⟩, 5) else if 131072 < tot xs then (⟨#[]⟩, 6) else (⟨(hdr t.toNat (tot xs) ++ cat xs).toArray⟩, 0)
def valW (r : ByteArray × Int) : Value := .tuple #[.string r.1, .int .i64 r.2]
theorem tot_take (xs : List ByteArray) (k : Nat) : tot (xs.take k) ≤ tot xs := by
  have h : tot (xs.take k) + tot (xs.drop k) = tot xs := by
    unfold tot
    rw [← List.sum_append, ← List.map_append, List.take_append_drop]
  omega
theorem tot_snoc (xs : List ByteArray) (k : Nat) (x : ByteArray) (h : xs[k]? = some x) : tot (xs.take (k + 1)) = tot (xs.take k) + x.size := by
  unfold tot
  rw [List.take_add_one, h]
  simp
theorem cat_snoc (xs : List ByteArray) (k : Nat) (x : ByteArray) (h : xs[k]? = some x) : cat (xs.take (k + 1)) = cat (xs.take k) ++ x.data.toList := by
  unfold cat
  rw [List.take_add_one, h]
  simp
theorem cat_length (xs : List ByteArray) : (cat xs).length = tot xs := by
  induction xs with
  | nil => rfl
  | cons x r ih =>
    unfold cat tot at *
    simp [ih]
/-- A slice of strings in memory. -/
def StrRow (w : World) (a : Option Addr) (xs : List ByteArray) : Prop :=
  xs = [] ∨ ∃ bk o, a = some ⟨bk, o, none⟩ ∧ bk < w.heap.size ∧ ∀ j x, xs[j]? = some x → w.cell? ⟨bk, o + j, none⟩ = some (.string x)
end Go.Proofs.Ytpcdbgfhlghocaa
