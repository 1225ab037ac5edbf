/- The plain functions of the reader of elements: what tlv.Read and certpathref01.Read compute. -/
import Derived.Below
namespace Go.Proofs.Ytpcdbgfhlghocaa
set_option linter.unusedVariables false
set_option linter.unusedSimpArgs false
/-- The byte at a place (0 beyond the end). -/
def bt (s : ByteArray) (i : Nat) : Nat := if h : i < s.size then s[i].toNat else 0
theorem bt_lt (s : ByteArray) (i : Nat) : bt s i < 256 := by
  unfold bt
  split
  · exact UInt8.toNat_lt _
  · omega
theorem bt_get (s : ByteArray) (i : Nat) (h : i < s.size) : s[i].toNat = bt s i := by
  unfold bt
  rw [dif_pos h]

/-- What Read answers: tag, contents, raw, rest, error. -/
abbrev Rd := Nat × ByteArray × ByteArray × ByteArray × Int
def bad (e : Int) : Rd := (0, ⟨#[]⟩, ⟨#[]⟩, ⟨#[]⟩, e)
def fin (s : ByteArray) (n k : Nat) : Rd :=
  if s.size < k + n then bad 3 else (bt s 0, s.extract k (k + n), s.extract 0 (k + n), s.extract (k + n) s.size, 0)
def val (s : ByteArray) : Nat → Nat
  | 0 => 0
  | k + 1 => val s k * 256 + bt s (2 + k)
def least (k : Nat) : Nat := if k = 1 then 128 else if k = 2 then 256 else 65536
def lg (s : ByteArray) (k : Nat) : Rd := if val s k < least k ∨ 131072 < val s k then bad 6 else fin s (val s k) (2 + k)
def rd (s : ByteArray) : Rd :=
  if s.size = 0 then bad 3 else if bt s 0 % 32 = 31 then bad 5 else if s.size < 2 then bad 3
  else if bt s 1 = 128 ∨ 131 < bt s 1 then bad 6
  else if bt s 1 < 128 then fin s (bt s 1) 2
  else if s.size < 2 + (bt s 1 - 128) then bad 3
  else lg s (bt s 1 - 128)

theorem val_lt (s : ByteArray) : ∀ k, val s k < 256 ^ k
  | 0 => by simp [val]
  | k + 1 => by
    have h := val_lt s k
    have hb := bt_lt s (2 + k)
    simp only [val]
    rw [Nat.pow_succ]
    omega

def valR (r : Rd) : Value := .tuple #[.agg #[.int .i64 r.1, .string r.2.1, .string r.2.2.1], .string r.2.2.2.1, .int .i64 r.2.2.2.2]

theorem bits31 (x : Nat) (h : x < 256) : bits BinOp.and IntKind.i64 (x : Int) 31 = ((x % 32 : Nat) : Int) := by
  have : ∀ y : Fin 256, bits BinOp.and IntKind.i64 ((y.val : Nat) : Int) 31 = ((y.val % 32 : Nat) : Int) := by decide +kernel
  exact this ⟨x, h⟩
end Go.Proofs.Ytpcdbgfhlghocaa
