import Derived.Below
namespace Go.Proofs.Ytpcdbgfhlghocaa
/-- A slice of bytes in memory. -/
def ByteRow (w : World) (a : Option Addr) (L : List UInt8) : Prop :=
  L = [] ∨ ∃ bk o, a = some ⟨bk, o, none⟩ ∧ bk < w.heap.size ∧ ∀ j (hj : j < L.length), w.cell? ⟨bk, o + j, none⟩ = some (.int .u8 (L[j].toNat : Int))
end Go.Proofs.Ytpcdbgfhlghocaa
