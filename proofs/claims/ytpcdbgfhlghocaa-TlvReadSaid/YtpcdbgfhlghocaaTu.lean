import Derived.Test.YtpcdbgfhlghocaaTs
import Derived.Test.YtpcdbgfhlghocaaTv
import Derived.Laws.BytesArg
import Derived.WideShapes
namespace Go.Proofs.Ytpcdbgfhlghocaa
set_option linter.unusedVariables false
set_option linter.unusedSimpArgs false
open Go.RowKit

theorem ByteRow.below {w w' : World} {a : Option Addr} {L : List UInt8} (h : ByteRow w a L) (hb : Below w.heap.size w w') : ByteRow w' a L := by
  rcases h with h | ⟨bk, o, ha, hbk, hc⟩
  · exact Or.inl h
  · refine Or.inr ⟨bk, o, ha, Nat.lt_of_lt_of_le hbk hb.size, fun j hj => ?_⟩
    rw [hb.cell (p := ⟨bk, o + j, none⟩) hbk]
    exact hc j hj

theorem ByteRow.conv {w : World} {a : Option Addr} {L : List UInt8} (h : ByteRow w a L) (n c : Nat) (hn : n = L.length) : (convert 30 9 (.slice a n c)).run Try.prog w = .ok (.string ⟨L.toArray⟩) w := by
  subst hn
  rcases h with rfl | ⟨bk, o, rfl, hbk, hc⟩
  · cases a with
    | none => exact run_convert_bytes_nil (P := Try.prog) w 30 5 Try.underlying30 Try.underlying5 0 c 9 Try.underlying9
    | some a => exact run_convert_bytes_back (P := Try.prog) w 30 9 5 a c [] Try.underlying30 Try.underlying5 Try.underlying9 (fun j hj => by simp at hj)
  · exact run_convert_bytes_back (P := Try.prog) w 30 9 5 ⟨bk, o, none⟩ c L Try.underlying30 Try.underlying5 Try.underlying9 fun j hj => by
      rw [Go.WideShapes.add_plain]; exact hc j hj

set_option maxHeartbeats 1000000 in
theorem law_TlvRead (b : ByteArray) (a : Option Addr) (n c : Nat) (L : List UInt8) (w : World) (hs : b.size ≤ maxLen) (hrow : ByteRow w a L) (hn : n = L.length) (hl : n ≤ 9223372036854775807) : Calls Try.prog 7 #[.string b, .slice a n c] w (Ok w w) := by
  unfold maxLen at hs
  by_cases hbig : 600 < b.size
  · go_enter Try.func7, Try.ntmps7
    go_wp2_with (first | (go_at_call 12; refine (awake_any _).mono ?_; rintro e w1 ⟨rfl, hb1⟩))
    go_ret
    exact ⟨rfl, hb1⟩
  by_cases hbig2 : 600 < n
  · go_enter Try.func7, Try.ntmps7
    go_wp2_with (first | (go_at_call 12; refine (awake_any _).mono ?_; rintro e w1 ⟨rfl, hb1⟩))
    go_ret
    exact ⟨rfl, hb1⟩
  have c1 := fun W => same_any b W (by omega)
  have c2 := fun W => same_any ⟨L.toArray⟩ W (by rw [str_size]; omega)
  have c3 := fun W => same_any ((⟨#[48, 128]⟩ : ByteArray) ++ b) W (by rw [ByteArray.size_append, show (⟨#[48, 128]⟩ : ByteArray).size = 2 from rfl]; omega)
  have C1 := Lib.hid c1
  have C2 := Lib.hid c2
  have C3 := Lib.hid c3
  have HR := Lib.hid hrow
  have HN := Lib.hid hn
  clear c1 c2 c3 hrow hn
  go_enter Try.func7, Try.ntmps7
  go_wp2_with fail
  refine (awake_any _).mono ?_
  rintro e w1 ⟨rfl, hb1⟩
  go_wp2_with fail
  refine (C1.out _).mono ?_
  rintro e w2 ⟨rfl, hb2⟩
  have hb2' : Below w.heap.size w w2 := hb1.trans (hb2.mono hb1.size)
  have hcv := (HR.out.below hb2').conv n c HN.out
  go_wp2_with fail
  refine (C2.out _).mono ?_
  rintro e w3 ⟨rfl, hb3⟩
  have hb3' : Below w.heap.size w w3 := hb2'.trans (hb3.mono hb2'.size)
  clear hcv
  go_wp2_with fail
  refine (C3.out _).mono ?_
  rintro e w4 ⟨rfl, hb4⟩
  go_wp2_with fail
  go_ret
  exact ⟨rfl, hb3'.trans (hb4.mono hb3'.size)⟩
end Go.Proofs.Ytpcdbgfhlghocaa
