/- Wrap agrees with the definition for arbitrary identifier octets and contents: the law certpathlaw02.TlvWrap returns true for every input, without conditions. -/
import Derived.Test.YtpcdbgfhlghocaaR
import Derived.Test.YtpcdbgfhlghocaaTf
namespace Go.Proofs.Ytpcdbgfhlghocaa
set_option linter.unusedVariables false
set_option linter.unusedSimpArgs false
open Go.ChangeShapes Go.WideShapes Go.ChangeAt Go.RowKit

set_option maxRecDepth 100000 in
theorem TlvWrap_lifted (os : Os) (started : os.Started) (H : Type) (enc : TypeId × Value → H) :
    ReturnsInHanded {} Try.checked os 3 .any (Rows.tlvWrapSpec.pre6 enc Try.prog Try.f3 Rows.tlvWrapRow.domain false) (Rows.tlvWrapSpec.post enc Try.prog Try.f3 false true false false) := by
  refine returnsInHanded_of_change_sized (C := Try.checked) own started (by kernel_rfl) Try.func3
    (ChangeSpec.witness6 (enc := enc) (C := Try.checked) false ⟨#[], #[.int .i64 0, .slice none 0 0], []⟩ 8 (by kernel_rfl) (by kernel_rfl) (by kernel_rfl) (by kernel_rfl)) ?_
  intro W base args ds gs before hval0 hW _ hsz0 _
  have hsz : (DataW.weightsEach Try.prog (Try.f3.params.toList ++ Rows.tlvWrapSpec.plain.varTypes Try.prog) (ds ++ gs)).all (· ≤ reachBytes) = true := hsz0
  clear hsz0
  have hval : ∀ (j : Nat) t v, Try.f3.params[j]? = some t → args[j]? = some v → Value.okWide Try.prog W .any base t v := hval0
  have hW2 := hW
  have hlt : ∀ x ∈ before, x.block < W.heap.size := fun x hx => by simpa using hW.lt x hx
  obtain ⟨p, q, hA0, hV, hbf, _, _⟩ := hW
  have hA : DataW.TrodAll enc Try.prog W 0 (fun _ => true) true Try.f3.params.toList args.toList ds p := hA0
  rw [Try.params3] at hA hval hsz
  obtain ⟨v0, v1, d0, d1, p0, p1, rfl, rfl, rfl, h0, h1⟩ := trodAll_two hA
  obtain ⟨rfl, rfl⟩ := trodVars_none hV
  obtain ⟨t, rfl, rfl, rfl, wt⟩ := open_int Try.underlying3 (hval 0 3 v0 rfl rfl) h0
  obtain ⟨a, n, c, xs, rfl, hrow, hn, hc, hl, hs⟩ := open_row (hval 1 22 v1 rfl rfl) h1 (fun x hx => hlt x (by rw [hbf]; simp [hx])) (fun L M e => by
    subst e
    have := sized_slice hsz (j := 1) (t := 22) (e := 9) rfl rfl Try.underlying22
    rwa [bytes9] at this)
  refine (law_TlvWrap t n a c xs W hrow hn hc hl hs).mono fun e W' he => ?_
  obtain ⟨rfl, hb⟩ := he
  exact ⟨_, rfl, law_post (P := Try.prog) (fn := Try.f3) laidOut (by kernel_rfl) (by kernel_rfl) Try.underlying4 rfl hW2 rfl rfl rfl hb⟩

theorem TlvWrap_holds : Rows.TlvWrapSaid :=
  OpenClaim.holds_of_wide 3 Try.f3 rfl rfl rfl rfl rfl rfl rfl ⟨rfl, rfl, rfl, rfl, rfl⟩ rfl rfl rfl rfl rfl (by kernel_rfl) Try.func3 (by kernel_rfl)
    (of_decide_eq_true (by kernel_rfl)) (by unfold Func.isWrapper; first | (rw [if_pos (by decide +kernel)]; kernel_rfl) | (rw [if_neg (by decide +kernel)]; exact ⟨rfl, rfl⟩))
    (fun os started H enc _ => TlvWrap_lifted os started H enc)
#print axioms TlvWrap_holds
end Go.Proofs.Ytpcdbgfhlghocaa
