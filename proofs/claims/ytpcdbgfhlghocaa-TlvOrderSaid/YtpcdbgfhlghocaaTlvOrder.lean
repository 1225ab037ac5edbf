/- Order and Ascending agree with the definition, and ordered elements ascend: the law certpathlaw02.TlvOrder returns true for every input, without conditions. -/
import Derived.Test.YtpcdbgfhlghocaaR
import Derived.Test.YtpcdbgfhlghocaaUf
namespace Go.Proofs.Ytpcdbgfhlghocaa
set_option linter.unusedVariables false
set_option linter.unusedSimpArgs false
open Go.ChangeShapes Go.WideShapes Go.ChangeAt Go.RowKit
open Go.ChangeMaps (open_string shut_string)

set_option maxRecDepth 100000 in
theorem TlvOrder_lifted (os : Os) (started : os.Started) (H : Type) (enc : TypeId × Value → H) :
    ReturnsInHanded {} Try.checked os 10 .any (Rows.tlvOrderSpec.pre6 enc Try.prog Try.f10 Rows.tlvOrderRow.domain false) (Rows.tlvOrderSpec.post enc Try.prog Try.f10 false true false false) := by
  refine returnsInHanded_of_change_sized (C := Try.checked) own started (by kernel_rfl) Try.func10
    (ChangeSpec.witness6 (enc := enc) (C := Try.checked) false ⟨#[], #[.slice none 0 0], []⟩ 8 (by kernel_rfl) (by kernel_rfl) (by kernel_rfl) (by kernel_rfl)) ?_
  intro W base args ds gs before hval0 hW _ hsz0 _
  have hsz : (DataW.weightsEach Try.prog (Try.f10.params.toList ++ Rows.tlvOrderSpec.plain.varTypes Try.prog) (ds ++ gs)).all (· ≤ reachBytes) = true := hsz0
  clear hsz0
  have hval : ∀ (j : Nat) t v, Try.f10.params[j]? = some t → args[j]? = some v → Value.okWide Try.prog W .any base t v := hval0
  have hW2 := hW
  have hlt : ∀ x ∈ before, x.block < W.heap.size := fun x hx => by simpa using hW.lt x hx
  obtain ⟨p, q, hA0, hV, hbf, _, _⟩ := hW
  have hA : DataW.TrodAll enc Try.prog W 0 (fun _ => true) true Try.f10.params.toList args.toList ds p := hA0
  rw [Try.params10] at hA hval hsz
  obtain ⟨v0, vs0, d0, ds0, p0, q0, hargs0, rfl, rfl, h0, r0⟩ := trodAll_cons hA
  obtain ⟨rfl, rfl, rfl⟩ := trodAll_nil r0
  obtain rfl : args = #[v0] := by cases args; simp_all
  obtain ⟨rfl, rfl⟩ := trodVars_none hV
  obtain ⟨al, nl, cl, l, rfl, rowl, hnl, hcl, hll, wl⟩ := open_row (hval 0 22 v0 rfl rfl) h0 (fun x hx => hlt x (by rw [hbf]; simp [hx])) (fun L M e => by
    subst e
    have := sized_slice hsz (j := 0) (t := 22) (e := 9) rfl rfl Try.underlying22
    rwa [bytes9] at this)
  refine (law_TlvOrder nl al cl l W rowl hnl hcl hll wl).mono fun e W' he => ?_
  obtain ⟨rfl, hb⟩ := he
  exact ⟨_, rfl, law_post (P := Try.prog) (fn := Try.f10) laidOut (by kernel_rfl) (by kernel_rfl) Try.underlying4 rfl hW2 rfl rfl rfl hb⟩

theorem TlvOrder_holds : Rows.TlvOrderSaid :=
  OpenClaim.holds_of_wide 10 Try.f10 rfl rfl rfl rfl rfl rfl rfl ⟨rfl, rfl, rfl, rfl, rfl⟩ rfl rfl rfl rfl rfl (by kernel_rfl) Try.func10 (by kernel_rfl)
    (of_decide_eq_true (by kernel_rfl)) (by unfold Func.isWrapper; first | (rw [if_pos (by decide +kernel)]; kernel_rfl) | (rw [if_neg (by decide +kernel)]; exact ⟨rfl, rfl⟩))
    (fun os started H enc _ => TlvOrder_lifted os started H enc)
#print axioms TlvOrder_holds
end Go.Proofs.Ytpcdbgfhlghocaa
