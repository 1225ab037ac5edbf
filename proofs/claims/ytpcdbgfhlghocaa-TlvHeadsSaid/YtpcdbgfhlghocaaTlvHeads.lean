/- Read, One, List and Check agree with the definition for headers with lengths of all forms: the law certpathlaw02.TlvHeads returns true for every input, without conditions. -/
import Derived.Test.YtpcdbgfhlghocaaR
import Derived.Test.YtpcdbgfhlghocaaTw
namespace Go.Proofs.Ytpcdbgfhlghocaa
set_option linter.unusedVariables false
set_option linter.unusedSimpArgs false
open Go.ChangeShapes Go.WideShapes Go.ChangeAt Go.RowKit
open Go.ChangeMaps (open_string shut_string)

set_option maxRecDepth 100000 in
theorem TlvHeads_lifted (os : Os) (started : os.Started) (H : Type) (enc : TypeId × Value → H) :
    ReturnsInHanded {} Try.checked os 8 .any (Rows.tlvHeadsSpec.pre6 enc Try.prog Try.f8 Rows.tlvHeadsRow.domain false) (Rows.tlvHeadsSpec.post enc Try.prog Try.f8 false true false false) := by
  refine returnsInHanded_of_change_sized (C := Try.checked) own started (by kernel_rfl) Try.func8
    (ChangeSpec.witness6 (enc := enc) (C := Try.checked) false ⟨#[], #[.int .u8 0, .int .u8 0, .int .u32 0, .int .u16 0, .int .u8 0], []⟩ 8 (by kernel_rfl) (by kernel_rfl) (by kernel_rfl) (by kernel_rfl)) ?_
  intro W base args ds gs before hval0 hW _ hsz0 _
  have hsz : (DataW.weightsEach Try.prog (Try.f8.params.toList ++ Rows.tlvHeadsSpec.plain.varTypes Try.prog) (ds ++ gs)).all (· ≤ reachBytes) = true := hsz0
  clear hsz0
  have hval : ∀ (j : Nat) t v, Try.f8.params[j]? = some t → args[j]? = some v → Value.okWide Try.prog W .any base t v := hval0
  have hW2 := hW
  have hlt : ∀ x ∈ before, x.block < W.heap.size := fun x hx => by simpa using hW.lt x hx
  obtain ⟨p, q, hA0, hV, hbf, _, _⟩ := hW
  have hA : DataW.TrodAll enc Try.prog W 0 (fun _ => true) true Try.f8.params.toList args.toList ds p := hA0
  rw [Try.params8] at hA hval hsz
  obtain ⟨v0, vs0, d0, ds0, p0, q0, hargs0, rfl, rfl, h0, r0⟩ := trodAll_cons hA
  obtain ⟨v1, vs1, d1, ds1, p1, q1, hargs1, rfl, rfl, h1, r1⟩ := trodAll_cons r0
  obtain ⟨v2, vs2, d2, ds2, p2, q2, hargs2, rfl, rfl, h2, r2⟩ := trodAll_cons r1
  obtain ⟨v3, vs3, d3, ds3, p3, q3, hargs3, rfl, rfl, h3, r3⟩ := trodAll_cons r2
  obtain ⟨v4, vs4, d4, ds4, p4, q4, hargs4, rfl, rfl, h4, r4⟩ := trodAll_cons r3
  obtain ⟨rfl, rfl, rfl⟩ := trodAll_nil r4
  subst hargs4
  subst hargs3
  subst hargs2
  subst hargs1
  obtain rfl : args = #[v0, v1, v2, v3, v4] := by cases args; simp_all
  obtain ⟨rfl, rfl⟩ := trodVars_none hV
  obtain ⟨a, rfl, rfl, rfl, wa⟩ := open_int Try.underlying5 (hval 0 5 v0 rfl rfl) h0
  obtain ⟨b, rfl, rfl, rfl, wb⟩ := open_int Try.underlying5 (hval 1 5 v1 rfl rfl) h1
  obtain ⟨c, rfl, rfl, rfl, wc⟩ := open_int Try.underlying43 (hval 2 43 v2 rfl rfl) h2
  obtain ⟨d, rfl, rfl, rfl, wd⟩ := open_int Try.underlying39 (hval 3 39 v3 rfl rfl) h3
  obtain ⟨e, rfl, rfl, rfl, we⟩ := open_int Try.underlying5 (hval 4 5 v4 rfl rfl) h4
  have ba := wf_bounds_u8 wa
  have bb := wf_bounds_u8 wb
  have bc := wf_bounds_u32 wc
  have bd := wf_bounds_u16 wd
  have be := wf_bounds_u8 we
  obtain ⟨xa, rfl⟩ := Int.eq_ofNat_of_zero_le ba.1
  obtain ⟨xb, rfl⟩ := Int.eq_ofNat_of_zero_le bb.1
  obtain ⟨xc, rfl⟩ := Int.eq_ofNat_of_zero_le bc.1
  obtain ⟨xd, rfl⟩ := Int.eq_ofNat_of_zero_le bd.1
  obtain ⟨xe, rfl⟩ := Int.eq_ofNat_of_zero_le be.1
  refine (law_TlvHeads xa xb xc xd xe (by omega) (by omega) (by omega) (by omega) (by omega) W).mono fun e' W' he => ?_
  obtain ⟨rfl, hb⟩ := he
  exact ⟨_, rfl, law_post (P := Try.prog) (fn := Try.f8) laidOut (by kernel_rfl) (by kernel_rfl) Try.underlying4 rfl hW2 rfl rfl rfl hb⟩

theorem TlvHeads_holds : Rows.TlvHeadsSaid :=
  OpenClaim.holds_of_wide 8 Try.f8 rfl rfl rfl rfl rfl rfl rfl ⟨rfl, rfl, rfl, rfl, rfl⟩ rfl rfl rfl rfl rfl (by kernel_rfl) Try.func8 (by kernel_rfl)
    (of_decide_eq_true (by kernel_rfl)) (by unfold Func.isWrapper; first | (rw [if_pos (by decide +kernel)]; kernel_rfl) | (rw [if_neg (by decide +kernel)]; exact ⟨rfl, rfl⟩))
    (fun os started H enc _ => TlvHeads_lifted os started H enc)
#print axioms TlvHeads_holds
end Go.Proofs.Ytpcdbgfhlghocaa
