/- GraphNil is proved: for every input the law returns true; what came in reads as it did. -/
import Derived.Test.YtelddnalpkhclaaRows
import Derived.Test.YtelddnalpkhclaaNil
import Derived.Test.YtelddnalpkhclaaKit
import Derived.ProofKit
namespace Go.Proofs.Ytelddnalpkhclaa
open Go.ChangeShapes Go.WideShapes Go.ChangeAt Go.RowKit
open Go.ChangeMaps (open_string shut_string)

theorem nilOwn : ownKnob Try.prog.godebug = none := by kernel_rfl
theorem nilLaid : laidOutB Try.prog = true := by kernel_rfl
theorem nilReadable (t : TypeId) (ht : t ∈ Try.f7.params.toList) : Try.prog.readableRec t = true ∧ t < Try.prog.types.size := by
  rw [Try.params7] at ht
  have hall : ([9].all fun t => Try.prog.readableRec t && decide (t < Try.prog.types.size)) = true := by kernel_rfl
  have := List.all_eq_true.1 hall t (by simpa using ht)
  simpa using this

set_option maxRecDepth 100000 in
theorem nil_lifted (os : Os) (started : os.Started) (H : Type) (enc : TypeId × Value → H) :
    ReturnsInHanded {} Try.checked os 7 .any (Rows.graphNilSpec.pre6 enc Try.prog Try.f7 Rows.graphNilRow.domain false) (Rows.graphNilSpec.post enc Try.prog Try.f7 false true false false) := by
  refine returnsInHanded_of_change (C := Try.checked) nilOwn started (by kernel_rfl) Try.func7
    (ChangeSpec.witness6 (enc := enc) (C := Try.checked) false ⟨#[], #[.string ⟨#[]⟩], []⟩ 8 (by kernel_rfl) (by kernel_rfl) (by kernel_rfl) (by kernel_rfl)) ?_
  intro W base args ds gs before hval0 hW hcnd _
  have hval : ∀ (j : Nat) t v, Try.f7.params[j]? = some t → args[j]? = some v → Value.okWide Try.prog W .any base t v := hval0
  have hW' := hW
  obtain ⟨p, q, hA0, hV, rfl, hfz, hnd⟩ := hW
  have hA : DataW.TrodAll enc Try.prog W 0 (fun _ => true) true Try.f7.params.toList args.toList ds p := hA0
  rw [Try.params7] at hA hval
  obtain ⟨v0, d0, rfl, rfl, h0⟩ := trodAll_one hA
  obtain ⟨rfl, rfl⟩ := trodVars_none hV
  obtain ⟨s, rfl, rfl, rfl, _⟩ := open_string Try.underlying9 (hval 0 9 v0 rfl rfl) h0
  refine (nil_walk s W).mono fun e W' ⟨he, hb⟩ => ⟨_, he, ?_⟩
  exact LawKit.post_true nilLaid nilReadable rfl rfl Try.underlying4 rfl hW' hb

theorem nil_holds : Rows.GraphNilSaid :=
  OpenClaim.holds_of_wide 7 Try.f7 rfl rfl rfl rfl rfl rfl rfl ⟨rfl, rfl, rfl, rfl, rfl⟩ rfl rfl rfl rfl rfl (by kernel_rfl) Try.func7 (by kernel_rfl)
    (of_decide_eq_true (by kernel_rfl)) (by unfold Func.isWrapper; first | (rw [if_pos (by decide +kernel)]; kernel_rfl) | (rw [if_neg (by decide +kernel)]; exact ⟨rfl, rfl⟩))
    (fun os started H enc _ => nil_lifted os started H enc)
end Go.Proofs.Ytelddnalpkhclaa
