/- GraphAnswers is proved: for every input the law returns true; what came in reads as it did. -/
import Derived.Test.YtelddnalpkhclaaRows
import Derived.Test.YtelddnalpkhclaaAnswers
import Derived.Test.YtelddnalpkhclaaOpen
import Derived.Test.YtelddnalpkhclaaKit
import Derived.ProofKit
namespace Go.Proofs.Ytelddnalpkhclaa
open Go.ChangeShapes Go.WideShapes Go.ChangeAt Go.RowKit
open Go.ChangeMaps (open_string shut_string)

set_option maxRecDepth 100000 in
set_option maxHeartbeats 2000000 in
theorem answers_walk (a : UInt8) (v0 : Value) (ops : List LOp) (w : World) (h0 : OpsAt w v0 ops) (hlen : ops.length ≤ 9223372036854775807) :
    Calls Try.prog 6 #[.int .u8 a.toNat, v0] w fun e w' => e = .returned (.bool true) ∧ Below w.heap.size w w' := by
  by_cases hl : lightB ops = true
  · exact answers_main a v0 ops w h0 hlen hl
  · have hl' : lightB ops = false := by simpa using hl
    have hra : (1 : Int) ≤ 1 + (a.toNat : Int) % 12 := by omega
    go_enter Try.func6, Try.ntmps6
    go_wp2_with fail
    refine (live_new hra w).mono ?_
    rintro e w2 ⟨ga, rfl, _, g2⟩
    have hops : OpsAt w2 v0 ops := h0.fr (Nat.le_refl _) (g2.mono (fun _ h => h.elim))
    go_wp2_with fail
    refine (light_ok v0 ops w2 hops hlen).mono ?_
    rw [hl']
    rintro e w3 ⟨rfl, fr3⟩
    have g3 := g2.trans fr3
    clear g2 fr3
    go_wp2_with fail
    refine (awake_ok w3).mono ?_
    rintro e w4 ⟨rfl, hb4⟩
    have f4 : Fr w3 w4 (fun _ => False) := ⟨hb4.os, hb4.tape, hb4.output, hb4.size, fun b hlt _ => hb4.block b hlt⟩
    have g4 := g3.trans f4
    clear g3 f4 hb4
    go_wp2
    go_ret
    exact ⟨rfl, g4.below (Nat.le_refl _) (fun i hi => hi.elim)⟩

theorem answersOwn : ownKnob Try.prog.godebug = none := by kernel_rfl
theorem answersLaid : laidOutB Try.prog = true := by kernel_rfl
theorem answersReadable (t : TypeId) (ht : t ∈ Try.f6.params.toList) : Try.prog.readableRec t = true ∧ t < Try.prog.types.size := by
  rw [Try.params6] at ht
  have hall : ([5, 22].all fun t => Try.prog.readableRec t && decide (t < Try.prog.types.size)) = true := by kernel_rfl
  have := List.all_eq_true.1 hall t (by simpa using ht)
  simpa using this

set_option maxRecDepth 100000 in
theorem answers_lifted (os : Os) (started : os.Started) (H : Type) (enc : TypeId × Value → H) :
    ReturnsInHanded {} Try.checked os 6 .any (Rows.graphAnswersSpec.pre6 enc Try.prog Try.f6 Rows.graphAnswersRow.domain false) (Rows.graphAnswersSpec.post enc Try.prog Try.f6 false true false false) := by
  refine returnsInHanded_of_change (C := Try.checked) answersOwn started (by kernel_rfl) Try.func6
    (ChangeSpec.witness6 (enc := enc) (C := Try.checked) false ⟨#[], #[.int .u8 0, .slice none 0 0], []⟩ 8 (by kernel_rfl) (by kernel_rfl) (by kernel_rfl) (by kernel_rfl)) ?_
  intro W base args ds gs before hval0 hW hcnd _
  have hval : ∀ (j : Nat) t v, Try.f6.params[j]? = some t → args[j]? = some v → Value.okWide Try.prog W .any base t v := hval0
  have hW' := hW
  obtain ⟨p, q, hA0, hV, rfl, hfz, hnd⟩ := hW
  have hA : DataW.TrodAll enc Try.prog W 0 (fun _ => true) true Try.f6.params.toList args.toList ds p := hA0
  rw [Try.params6] at hA hval
  obtain ⟨v0, v1, d0, d1, p0, p1, rfl, rfl, rfl, h0, h1⟩ := trodAll_two hA
  obtain ⟨rfl, rfl⟩ := trodVars_none hV
  obtain ⟨x, rfl, rfl, rfl, wx⟩ := open_int Try.underlying5 (hval 0 5 v0 rfl rfl) h0
  obtain ⟨ops, hops, hlen⟩ := open_opsV (hval 1 22 v1 rfl rfl) h1
  obtain ⟨a, rfl⟩ := u8_arg wx
  refine (answers_walk a v1 ops W hops hlen).mono fun e W' ⟨he, hb⟩ => ⟨_, he, ?_⟩
  exact LawKit.post_true answersLaid answersReadable rfl rfl Try.underlying4 rfl hW' hb

theorem answers_holds : Rows.GraphAnswersSaid :=
  OpenClaim.holds_of_wide 6 Try.f6 rfl rfl rfl rfl rfl rfl rfl ⟨rfl, rfl, rfl, rfl, rfl⟩ rfl rfl rfl rfl rfl (by kernel_rfl) Try.func6 (by kernel_rfl)
    (of_decide_eq_true (by kernel_rfl)) (by unfold Func.isWrapper; first | (rw [if_pos (by decide +kernel)]; kernel_rfl) | (rw [if_neg (by decide +kernel)]; exact ⟨rfl, rfl⟩))
    (fun os started H enc _ => answers_lifted os started H enc)
#print axioms answers_holds
end Go.Proofs.Ytelddnalpkhclaa
