/- GraphSpares is proved: for every input the law returns true; what came in reads as it did. -/
import Derived.Test.YtelddnalpkhclaaRows
import Derived.Test.YtelddnalpkhclaaSpares
import Derived.Test.YtelddnalpkhclaaOpen
import Derived.Test.YtelddnalpkhclaaKit
import Derived.ProofKit
namespace Go.Proofs.Ytelddnalpkhclaa
open Go.ChangeShapes Go.WideShapes Go.ChangeAt Go.RowKit
open Go.ChangeMaps (open_string shut_string)

set_option maxRecDepth 100000 in
set_option maxHeartbeats 2000000 in
theorem spares_walk (v0 : Value) (ops : List LOp) (key : ByteArray) (w : World) (h0 : OpsAt w v0 ops) (hlen : ops.length ≤ 9223372036854775807) :
    Calls Try.prog 3 #[v0, .string key] w fun e w' => e = .returned (.bool true) ∧ Below w.heap.size w w' := by
  by_cases hl : lightB ops = true
  · by_cases hk : key.size ≤ 20
    · exact spares_main v0 ops key w h0 hlen hl hk
    · have hk' : (20 : Int) < key.size := by omega
      go_enter Try.func3, Try.ntmps3
      go_wp2_with fail
      refine (light_ok v0 ops w h0 hlen).mono ?_
      rw [hl]
      rintro e w1 ⟨rfl, fr1⟩
      go_wp2_with fail
      refine (awake_ok w1).mono ?_
      rintro e w2 ⟨rfl, hb2⟩
      have f2 : Fr w1 w2 (fun _ => False) := ⟨hb2.os, hb2.tape, hb2.output, hb2.size, fun b hlt _ => hb2.block b hlt⟩
      have g2 := fr1.trans f2
      clear fr1 f2 hb2
      go_wp2
      go_ret
      exact ⟨rfl, g2.below (Nat.le_refl _) (fun i hi => hi.elim)⟩
  · have hl' : lightB ops = false := by simpa using hl
    go_enter Try.func3, Try.ntmps3
    go_wp2_with fail
    refine (light_ok v0 ops w h0 hlen).mono ?_
    rw [hl']
    rintro e w1 ⟨rfl, fr1⟩
    go_wp2_with fail
    refine (awake_ok w1).mono ?_
    rintro e w2 ⟨rfl, hb2⟩
    have f2 : Fr w1 w2 (fun _ => False) := ⟨hb2.os, hb2.tape, hb2.output, hb2.size, fun b hlt _ => hb2.block b hlt⟩
    have g2 := fr1.trans f2
    clear fr1 f2 hb2
    go_wp2
    go_ret
    exact ⟨rfl, g2.below (Nat.le_refl _) (fun i hi => hi.elim)⟩

theorem sparesOwn : ownKnob Try.prog.godebug = none := by kernel_rfl
theorem sparesLaid : laidOutB Try.prog = true := by kernel_rfl
theorem sparesReadable (t : TypeId) (ht : t ∈ Try.f3.params.toList) : Try.prog.readableRec t = true ∧ t < Try.prog.types.size := by
  rw [Try.params3] at ht
  have hall : ([22, 9].all fun t => Try.prog.readableRec t && decide (t < Try.prog.types.size)) = true := by kernel_rfl
  have := List.all_eq_true.1 hall t (by simpa using ht)
  simpa using this

set_option maxRecDepth 100000 in
theorem spares_lifted (os : Os) (started : os.Started) (H : Type) (enc : TypeId × Value → H) :
    ReturnsInHanded {} Try.checked os 3 .any (Rows.graphSparesSpec.pre6 enc Try.prog Try.f3 Rows.graphSparesRow.domain false) (Rows.graphSparesSpec.post enc Try.prog Try.f3 false true false false) := by
  refine returnsInHanded_of_change (C := Try.checked) sparesOwn started (by kernel_rfl) Try.func3
    (ChangeSpec.witness6 (enc := enc) (C := Try.checked) false ⟨#[], #[.slice none 0 0, .string ⟨#[]⟩], []⟩ 8 (by kernel_rfl) (by kernel_rfl) (by kernel_rfl) (by kernel_rfl)) ?_
  intro W base args ds gs before hval0 hW hcnd _
  have hval : ∀ (j : Nat) t v, Try.f3.params[j]? = some t → args[j]? = some v → Value.okWide Try.prog W .any base t v := hval0
  have hW' := hW
  obtain ⟨p, q, hA0, hV, rfl, hfz, hnd⟩ := hW
  have hA : DataW.TrodAll enc Try.prog W 0 (fun _ => true) true Try.f3.params.toList args.toList ds p := hA0
  rw [Try.params3] at hA hval
  obtain ⟨v0, v1, d0, d1, p0, p1, rfl, rfl, rfl, h0, h1⟩ := trodAll_two hA
  obtain ⟨rfl, rfl⟩ := trodVars_none hV
  obtain ⟨ops, hops, hlen⟩ := open_opsV (hval 0 22 v0 rfl rfl) h0
  obtain ⟨s, rfl, rfl, rfl, _⟩ := open_string Try.underlying9 (hval 1 9 v1 rfl rfl) h1
  refine (spares_walk v0 ops s W hops hlen).mono fun e W' ⟨he, hb⟩ => ⟨_, he, ?_⟩
  exact LawKit.post_true sparesLaid sparesReadable rfl rfl Try.underlying4 rfl hW' hb

theorem spares_holds : Rows.GraphSparesSaid :=
  OpenClaim.holds_of_wide 3 Try.f3 rfl rfl rfl rfl rfl rfl rfl ⟨rfl, rfl, rfl, rfl, rfl⟩ rfl rfl rfl rfl rfl (by kernel_rfl) Try.func3 (by kernel_rfl)
    (of_decide_eq_true (by kernel_rfl)) (by unfold Func.isWrapper; first | (rw [if_pos (by decide +kernel)]; kernel_rfl) | (rw [if_neg (by decide +kernel)]; exact ⟨rfl, rfl⟩))
    (fun os started H enc _ => spares_lifted os started H enc)
#print axioms spares_holds
end Go.Proofs.Ytelddnalpkhclaa
