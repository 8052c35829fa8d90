/- GraphCuts is proved: for every input the law returns true; what came in reads as it did. -/
import Derived.Test.YtelddnalpkhclaaRows
import Derived.Test.YtelddnalpkhclaaCuts
import Derived.Test.YtelddnalpkhclaaKit
import Derived.ProofKit
namespace Go.Proofs.Ytelddnalpkhclaa
open Go.ChangeShapes Go.WideShapes Go.ChangeAt Go.RowKit
open Go.ChangeMaps (open_string shut_string)

set_option maxRecDepth 100000 in
set_option maxHeartbeats 2000000 in
theorem cuts_walk (first more : UInt8) (a b : ByteArray) (w : World) :
    Calls Try.prog 4 #[.int .u8 first.toNat, .string a, .string b, .int .u8 more.toNat] w fun e w' => e = .returned (.bool true) ∧ Below w.heap.size w w' := by
  by_cases ha : a.size ≤ 100
  · have ha' : (a.size : Int) ≤ 100 := by omega
    by_cases hb : b.size ≤ 100
    · have hb' : (b.size : Int) ≤ 100 := by omega
      by_cases hL : (97 : Int) ≤ first.toNat ∧ (first.toNat : Int) ≤ 122
      · obtain ⟨h1, h2⟩ := hL
        go_enter Try.func4, Try.ntmps4
        go_wp2_with fail
        refine (awake_ok w).mono ?_
        rintro e w1 ⟨rfl, hb1⟩
        go_wp2
        go_ret
        exact ⟨rfl, hb1⟩
      · have hor : (first.toNat : Int) < 97 ∨ (122 : Int) < first.toNat := by omega
        by_cases h33 : first = 33
        · have b1 : (first.toNat : Int) < 97 := by rw [h33]; decide
          have b2 : ((first.toNat : Int) == 33) = true := by rw [h33]; decide
          clear h33 hor hL
          go_enter Try.func4, Try.ntmps4
          go_wp2_with fail
          refine (awake_ok w).mono ?_
          rintro e w1 ⟨rfl, hb1⟩
          go_wp2
          go_ret
          exact ⟨rfl, hb1⟩
        · by_cases h63 : first = 63
          · have b1 : (first.toNat : Int) < 97 := by rw [h63]; decide
            have b2 : ((first.toNat : Int) == 33) = false := by rw [h63]; decide
            have b3 : ((first.toNat : Int) == 63) = true := by rw [h63]; decide
            clear h63 h33 hor hL
            go_enter Try.func4, Try.ntmps4
            go_wp2_with fail
            refine (awake_ok w).mono ?_
            rintro e w1 ⟨rfl, hb1⟩
            go_wp2
            go_ret
            exact ⟨rfl, hb1⟩
          · by_cases h37 : first = 37
            · have b1 : (first.toNat : Int) < 97 := by rw [h37]; decide
              have b2 : ((first.toNat : Int) == 33) = false := by rw [h37]; decide
              have b3 : ((first.toNat : Int) == 63) = false := by rw [h37]; decide
              have b4 : ((first.toNat : Int) == 37) = true := by rw [h37]; decide
              clear h37 h63 h33 hor hL
              go_enter Try.func4, Try.ntmps4
              go_wp2_with fail
              refine (awake_ok w).mono ?_
              rintro e w1 ⟨rfl, hb1⟩
              go_wp2
              go_ret
              exact ⟨rfl, hb1⟩
            · exact cuts_main first more a b w ha hb hor h33 h63 h37
    · have hb' : (100 : Int) < b.size := by omega
      go_enter Try.func4, Try.ntmps4
      go_wp2_with fail
      refine (awake_ok w).mono ?_
      rintro e w1 ⟨rfl, hb1⟩
      go_wp2
      go_ret
      exact ⟨rfl, hb1⟩
  · have ha' : (100 : Int) < a.size := by omega
    go_enter Try.func4, Try.ntmps4
    go_wp2_with fail
    refine (awake_ok w).mono ?_
    rintro e w1 ⟨rfl, hb1⟩
    go_wp2
    go_ret
    exact ⟨rfl, hb1⟩

theorem cutsOwn : ownKnob Try.prog.godebug = none := by kernel_rfl
theorem cutsLaid : laidOutB Try.prog = true := by kernel_rfl
theorem cutsReadable (t : TypeId) (ht : t ∈ Try.f4.params.toList) : Try.prog.readableRec t = true ∧ t < Try.prog.types.size := by
  rw [Try.params4] at ht
  have hall : ([5, 9, 9, 5].all fun t => Try.prog.readableRec t && decide (t < Try.prog.types.size)) = true := by kernel_rfl
  have := List.all_eq_true.1 hall t (by simpa using ht)
  simpa using this
theorem u8_of {r : Int} (h : (Lit.int .u8 r).wf = true) : ∃ c : UInt8, r = (c.toNat : Int) := by
  have h' : 0 ≤ r ∧ r < 256 := by
    have e1 : IntKind.u8.min = 0 := by decide
    have e2 : IntKind.u8.max = 255 := by decide
    simp [Lit.wf] at h
    omega
  refine ⟨UInt8.ofNat r.toNat, ?_⟩
  have e : (UInt8.ofNat r.toNat).toNat = r.toNat := by
    rw [UInt8.toNat_ofNat']
    omega
  rw [e]
  omega

set_option maxRecDepth 100000 in
theorem cuts_lifted (os : Os) (started : os.Started) (H : Type) (enc : TypeId × Value → H) :
    ReturnsInHanded {} Try.checked os 4 .any (Rows.graphCutsSpec.pre6 enc Try.prog Try.f4 Rows.graphCutsRow.domain false) (Rows.graphCutsSpec.post enc Try.prog Try.f4 false true false false) := by
  refine returnsInHanded_of_change (C := Try.checked) cutsOwn started (by kernel_rfl) Try.func4
    (ChangeSpec.witness6 (enc := enc) (C := Try.checked) false ⟨#[], #[.int .u8 0, .string ⟨#[]⟩, .string ⟨#[]⟩, .int .u8 0], []⟩ 8 (by kernel_rfl) (by kernel_rfl) (by kernel_rfl) (by kernel_rfl)) ?_
  intro W base args ds gs before hval0 hW hcnd _
  have hval : ∀ (j : Nat) t v, Try.f4.params[j]? = some t → args[j]? = some v → Value.okWide Try.prog W .any base t v := hval0
  have hW' := hW
  obtain ⟨p, q, hA0, hV, rfl, hfz, hnd⟩ := hW
  have hA : DataW.TrodAll enc Try.prog W 0 (fun _ => true) true Try.f4.params.toList args.toList ds p := hA0
  rw [Try.params4] at hA hval
  obtain ⟨v0, v1, v2, v3, d0, d1, d2, d3, p0, p1, p2, p3, rfl, rfl, rfl, h0, h1, h2, h3⟩ := trodAll_four hA
  obtain ⟨rfl, rfl⟩ := trodVars_none hV
  obtain ⟨x, rfl, rfl, rfl, wx⟩ := open_int Try.underlying5 (hval 0 5 v0 rfl rfl) h0
  obtain ⟨s, rfl, rfl, rfl, _⟩ := open_string Try.underlying9 (hval 1 9 v1 rfl rfl) h1
  obtain ⟨t, rfl, rfl, rfl, _⟩ := open_string Try.underlying9 (hval 2 9 v2 rfl rfl) h2
  obtain ⟨y, rfl, rfl, rfl, wy⟩ := open_int Try.underlying5 (hval 3 5 v3 rfl rfl) h3
  obtain ⟨first, rfl⟩ := u8_of wx
  obtain ⟨more, rfl⟩ := u8_of wy
  refine (cuts_walk first more s t W).mono fun e W' ⟨he, hb⟩ => ⟨_, he, ?_⟩
  exact LawKit.post_true cutsLaid cutsReadable rfl rfl Try.underlying4 rfl hW' hb

theorem cuts_holds : Rows.GraphCutsSaid :=
  OpenClaim.holds_of_wide 4 Try.f4 rfl rfl rfl rfl rfl rfl rfl ⟨rfl, rfl, rfl, rfl, rfl⟩ rfl rfl rfl rfl rfl (by kernel_rfl) Try.func4 (by kernel_rfl)
    (of_decide_eq_true (by kernel_rfl)) (by unfold Func.isWrapper; first | (rw [if_pos (by decide +kernel)]; kernel_rfl) | (rw [if_neg (by decide +kernel)]; exact ⟨rfl, rfl⟩))
    (fun os started H enc _ => cuts_lifted os started H enc)
#print axioms cuts_holds
end Go.Proofs.Ytelddnalpkhclaa
