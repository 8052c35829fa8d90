/- known, where no answer is known; awake's rule. -/
import Derived.Test.YtelddnalpkhclaaReckon
namespace Go.Proofs.Ytelddnalpkhclaa
open Go.RowKit Go.Maps

set_option maxHeartbeats 1000000 in
theorem known_miss (gb bi bm nm : Nat) (fm : ByteArray → Option Value) (rule : Value) (room now clock runs : Int) (stack : Value) (key : ByteArray) (R : Ending → World → Prop) (w : World)
    (hg : w.heap[gb]? = some (.cells (graphCells rule bi bm room now clock runs stack) 56 (0, 0))) (hm : MapAt Try.prog 9 w bm nm fm)
    (n2 : gb ≠ bm) (hkey : key.size ≤ maxLen) (hf : fm key = none)
    (hrec : ∀ w1, w1.heap[gb]? = some (.cells (graphCells rule bi bm room now (wrap64 (clock + 1)) runs stack) 56 (0, 0)) → MapAt Try.prog 9 w1 bm nm fm → Fr w w1 (fun b => b = gb) →
      Calls Try.prog 29 #[.pointer (some ⟨gb, 0, none⟩), .string key, .pointer none] w1 fun e w' => ∃ s at', e = .returned (.tuple #[.string s, .int .i64 at', .int .i64 0]) ∧ R e w') :
    Calls Try.prog 26 #[.pointer (some ⟨gb, 0, none⟩), .string key] w R := by
  have c2 : w.cell? ⟨gb, 2, none⟩ = some (.map (some bm)) := cellB hg rfl
  have c5 : w.cell? ⟨gb, 5, none⟩ = some (.int .i64 clock) := cellB hg rfl
  have f5 : w.frozen? ⟨gb, 5, none⟩ = false := freeB hg 5
  have hlt : gb < w.heap.size := ltB hg
  go_enter Try.func26, Try.ntmps26
  go_wp2_with (first
    | (at_lookup; refine wp_look_none _ rfl _ _ 53 true rfl 9 62 Try.underlying9 Try.underlying53 _ (zero62 _) bm nm fm rfl (hm.setCell n2.symm _) key rfl hkey hf ?_)
    | go_in)
  refine wp_at ?_
  intro w1 hw1
  have hg1 : w1.heap[gb]? = some (.cells (graphCells rule bi bm room now (wrap64 (clock + 1)) runs stack) 56 (0, 0)) := by rw [hw1]; exact setB hg 5 _
  have hm1 : MapAt Try.prog 9 w1 bm nm fm := by rw [hw1]; exact hm.setCell n2.symm _
  have fr1 : Fr w w1 (fun b => b = gb) := by rw [hw1]; exact (Fr.refl w (fun b => b = gb)).setCell (p := ⟨gb, 5, none⟩) (Or.inl rfl) _
  clear hw1
  go_region
  go_wp2_with fail
  refine (hrec w1.drew hg1 hm1.drew fr1.drew).mono ?_
  rintro e w3 ⟨s, at', rfl, hR⟩
  go_wp2
  go_ret3
  exact hR

set_option maxHeartbeats 1000000 in
/-- awake's rule: what "b" answers, and an x -/
theorem awake1_ok (bb pg pm : Nat) (key : ByteArray) (R : World → Prop) (w : World)
    (hcl : Calls Try.prog 30 #[.string ⟨#[98]⟩, .pointer (some ⟨bb, 0, none⟩), .pointer (some ⟨pg, 0, none⟩), .pointer (some ⟨pm, 0, none⟩)] w fun e w' => e = .returned (.tuple #[.string ⟨#[49]⟩, .int .i64 0]) ∧ R w') :
    Calls Try.prog 22 #[.func (.func 30) #[] #[.pointer (some ⟨bb, 0, none⟩), .pointer (some ⟨pg, 0, none⟩), .pointer (some ⟨pm, 0, none⟩)], .string key] w fun e w' => e = .returned (.tuple #[.string ⟨#[49, 120]⟩, .int .i64 0]) ∧ R w' := by
  go_enter Try.func22, Try.ntmps22
  go_wp2_with fail
  refine hcl.mono ?_
  rintro e w1 ⟨rfl, hR⟩
  go_wp2
  go_ret2
  exact ⟨rfl, hR⟩
end Go.Proofs.Ytelddnalpkhclaa
