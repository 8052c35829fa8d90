/- ask of a rule's key, nothing being reckoned; Ask. -/
import Derived.Test.YtelddnalpkhclaaKnown
import Derived.Test.YtelddnalpkhclaaShelf
namespace Go.Proofs.Ytelddnalpkhclaa
open Go.RowKit Go.Maps

set_option maxHeartbeats 2000000 in
theorem ask_rule_nil (gb bi bm ni : Nat) (fi : ByteArray → Option Value) (rule : Value) (room now clock runs clock3 runs3 : Int) (key s : ByteArray) (at' : Int) (B : World → Prop) (w : World)
    (hg : w.heap[gb]? = some (.cells (graphCells rule bi bm room now clock runs (.slice none 0 0)) 56 (0, 0))) (hi : MapAt Try.prog 9 w bi ni fi) (hkey : key.size ≤ maxLen) (hf : fi key = none)
    (hkn : ∀ g cap w1, 1 ≤ cap → cap ≤ maxLen → w1.heap[gb]? = some (.cells (graphCells rule bi bm room now clock runs (.slice (some ⟨g, 0, none⟩) 1 cap)) 56 (0, 0)) → Fr w w1 (fun b => b = gb) →
      Calls Try.prog 26 #[.pointer (some ⟨gb, 0, none⟩), .string key] w1 fun e w3 => e = .returned (.tuple #[.string s, .int .i64 at', .int .i64 0]) ∧ B w3 ∧
        w3.heap[gb]? = some (.cells (graphCells rule bi bm room now clock3 runs3 (.slice (some ⟨g, 0, none⟩) 1 cap)) 56 (0, 0))) :
    Calls Try.prog 23 #[.pointer (some ⟨gb, 0, none⟩), .string key] w fun e w' => e = .returned (.tuple #[.string s, .int .i64 at', .int .i64 0]) ∧ ∃ w3, B w3 ∧ Fr w3 w' (fun b => b = gb) := by
  have c1 : w.cell? ⟨gb, 1, none⟩ = some (.map (some bi)) := cellB hg rfl
  have c7 : w.cell? ⟨gb, 7, none⟩ = some (.slice none 0 0) := cellB hg rfl
  have hlt : gb < w.heap.size := ltB hg
  go_enter Try.func23, Try.ntmps23
  go_wp2_with (first
    | (at_lookup; refine wp_look_none _ rfl _ _ 52 true rfl 9 58 Try.underlying9 Try.underlying52 _ (zero58 _) bi ni fi rfl hi key rfl hkey hf ?_)
    | fail)
  refine (Try.slices_Contains_string_empty _ _ _ _).mono ?_
  rintro e w1 ⟨rfl, hw1⟩
  have hg1 : w1.heap[gb]? = some (.cells (graphCells rule bi bm room now clock runs (.slice none 0 0)) 56 (0, 0)) := by rw [hw1, Below.heap_alloc _ _ _ hlt]; exact hg
  have fr1 : Fr w w1 (fun b => b = gb) := by rw [hw1]; exact (Fr.refl w _).alloc _
  clear hw1
  obtain ⟨i0, hinf, hzz, hzs, hzb⟩ := infoParts infoStr
  have d7 : w1.cell? ⟨gb, 7, none⟩ = some (.slice none 0 0) := cellB hg1 rfl
  have hlt1 : gb < w1.heap.size := ltB hg1
  have hbz : (0 : Nat) ≤ (w1.alloc (.cells #[.string key] 9)).heap.size := Nat.zero_le _
  go_wp2_with (first
    | (refine wpList_append_lies _ rfl _ _ 54 rfl 0 9 i0 (.string ⟨#[]⟩) 1 16 Try.underlying54 hinf hzz hzs hzb rfl (by decide) (.slice none 0 0) 0 [] (by rfl) (World.ownsRow_nil _ _ _ _) _ 1 1 [.string key] (by rfl) rfl (cell_one_new _ _ _) (by simp [Value.oneCell']) (by decide) (by decide) (by decide) hbz _ rfl ?_; intro g cap w3 r3 gr3 at3 lt3; have hg3 := (gr3.block gb (by rw [sizeA]; omega) (by simp [Value.ownBlock])).trans ((Below.heap_alloc w1 (.cells #[.string key] 9) gb hlt1).trans hg1); have d3 := cellB hg3 (i := 7) rfl; have fz3 := freeB hg3 7)
    | fail)
  have hcap : 1 ≤ cap ∧ cap ≤ maxLen := by
    rcases r3.2 with ⟨h, _⟩ | ⟨g', cap', cur, h, _, _, h1, h2, _⟩
    · cases h
    · cases h; exact ⟨h1, h2⟩
  have fr3 : Fr w w3 (fun b => b = gb) := (fr1.alloc _).grown gr3 (by simp [Value.ownBlock])
  refine (hkn g cap _ hcap.1 hcap.2 (setB hg3 7 _) (fr3.setCell (p := ⟨gb, 7, none⟩) (Or.inl rfl) _)).mono ?_
  rintro e w4 ⟨rfl, hB, hg4⟩
  have d4 : w4.cell? ⟨gb, 7, none⟩ = some (.slice (some ⟨g, 0, none⟩) 1 cap) := cellB hg4 rfl
  have f4 := freeB hg4 7
  have hc1 := hcap.1
  have hc2 := hcap.2
  clear d3 fz3 c7 c1
  go_wp2
  go_region
  all_goals
    go_wp2
    go_ret3
    exact ⟨rfl, w4, hB, by first | exact (Fr.refl w4 (fun b => b = gb)).drew.setCell (p := ⟨gb, 7, none⟩) (Or.inl rfl) _ | exact ((Fr.refl w4 (fun b => b = gb)).setCell (p := ⟨gb, 7, none⟩) (Or.inl rfl) _).drew⟩
end Go.Proofs.Ytelddnalpkhclaa
