/- reckon's closure, the way on which the answer is handed on. -/
import Derived.Test.YtelddnalpkhclaaAskIn
import Derived.Deep.AppendLies
namespace Go.Proofs.Ytelddnalpkhclaa
open Go.RowKit Go.Maps

theorem grownSet (W : World) (b : Nat) (v : Value) : W.grownBy (W.setCell ⟨b, 0, none⟩ v) (some b) :=
  ⟨rfl, rfl, rfl, by simp [World.setCell], fun i _ hi => setO (a := ⟨b, 0, none⟩) (fun e => hi (by rw [e])) v⟩
theorem grownAt (W : World) (b i : Nat) (v : Value) : W.grownBy (W.setCell ⟨b, i, none⟩ v) (some b) :=
  ⟨rfl, rfl, rfl, by simp [World.setCell], fun j _ hj => setO (a := ⟨b, i, none⟩) (fun e => hj (by rw [e])) v⟩
theorem infoStr : (Try.prog.info? 9).map (fun i => (i.zero, i.size, i.bytes)) = some (some (.string ⟨#[]⟩), 1, 16) := by kernel_rfl
theorem infoParts {o : Option TypeInfo} {z : Value} {s b : Nat} (h : o.map (fun i => (i.zero, i.size, i.bytes)) = some (some z, s, b)) : ∃ i, o = some i ∧ i.zero = some z ∧ i.size = s ∧ i.bytes = b := by
  cases o with
  | none => cases h
  | some i =>
    simp only [Option.map_some, Option.some.injEq, Prod.mk.injEq] at h
    exact ⟨i, rfl, h.1, h.2.1, h.2.2⟩

set_option maxHeartbeats 2000000 in
theorem closure_ok (gb bb pg pm mb base n : Nat) (k x : ByteArray) (at' : Int) (ans : ByteArray) (nv : Value) (l : List Value) (lo ch us : Int) (A : World → Prop) (w : World)
    (hb0 : w.heap[bb]? = some (.cells #[.int .i64 0] 26 (0, 0))) (hg0 : w.heap[pg]? = some (.cells #[.pointer (some ⟨gb, 0, none⟩)] 25 (0, 0)))
    (hask : Calls Try.prog 23 #[.pointer (some ⟨gb, 0, none⟩), .string k] w fun e w1 => e = .returned (.tuple #[.string x, .int .i64 at', .int .i64 0]) ∧ A w1)
    (hA : ∀ w1, A w1 → w1.heap[bb]? = some (.cells #[.int .i64 0] 26 (0, 0)) ∧ w1.heap[pm]? = some (.cells #[.pointer (some ⟨mb, 0, none⟩)] 62 (0, 0)) ∧
      w1.heap[mb]? = some (.cells (memoCells ans nv lo ch us) 68 (0, 0)) ∧ w1.ownsRow base 9 1 nv n l ∧ base ≤ w1.heap.size)
    (n1 : bb ≠ mb) (n2 : bb ≠ pm) (n3 : mb ≠ pm) (o1 : nv.ownBlock ≠ some bb) (o2 : nv.ownBlock ≠ some pm) (o3 : nv.ownBlock ≠ some mb) (hn : n < 1000) :
    Calls Try.prog 30 #[.string k, .pointer (some ⟨bb, 0, none⟩), .pointer (some ⟨pg, 0, none⟩), .pointer (some ⟨pm, 0, none⟩)] w fun e w' => e = .returned (.tuple #[.string x, .int .i64 0]) ∧
      ∃ w1 nv', A w1 ∧ w'.heap[bb]? = some (.cells #[.int .i64 0] 26 (0, 0)) ∧ w'.heap[mb]? = some (.cells (memoCells ans nv' lo ch us) 68 (0, 0)) ∧ w'.ownsRow base 9 1 nv' (n + 1) (l ++ [.string k]) ∧
        (nv'.ownBlock = nv.ownBlock ∨ ∃ g, nv'.ownBlock = some g ∧ w1.heap.size ≤ g) ∧ Fr w1 w' (fun b => b = bb ∨ b = mb ∨ nv.ownBlock = some b) := by
  have b0 : w.cell? ⟨bb, 0, none⟩ = some (.int .i64 0) := cellB hb0 rfl
  have g0 : w.cell? ⟨pg, 0, none⟩ = some (.pointer (some ⟨gb, 0, none⟩)) := cellB hg0 rfl
  go_enter Try.func30, Try.ntmps30
  go_wp2_with fail
  refine hask.mono ?_
  rintro e w1 ⟨rfl, hA1⟩
  obtain ⟨hb1, hp1, hm1, hr1, hz1⟩ := hA w1 hA1
  have b1 : w1.cell? ⟨bb, 0, none⟩ = some (.int .i64 0) := cellB hb1 rfl
  have fb1 : w1.frozen? ⟨bb, 0, none⟩ = false := freeB hb1 0
  go_wp2
  refine wp_at ?_
  intro w2 hw2
  have fr2 : Fr w1 w2 (fun b => b = bb ∨ b = mb ∨ nv.ownBlock = some b) := by rw [hw2]; exact (Fr.refl _ _).setCell (Or.inl (Or.inl rfl)) _
  have hb2 : w2.heap[bb]? = some (.cells #[.int .i64 0] 26 (0, 0)) := by rw [hw2]; exact setB hb1 0 _
  have hp2 : w2.heap[pm]? = some (.cells #[.pointer (some ⟨mb, 0, none⟩)] 62 (0, 0)) := by rw [hw2, setO n2.symm]; exact hp1
  have hm2 : w2.heap[mb]? = some (.cells (memoCells ans nv lo ch us) 68 (0, 0)) := by rw [hw2, setO n1.symm]; exact hm1
  have gg : w1.grownBy w2 (some bb) := by rw [hw2]; exact grownSet w1 bb _
  have hr2 : w2.ownsRow base 9 1 nv n l := hr1.kept gg (Or.inr o1)
  have hz2 : base ≤ w2.heap.size := Nat.le_trans hz1 gg.size
  clear hw2 gg
  obtain ⟨i0, hi, hzz, hzs, hzb⟩ := infoParts infoStr
  have p2 : w2.cell? ⟨pm, 0, none⟩ = some (.pointer (some ⟨mb, 0, none⟩)) := cellB hp2 rfl
  have c2 : w2.cell? ⟨mb, 1, none⟩ = some nv := cellB hm2 rfl
  have l2 : pm < w2.heap.size := ltB hp2
  have l3 : mb < w2.heap.size := ltB hm2
  have app : ∀ w3, (w2.drew.alloc (.cells #[.string k] 9)).grownBy w3 nv.ownBlock → w3.heap[mb]? = some (.cells (memoCells ans nv lo ch us) 68 (0, 0)) ∧ w3.heap[pm]? = some (.cells #[.pointer (some ⟨mb, 0, none⟩)] 62 (0, 0)) ∧
      w3.heap[bb]? = some (.cells #[.int .i64 0] 26 (0, 0)) ∧ Fr w1 w3 (fun b => b = bb ∨ b = mb ∨ nv.ownBlock = some b) := by
    intro w3 h3
    have hsz : (w2.drew.alloc (.cells #[.string k] 9)).heap.size = w2.heap.size + 1 := sizeA _ _
    have e : ∀ b, b < w2.heap.size → nv.ownBlock ≠ some b → w3.heap[b]? = w2.heap[b]? := fun b hb ho =>
      (h3.block b (by omega) (fun x => ho x.symm)).trans (Below.heap_alloc w2.drew _ b hb)
    exact ⟨(e mb l3 o3).trans hm2, (e pm l2 o2).trans hp2, (e bb (ltB hb2) o1).trans hb2, (fr2.drew.alloc _).grown h3 (fun i hi => Or.inl (Or.inr (Or.inr hi)))⟩
  go_region_law (refine step_append_lies _ rfl _ _ 54 rfl base 9 i0 (.string ⟨#[]⟩) 1 16 Try.underlying54 hi hzz hzs hzb rfl (by decide) nv n l (by rfl) (World.ownsRow.alloc (w := w2.drew) hr2 _) _ 1 1 [.string k] (by rfl) rfl (cell_one_new _ _ _) (by simp [Value.oneCell']) (by decide) (by unfold maxLen; omega) (by omega) (show base ≤ (w2.alloc (.cells #[.string k] 9)).heap.size by rw [sizeA]; exact Nat.le_succ_of_le hz2) _ rfl ?_; intro g cap w3 r3 gr3 at3 lt3; obtain ⟨m3, p3, b3, fr3⟩ := app w3 gr3; have q3 := cellB p3 (i := 0) rfl; have q4 := cellB m3 (i := 1) rfl; have q5 := freeB m3 1)
  all_goals
    go_wp2
    go_ret2
    have hH : w2.heap.size + 1 = (w2.alloc (.cells #[.string k] 9)).heap.size := (sizeA _ _).symm
    have hne : g ≠ mb := by
      rcases at3 with h | h
      · intro e; subst e; exact o3 h
      · have h' : g = (w2.alloc (.cells #[.string k] 9)).heap.size := h
        omega
    have hat : (Value.slice (some ⟨g, 0, none⟩) (n + 1) cap).ownBlock = nv.ownBlock ∨ ∃ g', (Value.slice (some ⟨g, 0, none⟩) (n + 1) cap).ownBlock = some g' ∧ w1.heap.size ≤ g' := by
      rcases at3 with h | h
      · exact Or.inl h.symm
      · refine Or.inr ⟨g, rfl, ?_⟩
        have h' : g = (w2.alloc (.cells #[.string k] 9)).heap.size := h
        have := fr2.size
        omega
    refine ⟨rfl, w1, .slice (some ⟨g, 0, none⟩) (n + 1) cap, hA1, (setO (a := ⟨mb, 1, none⟩) n1 _).trans b3, setB m3 1 _, r3.kept (grownAt w3 mb 1 _) (Or.inr (by simpa [Value.ownBlock] using hne)), hat, fr3.setCell (Or.inl (Or.inr (Or.inl rfl))) _⟩
end Go.Proofs.Ytelddnalpkhclaa
