/- reckon, the way on which an answer is kept where there was none. Printed by gen_reckon.py. -/
import Derived.Test.YtelddnalpkhclaaClosure
namespace Go.Proofs.Ytelddnalpkhclaa
open Go.RowKit Go.Maps

theorem then_at {K : Act → World → Prop} {Q : Exit → Act → World → Prop} {a : Act} {w : World} (h : ∀ w1, w1 = w → Exit.then K Q .normal a w1) : Exit.then K Q .normal a w := h w rfl
def ptr (b : Nat) : Value := .pointer (some ⟨b, 0, none⟩)

set_option maxHeartbeats 4000000 in
theorem reckon_first22 (gb bi bm nm : Nat) (fm : ByteArray → Option Value) (room now clock runs clock3 runs3 : Int) (stack : Value) (key s : ByteArray) (B : Nat → Value → World → Prop) (w : World)
    (hg : w.heap[gb]? = some (.cells (graphCells (.func (.func 22) #[] #[]) bi bm room now clock runs stack) 56 (0, 0)))
    (hrule : ∀ (bb pg pm mb : Nat) (w2 : World), w.heap.size ≤ bb → w.heap.size ≤ pg → w.heap.size ≤ pm → w.heap.size ≤ mb → bb ≠ mb → bb ≠ pm → mb ≠ pm → bb ≠ pg → mb ≠ pg → pm ≠ pg →
      w2.heap[gb]? = some (.cells (graphCells (.func (.func 22) #[] #[]) bi bm room now clock (wrap64 (runs + 1)) stack) 56 (0, 0)) → w2.heap[pg]? = some (.cells #[.pointer (some ⟨gb, 0, none⟩)] 25 (0, 0)) →
      w2.heap[pm]? = some (.cells #[.pointer (some ⟨mb, 0, none⟩)] 62 (0, 0)) → w2.heap[mb]? = some (.cells (memoCells ⟨#[]⟩ (.slice none 0 0) now now clock) 68 (0, 0)) → w2.heap[bb]? = some (.cells #[.int .i64 0] 26 (0, 0)) →
      Fr w w2 (fun b => b = gb) →
      Calls Try.prog 22 #[.func (.func 30) #[] #[.pointer (some ⟨bb, 0, none⟩), .pointer (some ⟨pg, 0, none⟩), .pointer (some ⟨pm, 0, none⟩)], .string key] w2 fun e w3 => e = .returned (.tuple #[.string s, .int .i64 0]) ∧ ∃ nv, B mb nv w3 ∧
        w3.heap[gb]? = some (.cells (graphCells (.func (.func 22) #[] #[]) bi bm room now clock3 runs3 stack) 56 (0, 0)) ∧ w3.heap[pg]? = some (.cells #[.pointer (some ⟨gb, 0, none⟩)] 25 (0, 0)) ∧
        w3.heap[pm]? = some (.cells #[.pointer (some ⟨mb, 0, none⟩)] 62 (0, 0)) ∧ w3.heap[mb]? = some (.cells (memoCells ⟨#[]⟩ nv now now clock) 68 (0, 0)) ∧ w3.heap[bb]? = some (.cells #[.int .i64 0] 26 (0, 0)) ∧ MapAt Try.prog 9 w3 bm nm fm)
    (n2 : gb ≠ bm) (hbm : bm < w.heap.size) (hkey : key.size ≤ maxLen) (hn : nm < maxLen) (hroom : decide (((insN fm key nm : Nat) : Int) > room) = false) :
    Calls Try.prog 29 #[.pointer (some ⟨gb, 0, none⟩), .string key, .pointer none] w fun e w' => e = .returned (.tuple #[.string s, .int .i64 now, .int .i64 0]) ∧
      ∃ mb nv w3, w.heap.size ≤ mb ∧ B mb nv w3 ∧ w'.heap[mb]? = some (.cells (memoCells s nv now now clock) 68 (0, 0)) ∧ MapAt Try.prog 9 w' bm (insN fm key nm) (insF fm key (.pointer (some ⟨mb, 0, none⟩))) ∧ Fr w3 w' (fun b => b = mb ∨ b = bm) := by
  have c0 : w.cell? ⟨gb, 0, none⟩ = some (.func (.func 22) #[] #[]) := cellB hg rfl
  have c4 : w.cell? ⟨gb, 4, none⟩ = some (.int .i64 now) := cellB hg rfl
  have c5 : w.cell? ⟨gb, 5, none⟩ = some (.int .i64 clock) := cellB hg rfl
  have c6 : w.cell? ⟨gb, 6, none⟩ = some (.int .i64 runs) := cellB hg rfl
  have f6 : w.frozen? ⟨gb, 6, none⟩ = false := freeB hg 6
  have hlt : gb < w.heap.size := ltB hg
  go_enter Try.func29, Try.ntmps29
  go_wp2
  refine wp_at ?_
  intro w1 hw1
  have hg1 : w1.heap[gb]? = some (.cells (graphCells (.func (.func 22) #[] #[]) bi bm room now clock (wrap64 (runs + 1)) stack) 56 (0, 0)) := by
    rw [hw1, Below.heap_alloc _ _ _ (by simpa [World.setCell] using hlt)]
    exact setB hg 6 _
  have hs1 : (w.setCell ⟨gb, 6, none⟩ (.int .i64 (wrap64 (runs + 1)))).heap.size = w.heap.size := by simp [World.setCell]
  have hpg1 : w1.heap[w.heap.size]? = some (.cells #[.pointer (some ⟨gb, 0, none⟩)] 25 (0, 0)) := by
    rw [hw1, ← hs1]
    exact (MapKept.heap_alloc _ _).1
  have l1 : w1.heap.size = w.heap.size + 1 := by rw [hw1, sizeA, hs1]
  have fr1 : Fr w w1 (fun b => b = gb) := by rw [hw1]; exact ((Fr.refl w (fun b => b = gb)).setCell (p := ⟨gb, 6, none⟩) (Or.inl rfl) _).alloc _
  clear hw1
  obtain ⟨N, hN⟩ : ∃ N, w.heap.size = N := ⟨_, rfl⟩
  rw [hN] at hpg1
  simp only [hN]
  rw [hN] at l1
  clear hs1
  have p1 : w1.cell? ⟨N, 0, none⟩ = some (.pointer (some ⟨gb, 0, none⟩)) := cellB hpg1 rfl
  have d4 : w1.cell? ⟨gb, 4, none⟩ = some (.int .i64 now) := cellB hg1 rfl
  have d5 : w1.cell? ⟨gb, 5, none⟩ = some (.int .i64 clock) := cellB hg1 rfl
  have hlt1 : gb < w1.heap.size := ltB hg1
  have hlt2 : N < w1.heap.size := ltB hpg1
  have lb : w1.heap.size < N + 2 := by omega
  clear l1
  go_region
  · refine then_at ?_
    intro w2 hw2
    obtain ⟨M, hM⟩ : ∃ M, w1.heap.size = M := ⟨_, rfl⟩
    have hMN : N < M := by omega
    simp only [hM] at hw2 ⊢
    have hw2' : w2 = ((w1.alloc (.cells (memoCells ⟨#[]⟩ (.slice none 0 0) now now clock) 68 (0, 0))).alloc (.cells #[.pointer (some ⟨M, 0, none⟩)] 62 (0, 0))).drew := hw2
    clear hw2
    generalize ho1 : ((.cells (memoCells ⟨#[]⟩ (.slice none 0 0) now now clock) 68 (0, 0)) : Obj) = o1 at hw2'
    generalize ho2 : ((.cells #[.pointer (some ⟨M, 0, none⟩)] 62 (0, 0)) : Obj) = o2 at hw2'
    have hw2 := hw2'
    clear hw2'
    have e1 : (w1.alloc o1).heap.size = M + 1 := by rw [sizeA, hM]
    have y1 : w2.heap[M]? = some o1 := by
      rw [hw2]
      refine (Below.heap_alloc _ _ _ (by omega)).trans ?_
      rw [← hM]
      exact (MapKept.heap_alloc _ _).1
    have y2 : w2.heap[M + 1]? = some o2 := by
      rw [hw2, ← e1]
      exact (MapKept.heap_alloc _ _).1
    have e2 : w2.heap.size = M + 2 := by rw [hw2]; exact (sizeA _ _).trans (by omega)
    have old : ∀ b, b < M → w2.heap[b]? = w1.heap[b]? := fun b hb => by
      rw [hw2]
      exact (Below.heap_alloc _ _ _ (by omega)).trans (Below.heap_alloc _ _ _ (by omega))
    have fr2 : Fr w w2 (fun b => b = gb) := by rw [hw2]; exact ((fr1.alloc _).alloc _).drew
    subst ho1; subst ho2
    have e3 : M + 1 < w2.heap.size := by omega
    clear hw2 e2
    have hg2 := (old gb (by omega)).trans hg1
    have hpg2 := (old N (by omega)).trans hpg1
    have p2 : w2.cell? ⟨N, 0, none⟩ = some (.pointer (some ⟨gb, 0, none⟩)) := cellB hpg2 rfl
    have q2 : w2.cell? ⟨gb, 0, none⟩ = some (.func (.func 22) #[] #[]) := cellB hg2 rfl
    have k1 : gb < w2.heap.size := ltB hg2
    have k2 : N < w2.heap.size := ltB hpg2
    clear old hM
    go_wp2_with fail
    have ob : ∀ b, b < w2.heap.size → (w2.alloc (.cells #[.int .i64 0] 26)).heap[b]? = w2.heap[b]? := fun b hb => Below.heap_alloc _ _ _ hb
    refine (hrule w2.heap.size N (M + 1) (M) _ (by omega) (by omega) (by omega) (by omega) (by omega) (by omega) (by omega) (by omega) (by omega) (by omega) ((ob gb k1).trans hg2) ((ob N k2).trans hpg2)
      ((ob (M + 1) (by omega)).trans y2) ((ob (M) (by omega)).trans y1) (MapKept.heap_alloc _ _).1 (fr2.alloc _)).mono ?_
    rintro e w3 ⟨rfl, nv, hB, g3, pg3, pm3, mb3, bb3, m3⟩
    have r1 := cellB g3 (i := 2) rfl
    have r2 := cellB pg3 (i := 0) rfl
    have r3 := cellB pm3 (i := 0) rfl
    have r4 := cellB mb3 (i := 0) rfl
    have r5 := freeB mb3 0
    have r6 := cellB bb3 (i := 0) rfl
    go_wp2_with fail
    have ne1 : gb ≠ M := by omega
    have ne2 : bm ≠ M := by omega
    refine (keep_room gb bi bm nm fm _ room now clock3 runs3 stack key _ _ ((setO (a := ⟨M, 0, none⟩) ne1 _).trans g3) (m3.setCell (a := ⟨M, 0, none⟩) ne2 _) n2 hkey hn hroom).mono ?_
    rintro e w5 ⟨rfl, hm5, fr5⟩
    have mb4 : (w3.setCell ⟨M, 0, none⟩ (.string s)).heap[M]? = some (.cells (memoCells s nv now now clock) 68 (0, 0)) := setB mb3 0 _
    have mb5 := (fr5.block _ (ltB mb4) (fun x => ne2 x.symm)).trans mb4
    have pm4 : (w3.setCell ⟨M, 0, none⟩ (.string s)).heap[M + 1]? = some (.cells #[.pointer (some ⟨M, 0, none⟩)] 62 (0, 0)) := (setO (a := ⟨M, 0, none⟩) (by simp) _).trans pm3
    have pm5 := (fr5.block _ (ltB pm4) (by omega)).trans pm4
    have s1 := cellB pm5 (i := 0) rfl
    have s2 := cellB mb5 (i := 3) rfl
    go_wp2
    go_region
    all_goals
      go_wp2
      go_ret3
      refine ⟨rfl, M, nv, w3, by omega, hB, mb5, hm5, ?_⟩
      exact (((Fr.refl w3 (fun b => b = M ∨ b = bm)).setCell (p := ⟨M, 0, none⟩) (Or.inl (Or.inl rfl)) _).trans (fr5.mono (fun _ h => Or.inr h))).drew
  · refine then_at ?_
    intro w2 hw2
    obtain ⟨M, hM⟩ : ∃ M, w1.heap.size = M := ⟨_, rfl⟩
    have hMN : N < M := by omega
    simp only [hM] at hw2 ⊢
    have hw2' : w2 = ((w1.alloc (.cells #[.pointer (some ⟨M + 1, 0, none⟩)] 62 (0, 0))).alloc (.cells (memoCells ⟨#[]⟩ (.slice none 0 0) now now clock) 68 (0, 0))).drew := hw2
    clear hw2
    generalize ho1 : ((.cells #[.pointer (some ⟨M + 1, 0, none⟩)] 62 (0, 0)) : Obj) = o1 at hw2'
    generalize ho2 : ((.cells (memoCells ⟨#[]⟩ (.slice none 0 0) now now clock) 68 (0, 0)) : Obj) = o2 at hw2'
    have hw2 := hw2'
    clear hw2'
    have e1 : (w1.alloc o1).heap.size = M + 1 := by rw [sizeA, hM]
    have y1 : w2.heap[M]? = some o1 := by
      rw [hw2]
      refine (Below.heap_alloc _ _ _ (by omega)).trans ?_
      rw [← hM]
      exact (MapKept.heap_alloc _ _).1
    have y2 : w2.heap[M + 1]? = some o2 := by
      rw [hw2, ← e1]
      exact (MapKept.heap_alloc _ _).1
    have e2 : w2.heap.size = M + 2 := by rw [hw2]; exact (sizeA _ _).trans (by omega)
    have old : ∀ b, b < M → w2.heap[b]? = w1.heap[b]? := fun b hb => by
      rw [hw2]
      exact (Below.heap_alloc _ _ _ (by omega)).trans (Below.heap_alloc _ _ _ (by omega))
    have fr2 : Fr w w2 (fun b => b = gb) := by rw [hw2]; exact ((fr1.alloc _).alloc _).drew
    subst ho1; subst ho2
    have e3 : M + 1 < w2.heap.size := by omega
    clear hw2 e2
    have hg2 := (old gb (by omega)).trans hg1
    have hpg2 := (old N (by omega)).trans hpg1
    have p2 : w2.cell? ⟨N, 0, none⟩ = some (.pointer (some ⟨gb, 0, none⟩)) := cellB hpg2 rfl
    have q2 : w2.cell? ⟨gb, 0, none⟩ = some (.func (.func 22) #[] #[]) := cellB hg2 rfl
    have k1 : gb < w2.heap.size := ltB hg2
    have k2 : N < w2.heap.size := ltB hpg2
    clear old hM
    go_wp2_with fail
    have ob : ∀ b, b < w2.heap.size → (w2.alloc (.cells #[.int .i64 0] 26)).heap[b]? = w2.heap[b]? := fun b hb => Below.heap_alloc _ _ _ hb
    refine (hrule w2.heap.size N (M) (M + 1) _ (by omega) (by omega) (by omega) (by omega) (by omega) (by omega) (by omega) (by omega) (by omega) (by omega) ((ob gb k1).trans hg2) ((ob N k2).trans hpg2)
      ((ob (M) (by omega)).trans y1) ((ob (M + 1) (by omega)).trans y2) (MapKept.heap_alloc _ _).1 (fr2.alloc _)).mono ?_
    rintro e w3 ⟨rfl, nv, hB, g3, pg3, pm3, mb3, bb3, m3⟩
    have r1 := cellB g3 (i := 2) rfl
    have r2 := cellB pg3 (i := 0) rfl
    have r3 := cellB pm3 (i := 0) rfl
    have r4 := cellB mb3 (i := 0) rfl
    have r5 := freeB mb3 0
    have r6 := cellB bb3 (i := 0) rfl
    go_wp2_with fail
    have ne1 : gb ≠ M + 1 := by omega
    have ne2 : bm ≠ M + 1 := by omega
    refine (keep_room gb bi bm nm fm _ room now clock3 runs3 stack key _ _ ((setO (a := ⟨M + 1, 0, none⟩) ne1 _).trans g3) (m3.setCell (a := ⟨M + 1, 0, none⟩) ne2 _) n2 hkey hn hroom).mono ?_
    rintro e w5 ⟨rfl, hm5, fr5⟩
    have mb4 : (w3.setCell ⟨M + 1, 0, none⟩ (.string s)).heap[M + 1]? = some (.cells (memoCells s nv now now clock) 68 (0, 0)) := setB mb3 0 _
    have mb5 := (fr5.block _ (ltB mb4) (fun x => ne2 x.symm)).trans mb4
    have pm4 : (w3.setCell ⟨M + 1, 0, none⟩ (.string s)).heap[M]? = some (.cells #[.pointer (some ⟨M + 1, 0, none⟩)] 62 (0, 0)) := (setO (a := ⟨M + 1, 0, none⟩) (by simp) _).trans pm3
    have pm5 := (fr5.block _ (ltB pm4) (by omega)).trans pm4
    have s1 := cellB pm5 (i := 0) rfl
    have s2 := cellB mb5 (i := 3) rfl
    go_wp2
    go_region
    all_goals
      go_wp2
      go_ret3
      refine ⟨rfl, M + 1, nv, w3, by omega, hB, mb5, hm5, ?_⟩
      exact (((Fr.refl w3 (fun b => b = M + 1 ∨ b = bm)).setCell (p := ⟨M + 1, 0, none⟩) (Or.inl (Or.inl rfl)) _).trans (fr5.mono (fun _ h => Or.inr h))).drew
end Go.Proofs.Ytelddnalpkhclaa

