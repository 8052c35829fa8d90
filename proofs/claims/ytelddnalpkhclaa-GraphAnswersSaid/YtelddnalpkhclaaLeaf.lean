/- The leaves: a block of cells as one fact; New; the nil branches. -/
import Derived.Test.YtelddnalpkhclaaRows
import Derived.Test.YtelddnalpkhclaaMap
import Derived.WalkSpells
import Derived.WalkLawsBesides
import Derived.Lib.Hide
namespace Go.Proofs.Ytelddnalpkhclaa
open Go.RowKit Go.Maps

theorem cellB {w : World} {b : Nat} {cs : Array Value} {t : TypeId} (h : w.heap[b]? = some (.cells cs t (0, 0))) {i : Nat} {v : Value} (hv : cs[i]? = some v) : w.cell? ⟨b, i, none⟩ = some v := by
  simp [World.cell?, h, hv]
theorem freeB {w : World} {b : Nat} {cs : Array Value} {t : TypeId} (h : w.heap[b]? = some (.cells cs t (0, 0))) (i : Nat) : w.frozen? ⟨b, i, none⟩ = false := by
  simp [World.frozen?, h]
theorem setB {w : World} {b : Nat} {cs : Array Value} {t : TypeId} (h : w.heap[b]? = some (.cells cs t (0, 0))) (i : Nat) (u : Value) : (w.setCell ⟨b, i, none⟩ u).heap[b]? = some (.cells (cs.setIfInBounds i u) t (0, 0)) := by
  simp [World.setCell, Array.getElem?_modify, h]
theorem setO {w : World} {b : Nat} {a : Addr} (hne : b ≠ a.block) (u : Value) : (w.setCell a u).heap[b]? = w.heap[b]? := Below.heap_setCell w a u b hne
theorem sizeA (w : World) (o : Obj) : (w.alloc o).heap.size = w.heap.size + 1 := by simp
theorem ltB {w : World} {b : Nat} {o : Obj} (h : w.heap[b]? = some o) : b < w.heap.size := (Array.getElem?_eq_some_iff.1 h).1

/-- a graph's cells -/
def graphCells (rule : Value) (bi bm : Nat) (room now clock runs : Int) (stack : Value) : Array Value :=
  #[rule, .map (some bi), .map (some bm), .int .i64 room, .int .i64 now, .int .i64 clock, .int .i64 runs, stack]

theorem eq_nilf (w : World) : (binOp .eql 51 .nilFunc .nilFunc).run Try.prog w = .ok (.bool true) w := by kernel_rfl
theorem eq_func (f : Nat) (w : World) : (binOp .eql 51 (.func (.func f) #[] #[]) .nilFunc).run Try.prog w = .ok (.bool false) w := by kernel_rfl
set_option maxHeartbeats 400000 in
theorem new_bad (v : Value) (hv : v = .nilFunc) (w : World) :
    Calls Try.prog 10 #[v, .int .i64 5] w fun e w' => e = .returned (.tuple #[.pointer none, .int .i64 1]) ∧ w' = w := by
  subst hv
  have hnil := eq_nilf
  go_enter Try.func10, Try.ntmps10
  go_wp2
  go_ret2
  exact ⟨rfl, rfl⟩
set_option maxHeartbeats 400000 in
theorem new_small (f : Nat) (w : World) :
    Calls Try.prog 10 #[.func (.func f) #[] #[], .int .i64 0] w fun e w' => e = .returned (.tuple #[.pointer none, .int .i64 1]) ∧ w' = w := by
  have hnil := eq_func f
  go_enter Try.func10, Try.ntmps10
  go_wp2
  go_ret2
  exact ⟨rfl, rfl⟩
set_option maxHeartbeats 400000 in
theorem set_nil (k v : ByteArray) (w : World) : Calls Try.prog 14 #[.pointer none, .string k, .string v] w fun e w' => e = .returned (.tuple #[]) ∧ w' = w := by
  go_enter Try.func14, Try.ntmps14
  go_wp2
  refine bodyPost_ret (results_none rfl _ _ _) rfl ?_
  exact ⟨rfl, rfl⟩
set_option maxHeartbeats 400000 in
theorem ask_nil (k : ByteArray) (w : World) : Calls Try.prog 15 #[.pointer none, .string k] w fun e w' => e = .returned (.tuple #[.string ⟨#[]⟩, .int .i64 2]) ∧ w' = w := by
  go_enter Try.func15, Try.ntmps15
  go_wp2
  go_ret2
  exact ⟨rfl, rfl⟩
set_option maxHeartbeats 400000 in
theorem drop_nil (k : ByteArray) (w : World) : Calls Try.prog 17 #[.pointer none, .string k] w fun e w' => e = .returned (.bool false) ∧ w' = w := by
  go_enter Try.func17, Try.ntmps17
  go_wp2
  go_ret
  exact ⟨rfl, rfl⟩
set_option maxHeartbeats 400000 in
theorem evict_nil (k : ByteArray) (w : World) : Calls Try.prog 18 #[.pointer none, .string k] w fun e w' => e = .returned (.bool false) ∧ w' = w := by
  go_enter Try.func18, Try.ntmps18
  go_wp2
  go_ret
  exact ⟨rfl, rfl⟩
set_option maxHeartbeats 400000 in
theorem runs_nil (w : World) : Calls Try.prog 16 #[.pointer none] w fun e w' => e = .returned (.int .i64 0) ∧ w' = w := by
  go_enter Try.func16, Try.ntmps16
  go_wp2
  go_ret
  exact ⟨rfl, rfl⟩
set_option maxHeartbeats 400000 in
theorem known_nil (w : World) : Calls Try.prog 21 #[.pointer none] w fun e w' => e = .returned (.int .i64 0) ∧ w' = w := by
  go_enter Try.func21, Try.ntmps21
  go_wp2
  go_ret
  exact ⟨rfl, rfl⟩
set_option maxHeartbeats 1000000 in
theorem new_ok (f : Nat) (room : Int) (h1 : (decide (room < 1)) = false) (w : World) :
    Calls Try.prog 10 #[.func (.func f) #[] #[], .int .i64 room] w fun e w' => e = .returned (.tuple #[.pointer (some ⟨w.heap.size + 2, 0, none⟩), .int .i64 0]) ∧
      w'.heap[w.heap.size + 2]? = some (.cells (graphCells (.func (.func f) #[] #[]) w.heap.size (w.heap.size + 1) room 1 0 0 (.slice none 0 0)) 56 (0, 0)) ∧
      MapAt Try.prog 9 w' w.heap.size 0 (fun _ => none) ∧ MapAt Try.prog 9 w' (w.heap.size + 1) 0 (fun _ => none) ∧ Below w.heap.size w w' ∧ w'.heap.size = w.heap.size + 3 := by
  have hmm := @run_makeMap Try.prog
  have hnil := eq_func f
  go_enter Try.func10, Try.ntmps10
  go_wp2
  go_ret2
  have m1 := mapAt_made w Try.prog 9
  have m2 := mapAt_made (w.alloc (.map #[] 0)) Try.prog 9
  have s1 : (w.alloc (.map #[] 0)).heap.size = w.heap.size + 1 := sizeA _ _
  have s2 : ((w.alloc (.map #[] 0)).alloc (.map #[] 0)).heap.size = w.heap.size + 2 := by rw [sizeA, s1]
  rw [s1] at m2
  refine ⟨rfl, ?_, (m1.alloc _).alloc _, m2.alloc _, ?_, ?_⟩
  · rw [← s2]
    exact (MapKept.heap_alloc _ _).1
  · exact (((Below.refl _ _).alloc (Nat.le_refl _) _).alloc (by omega) _).alloc (by omega) _
  · rw [sizeA, s2]
end Go.Proofs.Ytelddnalpkhclaa
