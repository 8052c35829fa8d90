/- ask of an input · keep where there is room · the parts of reckon that call nothing. -/
import Derived.Test.YtelddnalpkhclaaSet
import Derived.Deep.RegionLaw
namespace Go.Proofs.Ytelddnalpkhclaa
open Go.RowKit Go.Maps

theorem step_len {P : Program} {ops : Array Oper} {o : Oper} {a : Act} {w : World} {K : Act → World → Prop} {Q : Exit → Act → World → Prop} {E : Prop}
    (hg : o.guard = none) (m : Operand) (t : TypeId) (hop : o.op = Op.call { callee := Callee.builtin Builtin.len, args := #[m], argTypes := #[t] }) (k e : TypeId) (ht : P.underlying t = some (.map k e))
    (b n : Nat) (f : ByteArray → Option Value) (hm : a.eval m = .map (some b)) (h : MapAt P k w b n f) (hK : K (a.put o.dst (.int .i64 n)) w) :
    if Region.wanted o (yielded ops a.tmps) = true then Oper.wp P o a w K Q else E := by
  have hw : Region.wanted o (yielded ops a.tmps) = true := by simp [Region.wanted, hg]
  rw [if_pos hw]
  unfold Oper.wp
  simp [execOp, hop, resolve, invoke, builtin, hm, h.len ht o.type, Result.andThen]
  exact hK

set_option maxHeartbeats 1000000 in
theorem ask_input (gb bi bm ni : Nat) (fi : ByteArray → Option Value) (rule : Value) (room now clock runs : Int) (stack : Value) (key v : ByteArray) (c : Int) (w : World)
    (hg : w.heap[gb]? = some (.cells (graphCells rule bi bm room now clock runs stack) 56 (0, 0))) (hi : MapAt Try.prog 9 w bi ni fi) (hkey : key.size ≤ maxLen) (hf : fi key = some (inV v c)) :
    Calls Try.prog 23 #[.pointer (some ⟨gb, 0, none⟩), .string key] w fun e w' => e = .returned (.tuple #[.string v, .int .i64 c, .int .i64 0]) ∧ Fr w w' (fun _ => False) := by
  have c1 : w.cell? ⟨gb, 1, none⟩ = some (.map (some bi)) := cellB hg rfl
  have hlt : gb < w.heap.size := ltB hg
  unfold inV at hf
  go_enter Try.func23, Try.ntmps23
  go_wp2_with (first
    | (at_lookup; refine wp_look_some _ rfl _ _ 52 true rfl 9 58 Try.underlying9 Try.underlying52 _ (zero58 _) bi ni fi rfl hi key rfl hkey _ hf ?_)
    | go_in)
  go_region
  all_goals
    go_wp2
    go_ret3
    exact ⟨rfl, by first | exact ((Fr.refl w _).alloc _).drew | exact ((Fr.refl w _).alloc _)⟩

/-- a memo's cells -/
def memoCells (answer : ByteArray) (needs : Value) (looked changed used : Int) : Array Value := #[.string answer, needs, .int .i64 looked, .int .i64 changed, .int .i64 used]

set_option maxHeartbeats 1000000 in
theorem keep_room (gb bi bm nm : Nat) (fm : ByteArray → Option Value) (rule : Value) (room now clock runs : Int) (stack : Value) (key : ByteArray) (p : Value) (w : World)
    (hg : w.heap[gb]? = some (.cells (graphCells rule bi bm room now clock runs stack) 56 (0, 0))) (hm : MapAt Try.prog 9 w bm nm fm)
    (n2 : gb ≠ bm) (hkey : key.size ≤ maxLen) (hn : nm < maxLen) (hroom : decide (((insN fm key nm : Nat) : Int) > room) = false) :
    Calls Try.prog 31 #[.pointer (some ⟨gb, 0, none⟩), .string key, p] w fun e w' => e = .returned (.tuple #[]) ∧
      MapAt Try.prog 9 w' bm (insN fm key nm) (insF fm key p) ∧ Fr w w' (fun b => b = bm) := by
  have c2 : w.cell? ⟨gb, 2, none⟩ = some (.map (some bm)) := cellB hg rfl
  go_enter Try.func31, Try.ntmps31
  go_wp2_with (first
    | (at_mapUpdate; refine wp_store _ rfl _ _ _ 53 rfl 9 62 Try.underlying9 Try.underlying53 bm nm fm rfl hm hn key _ rfl rfl hkey ?_; intro w2 hm2 ht2)
    | go_in)
  have hg2 : w2.heap[gb]? = some (.cells (graphCells rule bi bm room now clock runs stack) 56 (0, 0)) := (ht2.grown.block gb (ltB hg) (by simpa using n2)).trans hg
  have d2 : w2.cell? ⟨gb, 2, none⟩ = some (.map (some bm)) := cellB hg2 rfl
  have d3 : w2.cell? ⟨gb, 3, none⟩ = some (.int .i64 room) := cellB hg2 rfl
  refine wp_loop_once ?_
  go_wp2
  go_region_law (refine step_len rfl _ 53 rfl 9 62 Try.underlying53 bm _ _ rfl hm2.drew ?_)
  all_goals
    go_wp2
    go_end0
    exact ⟨rfl, hm2.drew, ((Fr.refl w _).grown ht2.grown (by simp)).drew⟩
end Go.Proofs.Ytelddnalpkhclaa
