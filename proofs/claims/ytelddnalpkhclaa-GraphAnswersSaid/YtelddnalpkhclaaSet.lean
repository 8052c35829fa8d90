/- Set, and what is turned by it. -/
import Derived.Test.YtelddnalpkhclaaLeaf
import Derived.RegionTactic
import Derived.ChangeAlike
namespace Go.Proofs.Ytelddnalpkhclaa
open Go.RowKit Go.Maps

theorem wp_at {P : Program} {c : Code} {Q : Exit → Act → World → Prop} {a : Act} {w : World} (h : ∀ w1, w1 = w → Code.wp P c Q a w1) : Code.wp P c Q a w := h w rfl

/-- nothing has turned but the blocks that may -/
structure Fr (w w' : World) (may : Nat → Prop) : Prop where
  os : w'.os = w.os
  tape : w'.tape = w.tape
  output : w'.output = w.output
  size : w.heap.size ≤ w'.heap.size
  block : ∀ b, b < w.heap.size → ¬ may b → w'.heap[b]? = w.heap[b]?
theorem Fr.refl (w : World) (may : Nat → Prop) : Fr w w may := ⟨rfl, rfl, rfl, Nat.le_refl _, fun _ _ _ => rfl⟩
theorem Fr.trans {a b c : World} {may : Nat → Prop} (h : Fr a b may) (k : Fr b c may) : Fr a c may :=
  ⟨k.os.trans h.os, k.tape.trans h.tape, k.output.trans h.output, Nat.le_trans h.size k.size, fun i hi hm => (k.block i (Nat.lt_of_lt_of_le hi h.size) hm).trans (h.block i hi hm)⟩
theorem Fr.mono {a b : World} {may may' : Nat → Prop} (h : Fr a b may) (hm : ∀ i, may i → may' i) : Fr a b may' :=
  ⟨h.os, h.tape, h.output, h.size, fun i hi hn => h.block i hi (fun x => hn (hm i x))⟩
theorem Fr.grown {a w w' : World} {may : Nat → Prop} {row : Option Nat} (h : Fr a w may) (hg : w.grownBy w' row) (hr : ∀ i, row = some i → may i ∨ a.heap.size ≤ i) : Fr a w' may :=
  ⟨hg.os.trans h.os, hg.tape.trans h.tape, hg.output.trans h.output, Nat.le_trans h.size hg.size, fun i hi hn => by
    rw [hg.block i (Nat.lt_of_lt_of_le hi h.size) (fun e => by
      rcases hr i e.symm with h1 | h1
      · exact hn h1
      · omega)]
    exact h.block i hi hn⟩
theorem Fr.alloc {a w : World} {may : Nat → Prop} (h : Fr a w may) (o : Obj) : Fr a (w.alloc o) may := h.grown (World.grownBy_alloc w o none) (by simp)
theorem Fr.drew {a w : World} {may : Nat → Prop} (h : Fr a w may) : Fr a w.drew may := ⟨h.os, h.tape, h.output, h.size, h.block⟩
theorem Fr.setCell {a w : World} {may : Nat → Prop} (h : Fr a w may) {p : Addr} (hp : may p.block ∨ a.heap.size ≤ p.block) (u : Value) : Fr a (w.setCell p u) may :=
  ⟨h.os, h.tape, h.output, by simpa [World.setCell] using h.size, fun i hi hn => by
    have hne : i ≠ p.block := fun e => by
      subst e
      rcases hp with h1 | h1
      · exact hn h1
      · omega
    rw [setO hne]
    exact h.block i hi hn⟩
theorem Fr.below {a w : World} {may : Nat → Prop} {B : Nat} (h : Fr a w may) (hB : B ≤ a.heap.size) (hm : ∀ i, may i → B ≤ i) : Below B a w :=
  ⟨h.os, h.tape, h.output, h.size, fun i hi => h.block i (by omega) (fun x => by have := hm i x; omega)⟩

theorem zero58 (w : World) : (zeroValue 58).run Try.prog w = .ok (.agg #[.string ⟨#[]⟩, .int .i64 0]) w := by kernel_rfl
theorem zero62 (w : World) : (zeroValue 62).run Try.prog w = .ok (.pointer none) w := by kernel_rfl
def inV (v : ByteArray) (c : Int) : Value := .agg #[.string v, .int .i64 c]

set_option maxHeartbeats 1000000 in
theorem set_fresh (gb bi bm ni nm : Nat) (fi fm : ByteArray → Option Value) (rule : Value) (room now clock runs : Int) (stack : Value) (key v : ByteArray) (w : World)
    (hg : w.heap[gb]? = some (.cells (graphCells rule bi bm room now clock runs stack) 56 (0, 0))) (hi : MapAt Try.prog 9 w bi ni fi) (hm : MapAt Try.prog 9 w bm nm fm)
    (n1 : gb ≠ bi) (n2 : gb ≠ bm) (n3 : bi ≠ bm) (hkey : key.size ≤ maxLen) (hf : fi key = none) (hn : ni < maxLen) :
    Calls Try.prog 14 #[.pointer (some ⟨gb, 0, none⟩), .string key, .string v] w fun e w' => e = .returned (.tuple #[]) ∧
      w'.heap[gb]? = some (.cells (graphCells rule bi bm room (wrap64 (now + 1)) clock runs stack) 56 (0, 0)) ∧ MapAt Try.prog 9 w' bi (insN fi key ni) (insF fi key (inV v (wrap64 (now + 1)))) ∧
      MapAt Try.prog 9 w' bm (delN fm key nm) (delF fm key) ∧ Fr w w' (fun b => b = gb ∨ b = bi ∨ b = bm) := by
  have c1 : w.cell? ⟨gb, 1, none⟩ = some (.map (some bi)) := cellB hg rfl
  have c2 : w.cell? ⟨gb, 2, none⟩ = some (.map (some bm)) := cellB hg rfl
  have c4 : w.cell? ⟨gb, 4, none⟩ = some (.int .i64 now) := cellB hg rfl
  have f4 : w.frozen? ⟨gb, 4, none⟩ = false := freeB hg 4
  have hlt : gb < w.heap.size := ltB hg
  go_enter Try.func14, Try.ntmps14
  go_wp2_with (first
    | (at_lookup; refine wp_look_none _ rfl _ _ 52 true rfl 9 58 Try.underlying9 Try.underlying52 _ (zero58 _) bi ni fi rfl hi key rfl hkey hf ?_)
    | go_in)
  refine wp_at ?_
  intro w1 hw1
  have hg1 : w1.heap[gb]? = some (.cells (graphCells rule bi bm room (wrap64 (now + 1)) clock runs stack) 56 (0, 0)) := by
    rw [hw1, Below.heap_alloc _ _ _ (by simpa [World.setCell] using hlt)]
    exact setB hg 4 _
  have hi1 : MapAt Try.prog 9 w1 bi ni fi := by rw [hw1]; exact (hi.setCell n1.symm _).alloc _
  have hm1 : MapAt Try.prog 9 w1 bm nm fm := by rw [hw1]; exact (hm.setCell n2.symm _).alloc _
  have fr1 : Fr w w1 (fun b => b = gb ∨ b = bi ∨ b = bm) := by rw [hw1]; exact ((Fr.refl w _).setCell (Or.inl (Or.inl rfl)) _).alloc _
  clear hw1
  have d1 : w1.cell? ⟨gb, 1, none⟩ = some (.map (some bi)) := cellB hg1 rfl
  have d4 : w1.cell? ⟨gb, 4, none⟩ = some (.int .i64 (wrap64 (now + 1))) := cellB hg1 rfl
  obtain ⟨w2, hrun, hi2, ht2⟩ := hi1.drew.store Try.underlying9 Try.underlying52 hn hkey (inV v (wrap64 (now + 1)))
  unfold inV at hrun
  go_region
  have hg2 : w2.heap[gb]? = some (.cells (graphCells rule bi bm room (wrap64 (now + 1)) clock runs stack) 56 (0, 0)) := (ht2.grown.block gb (ltB hg1) (by simpa using n1)).trans hg1
  have hm2 : MapAt Try.prog 9 w2 bm nm fm := hm1.drew.kept ht2.grown (by simpa using n3.symm)
  have fr2 : Fr w w2 (fun b => b = gb ∨ b = bi ∨ b = bm) := fr1.drew.grown ht2.grown (by simp)
  have d2 : w2.cell? ⟨gb, 2, none⟩ = some (.map (some bm)) := cellB hg2 rfl
  go_wp2_with (first
    | (at_delete; refine wp_drop _ rfl _ _ 53 9 rfl 62 Try.underlying9 Try.underlying53 bm nm fm rfl hm2 key rfl hkey ?_; intro w3 hm3 ht3)
    | go_in)
  go_end0
  exact ⟨rfl, (ht3.grown.block gb (ltB hg2) (by simpa using n2)).trans hg2, hi2.kept ht3.grown (by simpa using n3), hm3, fr2.grown ht3.grown (by simp)⟩

end Go.Proofs.Ytelddnalpkhclaa
