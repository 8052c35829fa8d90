/- Ask; awake's graph is asked. -/
import Derived.Test.YtelddnalpkhclaaAskNil
namespace Go.Proofs.Ytelddnalpkhclaa
open Go.RowKit Go.Maps

set_option maxHeartbeats 1000000 in
theorem Ask_ok (gb bi bm : Nat) (rule : Value) (room now clock runs : Int) (stack : Value) (key s : ByteArray) (at' e' : Int) (B : World → Prop) (w : World)
    (hg : w.heap[gb]? = some (.cells (graphCells rule bi bm room now clock runs stack) 56 (0, 0)))
    (hask : ∀ w1, w1.heap[gb]? = some (.cells (graphCells rule bi bm room now clock runs (.slice none 0 0)) 56 (0, 0)) → Fr w w1 (fun b => b = gb) →
      Calls Try.prog 23 #[.pointer (some ⟨gb, 0, none⟩), .string key] w1 fun e w' => e = .returned (.tuple #[.string s, .int .i64 at', .int .i64 e']) ∧ B w') :
    Calls Try.prog 15 #[.pointer (some ⟨gb, 0, none⟩), .string key] w fun e w' => e = .returned (.tuple #[.string s, .int .i64 e']) ∧ B w' := by
  have c7 := cellB hg (i := 7) rfl
  have f7 := freeB hg 7
  go_enter Try.func15, Try.ntmps15
  go_wp2_with fail
  refine (hask _ (setB hg 7 _) ((Fr.refl w (fun b => b = gb)).setCell (p := ⟨gb, 7, none⟩) (Or.inl rfl) _)).mono ?_
  rintro e w1 ⟨rfl, hB⟩
  go_wp2
  go_ret2
  exact ⟨rfl, hB⟩

theorem Fr.trans2 {a b c : World} {may may' : Nat → Prop} (h : Fr a b may) (k : Fr b c may') (hm : ∀ i, may' i → may i ∨ a.heap.size ≤ i) : Fr a c may :=
  ⟨k.os.trans h.os, k.tape.trans h.tape, k.output.trans h.output, Nat.le_trans h.size k.size, fun i hi hn => (k.block i (Nat.lt_of_lt_of_le hi h.size) (fun x => by
    rcases hm i x with h1 | h1
    · exact hn h1
    · omega)).trans (h.block i hi hn)⟩
theorem Fr.block' {w w' : World} {may : Nat → Prop} (h : Fr w w' may) {b : Nat} {o : Obj} (hb : w.heap[b]? = some o) (hn : ¬ may b) : w'.heap[b]? = some o := (h.block b (ltB hb) hn).trans hb
theorem MapAt.fr {P : Program} {kt : TypeId} {w w' : World} {b n : Nat} {f : ByteArray → Option Value} {may : Nat → Prop} (h : MapAt P kt w b n f) (hf : Fr w w' may) (hn : ¬ may b) : MapAt P kt w' b n f := h.block (hf.block b h.lt hn)

set_option maxHeartbeats 1000000 in
theorem awake_ask (gb bi bm ni : Nat) (fi : ByteArray → Option Value) (now clock runs : Int) (stack : Value) (c : Int) (w : World)
    (hg : w.heap[gb]? = some (.cells (graphCells (.func (.func 22) #[] #[]) bi bm 5 now clock runs stack) 56 (0, 0))) (hi : MapAt Try.prog 9 w bi ni fi) (hm : MapAt Try.prog 9 w bm 0 (fun _ => none))
    (n1 : gb ≠ bi) (n2 : gb ≠ bm) (n3 : bi ≠ bm) (hfa : fi ⟨#[97]⟩ = none) (hfb : fi ⟨#[98]⟩ = some (inV ⟨#[49]⟩ c)) :
    Calls Try.prog 15 #[.pointer (some ⟨gb, 0, none⟩), .string ⟨#[97]⟩] w fun e w' => e = .returned (.tuple #[.string ⟨#[49, 120]⟩, .int .i64 0]) ∧ Fr w w' (fun b => b = gb ∨ b = bm) := by
  refine Ask_ok gb bi bm _ 5 now clock runs stack _ _ now 0 _ w hg ?_
  intro w1 hg1 fr1
  have hi1 := hi.fr fr1 n1.symm
  have hm1 := hm.fr fr1 n2.symm
  have hA := ask_rule_nil gb bi bm ni fi (.func (.func 22) #[] #[]) 5 now clock runs (wrap64 (clock + 1)) (wrap64 (runs + 1)) ⟨#[97]⟩ ⟨#[49, 120]⟩ now (fun w3 => Fr w w3 (fun b => b = gb ∨ b = bm)) w1 hg1 hi1 (by decide) hfa ?_
  · refine hA.mono ?_
    rintro e w' ⟨rfl, w3, h3, hf⟩
    exact ⟨rfl, Fr.trans2 h3 hf (fun _ h => Or.inl (Or.inl h))⟩
  · intro g cap w2 _ _ hg2 fr2
    have hi2 := hi1.fr fr2 n1.symm
    have hm2 := hm1.fr fr2 n2.symm
    refine known_miss gb bi bm 0 (fun _ => none) _ 5 now clock runs _ _ _ w2 hg2 hm2 n2 (by decide) rfl ?_
    intro w3 hg3 hm3 fr3
    have hi3 := hi2.fr fr3 n1.symm
    have hR := reckon_first22 gb bi bm 0 (fun _ => none) 5 now (wrap64 (clock + 1)) runs (wrap64 (clock + 1)) (wrap64 (runs + 1)) (.slice (some ⟨g, 0, none⟩) 1 cap) ⟨#[97]⟩ ⟨#[49, 120]⟩
      (fun _ _ w' => Fr w3 w' (fun b => b = gb) ∧ w'.heap[gb]? = some (.cells (graphCells (.func (.func 22) #[] #[]) bi bm 5 now (wrap64 (clock + 1)) (wrap64 (runs + 1)) (.slice (some ⟨g, 0, none⟩) 1 cap)) 56 (0, 0))) w3 hg3 ?_ n2 hm3.lt (by decide) (by decide) (by decide)
    · refine hR.mono ?_
      rintro e w' ⟨rfl, mb, nv, w5, hmb, ⟨fr5, g5⟩, _, _, frk⟩
      have hgb : gb < w3.heap.size := ltB hg3
      refine ⟨_, _, rfl, rfl, ?_, frk.block' g5 (by omega)⟩
      have f1 : Fr w w3 (fun b => b = gb ∨ b = bm) := ((fr1.trans fr2).trans fr3).mono (fun _ h => Or.inl h)
      have f2 : Fr w w5 (fun b => b = gb ∨ b = bm) := f1.trans2 fr5 (fun _ h => Or.inl (Or.inl h))
      have hs := f1.size
      exact f2.trans2 frk (fun i h => by
        rcases h with h | h
        · right; omega
        · exact Or.inl (Or.inr h))
    · intro bb pg pm mb w4 hbb hpg hpm hmb e1 e2 e3 e4 e5 e6 g4 pg4 pm4 mb4 bb4 fr4
      have hgb : gb < w3.heap.size := ltB hg3
      have hi4 := hi3.fr fr4 n1.symm
      have hm4 := hm3.fr fr4 n2.symm
      have hbm : bm < w3.heap.size := hm3.lt
      refine (awake1_ok bb pg pm _ (fun w' => ∃ nv, (Fr w3 w' (fun b => b = gb) ∧ w'.heap[gb]? = some (.cells (graphCells (.func (.func 22) #[] #[]) bi bm 5 now (wrap64 (clock + 1)) (wrap64 (runs + 1)) (.slice (some ⟨g, 0, none⟩) 1 cap)) 56 (0, 0))) ∧
        w'.heap[gb]? = some (.cells (graphCells (.func (.func 22) #[] #[]) bi bm 5 now (wrap64 (clock + 1)) (wrap64 (runs + 1)) (.slice (some ⟨g, 0, none⟩) 1 cap)) 56 (0, 0)) ∧ w'.heap[pg]? = some (.cells #[.pointer (some ⟨gb, 0, none⟩)] 25 (0, 0)) ∧
        w'.heap[pm]? = some (.cells #[.pointer (some ⟨mb, 0, none⟩)] 62 (0, 0)) ∧ w'.heap[mb]? = some (.cells (memoCells ⟨#[]⟩ nv now now (wrap64 (clock + 1))) 68 (0, 0)) ∧ w'.heap[bb]? = some (.cells #[.int .i64 0] 26 (0, 0)) ∧ MapAt Try.prog 9 w' bm 0 (fun _ => none)) w4 ?_).mono ?_
      · refine (closure_ok gb bb pg pm mb 0 0 ⟨#[98]⟩ ⟨#[49]⟩ c ⟨#[]⟩ (.slice none 0 0) [] now now (wrap64 (clock + 1)) (fun w5 => Fr w4 w5 (fun _ => False)) w4 bb4 pg4 (ask_input gb bi bm ni fi _ 5 now _ _ _ _ _ c w4 g4 hi4 (by decide) hfb) ?_ e1 e2 e3 (by simp [Value.ownBlock]) (by simp [Value.ownBlock]) (by simp [Value.ownBlock]) (by decide)).mono ?_
        · intro w5 f5
          exact ⟨f5.block' bb4 id, f5.block' pm4 id, f5.block' mb4 id, World.ownsRow_nil _ _ _ _, Nat.zero_le _⟩
        · rintro e w' ⟨rfl, w5, nv', f5, b', m', _, _, f6⟩
          have no : ∀ b, b ≠ bb → b ≠ mb → ¬ (b = bb ∨ b = mb ∨ (Value.slice none 0 0).ownBlock = some b) := by
            intro b h1 h2 h
            rcases h with h | h | h
            · exact h1 h
            · exact h2 h
            · cases h
          have s4 := fr4.size
          have gg := f6.block' (f5.block' g4 id) (no gb (by omega) (by omega))
          refine ⟨rfl, nv', ⟨?_, gg⟩, gg, f6.block' (f5.block' pg4 id) (no pg e4.symm e5.symm), f6.block' (f5.block' pm4 id) (no pm e2.symm e3.symm), m', b', (hm4.fr f5 id).fr f6 (no bm (by omega) (by omega))⟩
          refine (fr4.trans2 f5 (fun _ h => h.elim)).trans2 f6 (fun i h => ?_)
          rcases h with h | h | h
          · right; omega
          · right; omega
          · cases h
      · rintro e w' ⟨rfl, h⟩
        exact ⟨rfl, h⟩
end Go.Proofs.Ytelddnalpkhclaa
