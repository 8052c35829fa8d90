/- A region that draws its order, whose calls make memory but leave what stood as it was: one walk in the order of the text serves every order. The class of worlds: what may come of a world by growing. -/
import Derived.WalkKit
import Derived.Deep.QuietTactic
import Derived.BigQuiet
namespace Go
open Go.RowKit

/-- what may come of a world without a turn of what stood in it -/
structure Later (w : World) where
  world : World
  below : Below w.heap.size w world
instance (w : World) : Nonempty (Later w) := ⟨⟨w, Below.refl _ _⟩⟩

theorem wp_region_later {P : Program} {id : Nat} {Q : Exit → Act → World → Prop} {a : Act} {w w0 : World} {l : List Oper} (hm : P.follows .mixedOrders = true) (hB : Region.lexB .any l.toArray = true)
    (hw : Below w0.heap.size w0 w)
    (h : wpQuiet P l.toArray (fun w' => ∃ n : Later w0, w' = n.world) (fun a' => ∀ w', (∃ n : Later w0, w' = n.world) → Q .normal a' w') l a) : (Code.region id l.toArray true).wp P Q a w :=
  wp_region_quiet (C := fun w' => ∃ n : Later w0, w' = n.world) hm hB ⟨⟨w.drew, hw.drew⟩, rfl⟩ (by simpa using h)

theorem Calls.later {P : Program} {f : FuncId} {args : Array Value} {w0 : World} {n : Later w0} {v : Value}
    (h : Calls P f args n.world fun e w' => e = .returned v ∧ Below n.world.heap.size n.world w') : Calls P f args n.world fun e w'' => e = .returned v ∧ ∃ m : Later w0, w'' = m.world :=
  h.mono fun _ w' ⟨he, hm⟩ => ⟨he, ⟨w', n.below.trans (hm.mono n.below.size)⟩, rfl⟩
theorem Calls.later_same {P : Program} {f : FuncId} {args : Array Value} {w0 : World} {n : Later w0} {v : Value}
    (h : Calls P f args n.world fun e w' => e = .returned v ∧ n.world = w') : Calls P f args n.world fun e w'' => e = .returned v ∧ ∃ m : Later w0, w'' = m.world :=
  h.mono fun _ _ ⟨he, hm⟩ => ⟨he, n, hm.symm⟩
end Go
