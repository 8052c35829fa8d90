/- The steps as they come in: a slice of structs of an int and two strings. -/
import Derived.Test.YtelddnalpkhclaaLaw
import Derived.Deep.Slices
import Derived.Deep.Fields
import Derived.ChangeSame
import Derived.OpenShut
namespace Go.Proofs.Ytelddnalpkhclaa
open Go.RowKit Go.Maps Go.ChangeShapes Go.WideShapes Go.Deep

theorem cells32 : Try.prog.cellsOf 32 = 3 := by kernel_rfl
theorem cells3' : Try.prog.cellsOf 3 = 1 := by kernel_rfl
theorem cells9' : Try.prog.cellsOf 9 = 1 := by kernel_rfl
theorem open_op {H : Type} {enc : TypeId × Value → H} {w : World} {base : Nat} {spare : Nat → Bool} {held : Bool} {fuel : Nat} {cs : List Value} {x : DataW H × List MemPlace} (h : DataW.trod enc Try.prog w base spare held fuel 32 cs = some x) :
    ∃ o : LOp, cs = [.int .i64 o.kind, .string o.key, .string o.val] := by
  obtain ⟨xs, n, _, _, hl, hxl, hg⟩ := DataW.trod_struct Try.underlying32 h
  rw [cells32] at hl
  match cs, hl with
  | [c0, c1, c2], _ =>
    match xs, hxl with
    | [x0, x1, x2], _ =>
      have h0' : DataW.trod enc Try.prog w base spare held n 3 [c0] = some x0 := by
        have h : DataW.trod enc Try.prog w base spare held n 3 (([c0, c1, c2].drop 0).take (Try.prog.cellsOf 3)) = some x0 := hg 0 _ rfl
        rw [cells3'] at h
        exact h
      have h1' : DataW.trod enc Try.prog w base spare held n 9 [c1] = some x1 := by
        have h : DataW.trod enc Try.prog w base spare held n 9 (([c0, c1, c2].drop 1).take (Try.prog.cellsOf 9)) = some x1 := hg 1 _ rfl
        rw [cells9'] at h
        exact h
      have h2' : DataW.trod enc Try.prog w base spare held n 9 [c2] = some x2 := by
        have h : DataW.trod enc Try.prog w base spare held n 9 (([c0, c1, c2].drop 2).take (Try.prog.cellsOf 9)) = some x2 := hg 2 _ rfl
        rw [cells9'] at h
        exact h
      obtain ⟨k, e0, _⟩ := DataW.trod_int Try.underlying3 h0'
      obtain ⟨s, e1, _⟩ := DataW.trod_string Try.underlying9 h1'
      obtain ⟨t, e2, _⟩ := DataW.trod_string Try.underlying9 h2'
      cases e0; cases e1; cases e2
      exact ⟨⟨k, s, t⟩, rfl⟩
theorem open_ops {H : Type} {enc : TypeId × Value → H} {w : World} {base : Nat} {spare : Nat → Bool} {held : Bool} {fuel : Nat} {pa : Option Addr} {pn pc : Nat} {x : DataW H × List MemPlace} (h : DataW.trod enc Try.prog w base spare held fuel 22 [.slice pa pn pc] = some x) :
    ∃ ops : List LOp, OpsAt w (.slice pa pn pc) ops ∧ ops.length ≤ 9223372036854775807 := by
  rcases open_slice Try.underlying22 h with ⟨hcs, _⟩ | ⟨a, len, cap, m, n, D, Pl, hcs, _, hlc, hcap, hm, _, hi⟩
  · simp only [List.cons.injEq, Value.slice.injEq, and_true] at hcs
    obtain ⟨rfl, rfl, rfl⟩ := hcs
    exact ⟨[], Or.inl ⟨none, 0, rfl, rfl⟩, by decide⟩
  · simp only [List.cons.injEq, Value.slice.injEq, and_true] at hcs
    obtain ⟨rfl, rfl, rfl⟩ := hcs
    have hlm : pn ≤ m := by rw [hm]; split <;> omega
    have each : ∀ i, ∃ o : LOp, i < pn → w.cell? (a.add (i * 3)) = some (.int .i64 o.kind) ∧ w.cell? (a.add (i * 3 + 1)) = some (.string o.key) ∧ w.cell? (a.add (i * 3 + 2)) = some (.string o.val) := by
      intro i
      by_cases hlt : i < pn
      · obtain ⟨cs', hc, ht⟩ := hi i (by omega)
        rw [cells32] at hc
        obtain ⟨o, rfl⟩ := open_op ht
        obtain ⟨_, _, hat⟩ := World.cells?_some hc
        refine ⟨o, fun _ => ⟨?_, ?_, ?_⟩⟩
        · have := hat 0 (by omega); rw [Go.Deep.add_add] at this; exact this
        · have := hat 1 (by omega); rw [Go.Deep.add_add] at this; exact this
        · have := hat 2 (by omega); rw [Go.Deep.add_add] at this; exact this
      · exact ⟨⟨0, ⟨#[]⟩, ⟨#[]⟩⟩, fun h => absurd h hlt⟩
    let g : Nat → LOp := fun i => Classical.choose (each i)
    have hg : ∀ i, i < pn → w.cell? (a.add (i * 3)) = some (.int .i64 (g i).kind) ∧ w.cell? (a.add (i * 3 + 1)) = some (.string (g i).key) ∧ w.cell? (a.add (i * 3 + 2)) = some (.string (g i).val) := fun i => Classical.choose_spec (each i)
    have hcap' : pc ≤ 9223372036854775807 := Nat.le_trans hcap (by decide)
    refine ⟨(List.range pn).map g, ?_, by simp; omega⟩
    by_cases h0 : pn = 0
    · subst h0
      exact Or.inl ⟨some a, pc, rfl, rfl⟩
    · obtain ⟨b, off, spot⟩ := a
      have hspot : spot = none := by simpa [Addr.add] using World.cell?_spot (hg 0 (by omega)).1
      subst hspot
      refine Or.inr ⟨b, off, pc, by simp, fun i o ho => ?_⟩
      have hil : i < pn := by
        have := (List.getElem?_eq_some_iff.1 ho).1
        simpa using this
      have eo : o = g i := by
        rw [List.getElem?_map, List.getElem?_range hil] at ho
        simpa using ho.symm
      have h1 := hg i hil
      rw [eo]
      simp only [Go.WideShapes.add_plain] at h1
      exact ⟨h1.1, by rw [Nat.add_assoc]; exact h1.2.1, by rw [Nat.add_assoc]; exact h1.2.2⟩
theorem u8_arg {r : Int} (h : (Lit.int .u8 r).wf = true) : ∃ c : UInt8, r = (c.toNat : Int) := by
  have h' : 0 ≤ r ∧ r < 256 := by
    have e1 : IntKind.u8.min = 0 := by decide
    have e2 : IntKind.u8.max = 255 := by decide
    simp [Lit.wf] at h
    omega
  refine ⟨UInt8.ofNat r.toNat, ?_⟩
  have e : (UInt8.ofNat r.toNat).toNat = r.toNat := by
    rw [UInt8.toNat_ofNat']
    omega
  rw [e]
  omega
theorem open_opsV {H : Type} {enc : TypeId × Value → H} {w : World} {r : Reach} {b0 base : Nat} {spare : Nat → Bool} {held : Bool} {v : Value} {d : DataW H} {ps : List MemPlace} (hval : Value.okWide Try.prog w r b0 22 v) (h : DataW.Trod enc Try.prog w base spare held 22 v d ps) :
    ∃ ops : List LOp, OpsAt w v ops ∧ ops.length ≤ 9223372036854775807 := by
  obtain ⟨pa, pn, pc, rfl⟩ := okWide_slice Try.underlying22 hval
  obtain ⟨fuel, h⟩ := h
  exact open_ops h
end Go.Proofs.Ytelddnalpkhclaa
