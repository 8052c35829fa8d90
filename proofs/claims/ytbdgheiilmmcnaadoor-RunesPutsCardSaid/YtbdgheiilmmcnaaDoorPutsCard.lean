/- RunesPuts is proved: for every input the law returns true; the listed tables of unicode/utf8 read as the program's text lays them (the card's tie, given). -/
import Derived.Test.YtbdgheiilmmcnaaDoorCards
import Derived.Test.YtbdgheiilmmcnaaDoorTie
import Derived.Test.YtbdgheiilmmcnaaDoorPuts
import Derived.Test.YtbdgheiilmmcnaaDoorBase
import Derived.Test.YtbdgheiilmmcnaaDoorKit
namespace Go.Proofs.YtbdgheiilmmcnaaDoor.lawPuts
open Go Go.Proofs Go.ChangeShapes Go.WideShapes Go.ChangeAt Go.RowKit
open Go.ChangeMaps (open_string shut_string)

theorem laidOut : laidOutB Tryd.prog = true := by kernel_rfl
theorem cells21 : Tryd.prog.cellsOf 21 = 1 := by kernel_rfl
theorem readable (t : TypeId) (ht : t ∈ Tryd.f6.params.toList) : Tryd.prog.readableRec t = true ∧ t < Tryd.prog.types.size := by
  rw [Tryd.params6] at ht
  have hall : ([9, 38].all fun t => Tryd.prog.readableRec t && decide (t < Tryd.prog.types.size)) = true := by kernel_rfl
  have := List.all_eq_true.1 hall t (by simpa using ht)
  simpa using this
theorem contract (H : Type) (enc : TypeId × Value → H) (W : World) (base : Nat) (args : Array Value) (ds gs : List (DataW H)) (before : List MemPlace)
    (hval : ∀ (j : Nat) t v, Tryd.f6.params[j]? = some t → args[j]? = some v → Value.okWide Tryd.prog W .any base t v)
    (hW : DataW.Whole enc Tryd.prog Tryd.f6.params.toList Rows.runesPutsSpec.vars false W args.toList ds gs before) (hL : laidMetH Tryd.prog R.laidL W) :
    Calls Tryd.prog 6 args W fun e W' => ∃ v, e = .returned v ∧ Rows.runesPutsSpec.post enc Tryd.prog Tryd.f6 false true false false W args v W' := by
  have hW' := hW
  have hT := R.tabs hL
  obtain ⟨p, q, hA0, hV, rfl, hfz, hnd⟩ := hW
  have hA : DataW.TrodAll enc Tryd.prog W 0 (fun _ => true) true Tryd.f6.params.toList args.toList ds p := hA0
  rw [Tryd.params6] at hA hval
  obtain ⟨v0, v1, d0, d1, p0, p1, rfl, rfl, rfl, h0, h1⟩ := trodAll_two hA
  obtain ⟨rfl, rfl⟩ := trodVars_none hV
  suffices hwalk : Calls Tryd.prog 6 #[v0, v1] W (R.TrueB W) by
    refine hwalk.mono fun e W' ⟨he, hb⟩ => ⟨_, he, ?_⟩
    exact LawKit.post_true laidOut readable rfl rfl Tryd.underlying4 rfl hW' hb
  obtain ⟨s, rfl, rfl, rfl, _⟩ := open_string Tryd.underlying9 (hval 0 9 v0 rfl rfl) h0
  obtain ⟨pa, pn, pc, rfl⟩ := okWide_slice Tryd.underlying38 (hval 1 38 v1 rfl rfl)
  obtain ⟨fuel, hf⟩ := h1
  have hcells : (Value.slice pa pn pc).cells.toList = [.slice pa pn pc] := rfl
  rw [hcells] at hf
  rcases open_ints Tryd.underlying38 Tryd.underlying21 cells21 hf with ⟨hcs, _⟩ | ⟨a, len, cap, zs, hcs, _, hlc, _, hzl, _, hc, hwf⟩
  · simp only [List.cons.injEq, Value.slice.injEq, and_true] at hcs
    obtain ⟨rfl, rfl, rfl⟩ := hcs
    exact R.puts_walk s _ [] W hT (fun z hz => by cases hz) (Or.inl ⟨rfl, none, 0, rfl⟩)
  · simp only [List.cons.injEq, Value.slice.injEq, and_true] at hcs
    obtain ⟨rfl, rfl, rfl⟩ := hcs
    have hzc : zs.length = pc := by simpa using hzl
    have hlz : (zs.take pn).length = pn := by rw [List.length_take]; omega
    refine R.puts_walk s _ (zs.take pn) W hT (fun z hz => ?_) ?_
    · have := hwf z (List.mem_of_mem_take hz)
      simpa [Lit.wf, IntKind.min, IntKind.max, IntKind.signed, IntKind.bits] using this
    · by_cases h0 : pn = 0
      · subst h0
        exact Or.inl ⟨by simp, some a, pc, rfl⟩
      · obtain ⟨b, off, rfl, hcell⟩ := ints_at hc (by omega)
        have hbl : b < W.heap.size := World.block_lt_of_cell? _ _ (hcell 0 (by omega))
        refine Or.inr ⟨b, off, pc, by rw [hlz], hbl, fun i hi => ?_⟩
        rw [hlz] at hi
        rw [hcell i (by omega)]
        simp [List.getD_eq_getElem?_getD, hi]

theorem reads (os : Os) {H : Type} (enc : TypeId × Value → H) : ∃ places, DataW.whole enc Tryd.prog ((R.laidWorld os).forCall (fun _ _ => 0) ⟨#[], #[.string ⟨#[]⟩, .slice none 0 0], []⟩).memory Tryd.f6.params.toList Rows.runesPutsSpec.vars false #[Value.string ⟨#[]⟩, .slice none 0 0].toList 8 = some ([.lit (.string []), .nil], [], places) :=
  ⟨[], by kernel_rfl⟩

set_option maxRecDepth 100000 in
theorem lifted (os : Os) (started : os.Started) (H : Type) (enc : TypeId × Value → H) (F : Stop.Interp) :
    ReturnsInHanded {} Tryd.checked os 6 .any ((OpenSpec.ofChange Rows.runesPutsSpec).preRow enc Tryd.prog Tryd.f6 Rows.runesPutsRow.domain false Rows.runesPutsRow.laid) (((OpenSpec.ofChange Rows.runesPutsSpec).at F).post enc Tryd.prog Tryd.f6 false true false false) := by
  obtain ⟨places, hx⟩ := reads os enc
  refine returnsInHanded_of_row (C := Tryd.checked) (s := OpenSpec.ofChange Rows.runesPutsSpec) R.own started (by kernel_rfl) Tryd.func6
    (witness_row_at (enc := enc) (C := Tryd.checked) false (R.laidWorld os) #[.string ⟨#[]⟩, .slice none 0 0] rfl (by kernel_rfl) (by kernel_rfl) (by kernel_rfl)
      (OpenSpec.preRow_of_cond 8 hx (by kernel_rfl) (fun k hk => by cases hk) (by kernel_rfl) (R.laid_met os _))) ?_
  intro W base args ds gs before hval hW _ _ _ hL _ _
  exact contract H enc W base args ds gs before hval hW hL

theorem said : Rows.RunesPutsSaid :=
  OpenClaim.holds_of_cond 6 Tryd.f6 rfl rfl rfl rfl rfl rfl rfl ⟨rfl, rfl, rfl, rfl, rfl⟩ rfl rfl rfl rfl rfl (by kernel_rfl) Tryd.func6 (by kernel_rfl)
    (of_decide_eq_true (by kernel_rfl)) (by unfold Func.isWrapper; first | (rw [if_pos (by decide +kernel)]; kernel_rfl) | (rw [if_neg (by decide +kernel)]; exact ⟨rfl, rfl⟩))
    (fun os started H enc _ F => by rw [OpenClaim.pre_eq_preRow]; exact lifted os started H enc F)

theorem plain (f : FuncId) (fn : Func) (hf : Tryd.pinned.checked.prog.funcNamed "whetstone/whetstonelaw03.RunesPuts" = some f) (hfn : Tryd.pinned.checked.prog.funcs[f]? = some fn) :
    false = Tryd.pinned.checked.prog.looks [] ∧ ∀ (j : Nat) t, fn.params[j]? = some t → Tryd.pinned.checked.prog.wantsStandIn t = false := by
  obtain rfl : f = 6 := Option.some.inj ((show Tryd.prog.funcNamed "whetstone/whetstonelaw03.RunesPuts" = some 6 by kernel_rfl).symm.trans hf) |>.symm
  obtain rfl : fn = Tryd.f6 := (Option.some.inj (Tryd.func6.symm.trans hfn)).symm
  refine ⟨by kernel_rfl, fun j t ht => ?_⟩
  rw [Tryd.params6] at ht
  have hm : t ∈ [9, 38] := by simpa using Array.mem_of_getElem? ht
  have hall : ([9, 38].all fun u => !Tryd.prog.wantsStandIn u) = true := by kernel_rfl
  exact (show Tryd.prog.wantsStandIn t = false by simpa using List.all_eq_true.1 hall t hm)

theorem card : Rows.RunesPutsCardSaid :=
  Claim7.holds_tied_plain_at .later [] _ _ _ _ said (fun _ h => by cases h) (by kernel_rfl) (fun _ h => by cases h) runesPuts_row_tie rfl ⟨rfl, rfl⟩ (by kernel_rfl) rfl plain (by kernel_rfl)
end Go.Proofs.YtbdgheiilmmcnaaDoor.lawPuts
