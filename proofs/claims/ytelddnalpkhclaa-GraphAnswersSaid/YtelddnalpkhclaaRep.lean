/- How a graph lies in the heap, and what may turn while it is asked. -/
import Derived.Test.YtelddnalpkhclaaKeep
import Derived.Test.YtelddnalpkhclaaRule
namespace Go.Proofs.Ytelddnalpkhclaa
open Go.RowKit Go.Maps G

abbrev Adr := K → Option (Nat × Value)
def blk (A : Adr) : K → Option Nat := fun k => (A k).map Prod.fst
theorem blk_some {A : Adr} {k : K} {b : Nat} {nv : Value} (h : A k = some (b, nv)) : blk A k = some b := by unfold blk; rw [h]; rfl
theorem blk_inv {A : Adr} {k : K} {b : Nat} (h : blk A k = some b) : ∃ nv, A k = some (b, nv) := by
  unfold blk at h
  cases hA : A k with
  | none => rw [hA] at h; cases h
  | some p => rw [hA] at h; cases h; exact ⟨p.2, rfl⟩
theorem blk_none {A : Adr} {k : K} (h : A k = none) : blk A k = none := by unfold blk; rw [h]; rfl
theorem blk_ins (A : Adr) (k : K) (b : Nat) (nv : Value) : blk (ins A k (b, nv)) = ins (blk A) k b := by
  funext j
  unfold blk ins
  by_cases e : j = k
  · rw [if_pos e, if_pos e]; rfl
  · rw [if_neg e, if_neg e]
theorem blk_del (A : Adr) (k : K) : blk (del A k) = del (blk A) k := by
  funext j
  unfold blk del
  by_cases e : j = k
  · rw [if_pos e, if_pos e]; rfl
  · rw [if_neg e, if_neg e]

theorem ownsRow_fr {w w' : World} {may : Nat → Prop} {base : Nat} {e : TypeId} {size : Nat} {v : Value} {n : Nat} {xs : List Value} (h : w.ownsRow base e size v n xs) (hf : Fr w w' may) (hn : ∀ g, v.ownBlock = some g → ¬ may g) : w'.ownsRow base e size v n xs := by
  refine ⟨h.1, ?_⟩
  rcases h.2 with h0 | ⟨g, cap, cur, rfl, hb, hgg, rest⟩
  · exact .inl h0
  · exact .inr ⟨g, cap, cur, rfl, hb, hf.block' hgg (hn g rfl), rest⟩
theorem ownsRow_cells {w : World} {base : Nat} {e : TypeId} {size : Nat} {v : Value} {n : Nat} {xs : List Value} (h : w.ownsRow base e size v n xs) {g : Nat} (hg : v.ownBlock = some g) : ∃ cur, w.heap[g]? = some (.cells cur e (0, 0)) := by
  rcases h.2 with ⟨rfl, _⟩ | ⟨g', cap, cur, rfl, _, hgg, _⟩
  · cases hg
  · have : g' = g := by simpa [Value.ownBlock] using hg
    subst this
    exact ⟨cur, hgg⟩
theorem obj_ne {w : World} {a b : Nat} {o o' : Obj} (h : w.heap[a]? = some o) (h' : w.heap[b]? = some o') (hne : o ≠ o') : a ≠ b := fun e => by
  subst e
  rw [h] at h'
  exact hne (by cases h'; rfl)
theorem MapAt.obj {P : Program} {kt : TypeId} {w : World} {b n : Nat} {f : ByteArray → Option Value} (h : MapAt P kt w b n f) : ∃ es c, w.heap[b]? = some (.map es c) := by
  obtain ⟨D, ⟨es, clock, hb, _⟩, _⟩ := h
  exact ⟨es, clock, hb⟩
theorem cells_type {w : World} {a b : Nat} {cs cs' : Array Value} {t t' : TypeId} {f f' : Nat × Nat} (h : w.heap[a]? = some (.cells cs t f)) (h' : w.heap[b]? = some (.cells cs' t' f')) (hne : t ≠ t') : a ≠ b := obj_ne h h' (fun e => by injection e with _ e; exact hne e)
theorem cells_map {w : World} {a b : Nat} {cs : Array Value} {t : TypeId} {f : Nat × Nat} {es : Array MapEntry} {c : Nat} (h : w.heap[a]? = some (.cells cs t f)) (h' : w.heap[b]? = some (.map es c)) : a ≠ b := obj_ne h h' (fun e => by cases e)

def inpV (σ : St) : ByteArray → Option Value := fun k => (σ.inp k).map fun p => inV p.1 p.2
structure Rep (gb bi bm : Nat) (room : Int) (A : Adr) (sv : Value) (σ : St) (w : World) : Prop where
  graph : ∃ clock, w.heap[gb]? = some (.cells (graphCells (.func (.func 11) #[] #[]) bi bm room σ.now clock σ.runs sv) 56 (0, 0))
  stack : w.ownsRow 0 9 1 sv σ.stack.length (σ.stack.map .string)
  inp : ∃ ni : Nat, (ni : Int) ≤ σ.now ∧ MapAt Try.prog 9 w bi ni (inpV σ)
  memo : MapAt Try.prog 9 w bm σ.n (ptrs (blk A))
  has : ∀ k b nv, A k = some (b, nv) → ∃ m us, σ.memo k = some m ∧ w.heap[b]? = some (.cells (memoCells m.ans nv m.looked m.changed us) 68 (0, 0)) ∧ w.ownsRow 0 9 1 nv m.needs.length (m.needs.map .string) ∧ (∀ g, nv.ownBlock = some g → sv.ownBlock ≠ some g)
  dom : ∀ k, A k = none → σ.memo k = none
  inj : ∀ k j b nv nv', A k = some (b, nv) → A j = some (b, nv') → k = j
  ne : bi ≠ bm

def May (gb bm : Nat) (A : Adr) (S : List K) (sv : Value) (b : Nat) : Prop := b = gb ∨ b = bm ∨ sv.ownBlock = some b ∨ ∃ k nv, k ∉ S ∧ A k = some (b, nv)
structure Ext (gb bm : Nat) (S : List K) (A : Adr) (sv : Value) (w : World) (A' : Adr) (sv' : Value) (w' : World) : Prop where
  fr : Fr w w' (May gb bm A S sv)
  adr : ∀ k b nv, A' k = some (b, nv) → A k = some (b, nv) ∨ (w.heap.size ≤ b ∧ k ∉ S ∧ ∀ g, nv.ownBlock = some g → w.heap.size ≤ g)
  sv : ∀ g, sv'.ownBlock = some g → sv.ownBlock = some g ∨ w.heap.size ≤ g

section
variable {gb bi bm : Nat} {room : Int} {A A' A'' : Adr} {sv sv' sv'' : Value} {σ : St} {w w' w'' : World} {S T : List K}

theorem Ext.of_fr (h : Fr w w' (May gb bm A S sv)) : Ext gb bm S A sv w A sv w' := ⟨h, fun _ _ _ h => Or.inl h, fun _ h => Or.inl h⟩
theorem Ext.refl : Ext gb bm S A sv w A sv w := .of_fr (Fr.refl _ _)
theorem Ext.trans (h : Ext gb bm S A sv w A' sv' w') (k : Ext gb bm S A' sv' w' A'' sv'' w'') : Ext gb bm S A sv w A'' sv'' w'' := by
  have hs := h.fr.size
  refine ⟨h.fr.trans2 k.fr (fun i hi => ?_), fun j b nv hj => ?_, fun g hg => ?_⟩
  · rcases hi with e | e | e | ⟨j, nv, hj, e⟩
    · exact Or.inl (Or.inl e)
    · exact Or.inl (Or.inr (Or.inl e))
    · rcases h.sv i e with e | e
      · exact Or.inl (Or.inr (Or.inr (Or.inl e)))
      · exact Or.inr e
    · rcases h.adr j i nv e with e | e
      · exact Or.inl (Or.inr (Or.inr (Or.inr ⟨j, nv, hj, e⟩)))
      · exact Or.inr e.1
  · rcases k.adr j b nv hj with e | ⟨e1, e2, e3⟩
    · exact h.adr j b nv e
    · exact Or.inr ⟨by omega, e2, fun g hg => by have := e3 g hg; omega⟩
  · rcases k.sv g hg with e | e
    · exact h.sv g e
    · right; omega
theorem Ext.weak (h : Ext gb bm S A sv w A' sv' w') (hs : ∀ k, k ∈ T → k ∈ S) : Ext gb bm T A sv w A' sv' w' :=
  ⟨h.fr.mono (fun i hi => by
    rcases hi with e | e | e | ⟨j, nv, hj, e⟩
    · exact Or.inl e
    · exact Or.inr (Or.inl e)
    · exact Or.inr (Or.inr (Or.inl e))
    · exact Or.inr (Or.inr (Or.inr ⟨j, nv, fun x => hj (hs j x), e⟩))), fun j b nv hj => by
    rcases h.adr j b nv hj with e | ⟨e1, e2, e3⟩
    · exact Or.inl e
    · exact Or.inr ⟨e1, fun x => e2 (hs j x), e3⟩, h.sv⟩

/-! ### which blocks are which -/
theorem Rep.gb_bm (h : Rep gb bi bm room A sv σ w) : gb ≠ bm := by
  obtain ⟨_, hg⟩ := h.graph
  obtain ⟨_, _, hb⟩ := h.memo.obj
  exact cells_map hg hb
theorem Rep.gb_bi (h : Rep gb bi bm room A sv σ w) : gb ≠ bi := by
  obtain ⟨_, hg⟩ := h.graph
  obtain ⟨_, _, hm⟩ := h.inp
  obtain ⟨_, _, hb⟩ := hm.obj
  exact cells_map hg hb
theorem Rep.sv_ne (h : Rep gb bi bm room A sv σ w) {g : Nat} (hs : sv.ownBlock = some g) : g ≠ gb ∧ g ≠ bi ∧ g ≠ bm := by
  obtain ⟨_, hg⟩ := h.graph
  obtain ⟨_, _, hi⟩ := h.inp
  obtain ⟨_, _, hb⟩ := h.memo.obj
  obtain ⟨_, _, hb'⟩ := hi.obj
  obtain ⟨_, hc⟩ := ownsRow_cells h.stack hs
  exact ⟨cells_type hc hg (by decide), cells_map hc hb', cells_map hc hb⟩
theorem Rep.mb_ne (h : Rep gb bi bm room A sv σ w) {k : K} {b : Nat} {nv : Value} (hk : A k = some (b, nv)) : b ≠ gb ∧ b ≠ bi ∧ b ≠ bm ∧ sv.ownBlock ≠ some b := by
  obtain ⟨_, hg⟩ := h.graph
  obtain ⟨_, _, hi⟩ := h.inp
  obtain ⟨_, _, hb⟩ := h.memo.obj
  obtain ⟨_, _, hb'⟩ := hi.obj
  obtain ⟨m, us, _, hc, _⟩ := h.has k b nv hk
  refine ⟨cells_type hc hg (by decide), cells_map hc hb', cells_map hc hb, fun e => ?_⟩
  obtain ⟨_, hc'⟩ := ownsRow_cells h.stack e
  exact cells_type hc hc' (by decide) rfl
theorem Rep.nv_ne (h : Rep gb bi bm room A sv σ w) {k : K} {b : Nat} {nv : Value} (hk : A k = some (b, nv)) {g : Nat} (hn : nv.ownBlock = some g) : g ≠ gb ∧ g ≠ bi ∧ g ≠ bm ∧ sv.ownBlock ≠ some g ∧ ∀ j b' nv', A j = some (b', nv') → g ≠ b' := by
  obtain ⟨_, hg⟩ := h.graph
  obtain ⟨_, _, hi⟩ := h.inp
  obtain ⟨_, _, hb⟩ := h.memo.obj
  obtain ⟨_, _, hb'⟩ := hi.obj
  obtain ⟨m, us, _, _, ho, hs⟩ := h.has k b nv hk
  obtain ⟨_, hc⟩ := ownsRow_cells ho hn
  refine ⟨cells_type hc hg (by decide), cells_map hc hb', cells_map hc hb, hs g hn, fun j b' nv' hj => ?_⟩
  obtain ⟨m', us', _, hc', _⟩ := h.has j b' nv' hj
  exact cells_type hc hc' (by decide)
theorem Rep.lts (h : Rep gb bi bm room A sv σ w) : gb < w.heap.size ∧ bi < w.heap.size ∧ bm < w.heap.size ∧ (∀ g, sv.ownBlock = some g → g < w.heap.size) ∧ ∀ k b nv, A k = some (b, nv) → b < w.heap.size ∧ ∀ g, nv.ownBlock = some g → g < w.heap.size := by
  obtain ⟨_, hg⟩ := h.graph
  obtain ⟨_, _, hi⟩ := h.inp
  refine ⟨ltB hg, hi.lt, h.memo.lt, fun g hs => (h.stack.lt g hs).2, fun k b nv hk => ?_⟩
  obtain ⟨m, us, _, hc, ho, _⟩ := h.has k b nv hk
  exact ⟨ltB hc, fun g hs => (ho.lt g hs).2⟩
/-- what does not lie in a graph is not turned by asking it -/
theorem Rep.not_may (h : Rep gb bi bm room A sv σ w) {b : Nat} {cs : Array Value} {t : TypeId} (hb : w.heap[b]? = some (.cells cs t (0, 0))) (h1 : t ≠ 56) (h2 : t ≠ 68) (h3 : t ≠ 9) : ¬ May gb bm A S sv b := by
  obtain ⟨_, hg⟩ := h.graph
  obtain ⟨_, _, hbm⟩ := h.memo.obj
  rintro (e | e | e | ⟨k, nv, _, e⟩)
  · exact cells_type hb hg h1 e
  · exact cells_map hb hbm e
  · obtain ⟨_, hc⟩ := ownsRow_cells h.stack e
    exact cells_type hb hc h3 rfl
  · obtain ⟨m, us, _, hc, _⟩ := h.has k b nv e
    exact cells_type hb hc h2 rfl

/-! ### what it lies in has not turned -/
theorem Rep.keep (h : Rep gb bi bm room A sv σ w) {may : Nat → Prop} (hf : Fr w w' may) (h1 : ¬ may gb) (h2 : ¬ may bi) (h3 : ¬ may bm) (h4 : ∀ g, sv.ownBlock = some g → ¬ may g)
    (h5 : ∀ k b nv, A k = some (b, nv) → ¬ may b ∧ ∀ g, nv.ownBlock = some g → ¬ may g) : Rep gb bi bm room A sv σ w' := by
  obtain ⟨clock, hg⟩ := h.graph
  obtain ⟨ni, hn, hi⟩ := h.inp
  refine ⟨⟨clock, hf.block' hg h1⟩, ownsRow_fr h.stack hf h4, ⟨ni, hn, hi.fr hf h2⟩, h.memo.fr hf h3, fun k b nv hk => ?_, h.dom, h.inj, h.ne⟩
  obtain ⟨m, us, e1, e2, e3, e4⟩ := h.has k b nv hk
  exact ⟨m, us, e1, hf.block' e2 (h5 k b nv hk).1, ownsRow_fr e3 hf (h5 k b nv hk).2, e4⟩
theorem Rep.far (h : Rep gb bi bm room A sv σ w) {may : Nat → Prop} (hf : Fr w w' may) (hm : ∀ i, may i → w.heap.size ≤ i) : Rep gb bi bm room A sv σ w' := by
  obtain ⟨l1, l2, l3, l4, l5⟩ := h.lts
  refine h.keep hf (fun x => ?_) (fun x => ?_) (fun x => ?_) (fun g hg x => ?_) (fun k b nv hk => ⟨fun x => ?_, fun g hg x => ?_⟩)
  · have := hm _ x; omega
  · have := hm _ x; omega
  · have := hm _ x; omega
  · have := hm _ x; have := l4 g hg; omega
  · have := hm _ x; have := (l5 k b nv hk).1; omega
  · have := hm _ x; have := (l5 k b nv hk).2 g hg; omega
theorem Rep.same (h : Rep gb bi bm room A sv σ w) (hf : Fr w w' (fun _ => False)) : Rep gb bi bm room A sv σ w' := h.far hf (fun _ x => x.elim)

/-- the graph's own cells have turned: the clock, the runs, the stack -/
theorem Rep.own (h : Rep gb bi bm room A sv σ w) (hf : Fr w w' (fun b => b = gb ∨ sv.ownBlock = some b)) {clock runs : Int} {st : List K} (hg : w'.heap[gb]? = some (.cells (graphCells (.func (.func 11) #[] #[]) bi bm room σ.now clock runs sv') 56 (0, 0)))
    (hst : w'.ownsRow 0 9 1 sv' st.length (st.map .string)) (hsv : ∀ g, sv'.ownBlock = some g → sv.ownBlock = some g ∨ w.heap.size ≤ g) : Rep gb bi bm room A sv' { σ with runs := runs, stack := st } w' := by
  obtain ⟨ni, hn, hi⟩ := h.inp
  refine ⟨⟨clock, hg⟩, hst, ⟨ni, hn, hi.fr hf ?_⟩, h.memo.fr hf ?_, fun k b nv hk => ?_, h.dom, h.inj, h.ne⟩
  · rintro (e | e)
    · exact h.gb_bi e.symm
    · exact (h.sv_ne e).2.1 rfl
  · rintro (e | e)
    · exact h.gb_bm e.symm
    · exact (h.sv_ne e).2.2 rfl
  · obtain ⟨m, us, e1, e2, e3, e4⟩ := h.has k b nv hk
    have hb := h.mb_ne hk
    refine ⟨m, us, e1, hf.block' e2 ?_, ownsRow_fr e3 hf (fun g hg => ?_), fun g hg e => ?_⟩
    · rintro (e | e)
      · exact hb.1 e
      · exact hb.2.2.2 e
    · rintro (e | e)
      · exact (h.nv_ne hk hg).1 e
      · exact (h.nv_ne hk hg).2.2.2.1 e
    · rcases hsv g e with e' | e'
      · exact e4 g hg e'
      · have := (h.lts.2.2.2.2 k b nv hk).2 g hg
        omega
end

def retA : Ans → Ending
  | .ok s t => .returned (.tuple #[.string s, .int .i64 t, .int .i64 0])
  | .err e => .returned (.tuple #[.string ⟨#[]⟩, .int .i64 0, .int .i64 e])
def ErrOk : Ans → Prop
  | .ok _ _ => True
  | .err e => e = 3 ∨ e = 4
/-- what comes of a call that hands an answer on -/
def Post (gb bi bm : Nat) (room : Int) (S : List K) (A : Adr) (sv : Value) (w : World) (R : Ans → St → Prop) (e : Ending) (w' : World) : Prop :=
  ∃ r σ' A' sv', e = retA r ∧ ErrOk r ∧ R r σ' ∧ Rep gb bi bm room A' sv' σ' w' ∧ Ext gb bm S A sv w A' sv' w'
end Go.Proofs.Ytelddnalpkhclaa
