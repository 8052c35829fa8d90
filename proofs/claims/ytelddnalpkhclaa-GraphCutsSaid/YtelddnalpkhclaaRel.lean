/- Plain: what asking does to what is known (a relation), and that it keeps what is known right: no program in sight. -/
import Derived.Test.YtelddnalpkhclaaTree
import Derived.RowKit
namespace Go.Proofs.Ytelddnalpkhclaa.G

theorem orMap {a b c d : Prop} (f : a → c) (g : b → d) (h : a ∨ b) : c ∨ d := h.elim (fun x => Or.inl (f x)) (fun x => Or.inr (g x))
structure Memo where
  ans : K
  needs : List K
  looked : Int
  changed : Int
structure St where
  inp : K → Option (K × Int)
  memo : K → Option Memo
  n : Nat
  now : Int
  runs : Int
  stack : List K
inductive Ans where
  | ok (s : K) (t : Int)
  | err (e : Int)
def St.I (σ : St) : K → Option K := fun k => (σ.inp k).map Prod.fst

section
variable {α : Type}
def ins (f : K → Option α) (k : K) (m : α) : K → Option α := fun j => if j = k then some m else f j
def del (f : K → Option α) (k : K) : K → Option α := fun j => if j = k then none else f j
def insC (f : K → Option α) (k : K) (n : Nat) : Nat := if (f k).isSome then n else n + 1
def delC (f : K → Option α) (k : K) (n : Nat) : Nat := if (f k).isSome then n - 1 else n
def Card (f : K → Option α) (n : Nat) : Prop := ∃ L : List K, L.Nodup ∧ L.length = n ∧ ∀ k, k ∈ L ↔ (f k).isSome
inductive Ev (f0 : K → Option α) (n0 : Nat) : (K → Option α) → Nat → Prop
  | refl : Ev f0 n0 f0 n0
  | drop {f : K → Option α} {n : Nat} (k : K) : Ev f0 n0 f n → (f k).isSome → Ev f0 n0 (del f k) (n - 1)
end
def touch (f : K → Option Memo) (k : K) (t : Int) : K → Option Memo := fun j => if j = k then (f k).map (fun m => { m with looked := t }) else f j

section
variable (rt : K → Tree) (room : Int) (A : St → K → Ans → St → Prop)
def Chain : St → List (K × K) → St → Prop
  | σ, [], σ' => σ' = σ
  | σ, (k, v) :: vs, σ' => ∃ t σ1, A σ k (.ok v t) σ1 ∧ Chain σ1 vs σ'
def HoldsR (L : Int) : St → List K → Bool → St → Prop
  | σ, [], b, σ' => b = true ∧ σ' = σ
  | σ, k :: ks, b, σ' => (∃ e σ1, A σ k (.err e) σ1 ∧ b = false ∧ σ' = σ1) ∨ (∃ s t σ1, A σ k (.ok s t) σ1 ∧ L < t ∧ b = false ∧ σ' = σ1) ∨ (∃ s t σ1, A σ k (.ok s t) σ1 ∧ t ≤ L ∧ HoldsR L σ1 ks b σ')
def KeepR (σ : St) (k : K) (m : Memo) (σ' : St) : Prop :=
  ∃ f n, Ev (ins σ.memo k m) (insC σ.memo k σ.n) f n ∧ (n : Int) ≤ room ∧ ((insC σ.memo k σ.n : Int) ≤ room → f = ins σ.memo k m ∧ n = insC σ.memo k σ.n) ∧ σ' = { σ with memo := f, n := n }
def dropM (σ : St) (k : K) : St := { σ with memo := del σ.memo k, n := delC σ.memo k σ.n }
def chg (was : Option Memo) (s : K) (now : Int) : Int := match was with
  | some m => if m.ans = s then m.changed else now
  | none => now
def ReckonR (σ : St) (k : K) (was : Option Memo) (r : Ans) (σ' : St) : Prop :=
  ∃ vs σ1, Chain A { σ with runs := Go.RowKit.wrap64 (σ.runs + 1) } vs σ1 ∧
    ((∃ s, goT (rt k) vs = some (.ret (.ok s)) ∧ r = .ok s (chg was s σ.now) ∧ KeepR room σ1 k ⟨s, vs.map Prod.fst, σ.now, chg was s σ.now⟩ σ')
    ∨ (∃ e, goT (rt k) vs = some (.ret (.err e)) ∧ r = .err e ∧ σ' = dropM σ1 k)
    ∨ (∃ j c e σ2, goT (rt k) vs = some (.ask j c) ∧ A σ1 j (.err e) σ2 ∧ r = .err e ∧ σ' = dropM σ2 k))
def KnownR (σ : St) (k : K) (r : Ans) (σ' : St) : Prop :=
  (∃ m, σ.memo k = some m ∧ m.looked = σ.now ∧ r = .ok m.ans m.changed ∧ σ' = σ)
  ∨ (∃ m σ1, σ.memo k = some m ∧ m.looked ≠ σ.now ∧ HoldsR A m.looked σ m.needs true σ1 ∧ r = .ok m.ans m.changed ∧ σ' = { σ1 with memo := touch σ1.memo k σ1.now })
  ∨ (∃ m σ1, σ.memo k = some m ∧ m.looked ≠ σ.now ∧ HoldsR A m.looked σ m.needs false σ1 ∧ ReckonR rt room A σ1 k (some m) r σ')
  ∨ (σ.memo k = none ∧ ReckonR rt room A σ k none r σ')
end
def AskR (rt : K → Tree) (room : Int) : Nat → St → K → Ans → St → Prop
  | 0, _, _, _, _ => False
  | f + 1, σ, k, r, σ' => (∃ v c, σ.inp k = some (v, c) ∧ r = .ok v c ∧ σ' = σ) ∨ (σ.inp k = none ∧ k ∈ σ.stack ∧ r = .err 4 ∧ σ' = σ) ∨
    (σ.inp k = none ∧ k ∉ σ.stack ∧ ∃ σ1, KnownR rt room (AskR rt room f) { σ with stack := σ.stack ++ [k] } k r σ1 ∧ σ' = { σ1 with stack := σ.stack })

/-! ### how many -/
section
variable {α : Type}
theorem ins_same (f : K → Option α) (k : K) (m : α) : ins f k m k = some m := by simp [ins]
theorem ins_other (f : K → Option α) {k j : K} (m : α) (h : j ≠ k) : ins f k m j = f j := by simp [ins, h]
theorem del_same (f : K → Option α) (k : K) : del f k k = none := by simp [del]
theorem del_other (f : K → Option α) {k j : K} (h : j ≠ k) : del f k j = f j := by simp [del, h]
theorem Card.ins {f : K → Option α} {n : Nat} (h : Card f n) (k : K) (m : α) : Card (ins f k m) (insC f k n) := by
  obtain ⟨L, h1, h2, h3⟩ := h
  unfold insC
  cases hk : (f k).isSome with
  | true =>
    refine ⟨L, h1, by simpa using h2, fun j => ?_⟩
    by_cases e : j = k
    · subst e; simp [G.ins, h3, hk]
    · rw [ins_other f m e]; exact h3 j
  | false =>
    refine ⟨k :: L, List.nodup_cons.2 ⟨fun x => (by rw [(h3 k).1 x] at hk; cases hk), h1⟩, by simp [h2], fun j => ?_⟩
    by_cases e : j = k
    · subst e; simp [G.ins]
    · rw [ins_other f m e, ← h3 j]; simp [e]
theorem Card.del {f : K → Option α} {n : Nat} (h : Card f n) (k : K) : Card (del f k) (delC f k n) := by
  obtain ⟨L, h1, h2, h3⟩ := h
  unfold delC
  cases hk : (f k).isSome with
  | true =>
    refine ⟨L.erase k, h1.erase k, by rw [List.length_erase_of_mem ((h3 k).2 hk), h2]; rfl, fun j => ?_⟩
    by_cases e : j = k
    · subst e
      rw [del_same]
      simpa using fun x => (List.Nodup.mem_erase_iff h1).1 x |>.1 rfl
    · rw [del_other f e, List.mem_erase_of_ne e]; exact h3 j
  | false =>
    refine ⟨L, h1, by simpa using h2, fun j => ?_⟩
    by_cases e : j = k
    · subst e; rw [del_same, h3, hk]; simp
    · rw [del_other f e]; exact h3 j
theorem Card.drop {f : K → Option α} {n : Nat} (h : Card f n) (k : K) (hk : (f k).isSome) : Card (G.del f k) (n - 1) := by
  have := h.del k
  unfold delC at this
  rw [if_pos hk] at this
  exact this
theorem Ev.card {f0 f : K → Option α} {n0 n : Nat} (h : Ev f0 n0 f n) (h0 : Card f0 n0) : Card f n := by
  induction h with
  | refl => exact h0
  | drop k _ hk ih => exact ih.drop k hk
theorem Ev.sub {f0 f : K → Option α} {n0 n : Nat} (h : Ev f0 n0 f n) (j : K) : f j = none ∨ f j = f0 j := by
  induction h with
  | refl => exact Or.inr rfl
  | drop k _ _ ih =>
    by_cases e : j = k
    · subst e; exact Or.inl (del_same _ _)
    · rw [del_other _ e]; exact ih
theorem Card.le {f : K → Option α} {n : Nat} (h : Card f n) (U : List K) (hs : ∀ k, (f k).isSome → k ∈ U) : n ≤ U.length := by
  obtain ⟨L, h1, h2, h3⟩ := h
  rw [← h2]
  exact nodup_sub_length L U h1 (fun x hx => hs x ((h3 x).1 hx))
end

/-! ### what is kept right -/
/-- a need's answer, as it was looked at by time L, still stands where nothing is younger -/
def OldAt (σ : St) (L : Int) (j v : K) : Prop := (∀ u c, σ.inp j = some (u, c) → c ≤ L → u = v) ∧ (∀ m, σ.memo j = some m → m.changed ≤ L → m.ans = v)
section
variable (rt : K → Tree) (big : Prop)
def Fresh (σ : St) (j : K) : Prop := (∀ m, σ.memo j = some m → m.looked = σ.now) ∧ (big → σ.inp j ≠ none ∨ σ.memo j ≠ none)
structure Inv (σ : St) : Prop where
  card : Card σ.memo σ.n
  noinp : ∀ k m, σ.memo k = some m → σ.inp k = none
  time : ∀ k m, σ.memo k = some m → m.changed ≤ m.looked ∧ m.looked ≤ σ.now
  itime : ∀ k v c, σ.inp k = some (v, c) → c ≤ σ.now
  good : ∀ k m, σ.memo k = some m → ∃ vs, goT (rt k) vs = some (.ret (.ok m.ans)) ∧ vs.map Prod.fst = m.needs ∧
    (m.looked < σ.now → ∀ p ∈ vs, OldAt σ m.looked p.1 p.2) ∧ (m.looked = σ.now → ∀ p ∈ vs, Good rt σ.I p.1 p.2 ∧ Fresh big σ p.1)
/-- what a step leaves as it was -/
structure Step (S : List K) (σ σ' : St) : Prop where
  inv : Inv rt big σ'
  inp : σ'.inp = σ.inp
  now : σ'.now = σ.now
  stack : σ'.stack = σ.stack
  ents : ∀ j, σ'.memo j = none ∨ σ'.memo j = σ.memo j ∨ (j ∉ S ∧ ∃ m, σ'.memo j = some m ∧ m.looked = σ.now)
  kept : big → ∀ j m, σ.memo j = some m → m.looked = σ.now ∨ j ∈ S → σ'.memo j ≠ none
  old : ∀ L, L < σ.now → ∀ j v, OldAt σ L j v → OldAt σ' L j v
end
variable {rt : K → Tree} {big : Prop} {S : List K}
theorem Step.refl {σ : St} (h : Inv rt big σ) : Step rt big S σ σ := ⟨h, rfl, rfl, rfl, fun _ => Or.inr (Or.inl rfl), fun _ j m h _ e => (by rw [h] at e; cases e), fun _ _ _ _ h => h⟩
theorem Step.trans {a b c : St} (h : Step rt big S a b) (k : Step rt big S b c) : Step rt big S a c := by
  refine ⟨k.inv, k.inp.trans h.inp, k.now.trans h.now, k.stack.trans h.stack, fun j => ?_, fun hb j m hj hl => ?_, fun L hL j v ho => k.old L (by rw [h.now]; exact hL) j v (h.old L hL j v ho)⟩
  · rcases k.ents j with e | e | ⟨e1, m, e2, e3⟩
    · exact Or.inl e
    · rcases h.ents j with f | f | ⟨f1, m, f2, f3⟩
      · exact Or.inl (e.trans f)
      · exact Or.inr (Or.inl (e.trans f))
      · exact Or.inr (Or.inr ⟨f1, m, e.trans f2, f3⟩)
    · exact Or.inr (Or.inr ⟨e1, m, e2, e3.trans h.now⟩)
  · have h1 := h.kept hb j m hj hl
    rcases h.ents j with f | f | ⟨_, m', f2, f3⟩
    · exact absurd f h1
    · exact k.kept hb j m (f.trans hj) (orMap (fun x => x.trans h.now.symm) id hl)
    · exact k.kept hb j m' f2 (Or.inl (f3.trans h.now.symm))
theorem Step.I {a b : St} (h : Step rt big S a b) : b.I = a.I := by unfold St.I; rw [h.inp]
theorem Fresh.step {a b : St} {j : K} (hf : Fresh big a j) (h : Step rt big S a b) : Fresh big b j := by
  refine ⟨fun m hm => ?_, fun hb => ?_⟩
  · rcases h.ents j with f | f | ⟨_, m', f2, f3⟩
    · rw [hm] at f; cases f
    · rw [h.now]; exact hf.1 m (f.symm.trans hm)
    · rw [f2] at hm; cases hm; rw [h.now]; exact f3
  · rw [h.inp]
    rcases hf.2 hb with f | f
    · exact Or.inl f
    · right
      cases hm : a.memo j with
      | none => exact absurd hm f
      | some m => exact h.kept hb j m hm (Or.inl (hf.1 m hm))

theorem Step.weak {T : List K} {a b : St} (h : Step rt big S a b) (hs : ∀ j, j ∈ T → j ∈ S) : Step rt big T a b :=
  ⟨h.inv, h.inp, h.now, h.stack, fun j => by
    rcases h.ents j with e | e | ⟨e1, e2⟩
    · exact Or.inl e
    · exact Or.inr (Or.inl e)
    · exact Or.inr (Or.inr ⟨fun x => e1 (hs j x), e2⟩), fun hb j m hj hl => h.kept hb j m hj (orMap id (hs j) hl), h.old⟩
theorem Inv.runs {σ : St} (h : Inv rt big σ) (x : Int) : Inv rt big { σ with runs := x } := ⟨h.card, h.noinp, h.time, h.itime, h.good⟩
theorem Inv.stack {σ : St} (h : Inv rt big σ) (x : List K) : Inv rt big { σ with stack := x } := ⟨h.card, h.noinp, h.time, h.itime, h.good⟩

/-- with some memos gone -/
theorem Inv.less {σ : St} (h : Inv rt big σ) (f : K → Option Memo) (n : Nat) (hc : Card f n) (hsub : ∀ j, f j = none ∨ f j = σ.memo j)
    (hkept : big → ∀ j m, σ.memo j = some m → m.looked = σ.now ∨ j ∈ S → f j ≠ none) : Step rt big S σ { σ with memo := f, n := n } := by
  have hmem : ∀ {j m}, f j = some m → σ.memo j = some m := fun {j m} hj => by
    rcases hsub j with e | e
    · rw [e] at hj; cases hj
    · exact e.symm.trans hj
  have hold : ∀ L j v, OldAt σ L j v → OldAt { σ with memo := f, n := n } L j v := fun L j v ho => ⟨ho.1, fun m hm => ho.2 m (hmem hm)⟩
  refine ⟨⟨hc, fun j m hj => h.noinp j m (hmem hj), fun j m hj => h.time j m (hmem hj), h.itime, fun j m hj => ?_⟩, rfl, rfl, rfl, fun j => ?_, hkept, fun L _ j v => hold L j v⟩
  · obtain ⟨vs, h1, h2, h3, h4⟩ := h.good j m (hmem hj)
    refine ⟨vs, h1, h2, fun hl p hp => hold _ _ _ (h3 hl p hp), fun hl p hp => ⟨(h4 hl p hp).1, ?_⟩⟩
    have hf := (h4 hl p hp).2
    refine ⟨fun m' hm' => hf.1 m' (hmem hm'), fun hb => ?_⟩
    rcases hf.2 hb with g | g
    · exact Or.inl g
    · right
      cases hm : σ.memo p.1 with
      | none => exact absurd hm g
      | some m' => exact hkept hb _ m' hm (Or.inl (hf.1 m' hm))
  · rcases hsub j with e | e
    · exact Or.inl e
    · exact Or.inr (Or.inl e)
theorem Inv.drop {σ : St} (h : Inv rt big σ) {k : K} (hS : k ∉ S) (hk : ∀ m, σ.memo k = some m → m.looked ≠ σ.now) : Step rt big S σ (dropM σ k) := by
  refine h.less _ _ (h.card.del k) (fun j => ?_) (fun _ j m hj hl => ?_)
  · by_cases e : j = k
    · subst e; exact Or.inl (del_same _ _)
    · exact Or.inr (del_other _ e)
  · have hne : j ≠ k := fun e => by
      subst e
      rcases hl with hl | hl
      · exact hk m hj hl
      · exact hS hl
    rw [del_other _ hne, hj]
    exact fun e => by cases e

/-- with a memo that was looked at just now -/
theorem Inv.put {σs σ1 : St} {ab : List K} {k : K} (h0 : Inv rt big σs) (hs : Step rt big (ab ++ [k]) σs σ1) (hk : k ∉ ab) (m' : Memo) (hi : σs.inp k = none) (vs : List (K × K)) (hgo : goT (rt k) vs = some (.ret (.ok m'.ans)))
    (hneeds : vs.map Prod.fst = m'.needs) (hlook : m'.looked = σs.now) (hch : m'.changed ≤ σs.now) (hvs : ∀ p ∈ vs, Good rt σs.I p.1 p.2 ∧ Fresh big σ1 p.1)
    (hl : ∀ m, σs.memo k = some m → m.looked ≠ σs.now) (hold : ∀ L v, L < σs.now → OldAt σs L k v → m'.changed ≤ L → m'.ans = v) :
    Step rt big ab σs { σ1 with memo := ins σ1.memo k m', n := insC σ1.memo k σ1.n } := by
  have hold' : ∀ L, L < σs.now → ∀ j v, OldAt σs L j v → OldAt { σ1 with memo := ins σ1.memo k m', n := insC σ1.memo k σ1.n } L j v := by
    intro L hL j v ho
    by_cases e : j = k
    · subst e
      refine ⟨(hs.old L hL j v ho).1, fun m hm hc => ?_⟩
      have e' : ins σ1.memo j m' j = some m := hm
      rw [ins_same] at e'
      cases e'
      exact hold L v hL ho hc
    · refine ⟨(hs.old L hL j v ho).1, fun m hm hc => ?_⟩
      have e' : ins σ1.memo k m' j = some m := hm
      rw [ins_other _ _ e] at e'
      exact (hs.old L hL j v ho).2 m e' hc
  have hfr : ∀ j, Fresh big σ1 j → Fresh big { σ1 with memo := ins σ1.memo k m', n := insC σ1.memo k σ1.n } j := by
    intro j hf
    by_cases e : j = k
    · subst e
      refine ⟨fun m hm => ?_, fun _ => Or.inr ?_⟩
      · have e' : ins σ1.memo j m' j = some m := hm
        rw [ins_same] at e'
        cases e'
        exact hlook.trans hs.now.symm
      · show ins σ1.memo j m' j ≠ none
        rw [ins_same]
        exact fun e => by cases e
    · refine ⟨fun m hm => hf.1 m ?_, fun hb => ?_⟩
      · have e' : ins σ1.memo k m' j = some m := hm
        rwa [ins_other _ _ e] at e'
      · rcases hf.2 hb with g | g
        · exact Or.inl g
        · right
          show ins σ1.memo k m' j ≠ none
          rwa [ins_other _ _ e]
  refine ⟨⟨hs.inv.card.ins k m', fun j m hj => ?_, fun j m hj => ?_, hs.inv.itime, fun j m hj => ?_⟩, hs.inp, hs.now, hs.stack, fun j => ?_, fun hb j m hj hl' => ?_, hold'⟩
  · have e' : ins σ1.memo k m' j = some m := hj
    by_cases e : j = k
    · subst e
      show σ1.inp j = none
      rw [hs.inp, hi]
    · rw [ins_other _ _ e] at e'
      exact hs.inv.noinp j m e'
  · have e' : ins σ1.memo k m' j = some m := hj
    by_cases e : j = k
    · subst e
      rw [ins_same] at e'
      cases e'
      have := hs.now
      refine ⟨by omega, ?_⟩
      show m'.looked ≤ σ1.now
      omega
    · rw [ins_other _ _ e] at e'
      exact hs.inv.time j m e'
  · have e' : ins σ1.memo k m' j = some m := hj
    have hI : σ1.I = σs.I := hs.I
    by_cases e : j = k
    · subst e
      rw [ins_same] at e'
      cases e'
      refine ⟨vs, hgo, hneeds, fun hlt => ?_, fun _ p hp => ⟨?_, hfr _ (hvs p hp).2⟩⟩
      · have hlt' : m'.looked < σ1.now := hlt
        have := hs.now
        omega
      · show Good rt σ1.I p.1 p.2
        rw [hI]
        exact (hvs p hp).1
    · rw [ins_other _ _ e] at e'
      by_cases hnow : m.looked = σ1.now
      · obtain ⟨ws, g1, g2, g3, g4⟩ := hs.inv.good j m e'
        refine ⟨ws, g1, g2, fun hlt => ?_, fun hl p hp => ⟨(g4 hl p hp).1, hfr _ (g4 hl p hp).2⟩⟩
        have hlt' : m.looked < σ1.now := hlt
        omega
      · have hin : σs.memo j = some m := by
          rcases hs.ents j with f | f | ⟨_, m2, f2, f3⟩
          · rw [e'] at f; cases f
          · exact f.symm.trans e'
          · rw [e'] at f2; cases f2; exact absurd (f3.trans hs.now.symm) hnow
        obtain ⟨ws, g1, g2, g3, g4⟩ := h0.good j m hin
        refine ⟨ws, g1, g2, fun hlt p hp => ?_, fun hl => absurd hl hnow⟩
        have hlt' : m.looked < σs.now := by
          have hlt'' : m.looked < σ1.now := hlt
          rw [← hs.now]; exact hlt''
        exact hold' _ hlt' _ _ (g3 hlt' p hp)
  · show ins σ1.memo k m' j = none ∨ ins σ1.memo k m' j = σs.memo j ∨ (j ∉ ab ∧ ∃ m, ins σ1.memo k m' j = some m ∧ m.looked = σs.now)
    by_cases e : j = k
    · subst e
      exact Or.inr (Or.inr ⟨hk, m', ins_same _ _ _, hlook⟩)
    · rw [ins_other _ _ e]
      rcases hs.ents j with f | f | ⟨f1, f2⟩
      · exact Or.inl f
      · exact Or.inr (Or.inl f)
      · exact Or.inr (Or.inr ⟨fun x => f1 (List.mem_append_left _ x), f2⟩)
  · show ins σ1.memo k m' j ≠ none
    by_cases e : j = k
    · subst e
      rcases hl' with hl' | hl'
      · exact absurd hl' (hl m hj)
      · exact absurd hl' hk
    · rw [ins_other _ _ e]
      exact hs.kept hb j m hj (orMap id (fun x => List.mem_append_left _ x) hl')

/-! ### asking keeps it right -/
theorem goT_mid {t : Tree} {a b : List (K × K)} {j v : K} {x : Tree} (h : goT t (a ++ (j, v) :: b) = some x) : ∃ c, goT t a = some (.ask j c) := by
  rw [goT_append] at h
  cases hga : goT t a with
  | none => rw [hga] at h; cases h
  | some t' =>
    rw [hga] at h
    simp only [Option.bind_some] at h
    cases t' with
    | ret r => simp [goT] at h
    | ask i c =>
      simp only [goT] at h
      split at h
      · rename_i e; subst e; exact ⟨c, rfl⟩
      · cases h
section
variable (rt : K → Tree) (big : Prop) (U : List K)
def AnsOk (σ : St) (k : K) (ab : List K) (r : Ans) (σ' : St) : Prop := match r with
  | .ok s t => Good rt σ.I k s ∧ t ≤ σ.now ∧ (∀ L v, L < σ.now → OldAt σ L k v → t ≤ L → s = v) ∧ Fresh big σ' k
  | .err e => ofA rt σ.I U k ab = .err e
def AskPost (A : St → K → Ans → St → Prop) : Prop := ∀ σ k r σ', A σ k r σ' → Inv rt big σ → StackOk U σ.stack → (σ.stack ≠ [] → k ∈ U) → Path rt σ.I σ.stack k →
  Step rt big σ.stack σ σ' ∧ AnsOk rt big U σ k σ.stack r σ'
end
variable {U : List K} {A : St → K → Ans → St → Prop} {room : Int}

theorem chain_post (hA : AskPost rt big U A) (hU : AsksIn rt U) {ab : List K} {k : K} (hso : StackOk U (ab ++ [k])) : ∀ (vs vs0 : List (K × K)) (σ σ' : St) (x : Tree), Chain A σ vs σ' → goT (rt k) (vs0 ++ vs) = some x → Inv rt big σ →
    σ.stack = ab ++ [k] → σ.I k = none → Path rt σ.I ab k → (∀ p ∈ vs0, Good rt σ.I p.1 p.2 ∧ Fresh big σ p.1) →
    Step rt big (ab ++ [k]) σ σ' ∧ ∀ p ∈ vs0 ++ vs, Good rt σ.I p.1 p.2 ∧ Fresh big σ' p.1
  | [], vs0, σ, σ', x, hc, _, hi, _, _, _, h0 => by
    cases (show σ' = σ from hc)
    exact ⟨Step.refl hi, by simpa using h0⟩
  | (j, v) :: vs, vs0, σ, σ', x, hc, hgo, hi, hst, hI, hp, h0 => by
    obtain ⟨t, σ1, ha, hc'⟩ := hc
    obtain ⟨c, hask⟩ := goT_mid hgo
    have hpath : Path rt σ.I (ab ++ [k]) j := .snoc hp ⟨hI, vs0, c, hask, fun p hp => (h0 p hp).1⟩
    obtain ⟨s1, a1⟩ := hA σ j _ σ1 ha hi (by rw [hst]; exact hso) (fun _ => hU _ _ _ _ hask) (by rw [hst]; exact hpath)
    rw [hst] at s1
    obtain ⟨g1, _, _, g4⟩ := a1
    have hgo' : goT (rt k) ((vs0 ++ [(j, v)]) ++ vs) = some x := by rw [List.append_assoc]; exact hgo
    have hI1 := s1.I
    obtain ⟨s2, a2⟩ := chain_post hA hU hso vs (vs0 ++ [(j, v)]) σ1 σ' x hc' hgo' s1.inv (s1.stack.trans hst) (by rw [hI1]; exact hI) (by rw [hI1]; exact hp) (fun p hp => by
      rcases List.mem_append.1 hp with hp | hp
      · rw [hI1]; exact ⟨(h0 p hp).1, (h0 p hp).2.step s1⟩
      · have : p = (j, v) := by simpa using hp
        subst this
        rw [hI1]; exact ⟨g1, g4⟩)
    refine ⟨s1.trans s2, fun p hp => ?_⟩
    have := a2 p (by rw [List.append_assoc]; exact hp)
    rw [hI1] at this
    exact this

theorem holds_post (hA : AskPost rt big U A) (hU : AsksIn rt U) {ab : List K} {k : K} (hso : StackOk U (ab ++ [k])) {L : Int} : ∀ (vs vs0 : List (K × K)) (σ σ' : St) (b : Bool) (x : Tree), HoldsR A L σ (vs.map Prod.fst) b σ' → goT (rt k) (vs0 ++ vs) = some x → Inv rt big σ →
    σ.stack = ab ++ [k] → σ.I k = none → Path rt σ.I ab k → L < σ.now → (∀ p ∈ vs, OldAt σ L p.1 p.2) → (∀ p ∈ vs0, Good rt σ.I p.1 p.2 ∧ Fresh big σ p.1) →
    Step rt big (ab ++ [k]) σ σ' ∧ (b = true → ∀ p ∈ vs0 ++ vs, Good rt σ.I p.1 p.2 ∧ Fresh big σ' p.1)
  | [], vs0, σ, σ', b, x, hc, _, hi, _, _, _, _, _, h0 => by
    obtain ⟨_, rfl⟩ := hc
    exact ⟨Step.refl hi, fun _ => by simpa using h0⟩
  | (j, v) :: vs, vs0, σ, σ', b, x, hc, hgo, hi, hst, hI, hp, hL, hold, h0 => by
    obtain ⟨c, hask⟩ := goT_mid hgo
    have hpath : Path rt σ.I (ab ++ [k]) j := .snoc hp ⟨hI, vs0, c, hask, fun p hp => (h0 p hp).1⟩
    rcases hc with ⟨e, σ1, ha, hb, rfl⟩ | ⟨s, t, σ1, ha, _, hb, rfl⟩ | ⟨s, t, σ1, ha, ht, hc'⟩
    · obtain ⟨s1, _⟩ := hA σ j _ _ ha hi (by rw [hst]; exact hso) (fun _ => hU _ _ _ _ hask) (by rw [hst]; exact hpath)
      rw [hst] at s1
      exact ⟨s1, fun e => by rw [hb] at e; cases e⟩
    · obtain ⟨s1, _⟩ := hA σ j _ _ ha hi (by rw [hst]; exact hso) (fun _ => hU _ _ _ _ hask) (by rw [hst]; exact hpath)
      rw [hst] at s1
      exact ⟨s1, fun e => by rw [hb] at e; cases e⟩
    · obtain ⟨s1, a1⟩ := hA σ j _ σ1 ha hi (by rw [hst]; exact hso) (fun _ => hU _ _ _ _ hask) (by rw [hst]; exact hpath)
      rw [hst] at s1
      obtain ⟨g1, _, g3, g4⟩ := a1
      have hv : s = v := g3 L v hL (hold (j, v) (List.mem_cons_self ..)) ht
      subst hv
      have hgo' : goT (rt k) ((vs0 ++ [(j, s)]) ++ vs) = some x := by rw [List.append_assoc]; exact hgo
      have hI1 := s1.I
      obtain ⟨s2, a2⟩ := holds_post hA hU hso vs (vs0 ++ [(j, s)]) σ1 σ' b x hc' hgo' s1.inv (s1.stack.trans hst) (by rw [hI1]; exact hI) (by rw [hI1]; exact hp) (by rw [s1.now]; exact hL)
        (fun p hp => s1.old L hL _ _ (hold p (List.mem_cons_of_mem _ hp))) (fun p hp => by
        rcases List.mem_append.1 hp with hp | hp
        · rw [hI1]; exact ⟨(h0 p hp).1, (h0 p hp).2.step s1⟩
        · have : p = (j, s) := by simpa using hp
          subst this
          rw [hI1]; exact ⟨g1, g4⟩)
      refine ⟨s1.trans s2, fun hb p hp => ?_⟩
      have := a2 hb p (by rw [List.append_assoc]; exact hp)
      rw [hI1] at this
      exact this

/-- with answers that hold, the answer from scratch goes the same way -/
theorem of_run (hU : AsksIn rt U) {I : K → Option K} {ab : List K} {k : K} (hs : StackOk U ab) (hso : StackOk U (ab ++ [k])) (hk : k ∉ ab) (hI : I k = none) (hp : Path rt I ab k) {vs : List (K × K)} {t : Tree}
    (hgo : goT (rt k) vs = some t) (hvs : ∀ p ∈ vs, Good rt I p.1 p.2) : ofA rt I U k ab = evalT (fun j => ofA rt I U j (ab ++ [k])) t := by
  rw [ofA_rule hs hI hk]
  refine evalT_run hgo (fun p hp' => ?_)
  obtain ⟨a, b, rfl⟩ := mem_split hp'
  obtain ⟨j, v⟩ := p
  obtain ⟨c, hask⟩ := goT_mid hgo
  obtain ⟨n, hn⟩ := hvs (j, v) hp'
  exact good_of hU n hn hso (fun _ => hU _ _ _ _ hask) (.snoc hp ⟨hI, a, c, hask, fun q hq => hvs q (List.mem_append_left _ hq)⟩)

theorem reckon_post (hA : AskPost rt big U A) (hU : AsksIn rt U) (Lt : List K) (hLt : ∀ k vs s, goT (rt k) vs = some (.ret (.ok s)) → k ∈ Lt) (hbig : big → (Lt.length : Int) ≤ room) {ab : List K} {k : K} (hsa : StackOk U ab) (hso : StackOk U (ab ++ [k])) (hk : k ∉ ab)
    {σs σ σ' : St} {r : Ans} {was : Option Memo} (h0 : Inv rt big σs) (hs : Step rt big (ab ++ [k]) σs σ) (hst : σs.stack = ab ++ [k]) (hi : σs.inp k = none) (hp : Path rt σs.I ab k) (hwas : was = σs.memo k) (hl : ∀ m, σs.memo k = some m → m.looked ≠ σs.now)
    (h : ReckonR rt room A σ k was r σ') : Step rt big ab σs σ' ∧ AnsOk rt big U σs k ab r σ' := by
  obtain ⟨vs, σ1, hc, hcase⟩ := h
  have hI0 : σs.I k = none := by unfold St.I; rw [hi]; rfl
  have hsr : Step rt big (ab ++ [k]) σs { σ with runs := Go.RowKit.wrap64 (σ.runs + 1) } := ⟨hs.inv.runs _, hs.inp, hs.now, hs.stack, hs.ents, hs.kept, hs.old⟩
  have hII : St.I { σ with runs := Go.RowKit.wrap64 (σ.runs + 1) } = σs.I := hsr.I
  have main : ∀ x, goT (rt k) vs = some x → Step rt big (ab ++ [k]) σs σ1 ∧ ∀ p ∈ vs, Good rt σs.I p.1 p.2 ∧ Fresh big σ1 p.1 := by
    intro x hx
    obtain ⟨s2, a2⟩ := chain_post hA hU hso vs [] _ σ1 x hc hx hsr.inv (hsr.stack.trans hst) (by rw [hII]; exact hI0) (by rw [hII]; exact hp) (fun p hp => by cases hp)
    refine ⟨hsr.trans s2, fun p hp => ?_⟩
    have := a2 p hp
    rwa [hII] at this
  have hkin : ∀ {σ2 : St}, Step rt big (ab ++ [k]) σs σ2 → ∀ m, σ2.memo k = some m → m.looked ≠ σ2.now := by
    intro σ2 h2 m hm
    rw [h2.now]
    rcases h2.ents k with f | f | ⟨f1, _⟩
    · rw [hm] at f; cases f
    · exact hl m (f.symm.trans hm)
    · exact absurd (List.mem_append_right _ (List.mem_cons_self ..)) f1
  rcases hcase with ⟨s, hgo, rfl, f, n, hev, hn, hex, rfl⟩ | ⟨e, hgo, rfl, rfl⟩ | ⟨j, c, e, σ2, hgo, ha, rfl, rfl⟩
  · obtain ⟨s1, a1⟩ := main _ hgo
    have hch : chg was s σ.now ≤ σs.now ∧ ∀ L v, L < σs.now → OldAt σs L k v → chg was s σ.now ≤ L → s = v := by
      rw [hs.now]
      unfold chg
      cases hw : was with
      | none =>
        refine ⟨by simp, fun L v hL _ hc => ?_⟩
        simp only at hc
        omega
      | some m =>
        have hm : σs.memo k = some m := by rw [← hwas, hw]
        have ht := h0.time k m hm
        simp only
        split
        · rename_i e
          exact ⟨by omega, fun L v hL ho hc => e.symm.trans (ho.2 m hm hc)⟩
        · exact ⟨by omega, fun L v hL _ hc => by omega⟩
    have hput := Inv.put h0 s1 hk ⟨s, vs.map Prod.fst, σ.now, chg was s σ.now⟩ hi vs hgo rfl hs.now hch.1 a1 hl hch.2
    have hless := hput.inv.less (S := ab) f n (hev.card (s1.inv.card.ins _ _)) hev.sub (fun hb j m hj _ => by
      have hin : ((insC σ1.memo k σ1.n : Nat) : Int) ≤ room := by
        have h1 := (s1.inv.card.ins k (⟨s, vs.map Prod.fst, σ.now, chg was s σ.now⟩ : Memo)).le Lt (fun i hi => by
          by_cases e : i = k
          · subst e; exact hLt _ _ _ hgo
          · rw [ins_other _ _ e] at hi
            obtain ⟨m', hm'⟩ := Option.isSome_iff_exists.1 hi
            obtain ⟨ws, g1, _⟩ := s1.inv.good i m' hm'
            exact hLt _ _ _ g1)
        have h2 := hbig hb
        omega
      rw [(hex hin).1]
      exact fun e => by
        have hj' : ins σ1.memo k ⟨s, vs.map Prod.fst, σ.now, chg was s σ.now⟩ j = some m := hj
        rw [e] at hj'
        cases hj')
    refine ⟨hput.trans hless, good_rule hI0 hgo (fun p hp => (a1 p hp).1), hch.1, hch.2, ?_⟩
    have hfr : Fresh big { σ1 with memo := ins σ1.memo k ⟨s, vs.map Prod.fst, σ.now, chg was s σ.now⟩, n := insC σ1.memo k σ1.n } k := by
      refine ⟨fun m hm => ?_, fun _ => Or.inr ?_⟩
      · have e' : ins σ1.memo k ⟨s, vs.map Prod.fst, σ.now, chg was s σ.now⟩ k = some m := hm
        rw [ins_same] at e'
        cases e'
        show σ.now = σ1.now
        rw [hs.now, s1.now]
      · show ins σ1.memo k _ k ≠ none
        rw [ins_same]
        exact fun e => by cases e
    exact hfr.step hless
  · obtain ⟨s1, a1⟩ := main _ hgo
    refine ⟨(s1.weak (fun j hj => List.mem_append_left _ hj)).trans (s1.inv.drop hk (hkin s1)), ?_⟩
    show ofA rt σs.I U k ab = .err e
    rw [of_run hU hsa hso hk hI0 hp hgo (fun p hp => (a1 p hp).1)]
    rfl
  · obtain ⟨s1, a1⟩ := main _ hgo
    have hI1 := s1.I
    obtain ⟨s2, a2⟩ := hA σ1 j _ _ ha s1.inv (by rw [s1.stack, hst]; exact hso) (fun _ => hU _ _ _ _ hgo) (by
      rw [s1.stack, hst, hI1]
      exact .snoc hp ⟨hI0, vs, c, hgo, fun p hp => (a1 p hp).1⟩)
    rw [s1.stack, hst] at s2
    have s3 := s1.trans s2
    refine ⟨(s3.weak (fun j hj => List.mem_append_left _ hj)).trans (s3.inv.drop hk (hkin s3)), ?_⟩
    have a2' : ofA rt σ1.I U j σ1.stack = .err e := a2
    rw [s1.stack, hst, hI1] at a2'
    show ofA rt σs.I U k ab = .err e
    rw [of_run hU hsa hso hk hI0 hp hgo (fun p hp => (a1 p hp).1)]
    simp only [evalT, a2']

theorem known_post (hA : AskPost rt big U A) (hU : AsksIn rt U) (Lt : List K) (hLt : ∀ k vs s, goT (rt k) vs = some (.ret (.ok s)) → k ∈ Lt) (hbig : big → (Lt.length : Int) ≤ room) {ab : List K} {k : K} (hsa : StackOk U ab) (hso : StackOk U (ab ++ [k])) (hk : k ∉ ab)
    {σ σ' : St} {r : Ans} (h0 : Inv rt big σ) (hst : σ.stack = ab ++ [k]) (hi : σ.inp k = none) (hp : Path rt σ.I ab k)
    (h : KnownR rt room A σ k r σ') : Step rt big ab σ σ' ∧ AnsOk rt big U σ k ab r σ' := by
  have hI0 : σ.I k = none := by unfold St.I; rw [hi]; rfl
  rcases h with ⟨m, hm, hl, rfl, rfl⟩ | ⟨m, σ1, hm, hl, hh, rfl, rfl⟩ | ⟨m, σ1, hm, hl, hh, hr⟩ | ⟨hm, hr⟩
  · obtain ⟨vs, g1, g2, _, g4⟩ := h0.good k m hm
    refine ⟨Step.refl h0, good_rule hI0 g1 (fun p hp => (g4 hl p hp).1), ?_, fun L v hL ho hc => ho.2 m hm hc, fun m' hm' => ?_, fun _ => Or.inr (by rw [hm]; exact fun e => by cases e)⟩
    · have := h0.time k m hm; omega
    · rw [hm] at hm'; cases hm'; exact hl
  · obtain ⟨vs, g1, g2, g3, _⟩ := h0.good k m hm
    have ht := h0.time k m hm
    have hlt : m.looked < σ.now := by omega
    rw [← g2] at hh
    obtain ⟨s1, a1⟩ := holds_post hA hU hso vs [] σ σ1 true _ hh g1 h0 hst hI0 hp hlt (g3 hlt) (fun p hp => by cases hp)
    have a1 := a1 rfl
    simp only [List.nil_append] at a1
    have hgood : Good rt σ.I k m.ans := good_rule hI0 g1 (fun p hp => (a1 p hp).1)
    have hold : ∀ L v, L < σ.now → OldAt σ L k v → m.changed ≤ L → m.ans = v := fun L v _ ho hc => ho.2 m hm hc
    have hcur : σ1.memo k = none ∨ σ1.memo k = some m := by
      rcases s1.ents k with f | f | ⟨f1, _⟩
      · exact Or.inl f
      · exact Or.inr (f.trans hm)
      · exact absurd (List.mem_append_right _ (List.mem_cons_self ..)) f1
    have hstep : Step rt big ab σ { σ1 with memo := touch σ1.memo k σ1.now } := by
      rcases hcur with f | f
      · have e : touch σ1.memo k σ1.now = σ1.memo := by
          funext j
          unfold touch
          by_cases e : j = k
          · subst e; rw [if_pos rfl, f]; rfl
          · rw [if_neg e]
        rw [e]
        exact s1.weak (fun j hj => List.mem_append_left _ hj)
      · have e : touch σ1.memo k σ1.now = ins σ1.memo k { m with looked := σ1.now } := by
          funext j
          unfold touch ins
          by_cases e : j = k
          · subst e; rw [if_pos rfl, if_pos rfl, f]; rfl
          · rw [if_neg e, if_neg e]
        have e2 : insC σ1.memo k σ1.n = σ1.n := by unfold insC; rw [f]; rfl
        have hput := Inv.put h0 s1 hk { m with looked := σ1.now } hi vs g1 g2 s1.now (show m.changed ≤ σ.now by omega) a1 (fun m' hm' => by rw [hm] at hm'; cases hm'; exact hl) hold
        rw [e2] at hput
        rw [e]
        exact hput
    refine ⟨hstep, hgood, by omega, hold, fun m' hm' => ?_, fun hb => Or.inr ?_⟩
    · have e' : touch σ1.memo k σ1.now k = some m' := hm'
      unfold touch at e'
      rw [if_pos rfl] at e'
      obtain ⟨m2, _, rfl⟩ := Option.map_eq_some_iff.1 e'
      rfl
    · rcases hcur with f | f
      · exact absurd f (s1.kept hb k m hm (Or.inr (List.mem_append_right _ (List.mem_cons_self ..))))
      · show touch σ1.memo k σ1.now k ≠ none
        unfold touch
        rw [if_pos rfl, f]
        exact fun e => by cases e
  · obtain ⟨vs, g1, g2, g3, _⟩ := h0.good k m hm
    have ht := h0.time k m hm
    have hlt : m.looked < σ.now := by omega
    rw [← g2] at hh
    obtain ⟨s1, _⟩ := holds_post hA hU hso vs [] σ σ1 false _ hh g1 h0 hst hI0 hp hlt (g3 hlt) (fun p hp => by cases hp)
    exact reckon_post hA hU Lt hLt hbig hsa hso hk h0 s1 hst hi hp hm.symm (fun m' hm' => by rw [hm] at hm'; cases hm'; exact hl) hr
  · exact reckon_post hA hU Lt hLt hbig hsa hso hk h0 (Step.refl h0) hst hi hp hm.symm (fun m' hm' => by rw [hm] at hm'; cases hm') hr

theorem ask_post (hU : AsksIn rt U) (Lt : List K) (hLt : ∀ k vs s, goT (rt k) vs = some (.ret (.ok s)) → k ∈ Lt) (hbig : big → (Lt.length : Int) ≤ room) : ∀ f, AskPost rt big U (AskR rt room f)
  | 0 => fun _ _ _ _ h => h.elim
  | f + 1 => by
    intro σ k r σ' h hi hs hk hp
    rcases h with ⟨v, c, hin, rfl, rfl⟩ | ⟨hin, hmem, rfl, rfl⟩ | ⟨hin, hmem, σ1, hkn, rfl⟩
    · have hI : σ'.I k = some v := by unfold St.I; rw [hin]; rfl
      refine ⟨Step.refl hi, good_inp hI, hi.itime k v c hin, fun L u _ ho hc => ho.1 v c hin hc, fun m hm => ?_, fun _ => Or.inl (by rw [hin]; exact fun e => by cases e)⟩
      have := hi.noinp k m hm
      rw [hin] at this
      cases this
    · exact ⟨Step.refl hi, ofA_twice hs (by unfold St.I; rw [hin]; rfl) hmem⟩
    · obtain ⟨s1, a1⟩ := known_post (σ := { σ with stack := σ.stack ++ [k] }) (ask_post hU Lt hLt hbig f) hU Lt hLt hbig hs (hs.push hmem hk) hmem (hi.stack _) rfl hin hp hkn
      refine ⟨⟨s1.inv.stack _, s1.inp, s1.now, rfl, s1.ents, s1.kept, s1.old⟩, ?_⟩
      cases r with
      | ok s t => exact ⟨a1.1, a1.2.1, a1.2.2.1, a1.2.2.2⟩
      | err e => exact a1

/-! ### what else is done -/
def σnew : St := ⟨fun _ => none, fun _ => none, 0, 1, 0, []⟩
theorem inv_new : Inv rt big σnew := by
  refine ⟨⟨[], List.nodup_nil, rfl, fun k => by simp [σnew]⟩, fun k m h => (by cases h), fun k m h => (by cases h), fun k v c h => (by cases h), fun k m h => (by cases h)⟩
def setS (σ : St) (k v : K) : St := match σ.inp k with
  | some (u, _) => if u = v then σ else { dropM σ k with inp := ins σ.inp k (v, σ.now + 1), now := σ.now + 1 }
  | none => { dropM σ k with inp := ins σ.inp k (v, σ.now + 1), now := σ.now + 1 }
def dropS (σ : St) (k : K) : St := match σ.inp k with
  | some _ => { σ with inp := del σ.inp k, now := σ.now + 1 }
  | none => σ
theorem Inv.evict {σ : St} (h : Inv rt False σ) (k : K) : Inv rt False (dropM σ k) := by
  refine (h.less (S := []) _ _ (h.card.del k) (fun j => ?_) (fun hb => hb.elim)).inv
  by_cases e : j = k
  · subst e; exact Or.inl (del_same _ _)
  · exact Or.inr (del_other _ e)
theorem inv_set1 {σ : St} (h : Inv rt big σ) (k v : K) : Inv rt big { dropM σ k with inp := ins σ.inp k (v, σ.now + 1), now := σ.now + 1 } := by
  have hne : ∀ {j m}, del σ.memo k j = some m → j ≠ k ∧ σ.memo j = some m := fun {j m} hj => by
    by_cases e : j = k
    · subst e; rw [del_same] at hj; cases hj
    · rw [del_other _ e] at hj; exact ⟨e, hj⟩
  refine ⟨h.card.del k, fun j m hj => ?_, fun j m hj => ?_, fun j u c hj => ?_, fun j m hj => ?_⟩
  · obtain ⟨e, hj⟩ := hne hj
    show ins σ.inp k _ j = none
    rw [ins_other _ _ e]
    exact h.noinp j m hj
  · obtain ⟨e, hj⟩ := hne hj
    have := h.time j m hj
    refine ⟨this.1, ?_⟩
    show m.looked ≤ σ.now + 1
    omega
  · show c ≤ σ.now + 1
    have hj' : ins σ.inp k (v, σ.now + 1) j = some (u, c) := hj
    by_cases e : j = k
    · subst e; rw [ins_same] at hj'; cases hj'; omega
    · rw [ins_other _ _ e] at hj'
      have := h.itime j u c hj'
      omega
  · obtain ⟨e, hj⟩ := hne hj
    have ht := h.time j m hj
    obtain ⟨vs, g1, g2, g3, g4⟩ := h.good j m hj
    refine ⟨vs, g1, g2, fun _ p hp => ?_, fun hl => ?_⟩
    · have ho : OldAt σ m.looked p.1 p.2 := by
        by_cases hn : m.looked = σ.now
        · obtain ⟨hg, hf⟩ := g4 hn p hp
          refine ⟨fun u c hu _ => ?_, fun m' hm' _ => ?_⟩
          · exact good_unique (good_inp (by unfold St.I; rw [hu]; rfl)) hg
          · obtain ⟨ws, f1, f2, _, f4⟩ := h.good p.1 m' hm'
            refine good_unique (good_rule ?_ f1 (fun q hq => (f4 (hf.1 m' hm') q hq).1)) hg
            unfold St.I
            rw [h.noinp _ _ hm']
            rfl
        · exact g3 (by omega) p hp
      refine ⟨fun u c hu hc => ?_, fun m' hm' hc => ho.2 m' (hne hm').2 hc⟩
      have hu' : ins σ.inp k (v, σ.now + 1) p.1 = some (u, c) := hu
      by_cases e : p.1 = k
      · rw [e, ins_same] at hu'; cases hu'; omega
      · rw [ins_other _ _ e] at hu'
        exact ho.1 u c hu' hc
    · have hl' : m.looked = σ.now + 1 := hl
      omega
theorem Inv.set {σ : St} (h : Inv rt big σ) (k v : K) : Inv rt big (setS σ k v) := by
  unfold setS
  split
  · split
    · exact h
    · exact inv_set1 h k v
  · exact inv_set1 h k v
theorem Inv.dropS {σ : St} (h : Inv rt big σ) (k : K) : Inv rt big (dropS σ k) := by
  unfold G.dropS
  split
  · refine ⟨h.card, fun j m hj => ?_, fun j m hj => ?_, fun j u c hj => ?_, fun j m hj => ?_⟩
    · show del σ.inp k j = none
      by_cases e : j = k
      · subst e; exact del_same _ _
      · rw [del_other _ e]; exact h.noinp j m hj
    · have := h.time j m hj
      refine ⟨this.1, ?_⟩
      show m.looked ≤ σ.now + 1
      omega
    · show c ≤ σ.now + 1
      have hj' : del σ.inp k j = some (u, c) := hj
      by_cases e : j = k
      · subst e; rw [del_same] at hj'; cases hj'
      · rw [del_other _ e] at hj'
        have := h.itime j u c hj'
        omega
    · have ht := h.time j m hj
      obtain ⟨vs, g1, g2, g3, g4⟩ := h.good j m hj
      refine ⟨vs, g1, g2, fun _ p hp => ?_, fun hl => ?_⟩
      · have ho : OldAt σ m.looked p.1 p.2 := by
          by_cases hn : m.looked = σ.now
          · obtain ⟨hg, hf⟩ := g4 hn p hp
            refine ⟨fun u c hu _ => ?_, fun m' hm' _ => ?_⟩
            · exact good_unique (good_inp (by unfold St.I; rw [hu]; rfl)) hg
            · obtain ⟨ws, f1, f2, _, f4⟩ := h.good p.1 m' hm'
              refine good_unique (good_rule ?_ f1 (fun q hq => (f4 (hf.1 m' hm') q hq).1)) hg
              unfold St.I
              rw [h.noinp _ _ hm']
              rfl
          · exact g3 (by omega) p hp
        refine ⟨fun u c hu hc => ?_, fun m' hm' hc => ho.2 m' hm' hc⟩
        have hu' : del σ.inp k p.1 = some (u, c) := hu
        by_cases e : p.1 = k
        · rw [e, del_same] at hu'; cases hu'
        · rw [del_other _ e] at hu'
          exact ho.1 u c hu' hc
      · have hl' : m.looked = σ.now + 1 := hl
        omega
  · exact h
end Go.Proofs.Ytelddnalpkhclaa.G
