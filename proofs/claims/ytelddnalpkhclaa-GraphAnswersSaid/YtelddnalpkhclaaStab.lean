/- Plain: what was asked, and hangs on nothing that changed, is asked again without a rule. -/
import Derived.Test.YtelddnalpkhclaaLang
namespace Go.Proofs.Ytelddnalpkhclaa.G
open Go.RowKit

structure Stab (T : Int) (R : K → Prop) (an : K → K) (rk : K → Nat) (σ : St) : Prop where
  each : ∀ k, R k → (∃ c, σ.inp k = some (an k, c) ∧ c ≤ T) ∨ (σ.inp k = none ∧ ∃ m, σ.memo k = some m ∧ m.ans = an k ∧ m.changed ≤ T ∧ T ≤ m.looked ∧ ∀ j ∈ m.needs, R j ∧ rk j < rk k)
  now : T ≤ σ.now
variable {rt : K → Tree} {room : Int} {T : Int} {R : K → Prop} {an : K → K} {rk : K → Nat}

def StabPost (T : Int) (R : K → Prop) (an : K → K) (rk : K → Nat) (σ : St) (k : K) (r : Ans) (σ' : St) : Prop :=
  (∃ t, r = .ok (an k) t ∧ t ≤ T) ∧ σ'.runs = σ.runs ∧ Stab T R an rk σ' ∧ σ'.inp = σ.inp ∧ σ'.now = σ.now ∧ σ'.stack = σ.stack

theorem stab_holds {A : St → K → Ans → St → Prop} {n : Nat} {S : List K} (hA : ∀ σ k r σ', A σ k r σ' → Stab T R an rk σ → R k → rk k < n → σ.stack = S → StabPost T R an rk σ k r σ') {L : Int} (hL : T ≤ L) :
    ∀ (ks : List K) (σ σ' : St) (b : Bool), HoldsR A L σ ks b σ' → Stab T R an rk σ → (∀ j ∈ ks, R j ∧ rk j < n) → σ.stack = S → b = true ∧ σ'.runs = σ.runs ∧ Stab T R an rk σ' ∧ σ'.inp = σ.inp ∧ σ'.now = σ.now ∧ σ'.stack = σ.stack
  | [], σ, σ', b, h, hs, _, _ => by
    obtain ⟨h1, rfl⟩ := h
    exact ⟨h1, rfl, hs, rfl, rfl, rfl⟩
  | k :: ks, σ, σ', b, h, hs, hk, hst => by
    have hk0 := hk k (List.mem_cons_self ..)
    rcases h with ⟨e, σ1, ha, _, _⟩ | ⟨s, t, σ1, ha, hlt, _, _⟩ | ⟨s, t, σ1, ha, _, h'⟩
    · obtain ⟨⟨t, e1, _⟩, _⟩ := hA σ k _ σ1 ha hs hk0.1 hk0.2 hst
      cases e1
    · obtain ⟨⟨t', e1, e2⟩, _⟩ := hA σ k _ σ1 ha hs hk0.1 hk0.2 hst
      cases e1
      omega
    · obtain ⟨_, h2, h3, h4, h5, h6⟩ := hA σ k _ σ1 ha hs hk0.1 hk0.2 hst
      obtain ⟨g1, g2, g3, g4, g5, g6⟩ := stab_holds hA hL ks σ1 σ' b h' h3 (fun j hj => hk j (List.mem_cons_of_mem _ hj)) (h6.trans hst)
      exact ⟨g1, g2.trans h2, g3, g4.trans h4, g5.trans h5, g6.trans h6⟩

theorem stab_ask : ∀ (f : Nat) (σ : St) (k : K) (r : Ans) (σ' : St), AskR rt room f σ k r σ' → Stab T R an rk σ → R k → (∀ a ∈ σ.stack, rk k < rk a) → StabPost T R an rk σ k r σ'
  | 0, _, _, _, _, h, _, _, _ => h.elim
  | f + 1, σ, k, r, σ', h, hs, hk, hab => by
    rcases h with ⟨v, c, hin, rfl, rfl⟩ | ⟨hin, hmem, _, _⟩ | ⟨hin, _, σ1, hkn, rfl⟩
    · rcases hs.each k hk with ⟨c', e1, e2⟩ | ⟨e1, _⟩
      · rw [hin] at e1
        cases e1
        exact ⟨⟨c, rfl, e2⟩, rfl, hs, rfl, rfl, rfl⟩
      · rw [hin] at e1; cases e1
    · have := hab k hmem
      omega
    · have hA : ∀ τ k' r τ', AskR rt room f τ k' r τ' → Stab T R an rk τ → R k' → rk k' < rk k → τ.stack = σ.stack ++ [k] → StabPost T R an rk τ k' r τ' := fun τ k' r τ' ha hst hk' hlt hstk =>
        stab_ask f τ k' r τ' ha hst hk' (fun a ha' => by
          rw [hstk] at ha'
          rcases List.mem_append.1 ha' with h1 | h1
          · exact Nat.lt_trans hlt (hab a h1)
          · have : a = k := by simpa using h1
            subst this
            exact hlt)
      have hs' : Stab T R an rk { σ with stack := σ.stack ++ [k] } := ⟨hs.each, hs.now⟩
      rcases hs.each k hk with ⟨c', e1, _⟩ | ⟨_, m, hm, e2, e3, e4, e5⟩
      · rw [hin] at e1; cases e1
      · rcases hkn with ⟨m', hm', _, rfl, rfl⟩ | ⟨m', σ2, hm', _, hh, rfl, rfl⟩ | ⟨m', σ2, hm', _, hh, _⟩ | ⟨hm', _⟩
        · have hm2 : σ.memo k = some m' := hm'
          rw [hm] at hm2
          cases hm2
          exact ⟨⟨_, by rw [e2], e3⟩, rfl, ⟨hs.each, hs.now⟩, rfl, rfl, rfl⟩
        · have hm2 : σ.memo k = some m' := hm'
          rw [hm] at hm2
          cases hm2
          obtain ⟨_, g2, g3, g4, g5, g6⟩ := stab_holds hA e4 m.needs _ σ2 true hh hs' e5 rfl
          refine ⟨⟨_, by rw [e2], e3⟩, g2, ⟨fun j hj => ?_, g3.now⟩, g4, g5, rfl⟩
          rcases g3.each j hj with f1 | ⟨f1, m1, f2, f3, f4, f5, f6⟩
          · exact Or.inl f1
          · refine Or.inr ⟨f1, ?_⟩
            by_cases e : j = k
            · subst e
              exact ⟨{ m1 with looked := σ2.now }, by show touch σ2.memo j σ2.now j = _; unfold touch; rw [if_pos rfl, f2]; rfl, f3, f4, g3.now, f6⟩
            · exact ⟨m1, by show touch σ2.memo k σ2.now j = _; unfold touch; rw [if_neg e]; exact f2, f3, f4, f5, f6⟩
        · have hm2 : σ.memo k = some m' := hm'
          rw [hm] at hm2
          cases hm2
          obtain ⟨g1, _⟩ := stab_holds hA e4 m.needs _ σ2 false hh hs' e5 rfl
          cases g1
        · have hm2 : σ.memo k = none := hm'
          rw [hm] at hm2
          cases hm2

/-! ### behind an answer -/
theorem least {P : Nat → Prop} : ∀ n, P n → ∃ m, P m ∧ ∀ i, P i → m ≤ i := by
  intro n
  induction n using Nat.strongRecOn with
  | _ n ih =>
    intro hn
    by_cases h : ∃ i, i < n ∧ P i
    · obtain ⟨i, hi, hp⟩ := h
      exact ih i hi hp
    · refine ⟨n, hn, fun i hi => ?_⟩
      rcases Nat.lt_or_ge i n with hlt | hge
      · exact absurd ⟨i, hlt, hi⟩ h
      · exact hge
theorem has_hgt (rt : K → Tree) (I : K → Option K) (k : K) : ∃ n, (∃ s, Good rt I k s) → (∃ s, GoodH rt I n k s) ∧ ∀ i, (∃ s, GoodH rt I i k s) → n ≤ i := by
  by_cases h : ∃ s, Good rt I k s
  · obtain ⟨s, n, hn⟩ := h
    obtain ⟨m, h1, h2⟩ := least (P := fun i => ∃ s, GoodH rt I i k s) n ⟨s, hn⟩
    exact ⟨m, fun _ => ⟨h1, h2⟩⟩
  · exact ⟨0, fun x => absurd x h⟩
noncomputable def hgt (rt : K → Tree) (I : K → Option K) (k : K) : Nat := Classical.choose (has_hgt rt I k)
theorem hgt_lt {I : K → Option K} {k s j : K} (hg : Good rt I k s) (ha : Asks rt I k j) : hgt rt I j < hgt rt I k := by
  obtain ⟨⟨s', hs'⟩, _⟩ := Classical.choose_spec (has_hgt rt I k) ⟨s, hg⟩
  obtain ⟨m, v, hm, hv⟩ := asks_good hs' ha
  have h2 := (Classical.choose_spec (has_hgt rt I j) ⟨v, m, hv⟩).2 m ⟨v, hv⟩
  exact Nat.lt_of_le_of_lt h2 hm

def Rof (σ : St) (k : K) : Prop := σ.inp k ≠ none ∨ ∃ m, σ.memo k = some m ∧ m.looked = σ.now
def anOf (σ : St) (k : K) : K := match σ.inp k with
  | some p => p.1
  | none => match σ.memo k with
    | some m => m.ans
    | none => ⟨#[]⟩
theorem stab_of {big : Prop} (hb : big) {σ : St} (h : Inv rt big σ) : Stab σ.now (Rof σ) (anOf σ) (hgt rt σ.I) σ := by
  refine ⟨fun k hk => ?_, Int.le_refl _⟩
  rcases hk with hk | ⟨m, hm, hl⟩
  · cases hi : σ.inp k with
    | none => exact absurd hi hk
    | some p => exact Or.inl ⟨p.2, by unfold anOf; rw [hi], h.itime k p.1 p.2 hi⟩
  · have hi := h.noinp k m hm
    obtain ⟨vs, g1, g2, _, g4⟩ := h.good k m hm
    have ht := h.time k m hm
    have hI : σ.I k = none := by unfold St.I; rw [hi]; rfl
    have hgood : Good rt σ.I k m.ans := good_rule hI g1 (fun p hp => (g4 hl p hp).1)
    refine Or.inr ⟨hi, m, hm, by unfold anOf; rw [hi, hm], by omega, by omega, fun j hj => ?_⟩
    rw [← g2] at hj
    obtain ⟨p, hp, rfl⟩ := List.mem_map.1 hj
    obtain ⟨a, b, hsp⟩ := mem_split hp
    obtain ⟨j, v⟩ := p
    rw [hsp] at g1
    obtain ⟨c, hask⟩ := goT_mid g1
    have hf := (g4 hl (j, v) hp).2
    refine ⟨?_, hgt_lt hgood ⟨hI, a, c, hask, fun q hq => (g4 hl q (by rw [hsp]; exact List.mem_append_left _ hq)).1⟩⟩
    rcases hf.2 hb with f | f
    · exact Or.inl f
    · right
      cases hmj : σ.memo j with
      | none => exact absurd hmj f
      | some m' => exact ⟨m', rfl, hf.1 m' hmj⟩
theorem fresh_rof {big : Prop} (hb : big) {σ : St} {k : K} (h : Fresh big σ k) : Rof σ k := by
  rcases h.2 hb with f | f
  · exact Or.inl f
  · right
    cases hmj : σ.memo k with
    | none => exact absurd hmj f
    | some m' => exact ⟨m', rfl, h.1 m' hmj⟩
/-- an input that nobody asked for -/
theorem Stab.set {σ : St} (h : Stab T R an rk σ) {u v : K} (hu : ¬ R u) : Stab T R an rk (setS σ u v) := by
  have main : Stab T R an rk { dropM σ u with inp := ins σ.inp u (v, σ.now + 1), now := σ.now + 1 } := by
    refine ⟨fun k hk => ?_, by show T ≤ σ.now + 1; have := h.now; omega⟩
    have hne : k ≠ u := fun e => hu (e ▸ hk)
    show (∃ c, ins σ.inp u _ k = _ ∧ _) ∨ (ins σ.inp u _ k = none ∧ ∃ m, del σ.memo u k = some m ∧ _)
    rw [ins_other _ _ hne, del_other _ hne]
    exact h.each k hk
  unfold setS
  split
  · split
    · exact h
    · exact main
  · exact main
end Go.Proofs.Ytelddnalpkhclaa.G
