/- Plain: a key that is asked again asks no rule. -/
import Derived.Test.YtelddnalpkhclaaCuts
import Derived.Test.YtelddnalpkhclaaLaw
namespace Go.Proofs.Ytelddnalpkhclaa
open Go.RowKit G

/-- the inputs' list tells the inputs -/
def LIn (l : List (K × K)) (σ : St) : Prop := ∀ p ∈ l, ∃ t, σ.inp p.1 = some (p.2, t)
theorem LIn.set {l : List (K × K)} {σ : St} (h : LIn l σ) {o : LOp} (h0 : o.kind = 0) : LIn (setL l o) (setS σ o.key o.val) := by
  intro p hp
  unfold setL at hp
  rw [if_pos h0] at hp
  rcases List.mem_append.1 hp with hp | hp
  · obtain ⟨h1, h2⟩ := List.mem_filter.1 hp
    have hne : p.1 ≠ o.key := by simpa using h2
    rw [setS_other σ o.val hne]
    exact h p h1
  · have : p = (o.key, o.val) := by simpa using hp
    subst this
    exact setS_same σ o.key o.val
theorem setL_length (l : List (K × K)) (o : LOp) : (setL l o).length ≤ l.length + 1 := by
  unfold setL
  rw [List.length_append]
  have h1 := List.length_filter_le (fun p : ByteArray × ByteArray => p.1 != o.key) l
  split <;> simp <;> omega
theorem setS_noop {σ : St} {k v : K} (h : ∃ t, σ.inp k = some (v, t)) : setS σ k v = σ := by
  obtain ⟨t, h⟩ := h
  unfold setS
  rw [h]
  simp
/-- keys of inputs are short -/
def Short (σ : St) : Prop := ∀ k, σ.inp k ≠ none → k.size ≤ 20
theorem Short.set {σ : St} (h : Short σ) {k v : K} (hk : k.size ≤ 20) : Short (setS σ k v) := by
  intro j hj
  by_cases e : j = k
  · subst e; exact hk
  · rw [setS_other σ v e] at hj; exact h j hj

theorem same_ans {room : Int} {big : Prop} (hbig : big → (26 : Int) ≤ room) {σ τ σ' τ' : St} {k : K} {r r' : Ans} {room' : Int} {big' : Prop} (hbig' : big' → (26 : Int) ≤ room') (h1 : G.Inv rt big σ) (h2 : G.Inv rt big' τ) (hI : σ.I = τ.I)
    (ha : AskR rt room 54 { σ with stack := [] } k r σ') (hb : AskR rt room' 54 { τ with stack := [] } k r' τ') : (∃ s t t', r = .ok s t ∧ r' = .ok s t') ∨ ∃ e, r = .err e ∧ r' = .err e := by
  obtain ⟨_, a⟩ := ask_top hbig h1 ha
  obtain ⟨_, b⟩ := ask_top hbig' h2 hb
  have of_ok : ∀ {s}, G.Good rt σ.I k s → ofA rt σ.I U k [] = .ok s := fun ⟨n, hn⟩ => good_of asksIn n hn stack_nil (fun h => absurd rfl h) (.nil k)
  cases r with
  | ok s t =>
    have ga : G.Good rt σ.I k s := a.1
    cases r' with
    | ok s' t' =>
      have gb : G.Good rt τ.I k s' := b.1
      rw [← hI] at gb
      rw [good_unique gb ga]
      exact Or.inl ⟨s, t, t', rfl, rfl⟩
    | err e =>
      have gb : ofA rt τ.I U k [] = .err e := b
      rw [← hI, of_ok ga] at gb
      cases gb
  | err e =>
    have ga : ofA rt σ.I U k [] = .err e := a
    cases r' with
    | ok s' t' =>
      have gb : G.Good rt τ.I k s' := b.1
      rw [← hI] at gb
      rw [of_ok gb] at ga
      cases ga
    | err e' =>
      have gb : ofA rt τ.I U k [] = .err e' := b
      rw [← hI, ga] at gb
      cases gb
      exact Or.inr ⟨e, rfl, rfl⟩

theorem spares_plain {room : Int} (hroom : (26 : Int) ≤ room) {σ σ1 σ2 : St} {k : K} {r1 r2 : Ans} (hinv : G.Inv rt True σ) (h1 : AskR rt room 54 { σ with stack := [] } k r1 σ1) (h2 : AskR rt room 54 { σ1 with stack := [] } k r2 σ2) :
    (∃ s t1 t2, r1 = .ok s t1 ∧ r2 = .ok s t2 ∧ σ2.runs = σ1.runs ∧ ∀ u v, σ.inp u = none → u ∉ lowers → ∀ r3 σ3, AskR rt room 54 { setS σ2 u v with stack := [] } k r3 σ3 → ∃ t3, r3 = .ok s t3 ∧ σ3.runs = σ1.runs) ∨
    ∃ e, r1 = .err e ∧ r2 = .err e := by
  have hb : True → (26 : Int) ≤ room := fun _ => hroom
  obtain ⟨s1, a1⟩ := ask_top hb hinv h1
  have hI : σ.I = σ1.I := (show σ1.I = σ.I from s1.I).symm
  rcases same_ans hb hb hinv s1.inv hI h1 h2 with ⟨s, t, t', rfl, rfl⟩ | ⟨e, rfl, rfl⟩
  · refine Or.inl ⟨s, t, t', rfl, rfl, ?_⟩
    have hst := stab_of trivial s1.inv
    have hR := fresh_rof trivial a1.2.2.2
    obtain ⟨⟨t2, e2, _⟩, g2, g3, g4, _⟩ := stab_ask 54 _ k _ σ2 h2 ⟨hst.each, hst.now⟩ hR (fun a ha => by cases ha)
    refine ⟨g2, fun u v hu hul r3 σ3 h3 => ?_⟩
    have hnu : ¬ Rof σ1 u := by
      rintro (h | ⟨m, hm, _⟩)
      · have e : σ1.inp = σ.inp := s1.inp
        rw [e] at h
        exact h hu
      · obtain ⟨vs, q1, _⟩ := s1.inv.good u m hm
        exact hul (inLowers _ _ _ q1)
    have hs3 := g3.set (v := v) hnu
    obtain ⟨⟨t3, e3, _⟩, k2, _⟩ := stab_ask 54 _ k r3 σ3 h3 ⟨hs3.each, hs3.now⟩ hR (fun a ha => by cases ha)
    have es : anOf σ1 k = s := by cases e2; rfl
    refine ⟨t3, by rw [e3, es], ?_⟩
    have hr : (setS σ2 u v).runs = σ2.runs := by
      unfold setS
      split
      · split <;> rfl
      · rfl
    exact k2.trans (hr.trans g2)
  · exact Or.inr ⟨e, rfl, rfl⟩
end Go.Proofs.Ytelddnalpkhclaa
