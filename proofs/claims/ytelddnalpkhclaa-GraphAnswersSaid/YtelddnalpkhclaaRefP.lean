/- Plain: the list of inputs as a function; errors and sizes of answers from scratch; how many answers are kept. -/
import Derived.Test.YtelddnalpkhclaaTwo
namespace Go.Proofs.Ytelddnalpkhclaa
open Go.RowKit G

def lookL : List (K × K) → K → Option K
  | [], _ => none
  | p :: l, k => if p.1 = k then some p.2 else lookL l k
theorem lookL_append (a b : List (K × K)) (k : K) : lookL (a ++ b) k = match lookL a k with
    | some v => some v
    | none => lookL b k := by
  induction a with
  | nil => rfl
  | cons p a ih =>
    simp only [List.cons_append, lookL]
    split
    · rfl
    · exact ih
theorem lookL_filter (l : List (K × K)) (k j : K) : lookL (l.filter fun p => p.1 != k) j = if j = k then none else lookL l j := by
  induction l with
  | nil => simp [lookL]
  | cons p l ih =>
    by_cases h : p.1 = k
    · have e : (p :: l).filter (fun p => p.1 != k) = l.filter fun p => p.1 != k := by simp [h]
      rw [e, ih]
      by_cases hj : j = k
      · rw [if_pos hj, if_pos hj]
      · rw [if_neg hj, if_neg hj, lookL, if_neg (by rw [h]; exact fun e => hj e.symm)]
    · have e : (p :: l).filter (fun p => p.1 != k) = p :: l.filter fun p => p.1 != k := by simp [h]
      rw [e]
      simp only [lookL]
      by_cases hp : p.1 = j
      · have hjk : ¬ j = k := fun e => h (hp.trans e)
        rw [if_pos hp, if_neg hjk, if_pos hp]
      · rw [if_neg hp, ih, if_neg hp]
theorem lookL_set (l : List (K × K)) {o : LOp} (h : o.kind = 0) : lookL (setL l o) = ins (lookL l) o.key o.val := by
  funext j
  unfold setL
  rw [if_pos h, lookL_append, lookL_filter]
  by_cases e : j = o.key
  · subst e
    rw [ins_same, if_pos rfl]
    simp [lookL]
  · rw [ins_other _ _ e, if_neg e]
    have e' : ¬ o.key = j := fun x => e x.symm
    simp [lookL, e']
    split
    · rename_i v hv; rw [hv]
    · rename_i hv; rw [hv]
theorem lookL_drop (l : List (K × K)) {o : LOp} (h : ¬ o.kind = 0) : lookL (setL l o) = del (lookL l) o.key := by
  funext j
  unfold setL
  rw [if_neg h, List.append_nil, lookL_filter]
  by_cases e : j = o.key
  · subst e
    rw [del_same, if_pos rfl]
  · rw [del_other _ e, if_neg e]

/-! ### errors and sizes -/
theorem evalT_err {orc : K → Res} {e : Int} : ∀ {t : Tree}, evalT orc t = .err e → (∃ vs, goT t vs = some (.ret (.err e))) ∨ ∃ j, orc j = .err e
  | .ret r, h => Or.inl ⟨[], by simp only [evalT] at h; simp [goT, h]⟩
  | .ask k c, h => by
    simp only [evalT] at h
    cases ho : orc k with
    | err e' => rw [ho] at h; exact Or.inr ⟨k, by rw [ho]; exact h⟩
    | ok v =>
      rw [ho] at h
      rcases evalT_err (t := c v) h with ⟨vs, h1⟩ | h1
      · exact Or.inl ⟨(k, v) :: vs, by simp [goT, h1]⟩
      · exact Or.inr h1
theorem of_errs {I : K → Option K} {e : Int} : ∀ (f : Nat) (k : K) (ab : List K), ofF rt I f k ab = .err e → e = 3 ∨ e = 4
  | 0, k, ab, h => by
    simp only [ofF, Res.err.injEq] at h
    exact Or.inr h.symm
  | f + 1, k, ab, h => by
    rw [ofF] at h
    cases hi : I k with
    | some v => rw [hi] at h; cases h
    | none =>
      rw [hi] at h
      simp only at h
      split at h
      · simp only [Res.err.injEq] at h
        exact Or.inr h.symm
      · rcases evalT_err h with ⟨vs, h1⟩ | ⟨j, h1⟩
        · exact Or.inl (errThree h1)
        · exact of_errs f j _ h1
theorem ofA_errs {I : K → Option K} {e : Int} {k : K} {ab : List K} (h : ofA rt I U k ab = .err e) : e = 3 ∨ e = 4 := of_errs _ _ _ h
theorem ofA_size {I : K → Option K} (hI : ∀ j v, I j = some v → v.size ≤ 200) {k s : K} {ab : List K} (h : ofA rt I U k ab = .ok s) : s.size ≤ 100000 := good_size hI (of_good _ h)

def retO : Res → Ending
  | .ok s => .returned (.tuple #[.string s, .int .i64 0])
  | .err e => .returned (.tuple #[.string ⟨#[]⟩, .int .i64 e])
/-- the graph's answer is the answer from scratch -/
theorem ask_of {room : Int} {σ σ' : St} {k : K} {r : Ans} (hinv : G.Inv rt False σ) (h : AskR rt room 54 { σ with stack := [] } k r σ') : retB r = retO (ofA rt σ.I U k []) := by
  obtain ⟨_, a⟩ := ask_top (big := False) (fun h => h.elim) hinv h
  cases r with
  | ok s t =>
    have ga : G.Good rt σ.I k s := a.1
    obtain ⟨n, hn⟩ := ga
    rw [good_of asksIn n hn stack_nil (fun h => absurd rfl h) (.nil k)]
    rfl
  | err e =>
    have ga : ofA rt σ.I U k [] = .err e := a
    rw [ga]
    rfl

/-! ### how many are kept -/
theorem delC_le {α : Type} (f : K → Option α) (k : K) (n : Nat) : delC f k n ≤ n := by unfold delC; split <;> omega
section
variable {room : Int} {A : St → K → Ans → St → Prop}
def Few (room : Int) (A : St → K → Ans → St → Prop) : Prop := ∀ σ k r σ', A σ k r σ' → (σ.n : Int) ≤ room → (σ'.n : Int) ≤ room
theorem chain_few (hA : Few room A) : ∀ (vs : List (K × K)) (σ σ' : St), Chain A σ vs σ' → (σ.n : Int) ≤ room → (σ'.n : Int) ≤ room
  | [], σ, σ', h, hn => by cases (show σ' = σ from h); exact hn
  | (k, v) :: vs, σ, σ', h, hn => by
    obtain ⟨t, σ1, h1, h2⟩ := h
    exact chain_few hA vs σ1 σ' h2 (hA _ _ _ _ h1 hn)
theorem holds_few (hA : Few room A) {L : Int} : ∀ (ks : List K) (σ σ' : St) (b : Bool), HoldsR A L σ ks b σ' → (σ.n : Int) ≤ room → (σ'.n : Int) ≤ room
  | [], σ, σ', b, h, hn => by
    obtain ⟨_, rfl⟩ := h
    exact hn
  | k :: ks, σ, σ', b, h, hn => by
    rcases h with ⟨e, σ1, h1, _, rfl⟩ | ⟨s, t, σ1, h1, _, _, rfl⟩ | ⟨s, t, σ1, h1, _, h2⟩
    · exact hA _ _ _ _ h1 hn
    · exact hA _ _ _ _ h1 hn
    · exact holds_few hA ks σ1 σ' b h2 (hA _ _ _ _ h1 hn)
theorem dropM_few {σ : St} (k : K) (h : (σ.n : Int) ≤ room) : ((dropM σ k).n : Int) ≤ room := by
  have e : (dropM σ k).n = delC σ.memo k σ.n := rfl
  have := delC_le σ.memo k σ.n
  omega
theorem reckon_few (hA : Few room A) {σ σ' : St} {k : K} {was : Option Memo} {r : Ans} (h : ReckonR rt room A σ k was r σ') (hn : (σ.n : Int) ≤ room) : (σ'.n : Int) ≤ room := by
  obtain ⟨vs, σ1, hc, h⟩ := h
  have h1 := chain_few hA vs _ _ hc hn
  rcases h with ⟨s, _, _, hk⟩ | ⟨e, _, _, rfl⟩ | ⟨j, c, e, σ2, _, ha, _, rfl⟩
  · obtain ⟨f, n, _, hle, _, rfl⟩ := hk
    exact hle
  · exact dropM_few k h1
  · exact dropM_few k (hA _ _ _ _ ha h1)
theorem known_few (hA : Few room A) {σ σ' : St} {k : K} {r : Ans} (h : KnownR rt room A σ k r σ') (hn : (σ.n : Int) ≤ room) : (σ'.n : Int) ≤ room := by
  rcases h with ⟨m, _, _, _, rfl⟩ | ⟨m, σ1, _, _, hh, _, rfl⟩ | ⟨m, σ1, _, _, hh, hr⟩ | ⟨_, hr⟩
  · exact hn
  · have := holds_few hA _ _ _ _ hh hn
    exact this
  · exact reckon_few hA hr (holds_few hA _ _ _ _ hh hn)
  · exact reckon_few hA hr hn
theorem ask_few : ∀ f, Few room (AskR rt room f)
  | 0 => fun σ k r σ' h _ => h.elim
  | f + 1 => fun σ k r σ' h hn => by
    rcases h with ⟨v, c, _, _, rfl⟩ | ⟨_, _, _, rfl⟩ | ⟨_, _, σ1, hk, rfl⟩
    · exact hn
    · exact hn
    · have : (σ1.n : Int) ≤ room := known_few (ask_few f) hk hn
      exact this
end
theorem setS_few {room : Int} {σ : St} (k v : K) (h : (σ.n : Int) ≤ room) : ((setS σ k v).n : Int) ≤ room := by
  unfold setS
  split
  · split
    · exact h
    · exact dropM_few k h
  · exact dropM_few k h
theorem dropS_few {room : Int} {σ : St} (k : K) (h : (σ.n : Int) ≤ room) : ((dropS σ k).n : Int) ≤ room := by
  unfold G.dropS
  split <;> exact h
end Go.Proofs.Ytelddnalpkhclaa
