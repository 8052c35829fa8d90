/- Plain: rules as trees of asks, answers from scratch, and what is good: no program in sight. -/
import Derived.Lib.Strings
namespace Go.Proofs.Ytelddnalpkhclaa.G

abbrev K := ByteArray
instance : LawfulBEq ByteArray where
  eq_of_beq {a b} h := by
    cases a; cases b
    have h' : ByteArray.beq _ _ = true := h
    simpa [ByteArray.beq] using h'
  rfl {a} := by
    cases a
    show ByteArray.beq _ _ = true
    simp [ByteArray.beq]
inductive Res where
  | ok (s : K)
  | err (e : Int)
/-- a rule's run: it answers, or asks for a key and goes on with the answer; an error that it is answered is its answer -/
inductive Tree where
  | ret (r : Res)
  | ask (k : K) (c : K → Tree)

def evalT (orc : K → Res) : Tree → Res
  | .ret r => r
  | .ask k c => match orc k with
    | .err e => .err e
    | .ok s => evalT orc (c s)
/-- a run with these answers -/
def goT : Tree → List (K × K) → Option Tree
  | t, [] => some t
  | .ret _, _ :: _ => none
  | .ask k c, (j, v) :: vs => if j = k then goT (c v) vs else none

/-- a key's answer from scratch, the keys above it being reckoned -/
def ofF (rt : K → Tree) (I : K → Option K) : Nat → K → List K → Res
  | 0, _, _ => .err 4
  | f + 1, k, ab => match I k with
    | some v => .ok v
    | none => if k ∈ ab then .err 4 else evalT (fun j => ofF rt I f j (ab ++ [k])) (rt k)

def done (t : Option Tree) (s : K) : Prop := t = some (.ret (.ok s))

theorem goT_append : ∀ (vs ws : List (K × K)) (t : Tree), goT t (vs ++ ws) = (goT t vs).bind fun t' => goT t' ws
  | [], ws, t => by simp [goT]
  | (j, v) :: vs, ws, .ret r => by simp [goT]
  | (j, v) :: vs, ws, .ask k c => by
    simp only [List.cons_append, goT]
    split
    · exact goT_append vs ws (c v)
    · rfl
theorem goT_snoc {t : Tree} {vs : List (K × K)} {k : K} {c : K → Tree} (h : goT t vs = some (.ask k c)) (v : K) : goT t (vs ++ [(k, v)]) = some (c v) := by
  rw [goT_append, h]
  simp [goT]

theorem evalT_ok {orc : K → Res} {s : K} : ∀ {t : Tree}, evalT orc t = .ok s → ∃ vs, goT t vs = some (.ret (.ok s)) ∧ ∀ p ∈ vs, orc p.1 = .ok p.2
  | .ret r, h => ⟨[], by simp only [evalT] at h; simp [goT, h], by simp⟩
  | .ask k c, h => by
    simp only [evalT] at h
    cases ho : orc k with
    | err e => rw [ho] at h; cases h
    | ok v =>
      rw [ho] at h
      obtain ⟨vs, h1, h2⟩ := evalT_ok (t := c v) h
      refine ⟨(k, v) :: vs, by simp [goT, h1], ?_⟩
      intro p hp
      rcases List.mem_cons.1 hp with rfl | hp
      · exact ho
      · exact h2 p hp
theorem evalT_run {orc : K → Res} : ∀ {vs : List (K × K)} {t t' : Tree}, goT t vs = some t' → (∀ p ∈ vs, orc p.1 = .ok p.2) → evalT orc t = evalT orc t'
  | [], t, t', h, _ => by simp [goT] at h; rw [h]
  | (j, v) :: vs, .ret r, t', h, _ => by simp [goT] at h
  | (j, v) :: vs, .ask k c, t', h, ho => by
    simp only [goT] at h
    split at h
    · rename_i e
      subst e
      have h1 := ho (j, v) (List.mem_cons_self ..)
      simp only [evalT]
      simp only at h1
      rw [h1]
      exact evalT_run h (fun p hp => ho p (List.mem_cons_of_mem _ hp))
    · cases h

section
variable (rt : K → Tree) (I : K → Option K)

/-- an answer that holds, with its height -/
def GoodH : Nat → K → K → Prop
  | 0, k, s => I k = some s
  | n + 1, k, s => I k = some s ∨ (I k = none ∧ ∃ vs, goT (rt k) vs = some (.ret (.ok s)) ∧ ∀ p ∈ vs, GoodH n p.1 p.2)
def Good (k s : K) : Prop := ∃ n, GoodH rt I n k s
/-- while k is reckoned, with answers that hold, j is asked for -/
def Asks (k j : K) : Prop := I k = none ∧ ∃ vs c, goT (rt k) vs = some (.ask j c) ∧ ∀ p ∈ vs, Good rt I p.1 p.2
inductive Path : List K → K → Prop
  | nil (k : K) : Path [] k
  | snoc {ab : List K} {a k : K} : Path ab a → Asks rt I a k → Path (ab ++ [a]) k
end

variable {rt : K → Tree} {I : K → Option K}

theorem GoodH.mono : ∀ {n m : Nat} {k s : K}, GoodH rt I n k s → n ≤ m → GoodH rt I m k s
  | 0, 0, _, _, h, _ => h
  | 0, _ + 1, _, _, h, _ => Or.inl h
  | n + 1, m + 1, k, s, h, hle => by
    rcases h with h | ⟨h0, vs, h1, h2⟩
    · exact Or.inl h
    · exact Or.inr ⟨h0, vs, h1, fun p hp => GoodH.mono (h2 p hp) (by omega)⟩
theorem good_inp {k s : K} (h : I k = some s) : Good rt I k s := ⟨0, h⟩
theorem all_height : ∀ (vs : List (K × K)), (∀ p ∈ vs, Good rt I p.1 p.2) → ∃ n, ∀ p ∈ vs, GoodH rt I n p.1 p.2
  | [], _ => ⟨0, by simp⟩
  | p :: vs, h => by
    obtain ⟨n, hn⟩ := all_height vs (fun q hq => h q (List.mem_cons_of_mem _ hq))
    obtain ⟨m, hm⟩ := h p (List.mem_cons_self ..)
    refine ⟨max n m, fun q hq => ?_⟩
    rcases List.mem_cons.1 hq with rfl | hq
    · exact hm.mono (Nat.le_max_right ..)
    · exact (hn q hq).mono (Nat.le_max_left ..)
theorem good_rule {k s : K} {vs : List (K × K)} (h0 : I k = none) (h1 : goT (rt k) vs = some (.ret (.ok s))) (h2 : ∀ p ∈ vs, Good rt I p.1 p.2) : Good rt I k s := by
  obtain ⟨n, hn⟩ := all_height vs h2
  exact ⟨n + 1, Or.inr ⟨h0, vs, h1, hn⟩⟩

/-- two runs with answers that hold are one -/
theorem run_same (P : K → K → Prop) : ∀ (vs ws : List (K × K)) (t : Tree) (s s' : K), goT t vs = some (.ret (.ok s)) → goT t ws = some (.ret (.ok s')) →
    (∀ p ∈ vs, ∀ v, P p.1 v → v = p.2) → (∀ p ∈ ws, P p.1 p.2) → s = s'
  | [], [], t, s, s', h1, h2, _, _ => by
    simp [goT] at h1 h2
    rw [h1] at h2
    simpa using h2
  | [], (j, v) :: ws, t, s, s', h1, h2, _, _ => by
    simp [goT] at h1
    subst h1
    simp [goT] at h2
  | (j, v) :: vs, [], t, s, s', h1, h2, _, _ => by
    simp [goT] at h2
    subst h2
    simp [goT] at h1
  | (j, v) :: vs, (j', v') :: ws, .ret r, s, s', h1, _, _, _ => by simp [goT] at h1
  | (j, v) :: vs, (j', v') :: ws, .ask k c, s, s', h1, h2, hv, hw => by
    simp only [goT] at h1 h2
    split at h1
    · rename_i e1
      split at h2
      · rename_i e2
        subst e1; subst e2
        have := hv (j', v) (List.mem_cons_self ..) v' (hw (j', v') (List.mem_cons_self ..))
        simp only at this
        subst this
        exact run_same P vs ws (c v') s s' h1 h2 (fun p hp => hv p (List.mem_cons_of_mem _ hp)) (fun p hp => hw p (List.mem_cons_of_mem _ hp))
      · cases h2
    · cases h1

theorem goodH_unique : ∀ (n : Nat) {k s s' : K}, GoodH rt I n k s → Good rt I k s' → s' = s := by
  intro n
  induction n with
  | zero =>
    intro k s s' h ⟨m, h'⟩
    simp only [GoodH] at h
    cases m with
    | zero => simp only [GoodH] at h'; rw [h] at h'; cases h'; rfl
    | succ m =>
      rcases h' with h' | ⟨h0, _⟩
      · rw [h] at h'; cases h'; rfl
      · rw [h] at h0; cases h0
  | succ n ih =>
    intro k s s' h ⟨m, h'⟩
    rcases h with h | ⟨h0, vs, h1, h2⟩
    · cases m with
      | zero => simp only [GoodH] at h'; rw [h] at h'; cases h'; rfl
      | succ m =>
        rcases h' with h' | ⟨h0, _⟩
        · rw [h] at h'; cases h'; rfl
        · rw [h] at h0; cases h0
    · cases m with
      | zero => simp only [GoodH] at h'; rw [h0] at h'; cases h'
      | succ m =>
        rcases h' with h' | ⟨_, ws, h3, h4⟩
        · rw [h0] at h'; cases h'
        · exact (run_same (Good rt I) vs ws (rt k) s s' h1 h3 (fun p hp v hv => ih (h2 p hp) hv) (fun p hp => ⟨m, h4 p hp⟩)).symm
theorem good_unique {k s s' : K} (h : Good rt I k s) (h' : Good rt I k s') : s = s' := by
  obtain ⟨n, hn⟩ := h
  exact (goodH_unique n hn h').symm

/-- what is asked for on the way stands in the whole run -/
theorem run_prefix (P : K → K → Prop) : ∀ (vs ws : List (K × K)) (t : Tree) (s j : K) (c : K → Tree), goT t vs = some (.ret (.ok s)) → goT t ws = some (.ask j c) →
    (∀ p ∈ vs, ∀ v, P p.1 v → v = p.2) → (∀ p ∈ ws, P p.1 p.2) → ∃ v, (j, v) ∈ vs
  | [], [], t, s, j, c, h1, h2, _, _ => by
    simp [goT] at h1 h2
    rw [h1] at h2
    cases h2
  | [], (i, v) :: ws, t, s, j, c, h1, h2, _, _ => by
    simp [goT] at h1
    subst h1
    simp [goT] at h2
  | (i, v) :: vs, [], t, s, j, c, h1, h2, _, _ => by
    simp [goT] at h2
    subst h2
    simp only [goT] at h1
    split at h1
    · rename_i e
      subst e
      exact ⟨v, List.mem_cons_self ..⟩
    · cases h1
  | (i, v) :: vs, (i', v') :: ws, .ret r, s, j, c, h1, _, _, _ => by simp [goT] at h1
  | (i, v) :: vs, (i', v') :: ws, .ask k d, s, j, c, h1, h2, hv, hw => by
    simp only [goT] at h1 h2
    split at h1
    · rename_i e1
      split at h2
      · rename_i e2
        subst e1; subst e2
        have := hv (i', v) (List.mem_cons_self ..) v' (hw (i', v') (List.mem_cons_self ..))
        simp only at this
        subst this
        obtain ⟨u, hu⟩ := run_prefix P vs ws (d v') s j c h1 h2 (fun p hp => hv p (List.mem_cons_of_mem _ hp)) (fun p hp => hw p (List.mem_cons_of_mem _ hp))
        exact ⟨u, List.mem_cons_of_mem _ hu⟩
      · cases h2
    · cases h1

theorem asks_good {n : Nat} {k s j : K} (h : GoodH rt I n k s) (ha : Asks rt I k j) : ∃ m v, m < n ∧ GoodH rt I m j v := by
  obtain ⟨h0, ws, c, hw, hg⟩ := ha
  cases n with
  | zero => simp only [GoodH] at h; rw [h0] at h; cases h
  | succ n =>
    rcases h with h | ⟨_, vs, h1, h2⟩
    · rw [h0] at h; cases h
    · obtain ⟨v, hv⟩ := run_prefix (Good rt I) vs ws (rt k) s j c h1 hw (fun p hp v hv => goodH_unique n (h2 p hp) hv) hg
      exact ⟨n, v, by omega, h2 (j, v) hv⟩
theorem path_good {ab : List K} {k : K} (hp : Path rt I ab k) : ∀ {a : K}, a ∈ ab → ∀ {n : Nat} {s : K}, GoodH rt I n a s → ∃ m v, m < n ∧ GoodH rt I m k v := by
  induction hp with
  | nil => intro a ha; cases ha
  | @snoc ab b k hp hask ih =>
    intro a ha n s hg
    rcases List.mem_append.1 ha with ha | ha
    · obtain ⟨m, v, hm, hv⟩ := ih ha hg
      obtain ⟨m', v', hm', hv'⟩ := asks_good hv hask
      exact ⟨m', v', by omega, hv'⟩
    · have : a = b := by simpa using ha
      subst this
      exact asks_good hg hask
theorem good_not_above : ∀ (n : Nat) {ab : List K} {k s : K}, GoodH rt I n k s → Path rt I ab k → k ∉ ab := by
  intro n
  induction n using Nat.strongRecOn with
  | _ n ih =>
    intro ab k s hg hp hmem
    obtain ⟨m, v, hm, hv⟩ := path_good hp hmem hg
    exact ih m hm hv hp hmem

/-! ### stacks -/
theorem nodup_sub_length : ∀ (l U : List K), l.Nodup → (∀ x ∈ l, x ∈ U) → l.length ≤ U.length
  | [], _, _, _ => by simp
  | x :: l, U, hn, hs => by
    have hx := hs x (List.mem_cons_self ..)
    have h1 := nodup_sub_length l (U.erase x) (List.nodup_cons.1 hn).2 (fun y hy => by
      have hne : y ≠ x := fun e => (List.nodup_cons.1 hn).1 (e ▸ hy)
      exact (List.mem_erase_of_ne hne).2 (hs y (List.mem_cons_of_mem _ hy)))
    rw [List.length_erase_of_mem hx] at h1
    have : 0 < U.length := List.length_pos_of_mem hx
    simp only [List.length_cons]
    omega
/-- keys that are being reckoned: none twice; behind the first, keys that rules ask for -/
structure StackOk (U ab : List K) : Prop where
  nodup : ab.Nodup
  sub : ∀ x ∈ ab.tail, x ∈ U
theorem StackOk.length {U ab : List K} (h : StackOk U ab) : ab.length ≤ U.length + 1 := by
  cases ab with
  | nil => simp
  | cons x l =>
    have := nodup_sub_length l U (List.nodup_cons.1 h.nodup).2 h.sub
    simp only [List.length_cons]; omega
theorem StackOk.push {U ab : List K} {k : K} (h : StackOk U ab) (hk : k ∉ ab) (hU : ab ≠ [] → k ∈ U) : StackOk U (ab ++ [k]) := by
  refine ⟨?_, fun x hx => ?_⟩
  · rw [List.nodup_append]
    refine ⟨h.nodup, by simp, fun a ha b hb => ?_⟩
    have : b = k := by simpa using hb
    subst this
    intro e
    subst e
    exact hk ha
  · cases ab with
    | nil => simp at hx
    | cons y l =>
      simp only [List.cons_append, List.tail_cons] at hx
      rcases List.mem_append.1 hx with hx | hx
      · exact h.sub x hx
      · have : x = k := by simpa using hx
        subst this
        exact hU (by simp)
/-- so much fuel is enough -/
def fuel (U ab : List K) : Nat := U.length + 2 - ab.length
theorem fuel_push {U ab : List K} {k : K} (h : StackOk U ab) : fuel U ab = fuel U (ab ++ [k]) + 1 := by
  have := h.length
  unfold fuel
  rw [List.length_append]
  simp only [List.length_cons, List.length_nil]
  omega
def ofA (rt : K → Tree) (I : K → Option K) (U : List K) (k : K) (ab : List K) : Res := ofF rt I (fuel U ab) k ab
theorem ofA_eq {U ab : List K} (h : StackOk U ab) (k : K) : ofA rt I U k ab = match I k with
    | some v => .ok v
    | none => if k ∈ ab then .err 4 else evalT (fun j => ofA rt I U j (ab ++ [k])) (rt k) := by
  unfold ofA
  rw [fuel_push (k := k) h, ofF]
theorem ofA_inp {U ab : List K} (h : StackOk U ab) {k v : K} (hi : I k = some v) : ofA rt I U k ab = .ok v := by rw [ofA_eq h, hi]
theorem ofA_twice {U ab : List K} (h : StackOk U ab) {k : K} (hi : I k = none) (hk : k ∈ ab) : ofA rt I U k ab = .err 4 := by
  rw [ofA_eq h, hi]; exact if_pos hk
theorem ofA_rule {U ab : List K} (h : StackOk U ab) {k : K} (hi : I k = none) (hk : k ∉ ab) : ofA rt I U k ab = evalT (fun j => ofA rt I U j (ab ++ [k])) (rt k) := by
  rw [ofA_eq h, hi]; exact if_neg hk

/-- keys that rules ask for -/
def AsksIn (rt : K → Tree) (U : List K) : Prop := ∀ k vs j c, goT (rt k) vs = some (.ask j c) → j ∈ U

theorem mem_split {α : Type} {l : List α} {x : α} (h : x ∈ l) : ∃ a b, l = a ++ x :: b := List.append_of_mem h

/-- an answer that holds is the answer, wherever it is asked for on a true path -/
theorem good_of {U : List K} (hU : AsksIn rt U) : ∀ (n : Nat) {ab : List K} {k s : K}, GoodH rt I n k s → StackOk U ab → (ab ≠ [] → k ∈ U) → Path rt I ab k → ofA rt I U k ab = .ok s := by
  intro n
  induction n with
  | zero => intro ab k s hg hs _ _; exact ofA_inp hs hg
  | succ n ih =>
    intro ab k s hg hs hk hp
    have hno := good_not_above _ hg hp
    rcases hg with hg | ⟨h0, vs, h1, h2⟩
    · exact ofA_inp hs hg
    · rw [ofA_rule hs h0 hno]
      have hall : ∀ p ∈ vs, ofA rt I U p.1 (ab ++ [k]) = .ok p.2 := by
        intro p hpv
        obtain ⟨a, b, rfl⟩ := mem_split hpv
        obtain ⟨p1, p2⟩ := p
        have hpre : ∃ c, goT (rt k) a = some (.ask p1 c) := by
          rw [goT_append] at h1
          cases hga : goT (rt k) a with
          | none => rw [hga] at h1; cases h1
          | some t =>
            rw [hga] at h1
            simp only [Option.bind_some] at h1
            cases t with
            | ret r => simp [goT] at h1
            | ask j c =>
              simp only [goT] at h1
              split at h1
              · rename_i e; subst e; exact ⟨c, rfl⟩
              · cases h1
        obtain ⟨c, hc⟩ := hpre
        refine ih (h2 _ hpv) (hs.push hno hk) (fun _ => hU _ _ _ _ hc) (.snoc hp ⟨h0, a, c, hc, fun q hq => ⟨n, h2 q (List.mem_append_left _ hq)⟩⟩)
      rw [evalT_run h1 hall]
      rfl
/-- the answer, if it is none of an error, holds -/
theorem of_good : ∀ (f : Nat) {ab : List K} {k s : K}, ofF rt I f k ab = .ok s → Good rt I k s := by
  intro f
  induction f with
  | zero => intro ab k s h; simp [ofF] at h
  | succ f ih =>
    intro ab k s h
    rw [ofF] at h
    cases hi : I k with
    | some v => rw [hi] at h; simp only [Res.ok.injEq] at h; subst h; exact good_inp hi
    | none =>
      rw [hi] at h
      simp only at h
      split at h
      · cases h
      · obtain ⟨vs, h1, h2⟩ := evalT_ok h
        exact good_rule hi h1 (fun p hp => ih (h2 p hp))
end Go.Proofs.Ytelddnalpkhclaa.G
