/- Plain: cut to one sign, an input that changes behind it makes one rule run again. -/
import Derived.Test.YtelddnalpkhclaaStab
import Derived.Test.YtelddnalpkhclaaLive
namespace Go.Proofs.Ytelddnalpkhclaa
open Go.RowKit G

def kA : K := ⟨#[65]⟩
def kB : K := ⟨#[66]⟩
def ka : K := ⟨#[97]⟩
def kb : K := ⟨#[98]⟩
def kc : K := ⟨#[99]⟩
theorem rt_ka : rt ka = .ask kA (fun t => loopT t.data.toList ⟨#[]⟩) := rfl
theorem rt_kb : rt kb = .ask kB (fun t => loopT t.data.toList ⟨#[]⟩) := rfl
theorem empty_app (x : K) : (⟨#[]⟩ : K) ++ x = x := by
  apply ByteArray.ext
  simp
def Cut (c : UInt8) (x : K) : Prop := x.size < 200 ∧ (if 1 < x.size then x.extract 0 1 else x) = (⟨#[c]⟩ : K)
def Plain (d : UInt8) : Prop := ¬ (97 ≤ d ∧ d ≤ 122) ∧ d ≠ 33 ∧ d ≠ 63 ∧ d ≠ 37
theorem cut_of (c : UInt8) (a : K) (h : a.size ≤ 100) : Cut c (⟨#[c]⟩ ++ a) := by
  have hs : ((⟨#[c]⟩ : K) ++ a).size = 1 + a.size := by rw [ByteArray.size_append]; rfl
  refine ⟨by omega, ?_⟩
  by_cases h0 : 1 < ((⟨#[c]⟩ : K) ++ a).size
  · rw [if_pos h0]
    apply ByteArray.ext
    apply Array.toList_inj.1
    rw [Lib.extract_data]
    simp
  · rw [if_neg h0]
    have : a.size = 0 := by omega
    have e : a = ⟨#[]⟩ := by
      apply ByteArray.ext
      apply Array.eq_empty_of_size_eq_zero
      exact this
    subst e
    apply ByteArray.ext
    simp
theorem loop_b : loopT [99, 37] ⟨#[]⟩ = .ask kc (fun s => loopT [37] (⟨#[]⟩ ++ s)) := lp_letter (by decide) (by decide)
theorem loop_a (d : UInt8) : loopT [98, d] ⟨#[]⟩ = .ask kb (fun s => loopT [d] (⟨#[]⟩ ++ s)) := lp_letter (by decide) (by decide)
theorem loop_cut {c : UInt8} {x : K} (h : Cut c x) : loopT [37] (⟨#[]⟩ ++ x) = .ret (.ok ⟨#[c]⟩) := by
  rw [empty_app, lp_cut h.1, h.2]; rfl
theorem loop_end {c d : UInt8} (h : Plain d) : loopT [d] (⟨#[]⟩ ++ ⟨#[c]⟩) = .ret (.ok ⟨#[c, d]⟩) := by
  have hs : (⟨#[c]⟩ : K).size < 200 := show 1 < 200 by decide
  rw [empty_app, lp_else hs h.1 h.2.1 h.2.2.1 h.2.2.2]
  rfl
theorem run_b {c : UInt8} {x : K} (h : Cut c x) : goT (rt kb) [(kB, ⟨#[99, 37]⟩), (kc, x)] = some (.ret (.ok ⟨#[c]⟩)) := by
  rw [rt_kb]
  simp only [goT, if_true, loop_b, loop_cut h]
theorem run_a {c d : UInt8} (h : Plain d) : goT (rt ka) [(kA, ⟨#[98, d]⟩), (kb, ⟨#[c]⟩)] = some (.ret (.ok ⟨#[c, d]⟩)) := by
  rw [rt_ka]
  simp only [goT, if_true, loop_a, loop_end h]

theorem run_eq (P : K → K → Prop) : ∀ (vs ws : List (K × K)) (t : Tree) (s s' : K), goT t vs = some (.ret (.ok s)) → goT t ws = some (.ret (.ok s')) →
    (∀ p ∈ vs, ∀ v, P p.1 v → v = p.2) → (∀ p ∈ ws, P p.1 p.2) → vs = ws
  | [], [], t, s, s', _, _, _, _ => rfl
  | [], (j, v) :: ws, t, s, s', h1, h2, _, _ => by
    simp [goT] at h1
    subst h1
    simp [goT] at h2
  | (j, v) :: vs, [], t, s, s', h1, h2, _, _ => by
    simp [goT] at h2
    subst h2
    simp [goT] at h1
  | (j, v) :: vs, (j', v') :: ws, .ret r, s, s', h1, _, _, _ => by simp [goT] at h1
  | (j, v) :: vs, (j', v') :: ws, .ask k c, s, s', h1, h2, hv, hw => by
    simp only [goT] at h1 h2
    split at h1
    · rename_i e1
      split at h2
      · rename_i e2
        subst e1; subst e2
        have := hv (j', v) (List.mem_cons_self ..) v' (hw (j', v') (List.mem_cons_self ..))
        simp only at this
        subst this
        rw [run_eq P vs ws (c v') s s' h1 h2 (fun p hp => hv p (List.mem_cons_of_mem _ hp)) (fun p hp => hw p (List.mem_cons_of_mem _ hp))]
      · cases h2
    · cases h1

/-- the inputs of the statement -/
structure CutIn (c d : UInt8) (x : K) (σ : St) : Prop where
  hA : ∃ t, σ.inp kA = some (⟨#[98, d]⟩, t)
  hB : ∃ t, σ.inp kB = some (⟨#[99, 37]⟩, t)
  hc : ∃ t, σ.inp kc = some (x, t)
  ha : σ.inp ka = none
  hb : σ.inp kb = none
theorem inp_I {σ : St} {k v : K} (h : ∃ t, σ.inp k = some (v, t)) : σ.I k = some v := by
  obtain ⟨t, h⟩ := h
  unfold St.I; rw [h]; rfl
theorem none_I {σ : St} {k : K} (h : σ.inp k = none) : σ.I k = none := by unfold St.I; rw [h]; rfl
section
variable {c d : UInt8} {x : K} {σ : St}
theorem good_b (h : CutIn c d x σ) (hx : Cut c x) : G.Good rt σ.I kb ⟨#[c]⟩ := good_rule (none_I h.hb) (run_b hx) (fun p hp => by
  rcases List.mem_cons.1 hp with rfl | hp
  · exact good_inp (inp_I h.hB)
  · have : p = (kc, x) := by simpa using hp
    subst this
    exact good_inp (inp_I h.hc))
theorem good_a (h : CutIn c d x σ) (hx : Cut c x) (hd : Plain d) : G.Good rt σ.I ka ⟨#[c, d]⟩ := good_rule (none_I h.ha) (run_a hd) (fun p hp => by
  rcases List.mem_cons.1 hp with rfl | hp
  · exact good_inp (inp_I h.hA)
  · have : p = (kb, ⟨#[c]⟩) := by simpa using hp
    subst this
    exact good_b h hx)
theorem ans_of {room : Int} {big : Prop} (hbig : big → (26 : Int) ≤ room) (hinv : G.Inv rt big σ) {k s : K} (hg : G.Good rt σ.I k s) {r : Ans} {σ' : St} (h : AskR rt room 54 { σ with stack := [] } k r σ') : ∃ t, r = .ok s t := by
  obtain ⟨_, a⟩ := ask_top hbig hinv h
  cases r with
  | ok s' t => rw [good_unique a.1 hg]; exact ⟨t, rfl⟩
  | err e =>
    obtain ⟨n, hn⟩ := hg
    have h1 := good_of asksIn n hn stack_nil (fun h => absurd rfl h) (.nil k)
    have a' : ofA rt σ.I U k [] = .err e := a
    rw [h1] at a'
    cases a'

theorem inp_inv {rt : K → Tree} {room : Int} {f : Nat} {σ σ' : St} {k v : K} {t : Int} {r : Ans} (h : AskR rt room f σ k r σ') (hi : σ.inp k = some (v, t)) : r = .ok v t ∧ σ' = σ := by
  cases f with
  | zero => exact h.elim
  | succ f =>
    rcases h with ⟨v', t', h1, h2, h3⟩ | ⟨h1, _⟩ | ⟨h1, _⟩
    · rw [hi] at h1; cases h1; exact ⟨h2, h3⟩
    · rw [hi] at h1; cases h1
    · rw [hi] at h1; cases h1
theorem rule_inv {rt : K → Tree} {room : Int} {f : Nat} {σ σ' : St} {k : K} {r : Ans} (h : AskR rt room f σ k r σ') (hi : σ.inp k = none) (hs : k ∉ σ.stack) : ∃ f' σ1, KnownR rt room (AskR rt room f') { σ with stack := σ.stack ++ [k] } k r σ1 ∧ σ' = { σ1 with stack := σ.stack } := by
  cases f with
  | zero => exact h.elim
  | succ f =>
    rcases h with ⟨v', t', h1, _⟩ | ⟨_, h2, _⟩ | ⟨_, _, σ1, h3, h4⟩
    · rw [hi] at h1; cases h1
    · exact absurd h2 hs
    · exact ⟨f, σ1, h3, h4⟩

/-- b is reckoned anew -/
theorem reck_b {room : Int} {f : Nat} {σ σ' : St} {r : Ans} {mb : Memo} {y : K} (hB : ∃ t, σ.inp kB = some (⟨#[99, 37]⟩, t)) (hc : ∃ t, σ.inp kc = some (y, t)) (hy : Cut c y) (hans : mb.ans = ⟨#[c]⟩)
    (h : ReckonR rt room (AskR rt room f) σ kb (some mb) r σ') : r = .ok ⟨#[c]⟩ mb.changed ∧ σ'.runs = wrap64 (σ.runs + 1) := by
  obtain ⟨tB, hB⟩ := hB
  obtain ⟨tc, hc⟩ := hc
  obtain ⟨vs, σ1, hch, hcase⟩ := h
  have hne : ∀ {τ : St} {k v : K} {t e : Int} {σ2 : St}, τ.inp k = some (v, t) → ¬ AskR rt room f τ k (.err e) σ2 := fun hi ha => by
    have := (inp_inv ha hi).1
    cases this
  cases vs with
  | nil =>
    cases (show σ1 = _ from hch)
    rcases hcase with ⟨s, hgo, _⟩ | ⟨e, hgo, _⟩ | ⟨j, c', e, σ2, hgo, ha, _⟩
    · rw [rt_kb] at hgo; simp [goT] at hgo
    · rw [rt_kb] at hgo; simp [goT] at hgo
    · rw [rt_kb] at hgo
      simp only [goT, Option.some.injEq, Tree.ask.injEq] at hgo
      obtain ⟨rfl, _⟩ := hgo
      exact absurd ha (hne hB)
  | cons p vs =>
    obtain ⟨j, v⟩ := p
    obtain ⟨t0, σ0, ha0, hch⟩ := hch
    have hj : ∀ {q}, goT (rt kb) ((j, v) :: vs) = some q → j = kB := fun hgo => by
      rw [rt_kb] at hgo
      simp only [goT] at hgo
      split at hgo
      · assumption
      · cases hgo
    have hjB : j = kB := by
      rcases hcase with ⟨s, hgo, _⟩ | ⟨e, hgo, _⟩ | ⟨j', c', e, σ2, hgo, _⟩
      · exact hj hgo
      · exact hj hgo
      · exact hj hgo
    subst hjB
    obtain ⟨e1, rfl⟩ := inp_inv ha0 (show _ = _ from hB)
    cases e1
    have hgo' : goT (rt kb) ((kB, ⟨#[99, 37]⟩) :: vs) = goT (loopT [99, 37] ⟨#[]⟩) vs := by rw [rt_kb]; simp only [goT, if_true]
    rw [hgo', loop_b] at hcase
    cases vs with
    | nil =>
      cases (show σ1 = _ from hch)
      rcases hcase with ⟨s, hgo, _⟩ | ⟨e, hgo, _⟩ | ⟨j, c', e, σ2, hgo, ha, _⟩
      · simp [goT] at hgo
      · simp [goT] at hgo
      · simp only [goT, Option.some.injEq, Tree.ask.injEq] at hgo
        obtain ⟨rfl, _⟩ := hgo
        exact absurd ha (hne hc)
    | cons p vs =>
      obtain ⟨j, v⟩ := p
      obtain ⟨t0, σ0, ha0, hch⟩ := hch
      have hj : ∀ {q}, goT (Tree.ask kc (fun s => loopT [37] (⟨#[]⟩ ++ s))) ((j, v) :: vs) = some q → j = kc := fun hgo => by
        simp only [goT] at hgo
        split at hgo
        · assumption
        · cases hgo
      have hjc : j = kc := by
        rcases hcase with ⟨s, hgo, _⟩ | ⟨e, hgo, _⟩ | ⟨j', c', e, σ2, hgo, _⟩
        · exact hj hgo
        · exact hj hgo
        · exact hj hgo
      subst hjc
      obtain ⟨e1, rfl⟩ := inp_inv ha0 (show _ = _ from hc)
      cases e1
      have hgo2 : goT (Tree.ask kc (fun s => loopT [37] (⟨#[]⟩ ++ s))) ((kc, y) :: vs) = goT (.ret (.ok ⟨#[c]⟩)) vs := by simp only [goT, if_true, loop_cut hy]
      rw [hgo2] at hcase
      cases vs with
      | cons p vs =>
        obtain ⟨j, v⟩ := p
        rcases hcase with ⟨s, hgo, _⟩ | ⟨e, hgo, _⟩ | ⟨j, c', e, σ2, hgo, _⟩ <;> simp [goT] at hgo
      | nil =>
        cases (show σ1 = _ from hch)
        rcases hcase with ⟨s, hgo, hr, f1, n1, _, _, _, rfl⟩ | ⟨e, hgo, _⟩ | ⟨j, c', e, σ2, hgo, _⟩
        · simp only [goT, Option.some.injEq, Tree.ret.injEq, Res.ok.injEq] at hgo
          subst hgo
          refine ⟨?_, rfl⟩
          rw [hr]
          unfold chg
          simp only [hans, if_true]
        · simp [goT] at hgo
        · simp [goT] at hgo
theorem ask_b {room : Int} {f : Nat} {σ σ' : St} {r : Ans} {mb : Memo} {y : K} (hb : σ.inp kb = none) (hst : kb ∉ σ.stack) (hm : σ.memo kb = some mb) (hl : mb.looked ≠ σ.now) (hn : mb.needs = [kB, kc]) (hans : mb.ans = ⟨#[c]⟩)
    (hB : ∃ t, σ.inp kB = some (⟨#[99, 37]⟩, t) ∧ t ≤ mb.looked) (hc : ∃ t, σ.inp kc = some (y, t) ∧ mb.looked < t) (hy : Cut c y) (h : AskR rt room f σ kb r σ') : r = .ok ⟨#[c]⟩ mb.changed ∧ σ'.runs = wrap64 (σ.runs + 1) := by
  obtain ⟨f', σ1, hk, rfl⟩ := rule_inv h hb hst
  obtain ⟨tB, hB, hB2⟩ := hB
  obtain ⟨tc, hc, hc2⟩ := hc
  have key : ∀ {m b σ2}, σ.memo kb = some m → HoldsR (AskR rt room f') m.looked { σ with stack := σ.stack ++ [kb] } m.needs b σ2 → b = false ∧ σ2 = { σ with stack := σ.stack ++ [kb] } ∧ m = mb := by
    intro m b σ2 hm' hh
    rw [hm] at hm'
    cases hm'
    rw [hn] at hh
    rcases hh with ⟨e, σ3, ha, _⟩ | ⟨s, t, σ3, ha, hlt, _⟩ | ⟨s, t, σ3, ha, _, hh⟩
    · have := (inp_inv ha (show _ = _ from hB)).1; cases this
    · have := (inp_inv ha (show _ = _ from hB)).1; cases this; omega
    · obtain ⟨e1, rfl⟩ := inp_inv ha (show _ = _ from hB)
      rcases hh with ⟨e, σ3, ha, _⟩ | ⟨s, t, σ3, ha, _, hb, rfl⟩ | ⟨s, t, σ3, ha, hle, _⟩
      · have := (inp_inv ha (show _ = _ from hc)).1; cases this
      · exact ⟨hb, (inp_inv ha (show _ = _ from hc)).2, rfl⟩
      · have := (inp_inv ha (show _ = _ from hc)).1; cases this; omega
  rcases hk with ⟨m, hm', hl', _⟩ | ⟨m, σ2, hm', _, hh, _⟩ | ⟨m, σ2, hm', _, hh, hr⟩ | ⟨hm', _⟩
  · have hm2 : σ.memo kb = some m := hm'
    rw [hm] at hm2; cases hm2; exact absurd hl' hl
  · have := (key hm' hh).1; cases this
  · obtain ⟨_, rfl, rfl⟩ := key hm' hh
    obtain ⟨h1, h2⟩ := reck_b (σ := { σ with stack := σ.stack ++ [kb] }) ⟨tB, hB⟩ ⟨tc, hc⟩ hy hans hr
    exact ⟨h1, h2⟩
  · have hm2 : σ.memo kb = none := hm'
    rw [hm] at hm2; cases hm2
theorem ask_a {room : Int} {f : Nat} {σ σ' : St} {r : Ans} {ma mb : Memo} {y v : K} (ha : σ.inp ka = none) (hb : σ.inp kb = none) (hst : σ.stack = []) (hma : σ.memo ka = some ma) (hla : ma.looked ≠ σ.now) (hna : ma.needs = [kA, kb])
    (hm : σ.memo kb = some mb) (hl : mb.looked ≠ σ.now) (hn : mb.needs = [kB, kc]) (hans : mb.ans = ⟨#[c]⟩) (hA : ∃ t, σ.inp kA = some (v, t) ∧ t ≤ ma.looked) (hch : mb.changed ≤ ma.looked)
    (hB : ∃ t, σ.inp kB = some (⟨#[99, 37]⟩, t) ∧ t ≤ mb.looked) (hc : ∃ t, σ.inp kc = some (y, t) ∧ mb.looked < t) (hy : Cut c y) (h : AskR rt room f σ ka r σ') : σ'.runs = wrap64 (σ.runs + 1) := by
  obtain ⟨f', σ1, hk, rfl⟩ := rule_inv h ha (by rw [hst]; simp)
  obtain ⟨tA, hA, hA2⟩ := hA
  have hkb : kb ∉ σ.stack ++ [ka] := by rw [hst]; decide
  have key : ∀ {m b σ2}, σ.memo ka = some m → HoldsR (AskR rt room f') m.looked { σ with stack := σ.stack ++ [ka] } m.needs b σ2 → b = true ∧ σ2.runs = wrap64 (σ.runs + 1) := by
    intro m b σ2 hm' hh
    rw [hma] at hm'
    cases hm'
    rw [hna] at hh
    rcases hh with ⟨e, σ3, hq, _⟩ | ⟨s, t, σ3, hq, hlt, _⟩ | ⟨s, t, σ3, hq, _, hh⟩
    · have := (inp_inv hq (show _ = _ from hA)).1; cases this
    · have := (inp_inv hq (show _ = _ from hA)).1; cases this; omega
    · obtain ⟨e1, rfl⟩ := inp_inv hq (show _ = _ from hA)
      have hb' := fun {r σ3} hq => ask_b (σ := { σ with stack := σ.stack ++ [ka] }) (room := room) (f := f') (r := r) (σ' := σ3) hb hkb hm hl hn hans hB hc hy hq
      rcases hh with ⟨e, σ3, hq, _⟩ | ⟨s, t, σ3, hq, hlt, _⟩ | ⟨s, t, σ3, hq, _, hh⟩
      · have := (hb' hq).1; cases this
      · have := (hb' hq).1; cases this; omega
      · obtain ⟨h1, rfl⟩ := hh
        exact ⟨h1, (hb' hq).2⟩
  rcases hk with ⟨m, hm', hl', _⟩ | ⟨m, σ2, hm', _, hh, _, rfl⟩ | ⟨m, σ2, hm', _, hh, hr⟩ | ⟨hm', _⟩
  · have hm2 : σ.memo ka = some m := hm'
    rw [hma] at hm2; cases hm2; exact absurd hl' hla
  · exact (key hm' hh).2
  · have := (key hm' hh).1; cases this
  · have hm2 : σ.memo ka = none := hm'
    rw [hma] at hm2; cases hm2

theorem cuts_plain {room : Int} (hroom : (26 : Int) ≤ room) (hinv : G.Inv rt True σ) (h : CutIn c d x σ) (hx : Cut c x) (hd : Plain d) {r : Ans} {σ1 : St} (h1 : AskR rt room 54 { σ with stack := [] } ka r σ1) {y : K} (hy : Cut c y) :
    (∃ t, r = .ok ⟨#[c, d]⟩ t) ∧ ∀ r2 σ2, AskR rt room 54 { setS σ1 kc y with stack := [] } ka r2 σ2 → (∃ t, r2 = .ok ⟨#[c, d]⟩ t) ∧ σ2.runs = if x = y then σ1.runs else wrap64 (σ1.runs + 1) := by
  have hb : True → (26 : Int) ≤ room := fun _ => hroom
  obtain ⟨s1, a1⟩ := ask_top hb hinv h1
  obtain ⟨t, rfl⟩ := ans_of hb hinv (good_a h hx hd) h1
  refine ⟨⟨t, rfl⟩, fun r2 σ2 h2 => ?_⟩
  have hin : σ1.inp = σ.inp := s1.inp
  have hI : σ1.I = σ.I := by unfold St.I; rw [hin]
  have hC1 : CutIn c d x σ1 := ⟨by rw [hin]; exact h.hA, by rw [hin]; exact h.hB, by rw [hin]; exact h.hc, by rw [hin]; exact h.ha, by rw [hin]; exact h.hb⟩
  have hfr : Fresh True σ1 ka := a1.2.2.2
  obtain ⟨tc, htc⟩ := hC1.hc
  by_cases hxy : x = y
  · subst hxy
    have e : setS σ1 kc x = σ1 := by unfold setS; rw [htc]; simp
    rw [e] at h2
    have hs := stab_of trivial s1.inv
    obtain ⟨_, g2, _⟩ := stab_ask 54 _ ka r2 σ2 h2 ⟨hs.each, hs.now⟩ (fresh_rof trivial hfr) (fun a ha => by cases ha)
    refine ⟨ans_of hb s1.inv (good_a hC1 hx hd) h2, ?_⟩
    rw [if_pos rfl]
    exact g2
  · have e : setS σ1 kc y = { dropM σ1 kc with inp := ins σ1.inp kc (y, σ1.now + 1), now := σ1.now + 1 } := by
      unfold setS
      rw [htc]
      simp only
      rw [if_neg hxy]
    have hinv2 := s1.inv.set kc y
    have hmem : ∀ {k m}, σ1.memo k = some m → (setS σ1 kc y).memo k = some m := fun {k m} hk => by
      have hne : k ≠ kc := fun ek => by
        subst ek
        have := s1.inv.noinp _ m hk
        rw [htc] at this
        cases this
      rw [e]
      show del σ1.memo kc k = some m
      rw [del_other _ hne]
      exact hk
    have hinp : ∀ {k}, k ≠ kc → (setS σ1 kc y).inp k = σ1.inp k := fun {k} hne => by
      rw [e]
      exact ins_other _ _ hne
    have hnow : (setS σ1 kc y).now = σ1.now + 1 := by rw [e]
    have hruns : (setS σ1 kc y).runs = σ1.runs := by rw [e]; rfl
    have hcy : (setS σ1 kc y).inp kc = some (y, σ1.now + 1) := by rw [e]; exact ins_same σ1.inp kc _
    have hC2 : CutIn c d y (setS σ1 kc y) := ⟨by rw [hinp (by decide)]; exact hC1.hA, by rw [hinp (by decide)]; exact hC1.hB, ⟨_, hcy⟩, by rw [hinp (by decide)]; exact hC1.ha, by rw [hinp (by decide)]; exact hC1.hb⟩
    refine ⟨ans_of hb hinv2 (good_a hC2 hy hd) h2, ?_⟩
    rw [if_neg hxy]
    -- what is known of a and b
    have memo_of : ∀ {k : K} {s : K} {ws : List (K × K)}, σ1.inp k = none → Fresh True σ1 k → goT (rt k) ws = some (.ret (.ok s)) → (∀ p ∈ ws, G.Good rt σ1.I p.1 p.2) → ∃ m, σ1.memo k = some m ∧ m.looked = σ1.now ∧ m.ans = s ∧ m.needs = ws.map Prod.fst ∧ m.changed ≤ σ1.now ∧ ∀ p ∈ ws, Fresh True σ1 p.1 := by
      intro k s ws hk hf hgo hg
      have hne : σ1.memo k ≠ none := by
        rcases hf.2 trivial with f | f
        · exact absurd hk f
        · exact f
      cases hm : σ1.memo k with
      | none => exact absurd hm hne
      | some m =>
        have hl := hf.1 m hm
        obtain ⟨vs, g1, g2, _, g4⟩ := s1.inv.good k m hm
        have ht := s1.inv.time k m hm
        have hvw : vs = ws := run_eq (G.Good rt σ1.I) vs ws (rt k) _ _ g1 hgo (fun p hp v hv => good_unique hv (g4 hl p hp).1) hg
        subst hvw
        rw [g1] at hgo
        cases hgo
        exact ⟨m, rfl, hl, rfl, g2.symm, by omega, fun p hp => (g4 hl p hp).2⟩
    obtain ⟨ma, a1', a2', _, a4', _, a6'⟩ := memo_of hC1.ha hfr (run_a (c := c) hd) (fun p hp => by
      rcases List.mem_cons.1 hp with rfl | hp
      · exact good_inp (inp_I hC1.hA)
      · have : p = (kb, ⟨#[c]⟩) := by simpa using hp
        subst this
        exact good_b hC1 hx)
    obtain ⟨mb, b1', b2', b3', b4', b5', _⟩ := memo_of hC1.hb (a6' (kb, ⟨#[c]⟩) (by simp)) (run_b hx) (fun p hp => by
      rcases List.mem_cons.1 hp with rfl | hp
      · exact good_inp (inp_I hC1.hB)
      · have : p = (kc, x) := by simpa using hp
        subst this
        exact good_inp (inp_I hC1.hc))
    obtain ⟨tA, hA⟩ := hC1.hA
    obtain ⟨tB, hB⟩ := hC1.hB
    have iA := s1.inv.itime _ _ _ hA
    have iB := s1.inv.itime _ _ _ hB
    have := ask_a (σ := { setS σ1 kc y with stack := [] }) hC2.ha hC2.hb rfl (hmem a1') (by show ma.looked ≠ (setS σ1 kc y).now; omega) a4' (hmem b1') (by show mb.looked ≠ (setS σ1 kc y).now; omega) b4' b3'
      ⟨tA, (hinp (by decide)).trans hA, by omega⟩ (by omega) ⟨tB, (hinp (by decide)).trans hB, by omega⟩ ⟨_, hcy, by omega⟩ hy h2
    rw [this]
    show wrap64 ((setS σ1 kc y).runs + 1) = _
    rw [hruns]
end
end Go.Proofs.Ytelddnalpkhclaa
