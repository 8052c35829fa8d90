/- A graph that lives in blocks of its own, and what is done to it. -/
import Derived.Test.YtelddnalpkhclaaOps
namespace Go.Proofs.Ytelddnalpkhclaa
open Go.RowKit Go.Maps G

def Kind (w : World) (b : Nat) : Prop := ∀ cs t fr, w.heap[b]? = some (.cells cs t fr) → t = 56 ∨ t = 68 ∨ t = 9
def Live (gb : Nat) (room : Int) (F : Nat → Prop) (σ : St) (w : World) : Prop :=
  ∃ bi bm A sv, Rep gb bi bm room A sv σ w ∧ F gb ∧ F bi ∧ F bm ∧ (∀ g, sv.ownBlock = some g → F g) ∧ ∀ k b nv, A k = some (b, nv) → F b ∧ ∀ g, nv.ownBlock = some g → F g
def LivePost (gb : Nat) (room : Int) (F : Nat → Prop) (w : World) (σ' : St) (w' : World) : Prop :=
  Live gb room (fun b => F b ∨ w.heap.size ≤ b) σ' w' ∧ Fr w w' (fun b => F b ∧ Kind w b)

section
variable {gb : Nat} {room : Int} {F F' : Nat → Prop} {σ σ' : St} {w w' : World}
theorem Live.mono (h : Live gb room F σ w) (hF : ∀ b, F b → F' b) : Live gb room F' σ w := by
  obtain ⟨bi, bm, A, sv, h1, h2, h3, h4, h5, h6⟩ := h
  exact ⟨bi, bm, A, sv, h1, hF _ h2, hF _ h3, hF _ h4, fun g hg => hF _ (h5 g hg), fun k b nv hk => ⟨hF _ (h6 k b nv hk).1, fun g hg => hF _ ((h6 k b nv hk).2 g hg)⟩⟩
theorem LivePost.base {B : Nat} (h : LivePost gb room (fun b => B ≤ b) w σ' w') (hB : B ≤ w.heap.size) : Live gb room (fun b => B ≤ b) σ' w' :=
  h.1.mono (fun _ hb => hb.elim id (fun x => Nat.le_trans hB x))
/-- what another has turned -/
theorem Live.keep (h : Live gb room F σ w) {may : Nat → Prop} (hf : Fr w w' may) (hn : ∀ b, F b → Kind w b → may b → w.heap.size ≤ b) : Live gb room F σ w' := by
  obtain ⟨bi, bm, A, sv, h1, h2, h3, h4, h5, h6⟩ := h
  have hl := h1.lts
  obtain ⟨_, hg⟩ := h1.graph
  obtain ⟨_, _, hi⟩ := h1.inp
  obtain ⟨_, _, hbi⟩ := hi.obj
  obtain ⟨_, _, hbm⟩ := h1.memo.obj
  have kc : ∀ {b cs t}, w.heap[b]? = some (.cells cs t (0, 0)) → (t = 56 ∨ t = 68 ∨ t = 9) → Kind w b := fun {b cs t} hb ht cs' t' fr hb' => by
    rw [hb] at hb'
    injection hb' with e
    injection e with e1 e2 e3
    rw [← e2]
    exact ht
  have km : ∀ {b es c}, w.heap[b]? = some (.map es c) → Kind w b := fun {b es c} hb cs' t' fr hb' => by
    rw [hb] at hb'
    cases hb'
  refine ⟨bi, bm, A, sv, h1.keep hf (fun x => ?_) (fun x => ?_) (fun x => ?_) (fun g hg' x => ?_) (fun k b nv hk => ⟨fun x => ?_, fun g hg' x => ?_⟩), h2, h3, h4, h5, h6⟩
  · have := hn _ h2 (kc hg (Or.inl rfl)) x; omega
  · have := hn _ h3 (km hbi) x; omega
  · have := hn _ h4 (km hbm) x; omega
  · obtain ⟨_, hc⟩ := ownsRow_cells h1.stack hg'
    have := hn _ (h5 g hg') (kc hc (Or.inr (Or.inr rfl))) x
    have := hl.2.2.2.1 g hg'; omega
  · obtain ⟨_, _, _, hc, _⟩ := h1.has k b nv hk
    have := hn _ (h6 k b nv hk).1 (kc hc (Or.inr (Or.inl rfl))) x
    have := (hl.2.2.2.2 k b nv hk).1; omega
  · obtain ⟨_, _, _, _, ho, _⟩ := h1.has k b nv hk
    obtain ⟨_, hc⟩ := ownsRow_cells ho hg'
    have := hn _ ((h6 k b nv hk).2 g hg') (kc hc (Or.inr (Or.inr rfl))) x
    have := (hl.2.2.2.2 k b nv hk).2 g hg'; omega
theorem Live.same (h : Live gb room F σ w) (hf : Fr w w' (fun _ => False)) : Live gb room F σ w' := h.keep hf (fun _ _ _ x => x.elim)

theorem live_may {bi bm : Nat} {A : Adr} {sv : Value} (h1 : Rep gb bi bm room A sv σ w) (h2 : F gb) (h3 : F bi) (h4 : F bm) (h5 : ∀ g, sv.ownBlock = some g → F g) (h6 : ∀ k b nv, A k = some (b, nv) → F b ∧ ∀ g, nv.ownBlock = some g → F g) :
    (∀ b, May3 gb bi bm b → F b ∧ Kind w b) ∧ ∀ S b, May gb bm A S sv b → F b ∧ Kind w b := by
  obtain ⟨_, hg⟩ := h1.graph
  obtain ⟨_, _, hi⟩ := h1.inp
  obtain ⟨_, _, hbi⟩ := hi.obj
  obtain ⟨_, _, hbm⟩ := h1.memo.obj
  have kc : ∀ {b cs t}, w.heap[b]? = some (.cells cs t (0, 0)) → (t = 56 ∨ t = 68 ∨ t = 9) → Kind w b := fun {b cs t} hb ht cs' t' fr hb' => by
    rw [hb] at hb'
    injection hb' with e
    injection e with e1 e2 e3
    rw [← e2]
    exact ht
  have km : ∀ {b es c}, w.heap[b]? = some (.map es c) → Kind w b := fun {b es c} hb cs' t' fr hb' => by
    rw [hb] at hb'
    cases hb'
  refine ⟨fun b hb => ?_, fun S b hb => ?_⟩
  · rcases hb with rfl | rfl | rfl
    · exact ⟨h2, kc hg (Or.inl rfl)⟩
    · exact ⟨h3, km hbi⟩
    · exact ⟨h4, km hbm⟩
  · rcases hb with rfl | rfl | e | ⟨j, nv, _, e⟩
    · exact ⟨h2, kc hg (Or.inl rfl)⟩
    · exact ⟨h4, km hbm⟩
    · obtain ⟨_, hc⟩ := ownsRow_cells h1.stack e
      exact ⟨h5 _ e, kc hc (Or.inr (Or.inr rfl))⟩
    · obtain ⟨_, _, _, hc, _⟩ := h1.has j b nv e
      exact ⟨(h6 j b nv e).1, kc hc (Or.inr (Or.inl rfl))⟩

theorem live_new (h1 : 1 ≤ room) (w : World) : Calls Try.prog 10 #[.func (.func 11) #[] #[], .int .i64 room] w fun e w' =>
    ∃ gb, e = .returned (.tuple #[.pointer (some ⟨gb, 0, none⟩), .int .i64 0]) ∧ Live gb room (fun b => w.heap.size ≤ b ∧ b < w'.heap.size) σnew w' ∧ Fr w w' (fun _ => False) := by
  refine (new_ok 11 room (by simp; omega) w).mono ?_
  rintro e w' ⟨rfl, g, mi, mm, hb, hs⟩
  refine ⟨w.heap.size + 2, rfl, ⟨w.heap.size, w.heap.size + 1, fun _ => none, .slice none 0 0, ⟨⟨0, g⟩, World.ownsRow_nil _ _ _ _, ⟨0, by decide, mi⟩, mm, fun k b nv h => (by cases h), fun k h => rfl, fun k j b nv nv' h => (by cases h), by omega⟩, ?_, ?_, ?_, fun g hg => (by cases hg), fun k b nv h => (by cases h)⟩, ⟨hb.os, hb.tape, hb.output, hb.size, fun b hlt _ => hb.block b hlt⟩⟩
  · exact ⟨by omega, by omega⟩
  · exact ⟨by omega, by omega⟩
  · exact ⟨by omega, by omega⟩
theorem live_set (h : Live gb room F σ w) (k v : K) (hk : k.size ≤ 1000) (hn0 : 0 ≤ σ.now) (hn : σ.now ≤ 1000000) :
    Calls Try.prog 14 #[.pointer (some ⟨gb, 0, none⟩), .string k, .string v] w fun e w' => e = .returned (.tuple #[]) ∧ LivePost gb room F w (setS σ k v) w' := by
  obtain ⟨bi, bm, A, sv, h1, h2, h3, h4, h5, h6⟩ := h
  have hm := live_may h1 h2 h3 h4 h5 h6
  refine (set_rep h1 k v (Nat.le_trans hk (by decide)) hn0 hn).mono ?_
  rintro e w' ⟨rfl, A', r1, r2, r3⟩
  exact ⟨rfl, ⟨bi, bm, A', sv, r1, Or.inl h2, Or.inl h3, Or.inl h4, fun g hg => Or.inl (h5 g hg), fun j b nv hj => ⟨Or.inl (h6 j b nv (r2 j _ hj)).1, fun g hg => Or.inl ((h6 j b nv (r2 j _ hj)).2 g hg)⟩⟩, r3.mono (fun b hb => hm.1 b hb)⟩
theorem live_drop (h : Live gb room F σ w) (k : K) (hk : k.size ≤ 1000) (hn0 : 0 ≤ σ.now) (hn : σ.now ≤ 1000000) :
    Calls Try.prog 17 #[.pointer (some ⟨gb, 0, none⟩), .string k] w fun e w' => e = .returned (.bool (σ.inp k).isSome) ∧ LivePost gb room F w (dropS σ k) w' := by
  obtain ⟨bi, bm, A, sv, h1, h2, h3, h4, h5, h6⟩ := h
  have hm := live_may h1 h2 h3 h4 h5 h6
  refine (drop_rep h1 k (Nat.le_trans hk (by decide)) hn0 hn).mono ?_
  rintro e w' ⟨rfl, r1, r3⟩
  exact ⟨rfl, ⟨bi, bm, A, sv, r1, Or.inl h2, Or.inl h3, Or.inl h4, fun g hg => Or.inl (h5 g hg), fun j b nv hj => ⟨Or.inl (h6 j b nv hj).1, fun g hg => Or.inl ((h6 j b nv hj).2 g hg)⟩⟩, r3.mono (fun b hb => hm.1 b hb)⟩
theorem live_evict (h : Live gb room F σ w) (k : K) (hk : k.size ≤ 1000) :
    Calls Try.prog 18 #[.pointer (some ⟨gb, 0, none⟩), .string k] w fun e w' => e = .returned (.bool (σ.memo k).isSome) ∧ LivePost gb room F w (dropM σ k) w' := by
  obtain ⟨bi, bm, A, sv, h1, h2, h3, h4, h5, h6⟩ := h
  have hm := live_may h1 h2 h3 h4 h5 h6
  have hin : ∀ {j p}, del A k j = some p → A j = some p := fun {j p} hj => by
    by_cases e : j = k
    · subst e; rw [del_same] at hj; cases hj
    · rwa [del_other _ e] at hj
  refine (evict_rep h1 k (Nat.le_trans hk (by decide))).mono ?_
  rintro e w' ⟨rfl, r1, r3⟩
  exact ⟨rfl, ⟨bi, bm, del A k, sv, r1, Or.inl h2, Or.inl h3, Or.inl h4, fun g hg => Or.inl (h5 g hg), fun j b nv hj => ⟨Or.inl (h6 j b nv (hin hj)).1, fun g hg => Or.inl ((h6 j b nv (hin hj)).2 g hg)⟩⟩, r3.mono (fun b hb => hm.1 b (Or.inr (Or.inr hb)))⟩
theorem live_runs (h : Live gb room F σ w) : Calls Try.prog 16 #[.pointer (some ⟨gb, 0, none⟩)] w fun e w' => e = .returned (.int .i64 σ.runs) ∧ w' = w := by
  obtain ⟨bi, bm, A, sv, h1, _⟩ := h
  exact runs_rep h1
theorem live_known (h : Live gb room F σ w) : Calls Try.prog 21 #[.pointer (some ⟨gb, 0, none⟩)] w fun e w' => e = .returned (.int .i64 (σ.n : Int)) ∧ w' = w := by
  obtain ⟨bi, bm, A, sv, h1, _⟩ := h
  exact known_rep h1
theorem live_ask (h : Live gb room F σ w) (hroom : 1 ≤ room) {big : Prop} (hbig : big → (26 : Int) ≤ room) (hinv : G.Inv rt big σ) (hsz : ∀ j v, σ.I j = some v → v.size ≤ 200) (k : K) (hk : k.size ≤ 1000) :
    Calls Try.prog 15 #[.pointer (some ⟨gb, 0, none⟩), .string k] w fun e w' => ∃ r σ', e = retB r ∧ ErrOk r ∧ AskR rt room 54 { σ with stack := [] } k r σ' ∧ LivePost gb room F w σ' w' := by
  obtain ⟨bi, bm, A, sv, h1, h2, h3, h4, h5, h6⟩ := h
  have hm := live_may h1 h2 h3 h4 h5 h6
  refine (Ask_rep h1 k (AskR rt room 54 { σ with stack := [] } k) (fun w1 hr => ?_)).mono ?_
  · exact ask_calls hroom (fun hb => by rw [lowers_length]; exact hbig hb) 54 _ _ _ _ k hr ⟨hinv.stack _, stack_nil, fun h => absurd rfl h, .nil k, rfl, hsz, hk⟩
  · rintro e w' ⟨r, σ', A', sv', he, herr, hr, hrep, hext⟩
    refine ⟨r, σ', he, herr, hr, ⟨bi, bm, A', sv', hrep, Or.inl h2, Or.inl h3, Or.inl h4, fun g hg => ?_, fun j b nv hj => ?_⟩, hext.fr.mono (fun b hb => hm.2 _ b hb)⟩
    · rcases hext.sv g hg with e | e
      · exact Or.inl (h5 g e)
      · exact Or.inr e
    · rcases hext.adr j b nv hj with e | ⟨e1, _, e3⟩
      · exact ⟨Or.inl (h6 j b nv e).1, fun g hg => Or.inl ((h6 j b nv e).2 g hg)⟩
      · exact ⟨Or.inr e1, fun g hg => Or.inr (e3 g hg)⟩
end
theorem ask_top {room : Int} {σ σ' : St} {k : K} {r : Ans} {big : Prop} (hbig : big → (26 : Int) ≤ room) (hinv : G.Inv rt big σ) (h : AskR rt room 54 { σ with stack := [] } k r σ') : G.Step rt big [] { σ with stack := [] } σ' ∧ AnsOk rt big U { σ with stack := [] } k [] r σ' :=
  ask_post asksIn lowers inLowers (fun hb => by rw [lowers_length]; exact hbig hb) 54 _ _ _ _ h (hinv.stack _) stack_nil (fun h => absurd rfl h) (.nil k)
end Go.Proofs.Ytelddnalpkhclaa
