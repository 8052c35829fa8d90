/- reckon, whatever is known: out of the rule's contract. -/
import Derived.Test.YtelddnalpkhclaaKnow
namespace Go.Proofs.Ytelddnalpkhclaa
open Go.RowKit Go.Maps G

theorem Ev.map {α β : Type} {f0 f : K → Option α} {n0 n : Nat} (h : Ev f0 n0 f n) (g0 : K → Option β) (hg : ∀ k, (g0 k).isSome = (f0 k).isSome) : Ev g0 n0 (fun k => if (f k).isSome then g0 k else none) n := by
  induction h with
  | refl =>
    have e : (fun k => if (f0 k).isSome then g0 k else none) = g0 := by
      funext k
      rw [← hg k]
      cases hk : g0 k <;> simp
    rw [e]
    exact .refl
  | @drop f n k hev hk ih =>
    have hk' : ((fun k => if (f k).isSome then g0 k else none) k).isSome := by
      have e2 : (g0 k).isSome := by
        rw [hg k]
        rcases hev.sub k with e | e
        · rw [e] at hk; cases hk
        · rw [← e]; exact hk
      show (if (f k).isSome then g0 k else none).isSome
      rw [if_pos hk]
      exact e2
    have e : (fun j => if ((del f k) j).isSome then g0 j else none) = del (fun j => if (f j).isSome then g0 j else none) k := by
      funext j
      unfold del
      by_cases e : j = k
      · rw [if_pos e, if_pos e]; rfl
      · rw [if_neg e, if_neg e]
    rw [e]
    exact ih.drop k hk'

section
variable {gb bi bm : Nat} {room : Int} {A : Adr} {sv : Value} {σ : St} {w w' : World}
theorem Rep.some_eq (h : Rep gb bi bm room A sv σ w) (k : K) : (blk A k).isSome = (σ.memo k).isSome := by
  cases hA : A k with
  | none => rw [blk_none hA, h.dom k hA]; rfl
  | some p =>
    obtain ⟨b, nv⟩ := p
    obtain ⟨m, us, hm, _⟩ := h.has k b nv hA
    rw [blk_some hA, hm]; rfl
/-- an answer is gone -/
theorem Rep.drop (h : Rep gb bi bm room A sv σ w) (key : K) (hf : Fr w w' (fun b => b = bm)) (hm : MapAt Try.prog 9 w' bm (delC (blk A) key σ.n) (ptrs (del (blk A) key))) : Rep gb bi bm room (del A key) sv (dropM σ key) w' := by
  obtain ⟨clock, hg⟩ := h.graph
  obtain ⟨ni, hn, hi⟩ := h.inp
  have hin : ∀ {k b nv}, del A key k = some (b, nv) → k ≠ key ∧ A k = some (b, nv) := fun {k b nv} hk => by
    by_cases e : k = key
    · subst e; rw [del_same] at hk; cases hk
    · rw [del_other _ e] at hk; exact ⟨e, hk⟩
  refine ⟨⟨clock, hf.block' hg h.gb_bm⟩, ownsRow_fr h.stack hf (fun g hg e => (h.sv_ne hg).2.2 e), ⟨ni, hn, hi.fr hf h.ne⟩, ?_, fun k b nv hk => ?_, fun k hk => ?_, fun k j b nv nv' hk hj => h.inj k j b nv nv' (hin hk).2 (hin hj).2, h.ne⟩
  · have e : delC (blk A) key σ.n = delC σ.memo key σ.n := by unfold delC; rw [h.some_eq]
    have e' : (dropM σ key).n = delC (blk A) key σ.n := e.symm
    rw [blk_del, e']
    exact hm
  · obtain ⟨hne, hk'⟩ := hin hk
    obtain ⟨m, us, e1, e2, e3, e4⟩ := h.has k b nv hk'
    exact ⟨m, us, (del_other _ hne).trans e1, hf.block' e2 (h.mb_ne hk').2.2.1, ownsRow_fr e3 hf (fun g hg e => (h.nv_ne hk' hg).2.2.1 e), e4⟩
  · by_cases e : k = key
    · subst e; exact del_same _ _
    · rw [del_other _ e] at hk
      exact (del_other _ e).trans (h.dom k hk)
/-- an answer is kept, others are gone -/
theorem Rep.keepR (h : Rep gb bi bm room A sv σ w) (key : K) (mb : Nat) (nv : Value) (m : Memo) {us : Int} {w1 : World} (hmb : ∀ j nv', A j ≠ some (mb, nv')) (hf1 : Fr w w1 (fun b => b = mb)) (hl : ¬ (mb = gb ∨ mb = bi ∨ mb = bm) ∧ sv.ownBlock ≠ some mb ∧ ∀ j b nv', A j = some (b, nv') → nv'.ownBlock ≠ some mb)
    (hb : w'.heap[mb]? = some (.cells (memoCells m.ans nv m.looked m.changed us) 68 (0, 0))) (hno : w'.ownsRow 0 9 1 nv m.needs.length (m.needs.map .string)) (hsep : ∀ g, nv.ownBlock = some g → sv.ownBlock ≠ some g)
    (hf : Fr w1 w' (fun b => b = bm)) (f : K → Option Nat) (n : Nat) (hev : Ev (ins (blk A) key mb) (insC (blk A) key σ.n) f n) (hn : (n : Int) ≤ room) (hex : (insC (blk A) key σ.n : Int) ≤ room → f = ins (blk A) key mb ∧ n = insC (blk A) key σ.n) (hm : MapAt Try.prog 9 w' bm n (ptrs f)) :
    ∃ A' σ', KeepR room σ key m σ' ∧ Rep gb bi bm room A' sv σ' w' ∧ ∀ k p, A' k = some p → ins A key (mb, nv) k = some p := by
  have hc : insC (blk A) key σ.n = insC σ.memo key σ.n := by unfold insC; rw [h.some_eq]
  have hsub : ∀ k, f k = none ∨ f k = ins (blk A) key mb k := hev.sub
  have hi : ∀ k, (ins σ.memo key m k).isSome = (ins (blk A) key mb k).isSome := fun k => by
    by_cases e : k = key
    · subst e; rw [ins_same, ins_same]; rfl
    · rw [ins_other _ _ e, ins_other _ _ e, h.some_eq]
  have hin : ∀ {k p}, (if (f k).isSome then ins A key (mb, nv) k else none) = some p → (f k).isSome ∧ ins A key (mb, nv) k = some p := fun {k p} hk => by
    by_cases e : (f k).isSome
    · rw [if_pos e] at hk; exact ⟨e, hk⟩
    · rw [if_neg e] at hk; cases hk
  have hblk : blk (fun k => if (f k).isSome then ins A key (mb, nv) k else none) = f := by
    funext k
    cases hk : f k with
    | none => exact blk_none (by simp only [hk]; rfl)
    | some b =>
      have e : f k = ins (blk A) key mb k := by
        rcases hsub k with e | e
        · rw [hk] at e; cases e
        · exact e
      have : blk (fun k => if (f k).isSome then ins A key (mb, nv) k else none) k = blk (ins A key (mb, nv)) k := by
        unfold blk
        simp only [hk, Option.isSome_some, if_true]
      rw [this, blk_ins, ← e, hk]
  refine ⟨fun k => if (f k).isSome then ins A key (mb, nv) k else none, { σ with memo := fun k => if (f k).isSome then ins σ.memo key m k else none, n := n }, ⟨_, n, ?_, hn, fun hr => ?_, rfl⟩, ?_, fun k p hk => (hin hk).2⟩
  · rw [← hc]
    exact Ev.map hev _ hi
  · rw [← hc] at hr ⊢
    obtain ⟨e1, e2⟩ := hex hr
    refine ⟨?_, e2⟩
    funext k
    rw [e1, ← hi k]
    cases hk : ins σ.memo key m k <;> simp
  · obtain ⟨clock, hg⟩ := h.graph
    obtain ⟨ni, hni, hinp⟩ := h.inp
    have g1 := hf1.block' hg (fun e => hl.1 (Or.inl e.symm))
    refine ⟨⟨clock, hf.block' g1 h.gb_bm⟩, ownsRow_fr (ownsRow_fr h.stack hf1 (fun g hg e => hl.2.1 (e ▸ hg))) hf (fun g hg e => (h.sv_ne hg).2.2 e), ⟨ni, hni, (hinp.fr hf1 (fun e => hl.1 (Or.inr (Or.inl e.symm)))).fr hf h.ne⟩, by rw [hblk]; exact hm, fun k b nv' hk => ?_, fun k hk => ?_, fun k j b nv' nv'' hk hj => ?_, h.ne⟩
    · obtain ⟨h1, h2⟩ := hin hk
      by_cases e : k = key
      · subst e
        rw [ins_same] at h2
        cases h2
        exact ⟨m, us, by simp only [h1, if_true]; exact ins_same _ _ _, hb, hno, hsep⟩
      · rw [ins_other _ _ e] at h2
        obtain ⟨m', us', e1, e2, e3, e4⟩ := h.has k b nv' h2
        refine ⟨m', us', by simp only [h1, if_true]; exact (ins_other _ _ e).trans e1, hf.block' (hf1.block' e2 (fun eb => hmb k nv' (eb ▸ h2))) (h.mb_ne h2).2.2.1, ?_, e4⟩
        exact ownsRow_fr (ownsRow_fr e3 hf1 (fun g hg eg => hl.2.2 k b nv' h2 (eg ▸ hg))) hf (fun g hg eg => (h.nv_ne h2 hg).2.2.1 eg)
    · show (if (f k).isSome then ins σ.memo key m k else none) = none
      by_cases e : (f k).isSome
      · have hk' : ins A key (mb, nv) k = none := by
          have hk2 : (if (f k).isSome then ins A key (mb, nv) k else none) = none := hk
          rwa [if_pos e] at hk2
        rw [if_pos e]
        by_cases e2 : k = key
        · subst e2; rw [ins_same] at hk'; cases hk'
        · rw [ins_other _ _ e2] at hk' ⊢
          exact h.dom k hk'
      · rw [if_neg e]
    · have h2 := (hin hk).2
      have h3 := (hin hj).2
      by_cases e : k = key
      · by_cases e2 : j = key
        · rw [e, e2]
        · rw [e, ins_same] at h2
          rw [ins_other _ _ e2] at h3
          cases h2
          exact absurd h3 (hmb j nv'')
      · rw [ins_other _ _ e] at h2
        by_cases e2 : j = key
        · rw [e2, ins_same] at h3
          cases h3
          exact absurd h2 (hmb k nv')
        · rw [ins_other _ _ e2] at h3
          exact h.inj _ _ _ _ _ h2 h3
end
end Go.Proofs.Ytelddnalpkhclaa
