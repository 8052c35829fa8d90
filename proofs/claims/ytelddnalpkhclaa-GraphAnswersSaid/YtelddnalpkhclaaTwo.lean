/- Two graphs side by side: what is done to one leaves the other. -/
import Derived.Test.YtelddnalpkhclaaSpares
namespace Go.Proofs.Ytelddnalpkhclaa
open Go.RowKit Go.Maps G

theorem setS_I (σ : St) (k v : K) : (setS σ k v).I = ins σ.I k v := by
  funext j
  by_cases e : j = k
  · subst e
    obtain ⟨t, ht⟩ := setS_same σ j v
    rw [ins_same]
    unfold St.I
    rw [ht]
    rfl
  · rw [ins_other _ _ e]
    unfold St.I
    rw [setS_other σ v e]
theorem dropS_I (σ : St) (k : K) : (dropS σ k).I = del σ.I k := by
  funext j
  unfold G.dropS
  cases hk : σ.inp k with
  | some p =>
    show (del σ.inp k j).map Prod.fst = _
    by_cases e : j = k
    · subst e; rw [del_same, del_same]; rfl
    · rw [del_other _ e, del_other _ e]; rfl
  | none =>
    by_cases e : j = k
    · subst e
      rw [del_same]
      unfold St.I
      simp only
      rw [hk]
      rfl
    · rw [del_other _ e]
theorem dropS_now (σ : St) (k : K) : σ.now ≤ (dropS σ k).now ∧ (dropS σ k).now ≤ σ.now + 1 := by
  unfold G.dropS
  split
  · exact ⟨by show σ.now ≤ σ.now + 1; omega, Int.le_refl _⟩
  · exact ⟨Int.le_refl _, by omega⟩
theorem inp_isSome (σ : St) (k : K) : (σ.inp k).isSome = (σ.I k).isSome := by unfold St.I; rw [Option.isSome_map]
theorem Sizes.drop {σ : St} (h : Sizes σ) (k : K) : Sizes (dropS σ k) := by
  intro j u hj
  rw [dropS_I] at hj
  by_cases e : j = k
  · subst e; rw [del_same] at hj; cases hj
  · rw [del_other _ e] at hj; exact h j u hj

theorem Live.bound {gb : Nat} {room : Int} {F : Nat → Prop} {σ : St} {w : World} (h : Live gb room F σ w) : Live gb room (fun b => F b ∧ b < w.heap.size) σ w := by
  obtain ⟨bi, bm, A, sv, h1, h2, h3, h4, h5, h6⟩ := h
  have hl := h1.lts
  exact ⟨bi, bm, A, sv, h1, ⟨h2, hl.1⟩, ⟨h3, hl.2.1⟩, ⟨h4, hl.2.2.1⟩, fun g hg => ⟨h5 g hg, hl.2.2.2.1 g hg⟩, fun k b nv hk => ⟨⟨(h6 k b nv hk).1, (hl.2.2.2.2 k b nv hk).1⟩, fun g hg => ⟨(h6 k b nv hk).2 g hg, (hl.2.2.2.2 k b nv hk).2 g hg⟩⟩⟩

def Two (B g1 : Nat) (r1 : Int) (g2 : Nat) (r2 : Int) (σ τ : St) (w : World) : Prop :=
  ∃ F1 F2 : Nat → Prop, Live g1 r1 F1 σ w ∧ Live g2 r2 F2 τ w ∧ (∀ b, F1 b → B ≤ b ∧ b < w.heap.size) ∧ (∀ b, F2 b → B ≤ b ∧ b < w.heap.size) ∧ (∀ b, F1 b → F2 b → False) ∧ B ≤ w.heap.size

section
variable {B g1 g2 : Nat} {r1 r2 : Int} {σ τ : St} {w w' : World}
theorem Two.symm (h : Two B g1 r1 g2 r2 σ τ w) : Two B g2 r2 g1 r1 τ σ w := by
  obtain ⟨F1, F2, a, b, c, d, e, z⟩ := h
  exact ⟨F2, F1, b, a, d, c, fun i hi hj => e i hj hi, z⟩
theorem Two.world (h : Two B g1 r1 g2 r2 σ τ w) (hf : Fr w w' (fun _ => False)) : Two B g1 r1 g2 r2 σ τ w' := by
  obtain ⟨F1, F2, a, b, c, d, e, z⟩ := h
  exact ⟨F1, F2, a.same hf, b.same hf, fun i hi => ⟨(c i hi).1, Nat.lt_of_lt_of_le (c i hi).2 hf.size⟩, fun i hi => ⟨(d i hi).1, Nat.lt_of_lt_of_le (d i hi).2 hf.size⟩, e, Nat.le_trans z hf.size⟩
theorem Two.step {F1 F2 : Nat → Prop} (h1 : Live g2 r2 F2 τ w) (c : ∀ b, F1 b → B ≤ b ∧ b < w.heap.size) (d : ∀ b, F2 b → B ≤ b ∧ b < w.heap.size) (e : ∀ b, F1 b → F2 b → False) (z : B ≤ w.heap.size) {σ' : St} (hp : LivePost g1 r1 F1 w σ' w') :
    Two B g1 r1 g2 r2 σ' τ w' ∧ Fr w w' (fun b => B ≤ b ∧ Kind w b) := by
  obtain ⟨hl, hf⟩ := hp
  refine ⟨⟨_, F2, hl.bound, h1.keep hf (fun b hb _ hm => (e b hm.1 hb).elim), fun b hb => ?_, fun b hb => ⟨(d b hb).1, Nat.lt_of_lt_of_le (d b hb).2 hf.size⟩, fun b hb hb2 => ?_, Nat.le_trans z hf.size⟩, hf.mono (fun b hb => ⟨(c b hb.1).1, hb.2⟩)⟩
  · refine ⟨?_, hb.2⟩
    rcases hb.1 with x | x
    · exact (c b x).1
    · exact Nat.le_trans z x
  · rcases hb.1 with x | x
    · exact e b x hb2
    · exact absurd (d b hb2).2 (Nat.not_lt.2 x)
theorem two_set (h : Two B g1 r1 g2 r2 σ τ w) (k v : K) (hk : k.size ≤ 1000) (hn0 : 0 ≤ σ.now) (hn : σ.now ≤ 1000000) :
    Calls Try.prog 14 #[.pointer (some ⟨g1, 0, none⟩), .string k, .string v] w fun e w' => e = .returned (.tuple #[]) ∧ Two B g1 r1 g2 r2 (setS σ k v) τ w' ∧ Fr w w' (fun b => B ≤ b ∧ Kind w b) := by
  obtain ⟨F1, F2, a, b, c, d, e, z⟩ := h
  refine (live_set a k v hk hn0 hn).mono ?_
  rintro x w' ⟨rfl, hp⟩
  exact ⟨rfl, Two.step b c d e z hp⟩
theorem two_drop (h : Two B g1 r1 g2 r2 σ τ w) (k : K) (hk : k.size ≤ 1000) (hn0 : 0 ≤ σ.now) (hn : σ.now ≤ 1000000) :
    Calls Try.prog 17 #[.pointer (some ⟨g1, 0, none⟩), .string k] w fun e w' => e = .returned (.bool (σ.inp k).isSome) ∧ Two B g1 r1 g2 r2 (dropS σ k) τ w' ∧ Fr w w' (fun b => B ≤ b ∧ Kind w b) := by
  obtain ⟨F1, F2, a, b, c, d, e, z⟩ := h
  refine (live_drop a k hk hn0 hn).mono ?_
  rintro x w' ⟨rfl, hp⟩
  exact ⟨rfl, Two.step b c d e z hp⟩
theorem two_evict (h : Two B g1 r1 g2 r2 σ τ w) (k : K) (hk : k.size ≤ 1000) :
    Calls Try.prog 18 #[.pointer (some ⟨g1, 0, none⟩), .string k] w fun e w' => e = .returned (.bool (σ.memo k).isSome) ∧ Two B g1 r1 g2 r2 (dropM σ k) τ w' ∧ Fr w w' (fun b => B ≤ b ∧ Kind w b) := by
  obtain ⟨F1, F2, a, b, c, d, e, z⟩ := h
  refine (live_evict a k hk).mono ?_
  rintro x w' ⟨rfl, hp⟩
  exact ⟨rfl, Two.step b c d e z hp⟩
theorem two_ask (h : Two B g1 r1 g2 r2 σ τ w) (hroom : 1 ≤ r1) (hinv : G.Inv rt False σ) (hsz : Sizes σ) (k : K) (hk : k.size ≤ 1000) :
    Calls Try.prog 15 #[.pointer (some ⟨g1, 0, none⟩), .string k] w fun e w' => ∃ r σ', e = retB r ∧ ErrOk r ∧ AskR rt r1 54 { σ with stack := [] } k r σ' ∧ Two B g1 r1 g2 r2 σ' τ w' ∧ Fr w w' (fun b => B ≤ b ∧ Kind w b) := by
  obtain ⟨F1, F2, a, b, c, d, e, z⟩ := h
  refine (live_ask a hroom (fun h => h.elim) hinv hsz k hk).mono ?_
  rintro x w' ⟨r, σ', h1, h2, h3, hp⟩
  exact ⟨r, σ', h1, h2, h3, Two.step b c d e z hp⟩
end

/-- what holds of both graphs and of the list while steps are taken -/
structure Walk2 (B g1 : Nat) (r1 : Int) (g2 : Nat) (r2 : Int) (w0 : World) (k : Nat) (lv : Value) (l : List (ByteArray × ByteArray)) (σ τ : St) (w : World) : Prop where
  two : Two B g1 r1 g2 r2 σ τ w
  inv1 : G.Inv rt False σ
  inv2 : G.Inv rt False τ
  same : σ.I = τ.I
  sizes : Sizes σ
  now1 : 1 ≤ σ.now ∧ σ.now ≤ 1 + k
  now2 : 1 ≤ τ.now ∧ τ.now ≤ 1 + k
  lst : InsAt w lv l
  len : l.length ≤ k
  fr : Fr w0 w (fun b => B ≤ b)
section
variable {B g1 g2 : Nat} {r1 r2 : Int} {w0 : World} {k : Nat} {lv : Value} {l : List (ByteArray × ByteArray)} {σ τ : St} {w w' : World}
theorem Walk2.world (h : Walk2 B g1 r1 g2 r2 w0 k lv l σ τ w) (hf : Fr w w' (fun _ => False)) : Walk2 B g1 r1 g2 r2 w0 k lv l σ τ w' :=
  ⟨h.two.world hf, h.inv1, h.inv2, h.same, h.sizes, h.now1, h.now2, h.lst.fr hf (fun _ _ => id), h.len, h.fr.trans (hf.mono (fun _ h => h.elim))⟩
theorem Walk2.next (h : Walk2 B g1 r1 g2 r2 w0 k lv l σ τ w) : Walk2 B g1 r1 g2 r2 w0 (k + 1) lv l σ τ w :=
  ⟨h.two, h.inv1, h.inv2, h.same, h.sizes, ⟨h.now1.1, by have := h.now1.2; omega⟩, ⟨h.now2.1, by have := h.now2.2; omega⟩, h.lst, Nat.le_succ_of_le h.len, h.fr⟩
theorem Walk2.sizes2 (h : Walk2 B g1 r1 g2 r2 w0 k lv l σ τ w) : Sizes τ := by
  intro j v hj
  rw [← h.same] at hj
  exact h.sizes j v hj
end
end Go.Proofs.Ytelddnalpkhclaa
