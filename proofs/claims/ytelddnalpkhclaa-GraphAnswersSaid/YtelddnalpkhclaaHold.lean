/- holds: the needs are asked one by one; out of ask's contract. -/
import Derived.Test.YtelddnalpkhclaaRep
import Derived.Deep.QuietTactic
import Derived.BigQuiet
import Derived.Deep.DeepCutAuto
namespace Go.Proofs.Ytelddnalpkhclaa
open Go.RowKit Go.Maps G

set_option maxRecDepth 100000 in
set_option maxHeartbeats 4000000 in
/-- W: what is true ahead of the i-th need; D: what is true behind the last -/
theorem holds_walk {gb bi bm : Nat} {room : Int} {A : Adr} {sv : Value} {σ : St} {w : World} (h : Rep gb bi bm room A sv σ w) (S : List K) (b : Nat) (nv : Value) (m : Memo) (us : Int) (hm : m.needs.length ≤ 9223372036854775807)
    (hb : w.heap[b]? = some (.cells (memoCells m.ans nv m.looked m.changed us) 68 (0, 0))) (hno : w.ownsRow 0 9 1 nv m.needs.length (m.needs.map .string)) (hnb : ∀ A' sv' w', Ext gb bm S A sv w A' sv' w' → ∀ g, (g = b ∨ nv.ownBlock = some g) → ¬ May gb bm A' S sv' g)
    (W : Nat → St → Prop) (D : Bool → St → Prop) (h0 : W 0 σ)
    (hask : ∀ i k A1 sv1 σ1 w1, m.needs[i]? = some k → W i σ1 → Rep gb bi bm room A1 sv1 σ1 w1 → Calls Try.prog 23 #[.pointer (some ⟨gb, 0, none⟩), .string k] w1
      (Post gb bi bm room S A1 sv1 w1 fun r σ' => match r with
        | .err _ => D false σ'
        | .ok _ t => if m.looked < t then D false σ' else W (i + 1) σ'))
    (hend : ∀ σ1, W m.needs.length σ1 → D true σ1) :
    Calls Try.prog 28 #[.pointer (some ⟨gb, 0, none⟩), .pointer (some ⟨b, 0, none⟩)] w fun e w' =>
      ∃ bl σ1 A1 sv1, e = .returned (.bool bl) ∧ D bl σ1 ∧ Rep gb bi bm room A1 sv1 σ1 w' ∧ Ext gb bm S A sv w A1 sv1 w' := by
  have y1 : w.cell? ⟨b, 1, none⟩ = some nv := cellB hb rfl
  have hform : ∃ (a : Option Addr) (c : Nat), nv = .slice a m.needs.length c ∧ ∀ (i : Nat) (k : K), m.needs[i]? = some k → ∃ g, a = some ⟨g, 0, none⟩ := by
    rcases hno.2 with ⟨rfl, h0⟩ | ⟨g, cap, cur, rfl, _⟩
    · exact ⟨none, 0, by rw [h0], fun i k hi => by
        have e : m.needs = [] := List.eq_nil_of_length_eq_zero h0
        rw [e] at hi
        cases hi⟩
    · exact ⟨_, _, rfl, fun _ _ _ => ⟨g, rfl⟩⟩
  obtain ⟨a, c, hnv, hcell⟩ := hform
  have Hnv := Lib.hid hnv
  clear hnv
  generalize hN : m.needs.length = N at hm
  have HN := Lib.hid hN
  have y1' : w.cell? ⟨b, 1, none⟩ = some (.slice a N c) := by rw [y1, Hnv.out, hN]
  clear hN y1
  have l2 : b < w.heap.size := ltB hb
  go_enter Try.func28, Try.ntmps28
  go_wp2_with fail
  go_loopw [15] (fun i wr => ∃ (k : Nat) (σ1 : St) (A1 : Adr) (sv1 : Value), i = .int .i64 k ∧ k ≤ N ∧ W k σ1 ∧ Rep gb bi bm room A1 sv1 σ1 wr ∧ Ext gb bm S A sv w A1 sv1 wr) (fun i _ => N - (intOf i).toNat)
  case atStart => exact ⟨0, σ, A, sv, rfl, Nat.zero_le _, h0, h, .refl⟩
  case round =>
    obtain ⟨k, σ1, A1, sv1, rfl, hk, hW, hrep, hext⟩ := hrel
    have nm := fun g hg => hnb A1 sv1 wr hext g hg
    have hb1 : wr.heap[b]? = some (.cells (memoCells m.ans nv m.looked m.changed us) 68 (0, 0)) := hext.fr.block' hb (hnb A sv w .refl b (Or.inl rfl))
    have hno1 : wr.ownsRow 0 9 1 nv m.needs.length (m.needs.map .string) := ownsRow_fr hno hext.fr (fun g hg => hnb A sv w .refl g (Or.inr hg))
    by_cases hlt : k < N
    · have hi : ∃ x, m.needs[k]? = some x := ⟨_, List.getElem?_eq_getElem (by rw [HN.out]; exact hlt)⟩
      obtain ⟨x, hx⟩ := hi
      obtain ⟨g, rfl⟩ := hcell k x hx
      have hc : wr.cell? ⟨g, k, none⟩ = some (.string x) := by
        have := hno1.cells (g := g) (by rw [Hnv.out]; rfl) k (.string x) (by rw [List.getElem?_map, hx]; rfl)
        have e : (⟨g, 0, none⟩ : Addr).add k = ⟨g, k, none⟩ := by unfold Addr.add; split <;> simp_all
        rw [e] at this
        exact this
      have hAsk := hask k x A1 sv1 σ1 wr hx hW hrep
      clear hask hx
      go_wp2_with fail
      refine hAsk.mono ?_
      rintro e w2 ⟨r, σ2, A2, sv2, he, herr, hr, hrep2, hext2⟩
      have hb2 := hext2.fr.block' hb1 (nm b (Or.inl rfl))
      have y2 : w2.cell? ⟨b, 2, none⟩ = some (.int .i64 m.looked) := cellB hb2 rfl
      have l3 : b < w2.heap.size := ltB hb2
      have hx2 := hext.trans hext2
      cases r with
      | err e1 =>
        have he' : e = .returned (.tuple #[.string ⟨#[]⟩, .int .i64 0, .int .i64 e1]) := he
        subst he'
        have hne : (e1 != 0) = true := by
          have herr' : e1 = 3 ∨ e1 = 4 := herr
          rcases herr' with rfl | rfl <;> decide
        go_wp2
        go_ret
        exact ⟨false, σ2, A2, sv2, rfl, hr, hrep2, hx2⟩
      | ok s t =>
        have he' : e = .returned (.tuple #[.string s, .int .i64 t, .int .i64 0]) := he
        subst he'
        have hr' : if m.looked < t then D false σ2 else W (k + 1) σ2 := hr
        by_cases hlt2 : m.looked < t
        · rw [if_pos hlt2] at hr'
          have hd : decide (t > m.looked) = true := by simpa using hlt2
          go_wp2
          go_ret
          exact ⟨false, σ2, A2, sv2, rfl, hr', hrep2, hx2⟩
        · rw [if_neg hlt2] at hr'
          have hd : decide (t > m.looked) = false := by simpa using hlt2
          go_wp2
          go_roundw
          case rel => exact ⟨k + 1, σ2, A2, sv2, by go_num, by omega, hr', hrep2, hx2⟩
          case measure => simp [intOf]; omega
    · have hkN : k = N := by omega
      go_wp2
      go_ret
      exact ⟨true, σ1, A1, sv1, rfl, hend σ1 (by rw [HN.out, ← hkN]; exact hW), hrep, hext⟩
end Go.Proofs.Ytelddnalpkhclaa
