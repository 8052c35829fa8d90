/- known, whatever is known: out of the contracts of holds and reckon. -/
import Derived.Test.YtelddnalpkhclaaRep
import Derived.Deep.DeepCutAuto
namespace Go.Proofs.Ytelddnalpkhclaa
open Go.RowKit Go.Maps G

section
variable {gb bi bm : Nat} {room : Int} {A : Adr} {sv : Value} {σ : St} {w w' : World}
/-- a memo's block has been looked at anew -/
theorem Rep.look (h : Rep gb bi bm room A sv σ w) {k : K} {b : Nat} {nv : Value} {m : Memo} (hk : A k = some (b, nv)) (hm : σ.memo k = some m) (hf : Fr w w' (fun i => i = b)) {lo us : Int}
    (hb : w'.heap[b]? = some (.cells (memoCells m.ans nv lo m.changed us) 68 (0, 0))) : Rep gb bi bm room A sv { σ with memo := ins σ.memo k { m with looked := lo } } w' := by
  obtain ⟨clock, hg⟩ := h.graph
  obtain ⟨ni, hn, hi⟩ := h.inp
  have hne := h.mb_ne hk
  refine ⟨⟨clock, hf.block' hg (fun e => hne.1 e.symm)⟩, ownsRow_fr h.stack hf (fun g hg e => hne.2.2.2 (e ▸ hg)), ⟨ni, hn, hi.fr hf (fun e => hne.2.1 e.symm)⟩, h.memo.fr hf (fun e => hne.2.2.1 e.symm), fun j b' nv' hj => ?_, fun j hj => ?_, h.inj, h.ne⟩
  · obtain ⟨m', us', e1, e2, e3, e4⟩ := h.has j b' nv' hj
    have e3' : w'.ownsRow 0 9 1 nv' m'.needs.length (m'.needs.map .string) := ownsRow_fr e3 hf (fun g hg => (h.nv_ne hj hg).2.2.2.2 k b nv hk)
    by_cases e : j = k
    · subst e
      rw [hk] at hj
      cases hj
      rw [hm] at e1
      cases e1
      exact ⟨{ m with looked := lo }, us, ins_same _ _ _, hb, e3', e4⟩
    · exact ⟨m', us', by rw [← e1]; exact ins_other _ _ e, hf.block' e2 (fun eb => e (by subst eb; exact h.inj _ _ _ _ _ hj hk)), e3', e4⟩
  · have hjk : j ≠ k := fun e => by subst e; rw [hk] at hj; cases hj
    show ins σ.memo k _ j = none
    rw [ins_other _ _ hjk]
    exact h.dom j hj
/-- a memo's block that went has been looked at -/
theorem Rep.gone (h : Rep gb bi bm room A sv σ w) {b : Nat} {cs : Array Value} (hb : w.heap[b]? = some (.cells cs 68 (0, 0))) (hn : ∀ j nv, A j ≠ some (b, nv)) (hf : Fr w w' (fun i => i = b)) : Rep gb bi bm room A sv σ w' := by
  obtain ⟨_, hg⟩ := h.graph
  obtain ⟨_, _, hi⟩ := h.inp
  obtain ⟨_, _, hbm⟩ := h.memo.obj
  obtain ⟨_, _, hbi⟩ := hi.obj
  refine h.keep hf (fun e => cells_type hb hg (by decide) e.symm) (fun e => cells_map hb hbi e.symm) (fun e => cells_map hb hbm e.symm) (fun g hs e => ?_) (fun j b' nv' hj => ⟨fun e => ?_, fun g hs e => ?_⟩)
  · obtain ⟨_, hc⟩ := ownsRow_cells h.stack hs
    exact cells_type hb hc (by decide) e.symm
  · subst e; exact hn _ _ hj
  · obtain ⟨m, us, _, _, ho, _⟩ := h.has j b' nv' hj
    obtain ⟨_, hc⟩ := ownsRow_cells ho hs
    exact cells_type hb hc (by decide) e.symm
theorem touch_some {f : K → Option Memo} {k : K} {m : Memo} {t : Int} (h : f k = some m) : touch f k t = ins f k { m with looked := t } := by
  funext j
  unfold touch ins
  by_cases e : j = k
  · subst e; rw [if_pos rfl, if_pos rfl, h]; rfl
  · rw [if_neg e, if_neg e]
theorem touch_none {f : K → Option Memo} {k : K} {t : Int} (h : f k = none) : touch f k t = f := by
  funext j
  unfold touch
  by_cases e : j = k
  · subst e; rw [if_pos rfl, h]; rfl
  · rw [if_neg e]
theorem touch_now {f : K → Option Memo} {k : K} {m : Memo} {t : Int} (h : f k = some m) (ht : m.looked = t) : touch f k t = f := by
  funext j
  unfold touch
  by_cases e : j = k
  · subst e; rw [if_pos rfl, h]; subst ht; rfl
  · rw [if_neg e]
end
theorem memo_inj {a a' : ByteArray} {nv nv' : Value} {lo lo' ch ch' us us' : Int} {o : Option Obj} (h : o = some (.cells (memoCells a nv lo ch us) 68 (0, 0))) (h' : o = some (.cells (memoCells a' nv' lo' ch' us') 68 (0, 0))) : a = a' ∧ lo = lo' ∧ ch = ch' := by
  rw [h] at h'
  unfold memoCells at h'
  simp at h'
  obtain ⟨e1, _, e2, e3, _⟩ := h'
  exact ⟨e1, e2, e3⟩

set_option maxRecDepth 100000 in
set_option maxHeartbeats 4000000 in
theorem known_walk {gb bi bm : Nat} {room : Int} {A : Adr} {sv : Value} {σ : St} {w : World} (h : Rep gb bi bm room A sv σ w) (key : K) (hkey : key.size ≤ maxLen) (S0 : List K) (hk0 : key ∉ S0) (hk1 : key ∈ σ.stack) (hS : ∀ j, j ∈ S0 → j ∈ σ.stack)
    (H : Memo → Bool → St → Prop) (R : Ans → St → Prop)
    (hholds : ∀ b nv m w1, A key = some (b, nv) → σ.memo key = some m → m.looked ≠ σ.now → Rep gb bi bm room A sv σ w1 → Calls Try.prog 28 #[.pointer (some ⟨gb, 0, none⟩), .pointer (some ⟨b, 0, none⟩)] w1 fun e w' =>
      ∃ bl σ1 A1 sv1, e = .returned (.bool bl) ∧ H m bl σ1 ∧ Rep gb bi bm room A1 sv1 σ1 w' ∧ Ext gb bm σ.stack A sv w1 A1 sv1 w')
    (hnone : A key = none → ∀ w1, Rep gb bi bm room A sv σ w1 → Calls Try.prog 29 #[.pointer (some ⟨gb, 0, none⟩), .string key, .pointer none] w1 (Post gb bi bm room S0 A sv w1 R))
    (hsome : ∀ b nv m us σ1 A1 sv1 w1, σ.memo key = some m → H m false σ1 → Rep gb bi bm room A1 sv1 σ1 w1 → w1.heap[b]? = some (.cells (memoCells m.ans nv m.looked m.changed us) 68 (0, 0)) → (∀ j b' nv', A1 j = some (b', nv') → b' = b → j = key) →
      Calls Try.prog 29 #[.pointer (some ⟨gb, 0, none⟩), .string key, .pointer (some ⟨b, 0, none⟩)] w1 (Post gb bi bm room S0 A1 sv1 w1 R))
    (h1 : ∀ m, σ.memo key = some m → m.looked = σ.now → R (.ok m.ans m.changed) σ)
    (h2 : ∀ m σ1, σ.memo key = some m → m.looked ≠ σ.now → H m true σ1 → R (.ok m.ans m.changed) { σ1 with memo := touch σ1.memo key σ1.now }) :
    Calls Try.prog 26 #[.pointer (some ⟨gb, 0, none⟩), .string key] w (Post gb bi bm room S0 A sv w R) := by
  obtain ⟨clock, hg⟩ := h.graph
  have n2 := h.gb_bm
  have c2 : w.cell? ⟨gb, 2, none⟩ = some (.map (some bm)) := cellB hg rfl
  have c5 : w.cell? ⟨gb, 5, none⟩ = some (.int .i64 clock) := cellB hg rfl
  have f5 : w.frozen? ⟨gb, 5, none⟩ = false := freeB hg 5
  have hlt : gb < w.heap.size := ltB hg
  cases hA : A key with
  | none =>
    have hf : ptrs (blk A) key = none := ptrs_none (blk_none hA)
    go_enter Try.func26, Try.ntmps26
    go_wp2_with (first
      | (at_lookup; refine wp_look_none _ rfl _ _ 53 true rfl 9 62 Try.underlying9 Try.underlying53 _ (zero62 _) bm σ.n (ptrs (blk A)) rfl (h.memo.setCell n2.symm _) key rfl hkey hf ?_)
      | go_in)
    refine wp_at ?_
    intro w1 hw1
    have fr1 : Fr w w1 (fun b => b = gb) := by rw [hw1]; exact (Fr.refl w (fun b => b = gb)).setCell (p := ⟨gb, 5, none⟩) (Or.inl rfl) _
    have hg1 : w1.heap[gb]? = some (.cells (graphCells (.func (.func 11) #[] #[]) bi bm room σ.now (wrap64 (clock + 1)) σ.runs sv) 56 (0, 0)) := by rw [hw1]; exact setB hg 5 _
    clear hw1
    have hr1 : Rep gb bi bm room A sv σ w1 := h.own (runs := σ.runs) (st := σ.stack) (fr1.mono (fun _ h => Or.inl h)) hg1 (ownsRow_fr h.stack fr1 (fun g hg e => (h.sv_ne hg).1 e)) (fun _ h => Or.inl h)
    go_region
    go_wp2_with fail
    refine (hnone hA w1.drew (hr1.same (Fr.refl w1 _).drew)).mono ?_
    rintro e w3 ⟨r, σ1, A', sv', he, herr, hr, hrep, hext⟩
    have hx : Ext gb bm S0 A sv w A' sv' w3 := (Ext.of_fr (fr1.drew.mono (fun _ h => Or.inl h))).trans hext
    cases r with
    | ok s t =>
      have he' : e = .returned (.tuple #[.string s, .int .i64 t, .int .i64 0]) := he
      subst he'
      go_wp2
      go_ret3
      exact ⟨.ok s t, σ1, A', sv', rfl, herr, hr, hrep, hx⟩
    | err e1 =>
      have he' : e = .returned (.tuple #[.string ⟨#[]⟩, .int .i64 0, .int .i64 e1]) := he
      subst he'
      go_wp2
      go_ret3
      exact ⟨.err e1, σ1, A', sv', rfl, herr, hr, hrep, hx⟩
  | some p =>
    obtain ⟨b, nv⟩ := p
    obtain ⟨m, us, hm, hb, hno, hsep⟩ := h.has key b nv hA
    have hf : ptrs (blk A) key = some (.pointer (some ⟨b, 0, none⟩)) := ptrs_eq (blk_some hA)
    have hbne := h.mb_ne hA
    go_enter Try.func26, Try.ntmps26
    go_wp2_with (first
      | (at_lookup; refine wp_look_some _ rfl _ _ 53 true rfl 9 62 Try.underlying9 Try.underlying53 _ (zero62 _) bm σ.n (ptrs (blk A)) rfl (h.memo.setCell n2.symm _) key rfl hkey _ hf ?_)
      | go_in)
    refine wp_at ?_
    intro w1 hw1
    have fr1 : Fr w w1 (fun b => b = gb) := by rw [hw1]; exact (Fr.refl w (fun b => b = gb)).setCell (p := ⟨gb, 5, none⟩) (Or.inl rfl) _
    have hg1 : w1.heap[gb]? = some (.cells (graphCells (.func (.func 11) #[] #[]) bi bm room σ.now (wrap64 (clock + 1)) σ.runs sv) 56 (0, 0)) := by rw [hw1]; exact setB hg 5 _
    clear hw1
    have hr1 : Rep gb bi bm room A sv σ w1 := h.own (runs := σ.runs) (st := σ.stack) (fr1.mono (fun _ h => Or.inl h)) hg1 (ownsRow_fr h.stack fr1 (fun g hg e => (h.sv_ne hg).1 e)) (fun _ h => Or.inl h)
    have hb1 := fr1.block' hb hbne.1
    have x4 : w1.cell? ⟨gb, 4, none⟩ = some (.int .i64 σ.now) := cellB hg1 rfl
    have y2 : w1.cell? ⟨b, 2, none⟩ = some (.int .i64 m.looked) := cellB hb1 rfl
    have l1 : gb < w1.heap.size := ltB hg1
    have l2 : b < w1.heap.size := ltB hb1
    have nomay : ¬ May gb bm A σ.stack sv b := by
      rintro (e | e | e | ⟨k, nv', hk, e⟩)
      · exact hbne.1 e
      · exact hbne.2.2.1 e
      · exact hbne.2.2.2 e
      · exact hk (by rw [h.inj _ _ _ _ _ e hA]; exact hk1)
    go_cut [41] (fun v wx => ∃ bl σ1 A1 sv1, v = .bool bl ∧ Rep gb bi bm room A1 sv1 σ1 wx ∧ Ext gb bm S0 A sv w A1 sv1 wx ∧ Ext gb bm σ.stack A sv w1 A1 sv1 wx ∧
      (bl = true → R (.ok m.ans m.changed) { σ1 with memo := touch σ1.memo key σ1.now }) ∧ (bl = false → H m false σ1))
    case first =>
      by_cases hl : m.looked = σ.now
      · have hd : (m.looked == σ.now) = true := by simpa using hl
        have hR := h1 m hm hl
        clear h1 h2 hholds hnone hsome
        have hl := Lib.hid hl
        go_quiet (fail)
        go_wp2
        go_meet
        have fr2 : Fr w1 (w1.drewN nq) (fun _ => False) := fr_drewN (Fr.refl w1 _) _
        refine ⟨true, σ, A, sv, rfl, hr1.same fr2, .of_fr ((fr1.mono (fun _ h => Or.inl h)).trans (fr2.mono (fun _ h => h.elim))), .of_fr (fr2.mono (fun _ h => h.elim)), fun _ => ?_, fun e => by cases e⟩
        rw [touch_now hm hl.out]
        exact hR
      · have hd : (m.looked == σ.now) = false := by simpa using hl
        have hH := hholds b nv m w1.drew hA hm hl (hr1.same (Fr.refl w1 _).drew)
        have h2' := fun σ1 => h2 m σ1 hm hl
        clear hholds hnone hsome h1 h2 nomay hno hsep hbne hl
        go_region_with (go_at_call 28; refine hH.mono ?_; rintro e w5 ⟨bl, σ1, A1, sv1, rfl, hHb, hrep, hext⟩)
        all_goals
          go_wp2_with fail
          go_meet
          refine ⟨bl, σ1, A1, sv1, rfl, hrep, (Ext.of_fr (fr1.drew.mono (fun _ h => Or.inl h))).trans (hext.weak hS), (Ext.of_fr (Fr.refl w1 _).drew).trans hext, fun e => ?_, fun e => ?_⟩
          · subst e; exact h2' σ1 hHb
          · subst e; exact hHb
    case rest =>
    obtain ⟨bl, σ1, A1, sv1, rfl, hrep, hx1, hext, hRt, hHf⟩ := hcut
    obtain ⟨w2, hw2⟩ : ∃ w2 : World, w2 = wc := ⟨_, rfl⟩
    rw [← hw2] at hrep hx1 hext ⊢
    clear hw2
    have hb2 := hext.fr.block' hb1 nomay
    have hA1 : ∀ b' nv', A1 key = some (b', nv') → b' = b ∧ nv' = nv := by
      intro b' nv' hk
      rcases hext.adr key b' nv' hk with e | e
      · rw [hA] at e; cases e; exact ⟨rfl, rfl⟩
      · exact absurd hk1 e.2.1
    have hA2 : ∀ j b' nv', A1 j = some (b', nv') → b' = b → j = key := by
      intro j b' nv' hj e
      subst e
      rcases hext.adr j b' nv' hj with e | e
      · exact h.inj _ _ _ _ _ e hA
      · have e1 : w1.heap.size ≤ b' := e.1
        omega
    clear h1 h2 hholds hnone nomay x4 y2
    cases bl with
    | false =>
      have hc := hsome b nv m us σ1 A1 sv1 w2 hm (hHf rfl) hrep hb2 hA2
      clear hsome hHf hRt
      go_wp2_with fail
      refine hc.mono ?_
      rintro e w7 ⟨r, σ2, A', sv', he, herr, hr, hrep2, hext2⟩
      cases r with
      | ok s t =>
        have he' : e = .returned (.tuple #[.string s, .int .i64 t, .int .i64 0]) := he
        subst he'
        go_wp2
        go_ret3
        exact ⟨.ok s t, σ2, A', sv', rfl, herr, hr, hrep2, hx1.trans hext2⟩
      | err e1 =>
        have he' : e = .returned (.tuple #[.string ⟨#[]⟩, .int .i64 0, .int .i64 e1]) := he
        subst he'
        go_wp2
        go_ret3
        exact ⟨.err e1, σ2, A', sv', rfl, herr, hr, hrep2, hx1.trans hext2⟩
    | true =>
      have hR := hRt rfl
      obtain ⟨clock5, hg5⟩ := hrep.graph
      have hrb : ∀ w3, Fr w2 w3 (fun i => i = b) → (∃ us', w3.heap[b]? = some (.cells (memoCells m.ans nv σ1.now m.changed us') 68 (0, 0))) → Rep gb bi bm room A1 sv1 { σ1 with memo := touch σ1.memo key σ1.now } w3 := by
        rintro w3 f3 ⟨us', h3⟩
        cases hk : A1 key with
        | none =>
          rw [touch_none (hrep.dom key hk)]
          exact hrep.gone hb2 (fun j nv' hj => by
            have := hA2 j _ nv' hj rfl
            subst this
            rw [hk] at hj
            cases hj) f3
        | some p =>
          obtain ⟨b', nv'⟩ := p
          obtain ⟨rfl, rfl⟩ := hA1 b' nv' hk
          obtain ⟨m1, us1, hm1, hb6, _⟩ := hrep.has key _ _ hk
          obtain ⟨e1, _, e3⟩ := memo_inj hb6 hb2
          rw [touch_some hm1]
          refine hrep.look (us := us') hk hm1 f3 ?_
          rw [e1, e3]
          exact h3
      have fin : ∀ w3, Fr w2 w3 (fun i => i = b) → (∃ us', w3.heap[b]? = some (.cells (memoCells m.ans nv σ1.now m.changed us') 68 (0, 0))) → Post gb bi bm room S0 A sv w R (.returned (.tuple #[.string m.ans, .int .i64 m.changed, .int .i64 0])) w3 := by
        intro w3 f3 h3
        refine ⟨.ok m.ans m.changed, _, A1, sv1, rfl, trivial, hR, hrb w3 f3 h3, ?_⟩
        exact ⟨hx1.fr.trans2 f3 (fun i h => by subst h; exact Or.inl (Or.inr (Or.inr (Or.inr ⟨key, nv, hk0, hA⟩)))), hx1.adr, hx1.sv⟩
      clear hsome hHf hRt hrb hR hA2 hA1 hx1 hext hrep
      have q4 : w2.cell? ⟨gb, 4, none⟩ = some (.int .i64 σ1.now) := cellB hg5 rfl
      have q5 : w2.cell? ⟨gb, 5, none⟩ = some (.int .i64 clock5) := cellB hg5 rfl
      have p2 : w2.cell? ⟨b, 2, none⟩ = some (.int .i64 m.looked) := cellB hb2 rfl
      have p4 : w2.cell? ⟨b, 4, none⟩ = some (.int .i64 us) := cellB hb2 rfl
      have z2 : w2.frozen? ⟨b, 2, none⟩ = false := freeB hb2 2
      have z4 : w2.frozen? ⟨b, 4, none⟩ = false := freeB hb2 4
      have k2 : b < w2.heap.size := ltB hb2
      have k1 : gb < w2.heap.size := ltB hg5
      go_wp2
      go_cut [] (fun wx => Fr w2 wx (fun i => i = b) ∧ ∃ us', wx.heap[b]? = some (.cells (memoCells m.ans nv σ1.now m.changed us') 68 (0, 0)))
      case first =>
        go_region
        all_goals
          go_wp2
          go_meet
          exact ⟨(((Fr.refl w2 (fun i => i = b)).setCell (p := ⟨b, _, none⟩) (Or.inl rfl) _).setCell (p := ⟨b, _, none⟩) (Or.inl rfl) _).drew, _, setB (setB hb2 _ _) _ _⟩
      case rest =>
      obtain ⟨f3, us3, hb3⟩ := hcut
      have hf := fun w4 (h4 : Fr wc w4 (fun _ => False)) => fin w4 (f3.trans (h4.mono (fun _ h => h.elim))) ⟨us3, h4.block' hb3 id⟩
      clear fin f3
      have r0 : wc.cell? ⟨b, 0, none⟩ = some (.string m.ans) := cellB hb3 rfl
      have r3 : wc.cell? ⟨b, 3, none⟩ = some (.int .i64 m.changed) := cellB hb3 rfl
      have k3 : b < wc.heap.size := ltB hb3
      go_wp2
      go_quiet (fail)
      go_wp2
      go_ret3
      exact hf _ (fr_drewN (Fr.refl wc _) _)
end Go.Proofs.Ytelddnalpkhclaa
