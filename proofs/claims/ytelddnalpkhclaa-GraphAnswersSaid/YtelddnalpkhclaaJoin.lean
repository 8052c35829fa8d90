/- The joining: whatever is asked of whatever graph, it does what the relation says. -/
import Derived.Test.YtelddnalpkhclaaAsk
import Derived.Test.YtelddnalpkhclaaHold
import Derived.Test.YtelddnalpkhclaaClos
import Derived.Test.YtelddnalpkhclaaLang
namespace Go.Proofs.Ytelddnalpkhclaa
open Go.RowKit Go.Maps G

structure Pre (big : Prop) (f : Nat) (σ : St) (k : K) : Prop where
  inv : G.Inv rt big σ
  so : StackOk U σ.stack
  inU : σ.stack ≠ [] → k ∈ U
  path : G.Path rt σ.I σ.stack k
  fuel : σ.stack.length + f = 54
  sizes : ∀ j v, σ.I j = some v → v.size ≤ 200
  key : k.size ≤ 1000
def AskC (gb bi bm : Nat) (room : Int) (big : Prop) (f : Nat) : Prop := ∀ (σ : St) (A : Adr) (sv : Value) (w : World) (k : K), Rep gb bi bm room A sv σ w → Pre big f σ k →
  Calls Try.prog 23 #[.pointer (some ⟨gb, 0, none⟩), .string k] w (Post gb bi bm room σ.stack A sv w (AskR rt room f σ k))

theorem chain_snoc {A : St → K → Ans → St → Prop} {k v : K} {t : Int} {σ2 : St} : ∀ {vs : List (K × K)} {σ σ1 : St}, Chain A σ vs σ1 → A σ1 k (.ok v t) σ2 → Chain A σ (vs ++ [(k, v)]) σ2
  | [], σ, σ1, h, ha => by
    cases (show σ1 = σ from h)
    exact ⟨t, σ2, ha, rfl⟩
  | (j, u) :: vs, σ, σ1, h, ha => by
    obtain ⟨t', σ', h1, h2⟩ := h
    exact ⟨t', σ', h1, chain_snoc h2 ha⟩

section
variable {gb bi bm : Nat} {room : Int} {A A' : Adr} {sv sv' : Value} {σ : St} {w w' : World} {S : List K}
theorem Four.same {bb pg pm mb : Nat} {now clock bd : Int} {ns : List K} {nv : Value} (h : Four gb bb pg pm mb now clock bd ns nv w) (hf : Fr w w' (fun _ => False)) : Four gb bb pg pm mb now clock bd ns nv w' :=
  ⟨hf.block' h.bb id, hf.block' h.pg id, hf.block' h.pm id, hf.block' h.mb id, ownsRow_fr h.nv hf (fun _ _ => id)⟩
theorem ExtR.same {bb mb : Nat} (h : ExtR gb bm S A sv w bb mb A' sv' w') {w'' : World} (hf : Fr w' w'' (fun _ => False)) : ExtR gb bm S A sv w bb mb A' sv' w'' :=
  ⟨h.fr.trans (hf.mono (fun _ h => h.elim)), h.adr, h.sv⟩
theorem ExtR.step {bb mb : Nat} (h : ExtR gb bm S A sv w bb mb A' sv' w') {A'' : Adr} {sv'' nv : Value} {w'' : World} (k : ExtC gb bm S A' sv' w' bb mb nv A'' sv'' w'') (hnv : ∀ g, nv.ownBlock = some g → w.heap.size ≤ g) : ExtR gb bm S A sv w bb mb A'' sv'' w'' := by
  have hs := h.fr.size
  refine ⟨h.fr.trans2 k.fr (fun i hi => ?_), fun j b nv' hj => ?_, fun g hg => ?_⟩
  · rcases hi with (e | e | e | ⟨j, nv', hj, e⟩) | e | e | e
    · exact Or.inl (Or.inl (Or.inl e))
    · exact Or.inl (Or.inl (Or.inr (Or.inl e)))
    · rcases h.sv i e with e' | e'
      · exact Or.inl (Or.inl (Or.inr (Or.inr (Or.inl e'))))
      · exact Or.inr e'
    · rcases h.adr j i nv' e with e' | e'
      · exact Or.inl (Or.inl (Or.inr (Or.inr (Or.inr ⟨j, nv', hj, e'⟩))))
      · exact Or.inr e'.1
    · exact Or.inl (Or.inr (Or.inl e))
    · exact Or.inl (Or.inr (Or.inr e))
    · exact Or.inr (hnv i e)
  · rcases k.adr j b nv' hj with e | ⟨e1, e2, e3⟩
    · exact h.adr j b nv' e
    · exact Or.inr ⟨by omega, e2, fun g hg => by have := e3 g hg; omega⟩
  · rcases k.sv g hg with e | e
    · exact h.sv g e
    · right; omega
end

section
variable {gb bi bm : Nat} {room : Int} {big : Prop} {f : Nat}

theorem reckon_calls (hroom : 1 ≤ room) (hbig : big → (lowers.length : Int) ≤ room) (IH : AskC gb bi bm room big f) {A : Adr} {sv : Value} {σs σ : St} {w : World} (h : Rep gb bi bm room A sv σ w) {k : K} {ab : List K} (hst : σs.stack = ab ++ [k]) (hs : G.Step rt big (ab ++ [k]) σs σ)
    (hso : StackOk U (ab ++ [k])) (hk : k ∉ ab) (hin : σs.inp k = none) (hp : G.Path rt σs.I ab k) (hfuel : (ab ++ [k]).length + f = 54) (hsz : ∀ j v, σs.I j = some v → v.size ≤ 200) (hkey : k.size ≤ 1000)
    (ob : Option Nat) (wm : Option Memo) (hwas : (ob = none ∧ wm = none) ∨ ∃ b m nvo uso, ob = some b ∧ wm = some m ∧ w.heap[b]? = some (.cells (memoCells m.ans nvo m.looked m.changed uso) 68 (0, 0)) ∧ ∀ j b' nv', A j = some (b', nv') → b' = b → j = k) :
    Calls Try.prog 29 #[.pointer (some ⟨gb, 0, none⟩), .string k, wasV ob] w (Post gb bi bm room ab A sv w (ReckonR rt room (AskR rt room f) σ k wm)) := by
  have hAP : AskPost rt big U (AskR rt room f) := ask_post asksIn lowers inLowers hbig f
  have hI0 : σs.I k = none := by unfold St.I; rw [hin]; rfl
  have hsr : G.Step rt big (ab ++ [k]) σs { σ with runs := wrap64 (σ.runs + 1) } := ⟨hs.inv.runs _, hs.inp, hs.now, hs.stack, hs.ents, hs.kept, hs.old⟩
  have hII : St.I { σ with runs := wrap64 (σ.runs + 1) } = σs.I := hsr.I
  have main : ∀ vs σ1 x, Chain (AskR rt room f) { σ with runs := wrap64 (σ.runs + 1) } vs σ1 → goT (rt k) vs = some x → G.Step rt big (ab ++ [k]) σs σ1 ∧ ∀ p ∈ vs, G.Good rt σs.I p.1 p.2 := by
    intro vs σ1 x hc hx
    obtain ⟨s2, a2⟩ := chain_post hAP asksIn hso vs [] _ σ1 x hc hx hsr.inv (hsr.stack.trans hst) (by rw [hII]; exact hI0) (by rw [hII]; exact hp) (fun p hp => by cases hp)
    refine ⟨hsr.trans s2, fun p hp => ?_⟩
    have := (a2 p hp).1
    rwa [hII] at this
  refine reckon_walk h k (Nat.le_trans hkey (by decide)) hroom (ab ++ [k]) ab hk (List.mem_append_right _ (List.mem_cons_self ..)) (fun j hj => List.mem_append_left _ hj) ob wm hwas
    (fun s ns σ1 => ∃ vs, vs.map Prod.fst = ns ∧ Chain (AskR rt room f) { σ with runs := wrap64 (σ.runs + 1) } vs σ1 ∧ goT (rt k) vs = some (.ret (.ok s)))
    (fun er σ1 => (∃ vs, Chain (AskR rt room f) { σ with runs := wrap64 (σ.runs + 1) } vs σ1 ∧ goT (rt k) vs = some (.ret (.err er))) ∨
      (∃ vs σ0 j c, Chain (AskR rt room f) { σ with runs := wrap64 (σ.runs + 1) } vs σ0 ∧ goT (rt k) vs = some (.ask j c) ∧ AskR rt room f σ0 j (.err er) σ1))
    _ ?_ ?_ ?_ ?_
  · rintro s ns σ1 ⟨vs, rfl, hc, hgo⟩
    obtain ⟨s1, _⟩ := main vs σ1 _ hc hgo
    have h1 := s1.inv.card.le lowers (fun i hi => by
      obtain ⟨m', hm'⟩ := Option.isSome_iff_exists.1 hi
      obtain ⟨ws, g1, _⟩ := s1.inv.good i m' hm'
      exact inLowers _ _ _ g1)
    rw [lowers_length] at h1
    omega
  · intro clock bb pg pm mb w2 hr2 h4 hmb
    refine (rule_ok bb pg pm k
      (fun vs w' => ∃ σ1 A1 sv1 nv, Chain (AskR rt room f) { σ with runs := wrap64 (σ.runs + 1) } vs σ1 ∧ (∀ p ∈ vs, p.2.size ≤ 100000) ∧ Rep gb bi bm room A1 sv1 σ1 w' ∧ ExtR gb bm (ab ++ [k]) A sv w2 bb mb A1 sv1 w' ∧
        Four gb bb pg pm mb σ.now clock 0 (vs.map Prod.fst) nv w' ∧ Apart A1 sv1 nv ∧ (∀ g, nv.ownBlock = some g → w2.heap.size ≤ g) ∧ ∀ j nv', A1 j ≠ some (mb, nv'))
      (fun vs j er w' => ∃ σ0 σ1 A1 sv1 nv, Chain (AskR rt room f) { σ with runs := wrap64 (σ.runs + 1) } vs σ0 ∧ AskR rt room f σ0 j (.err er) σ1 ∧ Rep gb bi bm room A1 sv1 σ1 w' ∧ ExtR gb bm (ab ++ [k]) A sv w2 bb mb A1 sv1 w' ∧
        Four gb bb pg pm mb σ.now clock er (vs.map Prod.fst) nv w') w2 ?_ ?_ ?_).mono ?_
    · rintro vs w3 o ⟨σ1, A1, sv1, nv, j1, j2, j3, j4, j5, j6, j7, j8⟩
      have hf : Fr w3 (w3.alloc o) (fun _ => False) := (Fr.refl w3 _).alloc o
      exact ⟨σ1, A1, sv1, nv, j1, j2, j3.same hf, j4.same hf, j5.same hf, j6, j7, j8⟩
    · rintro vs j c w1 hgo ⟨σ1, A1, sv1, nv, j1, j2, j3, j4, j5, j6, j7, j8⟩
      obtain ⟨s1, a1⟩ := main vs σ1 _ j1 hgo
      have hst1 : σ1.stack = ab ++ [k] := s1.stack.trans hst
      have hI1 : σ1.I = σs.I := s1.I
      have hjU : j ∈ U := asksIn _ _ _ _ hgo
      have hpre : Pre big f σ1 j := ⟨s1.inv, by rw [hst1]; exact hso, fun _ => hjU, by
        rw [hst1, hI1]
        exact .snoc hp ⟨hI0, vs, c, hgo, a1⟩, by rw [hst1]; exact hfuel, by rw [hI1]; exact hsz, by rw [U_size j hjU]; decide⟩
      have hcall := IH σ1 A1 sv1 w1 j j3 hpre
      rw [hst1] at hcall
      have hlen : (vs.map Prod.fst).length ≤ 200000 := by
        rw [List.length_map]
        have := (rt_run hgo j2).1
        omega
      refine (clos_walk j3 (ab ++ [k]) j5 j hlen j8 j6 _ hcall).mono ?_
      rintro e w4 ⟨σ2, A2, sv2, q1, q2, q3⟩
      rcases q3 with ⟨x, t, nv2, rfl, hr, q5, q6, q7⟩ | ⟨er, rfl, her, hr, q5⟩
      · left
        obtain ⟨_, a2⟩ := hAP σ1 j _ σ2 hr hpre.inv hpre.so hpre.inU hpre.path
        have hx : x.size ≤ 100000 := good_size hpre.sizes a2.1
        refine ⟨x, hx, rfl, σ2, A2, sv2, nv2, chain_snoc j1 hr, fun p hp => ?_, q1, j4.step q2 j7, by rw [List.map_append]; exact q5, q6, fun g hg => ?_, fun i nv' hi => ?_⟩
        · rcases List.mem_append.1 hp with hp | hp
          · exact j2 p hp
          · have : p = (j, x) := by simpa using hp
            subst this
            exact hx
        · rcases q7 g hg with e | e
          · exact j7 g e
          · have := j4.fr.size; omega
        · rcases q2.adr i mb nv' hi with e | e
          · exact j8 i nv' e
          · have : mb < w1.heap.size := ltB j5.mb
            have := e.1
            omega
      · right
        exact ⟨er, her, rfl, σ1, σ2, A2, sv2, nv, j1, hr, q1, j4.step q2 j7, q5⟩
    · refine ⟨_, A, sv, .slice none 0 0, rfl, (fun p hp => by cases hp), hr2, ⟨Fr.refl _ _, fun _ _ _ h => Or.inl h, fun _ h => Or.inl h⟩, h4, (fun g hg => by cases hg), (fun g hg => by cases hg), hmb⟩
    · rintro e w3 (⟨s, vs, rfl, hgo, σ1, A1, sv1, nv, j1, _, j3, j4, j5, j6, j7, _⟩ | ⟨vs, rfl, hgo, σ1, A1, sv1, nv, j1, _, j3, j4, j5, _⟩ | ⟨vs, j, c, er, rfl, her, hgo, σ0, σ1, A1, sv1, nv, j1, jr, j3, j4, j5⟩)
      · exact ⟨σ1, A1, sv1, nv, _, j3, j4, Or.inl ⟨s, rfl, ⟨vs, rfl, j1, hgo⟩, j5, fun g hg => ⟨j7 g hg, (j6 g hg).1⟩⟩⟩
      · exact ⟨σ1, A1, sv1, nv, _, j3, j4, Or.inr ⟨3, 0, rfl, Or.inl rfl, Or.inl rfl, Or.inl ⟨vs, j1, hgo⟩, j5⟩⟩
      · exact ⟨σ1, A1, sv1, nv, _, j3, j4, Or.inr ⟨er, er, rfl, her, Or.inr rfl, Or.inr ⟨vs, σ0, j, c, j1, hgo, jr⟩, j5⟩⟩
  · rintro s ns σ1 σ2 ⟨vs, rfl, hc, hgo⟩ hk2
    exact ⟨vs, σ1, hc, Or.inl ⟨s, hgo, rfl, hk2⟩⟩
  · rintro er σ1 (⟨vs, hc, hgo⟩ | ⟨vs, σ0, j, c, hc, hgo, ha⟩)
    · exact ⟨vs, σ1, hc, Or.inr (Or.inl ⟨er, hgo, rfl, rfl⟩)⟩
    · exact ⟨vs, σ0, hc, Or.inr (Or.inr ⟨j, c, er, σ1, hgo, ha, rfl, rfl⟩)⟩

theorem ask_calls (hroom : 1 ≤ room) (hbig : big → (lowers.length : Int) ≤ room) : ∀ f, AskC gb bi bm room big f
  | 0 => fun σ A sv w k h hp => by
    have := hp.so.length
    have := hp.fuel
    rw [U_length] at *
    omega
  | f + 1 => by
    intro σ A sv w k h hp
    have IH := ask_calls hroom hbig f
    have hAP : AskPost rt big U (AskR rt room f) := ask_post asksIn lowers inLowers hbig f
    have hlen : σ.stack.length ≤ 100 := by have := hp.fuel; omega
    have hkm : k.size ≤ maxLen := Nat.le_trans hp.key (by decide)
    cases hin : σ.inp k with
    | some vc =>
      obtain ⟨v, c⟩ := vc
      refine (ask_inp h k hkm v c hin).mono ?_
      rintro e w' ⟨r, σ', A', sv', he, herr, ⟨rfl, rfl⟩, hrep, hext⟩
      exact ⟨_, _, A', sv', he, herr, Or.inl ⟨v, c, hin, rfl, rfl⟩, hrep, hext⟩
    | none =>
      by_cases hmem : k ∈ σ.stack
      · refine (ask_twice h k hkm hin hmem hlen).mono ?_
        rintro e w' ⟨r, σ', A', sv', he, herr, ⟨rfl, rfl⟩, hrep, hext⟩
        exact ⟨_, _, A', sv', he, herr, Or.inr (Or.inl ⟨hin, hmem, rfl, rfl⟩), hrep, hext⟩
      · have hso := hp.so.push hmem hp.inU
        have hfuel : (σ.stack ++ [k]).length + f = 54 := by
          have := hp.fuel
          rw [List.length_append]
          simp only [List.length_cons, List.length_nil]
          omega
        have hI0 : σ.I k = none := by unfold St.I; rw [hin]; rfl
        have hinv : G.Inv rt big { σ with stack := σ.stack ++ [k] } := hp.inv.stack _
        have hkS : k ∈ σ.stack ++ [k] := List.mem_append_right _ (List.mem_cons_self ..)
        refine (ask_rule h k hkm hin hmem hlen (KnownR rt room (AskR rt room f) { σ with stack := σ.stack ++ [k] } k) ?_ ?_).mono ?_
        · intro sv1 w1 h1
          refine known_walk h1 k hkm σ.stack hmem hkS (fun j hj => List.mem_append_left _ hj) (fun m bl σ1 => HoldsR (AskR rt room f) m.looked { σ with stack := σ.stack ++ [k] } m.needs bl σ1 ∧ m.looked ≠ σ.now) _ ?_ ?_ ?_ ?_ ?_
          · intro b nv m w2 hA hm hl h2
            have hl' : m.looked ≠ σ.now := hl
            obtain ⟨vs, g1, g2, g3, _⟩ := hp.inv.good k m hm
            have ht := hp.inv.time k m hm
            have hlt : m.looked < σ.now := by omega
            obtain ⟨m', us, hm', hb, hno, hsep⟩ := h2.has k b nv hA
            have e : m' = m := by
              have hm2 : σ.memo k = some m' := hm'
              have hm3 : σ.memo k = some m := hm
              rw [hm3] at hm2
              cases hm2
              rfl
            subst e
            have hnl : m'.needs.length ≤ 9223372036854775807 := by
              rcases hno.2 with ⟨_, h0⟩ | ⟨_, cap, _, _, _, _, h1, h3, _⟩
              · omega
              · exact Nat.le_trans (Nat.le_trans h1 h3) (by decide)
            refine (holds_walk h2 (σ.stack ++ [k]) b nv m' us hnl hb hno ?_
              (fun i σ1 => (∀ bl σ2, HoldsR (AskR rt room f) m'.looked σ1 (m'.needs.drop i) bl σ2 → HoldsR (AskR rt room f) m'.looked { σ with stack := σ.stack ++ [k] } m'.needs bl σ2) ∧
                G.Step rt big (σ.stack ++ [k]) { σ with stack := σ.stack ++ [k] } σ1 ∧ (∀ p ∈ vs.take i, G.Good rt σ.I p.1 p.2) ∧ ∀ p ∈ vs, OldAt σ1 m'.looked p.1 p.2)
              (fun bl σ1 => HoldsR (AskR rt room f) m'.looked { σ with stack := σ.stack ++ [k] } m'.needs bl σ1) ?_ ?_ ?_).mono ?_
            · intro A' sv' w' hx g hg
              have l1 := h2.lts
              have l2 := h2.mb_ne hA
              rcases hg with rfl | hg
              · rintro (e | e | e | ⟨j, nv', hj, e⟩)
                · exact l2.1 e
                · exact l2.2.2.1 e
                · rcases hx.sv _ e with e' | e'
                  · exact l2.2.2.2 e'
                  · have := (l1.2.2.2.2 k _ nv hA).1; omega
                · rcases hx.adr j _ nv' e with e' | e'
                  · exact hj (by rw [h2.inj _ _ _ _ _ e' hA]; exact hkS)
                  · have := (l1.2.2.2.2 k _ nv hA).1
                    have := e'.1
                    omega
              · have l3 := h2.nv_ne hA hg
                have l4 := (l1.2.2.2.2 k b nv hA).2 g hg
                rintro (e | e | e | ⟨j, nv', hj, e⟩)
                · exact l3.1 e
                · exact l3.2.2.1 e
                · rcases hx.sv g e with e' | e'
                  · exact l3.2.2.2.1 e'
                  · omega
                · rcases hx.adr j g nv' e with e' | e'
                  · exact l3.2.2.2.2 j g nv' e' rfl
                  · have := e'.1
                    omega
            · exact ⟨fun bl σ2 h => h, G.Step.refl hinv, fun p hp => by simp at hp, g3 hlt⟩
            · rintro i x A1 sv2 σ1 w3 hx ⟨hback, hst1, hgood, hold⟩ h3
              have hv : ∃ v, vs[i]? = some (x, v) := by
                rw [← g2, List.getElem?_map] at hx
                obtain ⟨p, h1, h2⟩ := Option.map_eq_some_iff.1 hx
                obtain ⟨j, v⟩ := p
                simp only at h2
                subst h2
                exact ⟨v, h1⟩
              obtain ⟨v, hv⟩ := hv
              have hil : i < vs.length := (List.getElem?_eq_some_iff.1 hv).1
              have hvi : vs[i] = (x, v) := (List.getElem?_eq_some_iff.1 hv).2
              have hdrop : vs.drop i = (x, v) :: vs.drop (i + 1) := by rw [List.drop_eq_getElem_cons hil, hvi]
              have hsplit : vs = vs.take i ++ (x, v) :: vs.drop (i + 1) := by rw [← hdrop, List.take_append_drop]
              have g1' := g1
              rw [hsplit] at g1'
              obtain ⟨c, hask⟩ := goT_mid g1'
              have hstk : σ1.stack = σ.stack ++ [k] := hst1.stack
              have hI1 : σ1.I = σ.I := hst1.I
              have hxU : x ∈ U := asksIn _ _ _ _ hask
              have hpre : Pre big f σ1 x := ⟨hst1.inv, by rw [hstk]; exact hso, fun _ => hxU, by
                rw [hstk, hI1]
                exact .snoc hp.path ⟨hI0, _, c, hask, hgood⟩, by rw [hstk]; exact hfuel, by rw [hI1]; exact hp.sizes, by rw [U_size x hxU]; decide⟩
              have hcall := IH σ1 A1 sv2 w3 x h3 hpre
              rw [hstk] at hcall
              have hnd : m'.needs.drop i = x :: m'.needs.drop (i + 1) := by
                rw [← g2, ← List.map_drop, hdrop, List.map_cons, List.map_drop]
              refine hcall.mono ?_
              rintro e w4 ⟨r, σ2, A2, sv3, he, herr, hr, hrep, hext⟩
              refine ⟨r, σ2, A2, sv3, he, herr, ?_, hrep, hext⟩
              cases r with
              | err er =>
                refine hback false σ2 ?_
                rw [hnd]
                exact Or.inl ⟨er, σ2, hr, rfl, rfl⟩
              | ok s t =>
                show if m'.looked < t then _ else _
                by_cases hlt2 : m'.looked < t
                · rw [if_pos hlt2]
                  refine hback false σ2 ?_
                  rw [hnd]
                  exact Or.inr (Or.inl ⟨s, t, σ2, hr, hlt2, rfl, rfl⟩)
                · rw [if_neg hlt2]
                  obtain ⟨s1, a1⟩ := hAP σ1 x _ σ2 hr hpre.inv hpre.so hpre.inU hpre.path
                  rw [hstk] at s1
                  have hL : m'.looked < σ1.now := by rw [show σ1.now = σ.now from hst1.now]; exact hlt
                  have hmem2 : (x, v) ∈ vs := by rw [← hvi]; exact List.getElem_mem hil
                  have hsv : s = v := a1.2.2.1 m'.looked v hL (hold (x, v) hmem2) (by omega)
                  refine ⟨fun bl σ3 h => hback bl σ3 ?_, hst1.trans s1, fun p hp' => ?_, fun p hp' => s1.old _ hL _ _ (hold p hp')⟩
                  · rw [hnd]
                    exact Or.inr (Or.inr ⟨s, t, σ2, hr, by omega, h⟩)
                  · have htake : vs.take (i + 1) = vs.take i ++ [(x, v)] := by
                      rw [List.take_add_one, hv]; rfl
                    rw [htake] at hp'
                    rcases List.mem_append.1 hp' with hp' | hp'
                    · exact hgood p hp'
                    · have e : p = (x, v) := by simpa using hp'
                      subst e
                      have := a1.1
                      rw [hI1, hsv] at this
                      exact this
            · rintro σ1 ⟨hback, _⟩
              refine hback true σ1 ?_
              rw [List.drop_length]
              exact ⟨rfl, rfl⟩
            · rintro e w' ⟨bl, σ1, A1, sv2, rfl, hD, hrep, hext⟩
              exact ⟨bl, σ1, A1, sv2, rfl, ⟨hD, hl⟩, hrep, hext⟩
          · intro hA w2 h2
            exact reckon_calls hroom hbig IH h2 rfl (G.Step.refl hinv) hso hmem hin hp.path hfuel hp.sizes hp.key none none (Or.inl ⟨rfl, rfl⟩) |>.mono (fun e w' hh => by
              obtain ⟨r, σ', A', sv', he, herr, hr, hrep, hext⟩ := hh
              exact ⟨r, σ', A', sv', he, herr, Or.inr (Or.inr (Or.inr ⟨h2.dom k hA, hr⟩)), hrep, hext⟩)
          · intro b nv m us σ1 A1 sv2 w2 hm hH h2 hb hA1
            have hl' : m.looked ≠ σ.now := hH.2
            obtain ⟨vs, g1, g2, g3, _⟩ := hp.inv.good k m hm
            have ht := hp.inv.time k m hm
            have hlt : m.looked < σ.now := by omega
            have hh := hH.1
            rw [← g2] at hh
            obtain ⟨s1, _⟩ := holds_post hAP asksIn hso vs [] { σ with stack := σ.stack ++ [k] } σ1 false _ hh g1 hinv rfl hI0 hp.path hlt (g3 hlt) (fun p hp => by cases hp)
            refine (reckon_calls hroom hbig IH h2 rfl s1 hso hmem hin hp.path hfuel hp.sizes hp.key (some b) (some m) (Or.inr ⟨b, m, nv, us, rfl, rfl, hb, hA1⟩)).mono ?_
            rintro e w' ⟨r, σ', A', sv', he, herr, hr, hrep, hext⟩
            exact ⟨r, σ', A', sv', he, herr, Or.inr (Or.inr (Or.inl ⟨m, σ1, hm, hH.2, hH.1, hr⟩)), hrep, hext⟩
          · intro m hm hl
            exact Or.inl ⟨m, hm, hl, rfl, rfl⟩
          · intro m σ1 hm hl hH
            exact Or.inr (Or.inl ⟨m, σ1, hm, hl, hH.1, rfl, rfl⟩)
        · intro r σ1 hr
          have := (known_post hAP asksIn lowers inLowers hbig hp.so hso hmem hinv rfl hin hp.path hr).1.stack
          exact this
        · rintro e w' ⟨r, σ', A', sv', he, herr, ⟨σ1, hr, rfl⟩, hrep, hext⟩
          exact ⟨r, _, A', sv', he, herr, Or.inr (Or.inr ⟨hin, hmem, σ1, hr, rfl⟩), hrep, hext⟩
end
end Go.Proofs.Ytelddnalpkhclaa
