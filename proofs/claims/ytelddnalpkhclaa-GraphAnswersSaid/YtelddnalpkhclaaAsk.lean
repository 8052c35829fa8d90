/- ask, whatever stands on the stack. -/
import Derived.Test.YtelddnalpkhclaaRep
import Derived.Test.YtelddnalpkhclaaShelf
namespace Go.Proofs.Ytelddnalpkhclaa
open Go.RowKit Go.Maps G

theorem contains_ok {w : World} {sv : Value} {st : List K} (h : w.ownsRow 0 9 1 sv st.length (st.map .string)) (hn : st.length ≤ 1000) (x : K) :
    Calls Try.prog 25 #[sv, .string x] w fun e w' => e = .returned (.bool (decide (x ∈ st))) ∧ w' = w := by
  rcases Nat.eq_zero_or_pos st.length with h0 | hp
  · have e : st = [] := List.eq_nil_of_length_eq_zero h0
    subst e
    have hf : ∃ a c, sv = .slice a 0 c := by
      rcases h.2 with ⟨rfl, _⟩ | ⟨g, cap, cur, rfl, _⟩
      · exact ⟨_, _, rfl⟩
      · exact ⟨_, _, rfl⟩
    obtain ⟨a, c, rfl⟩ := hf
    simpa using Try.slices_Contains_string_empty a c x w
  · obtain ⟨g, cap, rfl, _, _⟩ := h.form hp
    have hc : ∀ j, j < st.length → w.cell? ⟨g, 0 + j, none⟩ = some (.string (st.getD j ByteArray.empty)) := by
      intro j hj
      have := h.cells (g := g) rfl j (.string (st.getD j ByteArray.empty)) (by simp [List.getD, hj])
      have e : (⟨g, 0, none⟩ : Addr).add j = ⟨g, 0 + j, none⟩ := by rw [Nat.zero_add]; unfold Addr.add; split <;> simp_all
      rw [e] at this
      exact this
    refine (Try.slices_Contains_string g 0 st.length cap st x w (Nat.le_refl _) (by omega) hc).mono ?_
    rintro e w' ⟨rfl, rfl⟩
    refine ⟨?_, rfl⟩
    congr 2
    rw [List.take_length]
    congr 1
    rw [Bool.eq_iff_iff, Lib.containsS_iff]
    simp

theorem pop_row {w : World} {g cap n : Nat} {xs : List Value} {x : Value} (h : w.ownsRow 0 9 1 (.slice (some ⟨g, 0, none⟩) (n + 1) cap) (n + 1) (xs ++ [x])) (hx : xs.length = n) : w.ownsRow 0 9 1 (.slice (some ⟨g, 0, none⟩) n cap) n xs := by
  refine ⟨by omega, ?_⟩
  rcases h.2 with ⟨e, _⟩ | ⟨g', cap', cur, e, h1, h2, h3, h4, h5, h6⟩
  · cases e
  · cases e
    refine .inr ⟨g, cap, cur, rfl, h1, h2, by omega, h4, h5, ?_⟩
    have e2 : xs = (xs ++ [x]).take n := by rw [← hx]; simp
    rw [e2, ← h6, List.take_take]
    congr 1
    omega

set_option maxRecDepth 100000 in
set_option maxHeartbeats 2000000 in
theorem ask_rule {gb bi bm : Nat} {room : Int} {A : Adr} {sv : Value} {σ : St} {w : World} (h : Rep gb bi bm room A sv σ w) (key : K) (hkey : key.size ≤ maxLen) (hin : σ.inp key = none) (hst : key ∉ σ.stack) (hlen : σ.stack.length ≤ 100) (R : Ans → St → Prop)
    (hkn : ∀ sv1 w1, Rep gb bi bm room A sv1 { σ with stack := σ.stack ++ [key] } w1 → Calls Try.prog 26 #[.pointer (some ⟨gb, 0, none⟩), .string key] w1 (Post gb bi bm room σ.stack A sv1 w1 R)) (hR : ∀ r σ1, R r σ1 → σ1.stack = σ.stack ++ [key]) :
    Calls Try.prog 23 #[.pointer (some ⟨gb, 0, none⟩), .string key] w (Post gb bi bm room σ.stack A sv w fun r σ' => ∃ σ1, R r σ1 ∧ σ' = { σ1 with stack := σ.stack }) := by
  obtain ⟨clock, hg⟩ := h.graph
  obtain ⟨ni, _, hi⟩ := h.inp
  have hf : inpV σ key = none := by unfold inpV; rw [hin]; rfl
  have c1 : w.cell? ⟨gb, 1, none⟩ = some (.map (some bi)) := cellB hg rfl
  have c7 : w.cell? ⟨gb, 7, none⟩ = some sv := cellB hg rfl
  have hlt : gb < w.heap.size := ltB hg
  go_enter Try.func23, Try.ntmps23
  go_wp2_with (first
    | (at_lookup; refine wp_look_none _ rfl _ _ 52 true rfl 9 58 Try.underlying9 Try.underlying52 _ (zero58 _) bi ni (inpV σ) rfl hi key rfl hkey hf ?_)
    | fail)
  refine (contains_ok (h.stack.alloc _) (by omega) key).mono ?_
  rintro e w1 ⟨rfl, hw1⟩
  have fr1 : Fr w w1 (fun _ => False) := by rw [hw1]; exact (Fr.refl w _).alloc _
  have h1 := h.same fr1
  have hg1 := fr1.block' hg id
  have hs1 := h1.stack
  clear hw1
  have hdec : decide (key ∈ σ.stack) = false := by simpa using hst
  obtain ⟨i0, hinf, hzz, hzs, hzb⟩ := infoParts infoStr
  have d7 : w1.cell? ⟨gb, 7, none⟩ = some sv := cellB hg1 rfl
  have hlt1 : gb < w1.heap.size := ltB hg1
  have hbz : (0 : Nat) ≤ (w1.alloc (.cells #[.string key] 9)).heap.size := Nat.zero_le _
  generalize hN : σ.stack.length = N at hs1 hlen
  have HN := Lib.hid hN
  clear hN
  clear c1 c7
  go_wp2_with (first
    | (refine wpList_append_lies _ rfl _ _ 54 rfl 0 9 i0 (.string ⟨#[]⟩) 1 16 Try.underlying54 hinf hzz hzs hzb rfl (by decide) sv N _ (by rfl) (hs1.alloc _) _ 1 1 [.string key] (by rfl) rfl (cell_one_new _ _ _) (by simp [Value.oneCell']) (by decide) (by unfold maxLen; omega) (by omega) hbz _ rfl ?_; intro g cap w3 r3 gr3 at3 lt3; have hg3 := (gr3.block gb (by rw [sizeA]; omega) (fun e => (h1.sv_ne e.symm).1 rfl)).trans ((Below.heap_alloc w1 (.cells #[.string key] 9) gb hlt1).trans hg1); have d3 := cellB hg3 (i := 7) rfl; have fz3 := freeB hg3 7)
    | fail)
  have hcap : N + 1 ≤ cap ∧ cap ≤ maxLen := by
    rcases r3.2 with ⟨h, _⟩ | ⟨g', cap', cur, h, _, _, h1, h2, _⟩
    · cases h
    · cases h; exact ⟨h1, h2⟩
  have hgn : g ≠ gb := by
    rcases at3 with e | e
    · exact (h1.sv_ne e).1
    · have e' : g = w1.heap.size + 1 := by rw [e]; exact sizeA _ _
      omega
  have hgs : ∀ i, (Value.slice (some ⟨g, 0, none⟩) (N + 1) cap).ownBlock = some i → sv.ownBlock = some i ∨ w.heap.size ≤ i := by
    intro i hi
    have hi' : g = i := by simpa [Value.ownBlock] using hi
    subst hi'
    rcases at3 with e | e
    · exact Or.inl e
    · have e' : g = w1.heap.size + 1 := by rw [e]; exact sizeA _ _
      have := fr1.size
      right; omega
  have fr3 : Fr w w3 (fun b => b = gb ∨ sv.ownBlock = some b) := ((fr1.mono (fun _ h => h.elim)).alloc _).grown gr3 (fun i hi => Or.inl (Or.inr hi))
  have fr4 := fr3.setCell (p := ⟨gb, 7, none⟩) (Or.inl (Or.inl rfl)) (.slice (some ⟨g, 0, none⟩) (N + 1) cap)
  have hl : (σ.stack ++ [key]).length = N + 1 := by rw [List.length_append, HN.out]; rfl
  have hm : (σ.stack ++ [key]).map Value.string = σ.stack.map .string ++ [Value.string key] := by rw [List.map_append]; rfl
  have hrep := h.own (runs := σ.runs) (st := σ.stack ++ [key]) fr4 (setB hg3 7 _) (by rw [hl, hm]; exact r3.kept (grownAt w3 gb 7 _) (Or.inr (by simpa [Value.ownBlock] using hgn))) hgs
  have hexta : Ext gb bm σ.stack A sv w A (.slice (some ⟨g, 0, none⟩) (N + 1) cap) (w3.setCell ⟨gb, 7, none⟩ (.slice (some ⟨g, 0, none⟩) (N + 1) cap)) :=
    ⟨fr4.mono (fun i hi => by
      rcases hi with e | e
      · exact Or.inl e
      · exact Or.inr (Or.inr (Or.inl e))), fun _ _ _ h => Or.inl h, hgs⟩
  clear hm
  refine (hkn _ _ hrep).mono ?_
  rintro e w4 ⟨r, σ1, A', sv', he, herr, hr, hrep4, hext⟩
  have hst1 := hR r σ1 hr
  obtain ⟨clock4, hg4⟩ := hrep4.graph
  have hs4 := hrep4.stack
  rw [hst1, hl, List.map_append] at hs4
  obtain ⟨g4, cap4, hsv4, _, _⟩ := hs4.form (by omega)
  subst hsv4
  have hcap4 : N + 1 ≤ cap4 ∧ cap4 ≤ maxLen := by
    rcases hs4.2 with ⟨h, _⟩ | ⟨g', cap', cur, h, _, _, h1, h2, _⟩
    · cases h
    · cases h; exact ⟨h1, h2⟩
  have hpop := pop_row hs4 (by rw [List.length_map]; exact HN.out)
  have hg4n := (hrep4.sv_ne (g := g4) rfl).1
  have d4 : w4.cell? ⟨gb, 7, none⟩ = some (.slice (some ⟨g4, 0, none⟩) (N + 1) cap4) := cellB hg4 rfl
  have f4 := freeB hg4 7
  have hc1 := hcap4.1
  have hc2 := hcap4.2
  have fin : ∀ w5, Fr w4 w5 (fun b => b = gb) → w5.heap[gb]? = (w4.setCell ⟨gb, 7, none⟩ (.slice (some ⟨g4, 0, none⟩) N cap4)).heap[gb]? → Rep gb bi bm room A' (.slice (some ⟨g4, 0, none⟩) N cap4) { σ1 with stack := σ.stack } w5 ∧ Ext gb bm σ.stack A sv w A' (.slice (some ⟨g4, 0, none⟩) N cap4) w5 := by
    intro w5 f5 h5
    refine ⟨hrep4.own (runs := σ1.runs) (st := σ.stack) (f5.mono (fun _ h => Or.inl h)) (h5.trans (setB hg4 7 _)) ?_ (fun i hi => Or.inl hi), hexta.trans (hext.trans ⟨f5.mono (fun _ h => Or.inl h), fun _ _ _ h => Or.inl h, fun i hi => Or.inl hi⟩)⟩
    rw [HN.out]
    exact ownsRow_fr hpop f5 (fun i hi e => hg4n (by
      have hi' : g4 = i := by simpa [Value.ownBlock] using hi
      omega))
  clear hpop hg4n hs4 hst1 hl hext hexta hrep hgs hcap hcap4 hgn d3 fz3 hg3 gr3 at3 r3 d7 hg1 hs1
  cases r with
  | ok s t =>
    have he' : e = .returned (.tuple #[.string s, .int .i64 t, .int .i64 0]) := he
    subst he'
    clear he
    go_wp2
    go_region
    all_goals
      go_wp2
      go_ret3
      have hfin := fin _ (((Fr.refl w4 (fun b => b = gb)).setCell (p := ⟨gb, 7, none⟩) (Or.inl rfl) (.slice (some ⟨g4, 0, none⟩) N cap4)).drew) rfl
      exact ⟨.ok s t, _, A', _, rfl, herr, ⟨σ1, hr, rfl⟩, hfin.1, hfin.2⟩
  | err e1 =>
    have he' : e = .returned (.tuple #[.string ⟨#[]⟩, .int .i64 0, .int .i64 e1]) := he
    subst he'
    clear he
    go_wp2
    go_region
    all_goals
      go_wp2
      go_ret3
      have hfin := fin _ (((Fr.refl w4 (fun b => b = gb)).setCell (p := ⟨gb, 7, none⟩) (Or.inl rfl) (.slice (some ⟨g4, 0, none⟩) N cap4)).drew) rfl
      exact ⟨.err e1, _, A', _, rfl, herr, ⟨σ1, hr, rfl⟩, hfin.1, hfin.2⟩

set_option maxHeartbeats 2000000 in
theorem ask_twice {gb bi bm : Nat} {room : Int} {A : Adr} {sv : Value} {σ : St} {w : World} (h : Rep gb bi bm room A sv σ w) (key : K) (hkey : key.size ≤ maxLen) (hin : σ.inp key = none) (hst : key ∈ σ.stack) (hlen : σ.stack.length ≤ 100) :
    Calls Try.prog 23 #[.pointer (some ⟨gb, 0, none⟩), .string key] w (Post gb bi bm room σ.stack A sv w fun r σ' => r = .err 4 ∧ σ' = σ) := by
  obtain ⟨clock, hg⟩ := h.graph
  obtain ⟨ni, _, hi⟩ := h.inp
  have hf : inpV σ key = none := by unfold inpV; rw [hin]; rfl
  have c1 : w.cell? ⟨gb, 1, none⟩ = some (.map (some bi)) := cellB hg rfl
  have c7 : w.cell? ⟨gb, 7, none⟩ = some sv := cellB hg rfl
  have hlt : gb < w.heap.size := ltB hg
  go_enter Try.func23, Try.ntmps23
  go_wp2_with (first
    | (at_lookup; refine wp_look_none _ rfl _ _ 52 true rfl 9 58 Try.underlying9 Try.underlying52 _ (zero58 _) bi ni (inpV σ) rfl hi key rfl hkey hf ?_)
    | fail)
  refine (contains_ok (h.stack.alloc _) (by omega) key).mono ?_
  rintro e w1 ⟨rfl, hw1⟩
  have fr1 : Fr w w1 (fun _ => False) := by rw [hw1]; exact (Fr.refl w _).alloc _
  clear hw1
  have hdec : decide (key ∈ σ.stack) = true := by simpa using hst
  go_wp2
  go_ret3
  exact ⟨.err 4, σ, A, sv, rfl, Or.inr rfl, ⟨rfl, rfl⟩, h.same fr1, .of_fr (fr1.mono (fun _ h => h.elim))⟩
theorem ask_inp {gb bi bm : Nat} {room : Int} {A : Adr} {sv : Value} {σ : St} {w : World} (h : Rep gb bi bm room A sv σ w) (key : K) (hkey : key.size ≤ maxLen) (v : K) (c : Int) (hin : σ.inp key = some (v, c)) :
    Calls Try.prog 23 #[.pointer (some ⟨gb, 0, none⟩), .string key] w (Post gb bi bm room σ.stack A sv w fun r σ' => r = .ok v c ∧ σ' = σ) := by
  obtain ⟨clock, hg⟩ := h.graph
  obtain ⟨ni, _, hi⟩ := h.inp
  have hf : inpV σ key = some (inV v c) := by unfold inpV; rw [hin]; rfl
  refine (ask_input gb bi bm ni (inpV σ) _ room σ.now clock σ.runs sv key v c w hg hi hkey hf).mono ?_
  rintro e w1 ⟨rfl, fr1⟩
  exact ⟨.ok v c, σ, A, sv, rfl, trivial, ⟨rfl, rfl⟩, h.same fr1, .of_fr (fr1.mono (fun _ h => h.elim))⟩
end Go.Proofs.Ytelddnalpkhclaa
