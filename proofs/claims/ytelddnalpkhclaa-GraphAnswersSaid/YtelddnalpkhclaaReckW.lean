/- reckon's walk, whatever is known: out of the rule's contract. -/
import Derived.Test.YtelddnalpkhclaaReck
namespace Go.Proofs.Ytelddnalpkhclaa
open Go.RowKit Go.Maps G

/-- the four blocks that a rule's run turns: 'bad', g, m, the memo -/
structure Four (gb bb pg pm mb : Nat) (now clock bd : Int) (ns : List K) (nv : Value) (w : World) : Prop where
  bb : w.heap[bb]? = some (.cells #[.int .i64 bd] 26 (0, 0))
  pg : w.heap[pg]? = some (.cells #[.pointer (some ⟨gb, 0, none⟩)] 25 (0, 0))
  pm : w.heap[pm]? = some (.cells #[.pointer (some ⟨mb, 0, none⟩)] 62 (0, 0))
  mb : w.heap[mb]? = some (.cells (memoCells ⟨#[]⟩ nv now now clock) 68 (0, 0))
  nv : w.ownsRow 0 9 1 nv ns.length (ns.map .string)
def wasV : Option Nat → Value
  | none => .pointer none
  | some b => .pointer (some ⟨b, 0, none⟩)
structure ExtR (gb bm : Nat) (S : List K) (A : Adr) (sv : Value) (w : World) (bb mb : Nat) (A' : Adr) (sv' : Value) (w' : World) : Prop where
  fr : Fr w w' (fun b => May gb bm A S sv b ∨ b = bb ∨ b = mb)
  adr : ∀ k b nv, A' k = some (b, nv) → A k = some (b, nv) ∨ (w.heap.size ≤ b ∧ k ∉ S ∧ ∀ g, nv.ownBlock = some g → w.heap.size ≤ g)
  sv : ∀ g, sv'.ownBlock = some g → sv.ownBlock = some g ∨ w.heap.size ≤ g
theorem ExtR.out {gb bm : Nat} {S S0 : List K} {A A' : Adr} {sv sv' : Value} {w w2 w' : World} {bb mb : Nat} (hx : Ext gb bm S0 A sv w A sv w2) (h : ExtR gb bm S A sv w2 bb mb A' sv' w') (hS : ∀ j, j ∈ S0 → j ∈ S) (h1 : w.heap.size ≤ bb) (h2 : w.heap.size ≤ mb) : Ext gb bm S0 A sv w A' sv' w' := by
  have hs := hx.fr.size
  refine ⟨hx.fr.trans2 h.fr (fun i hi => ?_), fun k b nv hk => ?_, fun g hg => ?_⟩
  · rcases hi with (e | e | e | ⟨j, nv', hj, e⟩) | e | e
    · exact Or.inl (Or.inl e)
    · exact Or.inl (Or.inr (Or.inl e))
    · exact Or.inl (Or.inr (Or.inr (Or.inl e)))
    · exact Or.inl (Or.inr (Or.inr (Or.inr ⟨j, nv', fun x => hj (hS j x), e⟩)))
    · right; omega
    · right; omega
  · rcases h.adr k b nv hk with e | ⟨e1, e2, e3⟩
    · exact Or.inl e
    · exact Or.inr ⟨by omega, fun x => e2 (hS k x), fun g hg => by have := e3 g hg; omega⟩
  · rcases h.sv g hg with e | e
    · exact Or.inl e
    · right; omega
/-- what a rule's run comes to -/
def Ran (gb bi bm : Nat) (room : Int) (S : List K) (A : Adr) (sv : Value) (w : World) (bb pg pm mb : Nat) (now clock : Int) (B : K → List K → St → Prop) (C : Int → St → Prop) (e : Ending) (w' : World) : Prop :=
  ∃ σ1 A1 sv1 nv ns, Rep gb bi bm room A1 sv1 σ1 w' ∧ ExtR gb bm S A sv w bb mb A1 sv1 w' ∧
    ((∃ s, e = .returned (.tuple #[.string s, .int .i64 0]) ∧ B s ns σ1 ∧ Four gb bb pg pm mb now clock 0 ns nv w' ∧
        (∀ g, nv.ownBlock = some g → w.heap.size ≤ g ∧ sv1.ownBlock ≠ some g)) ∨
     (∃ er bd, e = .returned (.tuple #[.string ⟨#[]⟩, .int .i64 er]) ∧ (er = 3 ∨ er = 4) ∧ (bd = 0 ∨ bd = er) ∧ C er σ1 ∧ Four gb bb pg pm mb now clock bd ns nv w'))

theorem two_new (w : World) (o1 o2 : Obj) : Fr w ((w.alloc o1).alloc o2).drew (fun _ => False) ∧ ((w.alloc o1).alloc o2).drew.heap[w.heap.size]? = some o1 ∧ ((w.alloc o1).alloc o2).drew.heap[w.heap.size + 1]? = some o2 := by
  have e1 : (w.alloc o1).heap.size = w.heap.size + 1 := sizeA _ _
  refine ⟨(((Fr.refl w _).alloc _).alloc _).drew, ?_, ?_⟩
  · refine (Below.heap_alloc _ _ _ (by omega)).trans ?_
    exact (MapKept.heap_alloc _ _).1
  · rw [← e1]
    exact (MapKept.heap_alloc _ _).1
theorem ownsRow_nil' (w : World) : w.ownsRow 0 9 1 (.slice none 0 0) ([] : List K).length (([] : List K).map .string) := World.ownsRow_nil _ _ _ _

set_option maxRecDepth 100000 in
set_option maxHeartbeats 8000000 in
theorem reckon_walk {gb bi bm : Nat} {room : Int} {A : Adr} {sv : Value} {σ : St} {w : World} (h : Rep gb bi bm room A sv σ w) (key : K) (hkey : key.size ≤ maxLen) (hroom : 1 ≤ room) (S S0 : List K) (hk0 : key ∉ S0) (hkS : key ∈ S) (hS : ∀ j, j ∈ S0 → j ∈ S)
    (ob : Option Nat) (wm : Option Memo) (hwas : (ob = none ∧ wm = none) ∨ ∃ b m nvo uso, ob = some b ∧ wm = some m ∧ w.heap[b]? = some (.cells (memoCells m.ans nvo m.looked m.changed uso) 68 (0, 0)) ∧ ∀ j b' nv', A j = some (b', nv') → b' = b → j = key)
    (B : K → List K → St → Prop) (C : Int → St → Prop) (R : Ans → St → Prop) (hB : ∀ s ns σ1, B s ns σ1 → σ1.n ≤ 1000)
    (hrule : ∀ (clock : Int) (bb pg pm mb : Nat) (w2 : World), Rep gb bi bm room A sv { σ with runs := wrap64 (σ.runs + 1) } w2 → Four gb bb pg pm mb σ.now clock 0 [] (.slice none 0 0) w2 → (∀ j nv', A j ≠ some (mb, nv')) →
      Calls Try.prog 11 #[.func (.func 30) #[] #[.pointer (some ⟨bb, 0, none⟩), .pointer (some ⟨pg, 0, none⟩), .pointer (some ⟨pm, 0, none⟩)], .string key] w2 (Ran gb bi bm room S A sv w2 bb pg pm mb σ.now clock B C))
    (hok : ∀ s ns σ1 σ2, B s ns σ1 → KeepR room σ1 key ⟨s, ns, σ.now, chg wm s σ.now⟩ σ2 → R (.ok s (chg wm s σ.now)) σ2)
    (herr : ∀ er σ1, C er σ1 → R (.err er) (dropM σ1 key)) :
    Calls Try.prog 29 #[.pointer (some ⟨gb, 0, none⟩), .string key, wasV ob] w (Post gb bi bm room S0 A sv w R) := by
  obtain ⟨clock, hg⟩ := h.graph
  have c0 : w.cell? ⟨gb, 0, none⟩ = some (.func (.func 11) #[] #[]) := cellB hg rfl
  have c4 : w.cell? ⟨gb, 4, none⟩ = some (.int .i64 σ.now) := cellB hg rfl
  have c5 : w.cell? ⟨gb, 5, none⟩ = some (.int .i64 clock) := cellB hg rfl
  have c6 : w.cell? ⟨gb, 6, none⟩ = some (.int .i64 σ.runs) := cellB hg rfl
  have f6 : w.frozen? ⟨gb, 6, none⟩ = false := freeB hg 6
  have hlt : gb < w.heap.size := ltB hg
  obtain ⟨wv, hwv⟩ : ∃ wv, wasV ob = wv := ⟨_, rfl⟩
  rw [hwv]
  have Hwv := Lib.hid hwv
  clear hwv
  go_enter Try.func29, Try.ntmps29
  go_wp2
  refine wp_at ?_
  intro w1 hw1
  have hg1 : w1.heap[gb]? = some (.cells (graphCells (.func (.func 11) #[] #[]) bi bm room σ.now clock (wrap64 (σ.runs + 1)) sv) 56 (0, 0)) := by
    rw [hw1, Below.heap_alloc _ _ _ (by simpa [World.setCell] using hlt)]
    exact setB hg 6 _
  have hs1 : (w.setCell ⟨gb, 6, none⟩ (.int .i64 (wrap64 (σ.runs + 1)))).heap.size = w.heap.size := by simp [World.setCell]
  have hpg1 : w1.heap[w.heap.size]? = some (.cells #[.pointer (some ⟨gb, 0, none⟩)] 25 (0, 0)) := by
    rw [hw1, ← hs1]
    exact (MapKept.heap_alloc _ _).1
  have l1 : w1.heap.size = w.heap.size + 1 := by rw [hw1, sizeA, hs1]
  have fr1 : Fr w w1 (fun b => b = gb) := by rw [hw1]; exact ((Fr.refl w (fun b => b = gb)).setCell (p := ⟨gb, 6, none⟩) (Or.inl rfl) _).alloc _
  clear hw1
  have hr1 : Rep gb bi bm room A sv { σ with runs := wrap64 (σ.runs + 1) } w1 := h.own (runs := wrap64 (σ.runs + 1)) (st := σ.stack) (fr1.mono (fun _ h => Or.inl h)) hg1 (ownsRow_fr h.stack fr1 (fun g hg e => (h.sv_ne hg).1 e)) (fun _ h => Or.inl h)
  obtain ⟨N, hN⟩ : ∃ N, w.heap.size = N := ⟨_, rfl⟩
  rw [hN] at hpg1
  simp only [hN]
  rw [hN] at l1
  have hNle : w.heap.size ≤ N := by omega
  clear hs1 hN
  have p1 : w1.cell? ⟨N, 0, none⟩ = some (.pointer (some ⟨gb, 0, none⟩)) := cellB hpg1 rfl
  have d4 : w1.cell? ⟨gb, 4, none⟩ = some (.int .i64 σ.now) := cellB hg1 rfl
  have d5 : w1.cell? ⟨gb, 5, none⟩ = some (.int .i64 clock) := cellB hg1 rfl
  have hlt1 : gb < w1.heap.size := ltB hg1
  have hlt2 : N < w1.heap.size := ltB hpg1
  have lb : w1.heap.size < N + 2 := by omega
  clear l1
  go_cut [9] (fun v wx => ∃ pm mb, v = .pointer (some ⟨pm, 0, none⟩) ∧ Fr w1 wx (fun _ => False) ∧ w1.heap.size ≤ pm ∧ w1.heap.size ≤ mb ∧ wx.heap[pm]? = some (.cells #[.pointer (some ⟨mb, 0, none⟩)] 62 (0, 0)) ∧ wx.heap[mb]? = some (.cells (memoCells ⟨#[]⟩ (.slice none 0 0) σ.now σ.now clock) 68 (0, 0)))
  case first =>
    go_region
    · go_wp2
      go_meet
      have t := two_new w1 (.cells (memoCells ⟨#[]⟩ (.slice none 0 0) σ.now σ.now clock) 68 (0, 0)) (.cells #[.pointer (some ⟨w1.heap.size, 0, none⟩)] 62 (0, 0))
      exact ⟨w1.heap.size + 1, w1.heap.size, rfl, t.1, Nat.le_succ _, Nat.le_refl _, t.2.2, t.2.1⟩
    · go_wp2
      go_meet
      have t := two_new w1 (.cells #[.pointer (some ⟨w1.heap.size + 1, 0, none⟩)] 62 (0, 0)) (.cells (memoCells ⟨#[]⟩ (.slice none 0 0) σ.now σ.now clock) 68 (0, 0))
      exact ⟨w1.heap.size, w1.heap.size + 1, rfl, t.1, Nat.le_refl _, Nat.le_succ _, t.2.1, t.2.2⟩
  case rest =>
  obtain ⟨pm, mb, rfl, fr2, zp, zm, hpm2, hmb2⟩ := hcut
  have hr2 := hr1.same fr2
  have hg2 := fr2.block' hg1 id
  have hpg2 := fr2.block' hpg1 id
  have hmbA : ∀ j nv', A j ≠ some (mb, nv') := fun j nv' hj => by
    have := (hr1.lts.2.2.2.2 j mb nv' hj).1
    omega
  have q0 : wc.cell? ⟨N, 0, none⟩ = some (.pointer (some ⟨gb, 0, none⟩)) := cellB hpg2 rfl
  have q1 : wc.cell? ⟨gb, 0, none⟩ = some (.func (.func 11) #[] #[]) := cellB hg2 rfl
  have k1 : gb < wc.heap.size := ltB hg2
  have k2 : N < wc.heap.size := ltB hpg2
  have k3 : pm < wc.heap.size := ltB hpm2
  have k4 : mb < wc.heap.size := ltB hmb2
  have fr3 : Fr wc (wc.alloc (.cells #[.int .i64 0] 26 (0, 0))) (fun _ => False) := (Fr.refl wc _).alloc _
  have hfour : Four gb wc.heap.size N pm mb σ.now clock 0 [] (.slice none 0 0) (wc.alloc (.cells #[.int .i64 0] 26 (0, 0))) :=
    ⟨(MapKept.heap_alloc _ _).1, fr3.block' hpg2 id, fr3.block' hpm2 id, fr3.block' hmb2 id, ownsRow_nil' _⟩
  have hcall := hrule clock wc.heap.size N pm mb _ (hr2.same fr3) hfour hmbA
  have fr03 : Fr w (wc.alloc (.cells #[.int .i64 0] 26 (0, 0))) (fun b => b = gb) := fr1.trans ((fr2.trans fr3).mono (fun _ h => h.elim))
  have hx0 : Ext gb bm S0 A sv w A sv (wc.alloc (.cells #[.int .i64 0] 26 (0, 0))) := .of_fr (fr03.mono (fun _ h => Or.inl h))
  have hlm : mb < (wc.alloc (.cells #[.int .i64 0] 26 (0, 0))).heap.size := by rw [sizeA]; omega
  have hr3 := hr2.same fr3
  clear hrule c0 c4 c5 c6 f6 p1 d4 d5
  go_wp2_with fail
  refine hcall.mono ?_
  generalize wc.alloc (.cells #[.int .i64 0] 26 (0, 0)) = w2 at *
  rintro e w3 ⟨σ1, A1, sv1, nv, ns, hrep, hext, hcase⟩
  have hA1mb : ∀ j nv', A1 j ≠ some (mb, nv') := fun j nv' hj => by
    rcases hext.adr j mb nv' hj with e | e
    · exact hmbA j nv' e
    · have := e.1; omega
  have hx3 : Ext gb bm S0 A sv w A1 sv1 w3 := ExtR.out hx0 hext hS (Nat.le_trans fr1.size fr2.size) (Nat.le_trans fr1.size zm)
  rcases hcase with ⟨s, rfl, hBs, h4, hsep⟩ | ⟨er, bd, rfl, her, hbd, hCs, h4⟩
  · have r0 := cellB h4.bb (i := 0) rfl
    have r1 := cellB h4.mb (i := 0) rfl
    have r1f := freeB h4.mb 0
    have r2 := cellB h4.pm (i := 0) rfl
    have r3 := cellB h4.pg (i := 0) rfl
    have m1 := hrep.not_may (S := S) h4.bb (by decide) (by decide) (by decide)
    have m3 := hrep.not_may (S := S) h4.pm (by decide) (by decide) (by decide)
    have hlts := hrep.lts
    obtain ⟨clock3, hg3⟩ := hrep.graph
    have hmb_gb : mb ≠ gb := cells_type h4.mb hg3 (by decide)
    have hmb_pm : mb ≠ pm := cells_type h4.mb h4.pm (by decide)
    have hmb_bm : mb ≠ bm := by obtain ⟨_, _, hb⟩ := hrep.memo.obj; exact cells_map h4.mb hb
    have hpm_bm : pm ≠ bm := by obtain ⟨_, _, hb⟩ := hrep.memo.obj; exact cells_map h4.pm hb
    have hmb_bi : mb ≠ bi := by obtain ⟨_, _, hi⟩ := hrep.inp; obtain ⟨_, _, hb⟩ := hi.obj; exact cells_map h4.mb hb
    have hmb_sv : sv1.ownBlock ≠ some mb := fun e => by
      obtain ⟨_, hc⟩ := ownsRow_cells hrep.stack e
      exact cells_type h4.mb hc (by decide) rfl
    have hmb_nv : ∀ j b nv', A1 j = some (b, nv') → nv'.ownBlock ≠ some mb := fun j b nv' hj e => by
      obtain ⟨_, _, _, _, ho, _⟩ := hrep.has j b nv' hj
      obtain ⟨_, hc⟩ := ownsRow_cells ho e
      exact cells_type h4.mb hc (by decide) rfl
    have hnv_mb : ∀ g, nv.ownBlock = some g → g ≠ mb := fun g hg => by
      obtain ⟨_, hc⟩ := ownsRow_cells h4.nv hg
      exact cells_type hc h4.mb (by decide)
    have hnv_bm : ∀ g, nv.ownBlock = some g → g ≠ bm := fun g hg => by
      obtain ⟨_, hc⟩ := ownsRow_cells h4.nv hg
      obtain ⟨_, _, hb⟩ := hrep.memo.obj
      exact cells_map hc hb
    have hkeep : ∀ w4 ch, Fr w3 w4 (fun b => b = mb) → w4.heap[mb]? = some (.cells (memoCells s nv σ.now ch clock) 68 (0, 0)) →
        Calls Try.prog 31 #[.pointer (some ⟨gb, 0, none⟩), .string key, .pointer (some ⟨mb, 0, none⟩)] w4 fun e w5 => e = .returned (.tuple #[]) ∧ Fr w4 w5 (fun b => b = bm) ∧
          (ch = chg wm s σ.now → ∀ w6, Fr w5 w6 (fun _ => False) → Post gb bi bm room S0 A sv w R (.returned (.tuple #[.string s, .int .i64 ch, .int .i64 0])) w6) := by
      intro w4 ch hf hb
      refine (keep_ok gb bi bm σ1.n (blk A1) _ room σ1.now clock3 σ1.runs sv1 key mb w4 (hf.block' hg3 (fun e => hmb_gb e.symm)) (hrep.memo.fr hf (fun e => hmb_bm e.symm)) ?_ hkey (by unfold maxLen; have := hB s ns σ1 hBs; omega) hroom).mono ?_
      · intro k b hk
        by_cases e : k = key
        · subst e
          rw [ins_same] at hk
          cases hk
          exact ⟨_, _, _, _, _, hb⟩
        · rw [ins_other _ _ e] at hk
          obtain ⟨nv', hk⟩ := blk_inv hk
          obtain ⟨m, us, _, e2, _⟩ := hrep.has k b nv' hk
          exact ⟨_, _, _, _, _, hf.block' e2 (fun eb => hA1mb k nv' (eb ▸ hk))⟩
      · rintro e w5 ⟨rfl, f, n, hev, hn, hex, hm5, hf5⟩
        refine ⟨rfl, hf5, fun hch w6 hf6 => ?_⟩
        have hno5 : w5.ownsRow 0 9 1 nv ns.length (ns.map .string) := ownsRow_fr (ownsRow_fr h4.nv hf hnv_mb) hf5 hnv_bm
        obtain ⟨A2, σ2, hk2, hrep2, hA2⟩ := hrep.keepR key mb nv ⟨s, ns, σ.now, ch⟩ hA1mb hf ⟨fun e => e.elim hmb_gb (fun e => e.elim hmb_bi hmb_bm), hmb_sv, hmb_nv⟩ (hf5.block' hb hmb_bm) hno5 (fun g hg => (hsep g hg).2) hf5 f n hev hn hex hm5
        subst hch
        refine ⟨.ok s _, σ2, A2, sv1, rfl, trivial, hok s ns σ1 σ2 hBs hk2, hrep2.same hf6, ?_⟩
        have hs02 := fr03.size
        refine ⟨(hx3.fr.trans2 hf (fun i hi => by subst hi; exact Or.inr (Nat.le_trans fr1.size zm))).trans2 (hf5.trans (hf6.mono (fun _ h => h.elim))) (fun i hi => Or.inl (Or.inr (Or.inl hi))), fun k b nv' hk => ?_, hx3.sv⟩
        have hk' := hA2 k _ hk
        by_cases e : k = key
        · subst e
          rw [ins_same] at hk'
          cases hk'
          exact Or.inr ⟨Nat.le_trans fr1.size zm, hk0, fun g hg => Nat.le_trans hs02 (hsep g hg).1⟩
        · rw [ins_other _ _ e] at hk'
          exact hx3.adr k b nv' hk'
    have hwas3 : (ob = none ∧ wm = none) ∨ ∃ b m nvo uso, ob = some b ∧ wm = some m ∧ w3.heap[b]? = some (.cells (memoCells m.ans nvo m.looked m.changed uso) 68 (0, 0)) ∧ b ≠ mb := by
      rcases hwas with hw | ⟨b, m, nvo, uso, e1, e2, e3, e4⟩
      · exact Or.inl hw
      · refine Or.inr ⟨b, m, nvo, uso, e1, e2, ?_, ?_⟩
        · have b2 := fr03.block' e3 (cells_type e3 hg (by decide))
          refine hext.fr.block' b2 ?_
          obtain ⟨_, hg2'⟩ := hr3.graph
          obtain ⟨_, _, hbm2⟩ := hr3.memo.obj
          have hb0 : b < w.heap.size := ltB e3
          have hb1 := fr1.size
          have hb2 := fr2.size
          rintro ((e | e | e | ⟨j, nv', hj, e⟩) | e | e)
          · exact cells_type b2 hg2' (by decide) e
          · exact cells_map b2 hbm2 e
          · obtain ⟨_, hc⟩ := ownsRow_cells hr3.stack e
            exact cells_type b2 hc (by decide) rfl
          · exact hj (e4 j b nv' e rfl ▸ hkS)
          · omega
          · omega
        · have : b < w.heap.size := ltB e3
          have := fr1.size
          omega
    clear hok herr hB hx0 hx3 hext hrep hfour hcall hsep hwas hlts hr3 hr2 hr1 h m1 hmb_nv hnv_mb hnv_bm hmb_sv hmb_bi hA1mb hmbA
    have fin : ∀ w4 w5, Fr w3 w4 (fun b => b = mb) → Fr w4 w5 (fun b => b = bm) → ∀ ch, w4.heap[mb]? = some (.cells (memoCells s nv σ.now ch clock) 68 (0, 0)) → w5.cell? ⟨pm, 0, none⟩ = some (.pointer (some ⟨mb, 0, none⟩)) ∧ w5.cell? ⟨mb, 3, none⟩ = some (.int .i64 ch) ∧ pm < w5.heap.size ∧ mb < w5.heap.size := by
      intro w4 w5 f4 f5 ch hb
      have a1 := f5.block' (f4.block' h4.pm (fun e => hmb_pm e.symm)) hpm_bm
      have a2 := f5.block' hb hmb_bm
      exact ⟨cellB a1 rfl, cellB a2 rfl, ltB a1, ltB a2⟩
    rcases hwas3 with ⟨rfl, rfl⟩ | ⟨b, m, nvo, uso, rfl, rfl, hob, hobne⟩
    · obtain rfl : wv = .pointer none := Hwv.out.symm
      clear Hwv
      go_wp2_with fail
      have fr4 : Fr w3 (w3.setCell ⟨mb, 0, none⟩ (.string s)) (fun b => b = mb) := (Fr.refl w3 (fun b => b = mb)).setCell (p := ⟨mb, 0, none⟩) (Or.inl rfl) _
      have hb4 : (w3.setCell ⟨mb, 0, none⟩ (.string s)).heap[mb]? = some (.cells (memoCells s nv σ.now σ.now clock) 68 (0, 0)) := setB h4.mb 0 _
      refine (hkeep _ σ.now fr4 hb4).mono ?_
      rintro e w5 ⟨rfl, f5, hpost⟩
      obtain ⟨z1, z2, z3, z4⟩ := fin _ w5 fr4 f5 _ hb4
      have hp := hpost rfl
      clear hpost hkeep fin fr4 hb4 f5
      go_wp2
      go_quiet (fail)
      go_wp2
      go_ret3
      exact hp _ (fr_drewN (Fr.refl w5 _) _)
    · obtain rfl : wv = .pointer (some ⟨b, 0, none⟩) := Hwv.out.symm
      clear Hwv
      have o0 : w3.cell? ⟨b, 0, none⟩ = some (.string m.ans) := cellB hob rfl
      have o3 : w3.cell? ⟨b, 3, none⟩ = some (.int .i64 m.changed) := cellB hob rfl
      have ob' : b < w3.heap.size := ltB hob
      go_wp2_with fail
      · have hq : (m.ans.toList == s.toList) = true := by assumption
        have heq : m.ans = s := by
          rw [beq_iff_eq, ByteArray.toList_eq, ByteArray.toList_eq] at hq
          exact ByteArray.ext (Array.toList_inj.1 hq)
        have hch : Hid (m.changed = chg (some m) s σ.now) := by show _ = _; unfold chg; simp only [heq, if_true]
        refine wp_at ?_
        intro w4 hw4
        have fr4 : Fr w3 w4 (fun b => b = mb) := by rw [hw4]; exact (Fr.refl w3 (fun b => b = mb)).setCell (p := ⟨mb, 0, none⟩) (Or.inl rfl) _
        have hb4 : w4.heap[mb]? = some (.cells (memoCells s nv σ.now σ.now clock) 68 (0, 0)) := by rw [hw4]; exact setB h4.mb 0 _
        clear hw4 hq
        have heq := Lib.hid heq
        have hpm4 := fr4.block' h4.pm (fun e => hmb_pm e.symm)
        have hpg4 := fr4.block' h4.pg (cells_type h4.pg h4.mb (by decide))
        have hob4 := fr4.block' hob hobne
        have t1 : w4.cell? ⟨pm, 0, none⟩ = some (.pointer (some ⟨mb, 0, none⟩)) := cellB hpm4 rfl
        have t2 : w4.cell? ⟨b, 3, none⟩ = some (.int .i64 m.changed) := cellB hob4 rfl
        have t3 : w4.cell? ⟨mb, 3, none⟩ = some (.int .i64 σ.now) := cellB hb4 rfl
        have t4 : w4.frozen? ⟨mb, 3, none⟩ = false := freeB hb4 3
        have t5 : b < w4.heap.size := ltB hob4
        have t6 : mb < w4.heap.size := ltB hb4
        have t7 : pm < w4.heap.size := ltB hpm4
        go_region
        all_goals
          refine then_at ?_
          intro w5 hw5
          have fr5 : Fr w3 w5 (fun b => b = mb) := by rw [hw5]; exact (fr4.setCell (p := ⟨mb, 3, none⟩) (Or.inl rfl) _).drew
          have hb5 : w5.heap[mb]? = some (.cells (memoCells s nv σ.now m.changed clock) 68 (0, 0)) := by rw [hw5]; exact setB hb4 3 _
          clear hw5
          have u1 : w5.cell? ⟨pm, 0, none⟩ = some (.pointer (some ⟨mb, 0, none⟩)) := cellB (fr5.block' h4.pm (fun e => hmb_pm e.symm)) rfl
          have u2 : w5.cell? ⟨N, 0, none⟩ = some (.pointer (some ⟨gb, 0, none⟩)) := cellB (fr5.block' h4.pg (cells_type h4.pg h4.mb (by decide))) rfl
          have hcall := hkeep w5 m.changed fr5 hb5
          have fin' := fun w6 h6 => fin w5 w6 fr5 h6 _ hb5
          clear fr5 fr4 hb4 t1 t2 t3 t4 t5 t6 t7 r0 r1 r1f r2 r3 o0 o3 ob' hkeep fin hb5
          go_wp2_with fail
          refine hcall.mono ?_
          rintro e w6 ⟨rfl, f6, hpost⟩
          obtain ⟨z1, z2, z3, z4⟩ := fin' w6 f6
          have hp := hpost hch.out
          clear hpost hcall fin' f6 hch
          go_wp2
          go_quiet (fail)
          go_wp2
          go_ret3
          exact hp _ (fr_drewN (Fr.refl w6 _) _)
      · have hq : (m.ans.toList == s.toList) = false := by assumption
        have hch : Hid (σ.now = chg (some m) s σ.now) := by
          show _ = _
          unfold chg
          simp only
          rw [if_neg]
          intro e
          rw [e] at hq
          simp at hq
        have fr4 : Fr w3 (w3.setCell ⟨mb, 0, none⟩ (.string s)) (fun b => b = mb) := (Fr.refl w3 (fun b => b = mb)).setCell (p := ⟨mb, 0, none⟩) (Or.inl rfl) _
        have hb4 : (w3.setCell ⟨mb, 0, none⟩ (.string s)).heap[mb]? = some (.cells (memoCells s nv σ.now σ.now clock) 68 (0, 0)) := setB h4.mb 0 _
        refine (hkeep _ σ.now fr4 hb4).mono ?_
        rintro e w5 ⟨rfl, f5, hpost⟩
        obtain ⟨z1, z2, z3, z4⟩ := fin _ w5 fr4 f5 _ hb4
        have hp := hpost hch.out
        clear hpost hkeep fin fr4 hb4 f5 hch
        go_wp2
        go_quiet (fail)
        go_wp2
        go_ret3
        exact hp _ (fr_drewN (Fr.refl w5 _) _)
  · have r0 := cellB h4.bb (i := 0) rfl
    have r3 := cellB h4.pg (i := 0) rfl
    obtain ⟨clock3, hg3⟩ := hrep.graph
    have d2 : w3.cell? ⟨gb, 2, none⟩ = some (.map (some bm)) := cellB hg3 rfl
    have hne : (er != 0) = true := by rcases her with rfl | rfl <;> decide
    have hmm := hrep.memo
    have hfin : ∀ w4, MapAt Try.prog 9 w4 bm (delN (ptrs (blk A1)) key σ1.n) (delF (ptrs (blk A1)) key) → Fr w3 w4 (fun b => b = bm) → Post gb bi bm room S0 A sv w R (.returned (.tuple #[.string ⟨#[]⟩, .int .i64 0, .int .i64 er])) w4 := by
      intro w4 hm4 hf4
      rw [delN_ptrs, ptrs_del] at hm4
      refine ⟨.err er, _, del A1 key, sv1, rfl, her, herr er σ1 hCs, hrep.drop key hf4 hm4, hx3.trans ⟨hf4.mono (fun _ h => Or.inr (Or.inl h)), fun k b nv hk => Or.inl ?_, fun _ h => Or.inl h⟩⟩
      by_cases e : k = key
      · subst e; rw [del_same] at hk; cases hk
      · rwa [del_other _ e] at hk
    clear hok herr hB hx0 hx3 hext hrep hfour hcall
    rcases hbd with rfl | rfl
    · go_wp2_with (first
        | (at_delete; refine wp_drop _ rfl _ _ 53 9 rfl 62 Try.underlying9 Try.underlying53 bm σ1.n _ rfl hmm key rfl hkey ?_; intro w4 hm4 ht4)
        | fail)
      go_ret3
      exact hfin w4 hm4 ((Fr.refl w3 _).grown ht4.grown (by simp))
    · go_wp2_with (first
        | (at_delete; refine wp_drop _ rfl _ _ 53 9 rfl 62 Try.underlying9 Try.underlying53 bm σ1.n _ rfl hmm key rfl hkey ?_; intro w4 hm4 ht4)
        | fail)
      go_ret3
      exact hfin w4 hm4 ((Fr.refl w3 _).grown ht4.grown (by simp))
end Go.Proofs.Ytelddnalpkhclaa
