/- reckon's closure, whatever the answer: out of ask's contract. -/
import Derived.Test.YtelddnalpkhclaaReckW
namespace Go.Proofs.Ytelddnalpkhclaa
open Go.RowKit Go.Maps G

def MayC (gb bm : Nat) (A : Adr) (S : List K) (sv : Value) (bb mb : Nat) (nv : Value) (b : Nat) : Prop := May gb bm A S sv b ∨ b = bb ∨ b = mb ∨ nv.ownBlock = some b
structure ExtC (gb bm : Nat) (S : List K) (A : Adr) (sv : Value) (w : World) (bb mb : Nat) (nv : Value) (A' : Adr) (sv' : Value) (w' : World) : Prop where
  fr : Fr w w' (MayC gb bm A S sv bb mb nv)
  adr : ∀ k b nv, A' k = some (b, nv) → A k = some (b, nv) ∨ (w.heap.size ≤ b ∧ k ∉ S ∧ ∀ g, nv.ownBlock = some g → w.heap.size ≤ g)
  sv : ∀ g, sv'.ownBlock = some g → sv.ownBlock = some g ∨ w.heap.size ≤ g
def Apart (A : Adr) (sv nv : Value) : Prop := ∀ g, nv.ownBlock = some g → sv.ownBlock ≠ some g ∧ ∀ j b nv', A j = some (b, nv') → nv'.ownBlock ≠ some g

/-- the four blocks, and the needs, while keys are asked for -/
theorem Four.fr {gb bi bm : Nat} {room : Int} {A : Adr} {sv : Value} {σ : St} {w w' : World} {S : List K} {bb pg pm mb : Nat} {now clock bd : Int} {ns : List K} {nv : Value} (h4 : Four gb bb pg pm mb now clock bd ns nv w) (h : Rep gb bi bm room A sv σ w) (hf : Fr w w' (May gb bm A S sv))
    (hmb : ∀ j nv', A j ≠ some (mb, nv')) (hsep : Apart A sv nv) : Four gb bb pg pm mb now clock bd ns nv w' := by
  obtain ⟨_, hg⟩ := h.graph
  obtain ⟨_, _, hbm⟩ := h.memo.obj
  refine ⟨hf.block' h4.bb (h.not_may h4.bb (by decide) (by decide) (by decide)), hf.block' h4.pg (h.not_may h4.pg (by decide) (by decide) (by decide)), hf.block' h4.pm (h.not_may h4.pm (by decide) (by decide) (by decide)), hf.block' h4.mb ?_, ownsRow_fr h4.nv hf (fun g hg' => ?_)⟩
  · rintro (e | e | e | ⟨j, nv', _, e⟩)
    · exact cells_type h4.mb hg (by decide) e
    · exact cells_map h4.mb hbm e
    · obtain ⟨_, hc⟩ := ownsRow_cells h.stack e
      exact cells_type h4.mb hc (by decide) rfl
    · exact hmb j nv' e
  · obtain ⟨_, hc⟩ := ownsRow_cells h4.nv hg'
    rintro (e | e | e | ⟨j, nv', _, e⟩)
    · exact cells_type hc hg (by decide) e
    · exact cells_map hc hbm e
    · exact (hsep g hg').1 e
    · obtain ⟨_, _, _, hc', _⟩ := h.has j g nv' e
      exact cells_type hc hc' (by decide) rfl

def ClosPost (gb bi bm : Nat) (room : Int) (S : List K) (A : Adr) (sv : Value) (w : World) (bb pg pm mb : Nat) (now clock : Int) (ns : List K) (nv : Value) (k : K) (R : Ans → St → Prop) (e : Ending) (w' : World) : Prop :=
  ∃ σ1 A1 sv1, Rep gb bi bm room A1 sv1 σ1 w' ∧ ExtC gb bm S A sv w bb mb nv A1 sv1 w' ∧
    ((∃ x t nv', e = .returned (.tuple #[.string x, .int .i64 0]) ∧ R (.ok x t) σ1 ∧ Four gb bb pg pm mb now clock 0 (ns ++ [k]) nv' w' ∧ Apart A1 sv1 nv' ∧ ∀ g, nv'.ownBlock = some g → nv.ownBlock = some g ∨ w.heap.size ≤ g) ∨
     (∃ er, e = .returned (.tuple #[.string ⟨#[]⟩, .int .i64 er]) ∧ (er = 3 ∨ er = 4) ∧ R (.err er) σ1 ∧ Four gb bb pg pm mb now clock er ns nv w'))

set_option maxRecDepth 100000 in
set_option maxHeartbeats 4000000 in
theorem clos_walk {gb bi bm : Nat} {room : Int} {A : Adr} {sv : Value} {σ : St} {w : World} (h : Rep gb bi bm room A sv σ w) (S : List K) {bb pg pm mb : Nat} {now clock : Int} {ns : List K} {nv : Value} (h4 : Four gb bb pg pm mb now clock 0 ns nv w) (k : K) (hn : ns.length ≤ 200000)
    (hmb : ∀ j nv', A j ≠ some (mb, nv')) (hsep : Apart A sv nv) (R : Ans → St → Prop) (hask : Calls Try.prog 23 #[.pointer (some ⟨gb, 0, none⟩), .string k] w (Post gb bi bm room S A sv w R)) :
    Calls Try.prog 30 #[.string k, .pointer (some ⟨bb, 0, none⟩), .pointer (some ⟨pg, 0, none⟩), .pointer (some ⟨pm, 0, none⟩)] w (ClosPost gb bi bm room S A sv w bb pg pm mb now clock ns nv k R) := by
  have b0 : w.cell? ⟨bb, 0, none⟩ = some (.int .i64 0) := cellB h4.bb rfl
  have g0 : w.cell? ⟨pg, 0, none⟩ = some (.pointer (some ⟨gb, 0, none⟩)) := cellB h4.pg rfl
  go_enter Try.func30, Try.ntmps30
  go_wp2_with fail
  refine hask.mono ?_
  rintro e w1 ⟨r, σ1, A1, sv1, he, herr, hr, hrep, hext⟩
  have h41 := h4.fr h hext.fr hmb hsep
  have hmb1 : ∀ j nv', A1 j ≠ some (mb, nv') := fun j nv' hj => by
    rcases hext.adr j mb nv' hj with e | e
    · exact hmb j nv' e
    · have : mb < w.heap.size := ltB h4.mb
      have := e.1
      omega
  have hsep1 : Apart A1 sv1 nv := fun g hg => by
    have hgl : g < w.heap.size := (h4.nv.lt g hg).2
    refine ⟨fun e => ?_, fun j b nv' hj e => ?_⟩
    · rcases hext.sv g e with e' | e'
      · exact (hsep g hg).1 e'
      · omega
    · rcases hext.adr j b nv' hj with e' | ⟨_, _, e'⟩
      · exact (hsep g hg).2 j b nv' e' e
      · have := e' g e; omega
  have b1 : w1.cell? ⟨bb, 0, none⟩ = some (.int .i64 0) := cellB h41.bb rfl
  have fb1 : w1.frozen? ⟨bb, 0, none⟩ = false := freeB h41.bb 0
  have n1 : bb ≠ mb := cells_type h41.bb h41.mb (by decide)
  have n2 : bb ≠ pm := cells_type h41.bb h41.pm (by decide)
  have n2' : bb ≠ pg := cells_type h41.bb h41.pg (by decide)
  have n3 : mb ≠ pm := cells_type h41.mb h41.pm (by decide)
  have n3' : mb ≠ pg := cells_type h41.mb h41.pg (by decide)
  have o1 : nv.ownBlock ≠ some bb := fun e => by obtain ⟨_, hc⟩ := ownsRow_cells h41.nv e; exact cells_type h41.bb hc (by decide) rfl
  have o2 : nv.ownBlock ≠ some pm := fun e => by obtain ⟨_, hc⟩ := ownsRow_cells h41.nv e; exact cells_type h41.pm hc (by decide) rfl
  have o2' : nv.ownBlock ≠ some pg := fun e => by obtain ⟨_, hc⟩ := ownsRow_cells h41.nv e; exact cells_type h41.pg hc (by decide) rfl
  have o3 : nv.ownBlock ≠ some mb := fun e => by obtain ⟨_, hc⟩ := ownsRow_cells h41.nv e; exact cells_type h41.mb hc (by decide) rfl
  -- what a graph lies in is turned by none of it
  have keep : ∀ w5, Fr w1 w5 (fun b => b = bb ∨ b = mb ∨ nv.ownBlock = some b) → Rep gb bi bm room A1 sv1 σ1 w5 ∧ ExtC gb bm S A sv w bb mb nv A1 sv1 w5 := by
    intro w5 hf
    obtain ⟨_, hg⟩ := hrep.graph
    obtain ⟨_, _, hi⟩ := hrep.inp
    obtain ⟨_, _, hbm⟩ := hrep.memo.obj
    obtain ⟨_, _, hbi⟩ := hi.obj
    refine ⟨hrep.keep hf ?_ ?_ ?_ (fun g hg' => ?_) (fun j b nv' hj => ⟨?_, fun g hg' => ?_⟩), ⟨(hext.fr.mono (fun _ h => Or.inl h)).trans2 hf (fun i hi => Or.inl (Or.inr hi)), hext.adr, hext.sv⟩⟩
    · rintro (e | e | e)
      · exact cells_type h41.bb hg (by decide) e.symm
      · exact cells_type h41.mb hg (by decide) e.symm
      · obtain ⟨_, hc⟩ := ownsRow_cells h41.nv e; exact cells_type hc hg (by decide) rfl
    · rintro (e | e | e)
      · exact cells_map h41.bb hbi e.symm
      · exact cells_map h41.mb hbi e.symm
      · obtain ⟨_, hc⟩ := ownsRow_cells h41.nv e; exact cells_map hc hbi rfl
    · rintro (e | e | e)
      · exact cells_map h41.bb hbm e.symm
      · exact cells_map h41.mb hbm e.symm
      · obtain ⟨_, hc⟩ := ownsRow_cells h41.nv e; exact cells_map hc hbm rfl
    · obtain ⟨_, hc⟩ := ownsRow_cells hrep.stack hg'
      rintro (e | e | e)
      · exact cells_type h41.bb hc (by decide) e.symm
      · exact cells_type h41.mb hc (by decide) e.symm
      · exact (hsep1 g e).1 hg'
    · obtain ⟨_, _, _, hc, _⟩ := hrep.has j b nv' hj
      rintro (e | e | e)
      · exact cells_type h41.bb hc (by decide) e.symm
      · exact hmb1 j nv' (e ▸ hj)
      · obtain ⟨_, hc'⟩ := ownsRow_cells h41.nv e; exact cells_type hc' hc (by decide) rfl
    · obtain ⟨_, _, _, _, ho, _⟩ := hrep.has j b nv' hj
      obtain ⟨_, hc⟩ := ownsRow_cells ho hg'
      rintro (e | e | e)
      · exact cells_type h41.bb hc (by decide) e.symm
      · exact cells_type h41.mb hc (by decide) e.symm
      · exact (hsep1 g e).2 j b nv' hj hg'
  cases r with
  | err er =>
    have he' : e = .returned (.tuple #[.string ⟨#[]⟩, .int .i64 0, .int .i64 er]) := he
    subst he'
    have her : er = 3 ∨ er = 4 := herr
    have hne : (er != 0) = true := by rcases her with rfl | rfl <;> decide
    clear he herr
    have fin : ∀ w5, Fr w1 w5 (fun b => b = bb) → w5.heap[bb]? = some (.cells #[.int .i64 er] 26 (0, 0)) → ClosPost gb bi bm room S A sv w bb pg pm mb now clock ns nv k R (.returned (.tuple #[.string ⟨#[]⟩, .int .i64 er])) w5 := by
      intro w5 hf hb
      obtain ⟨k1, k2⟩ := keep w5 (hf.mono (fun _ h => Or.inl h))
      exact ⟨σ1, A1, sv1, k1, k2, Or.inr ⟨er, rfl, her, hr, hb, hf.block' h41.pg n2'.symm, hf.block' h41.pm n2.symm, hf.block' h41.mb n1.symm, ownsRow_fr h41.nv hf (fun g hg e => o1 (e ▸ hg))⟩⟩
    clear keep hsep1 hmb1 hext hrep hask
    go_wp2
    go_ret2
    exact fin _ ((Fr.refl w1 (fun b => b = bb)).setCell (p := ⟨bb, 0, none⟩) (Or.inl rfl) _) (setB h41.bb 0 _)
  | ok x t =>
    have he' : e = .returned (.tuple #[.string x, .int .i64 t, .int .i64 0]) := he
    subst he'
    clear he herr
    have hnl : ns.length = ns.length := rfl
    generalize hN : ns.length = N at hn hnl
    have HN := Lib.hid hN
    have fin : ∀ w5 nv', Fr w1 w5 (fun b => b = bb ∨ b = mb ∨ nv.ownBlock = some b) → w5.heap[bb]? = some (.cells #[.int .i64 0] 26 (0, 0)) → w5.heap[mb]? = some (.cells (memoCells ⟨#[]⟩ nv' now now clock) 68 (0, 0)) → w5.ownsRow 0 9 1 nv' (N + 1) (ns.map .string ++ [.string k]) →
        (∀ g, nv'.ownBlock = some g → nv.ownBlock = some g ∨ w1.heap.size ≤ g) → ClosPost gb bi bm room S A sv w bb pg pm mb now clock ns nv k R (.returned (.tuple #[.string x, .int .i64 0])) w5 := by
      intro w5 nv' hf hb hm hno hat
      obtain ⟨k1, k2⟩ := keep w5 hf
      have hl : (ns ++ [k]).length = N + 1 := by rw [List.length_append, HN.out]; rfl
      have hmap : (ns ++ [k]).map Value.string = ns.map .string ++ [.string k] := by rw [List.map_append]; rfl
      refine ⟨σ1, A1, sv1, k1, k2, Or.inl ⟨x, t, nv', rfl, hr, ⟨hb, hf.block' h41.pg ?_, hf.block' h41.pm ?_, hm, by rw [hl, hmap]; exact hno⟩, fun g hg => ?_, fun g hg => ?_⟩⟩
      · rintro (e | e | e)
        · exact n2' e.symm
        · exact n3' e.symm
        · exact o2' e
      · rintro (e | e | e)
        · exact n2 e.symm
        · exact n3 e.symm
        · exact o2 e
      · rcases hat g hg with e | e
        · exact hsep1 g e
        · have hl := hrep.lts
          refine ⟨fun e' => ?_, fun j b nv'' hj e' => ?_⟩
          · have := hl.2.2.2.1 g e'; omega
          · have := (hl.2.2.2.2 j b nv'' hj).2 g e'; omega
      · rcases hat g hg with e | e
        · exact Or.inl e
        · have := hext.fr.size; right; omega
    have hr1 := h41.nv
    rw [hN] at hr1
    have hb41 := h41.bb
    have hm41 := h41.mb
    have hp41 := h41.pm
    clear keep hsep1 hmb1 hext hrep hask h41 h4 hN hnl
    go_wp2
    refine wp_at ?_
    intro w2 hw2
    have fr2 : Fr w1 w2 (fun b => b = bb ∨ b = mb ∨ nv.ownBlock = some b) := by rw [hw2]; exact (Fr.refl _ _).setCell (Or.inl (Or.inl rfl)) _
    have hb2 : w2.heap[bb]? = some (.cells #[.int .i64 0] 26 (0, 0)) := by rw [hw2]; exact setB hb41 0 _
    have hp2 : w2.heap[pm]? = some (.cells #[.pointer (some ⟨mb, 0, none⟩)] 62 (0, 0)) := by rw [hw2, setO n2.symm]; exact hp41
    have hm2 : w2.heap[mb]? = some (.cells (memoCells ⟨#[]⟩ nv now now clock) 68 (0, 0)) := by rw [hw2, setO n1.symm]; exact hm41
    have gg : w1.grownBy w2 (some bb) := by rw [hw2]; exact grownSet w1 bb _
    have hr2 : w2.ownsRow 0 9 1 nv N (ns.map .string) := hr1.kept gg (Or.inr o1)
    clear hw2 gg
    obtain ⟨i0, hi, hzz, hzs, hzb⟩ := infoParts infoStr
    have p2 : w2.cell? ⟨pm, 0, none⟩ = some (.pointer (some ⟨mb, 0, none⟩)) := cellB hp2 rfl
    have c2 : w2.cell? ⟨mb, 1, none⟩ = some nv := cellB hm2 rfl
    have l2 : pm < w2.heap.size := ltB hp2
    have l3 : mb < w2.heap.size := ltB hm2
    have app : ∀ w3, (w2.drew.alloc (.cells #[.string k] 9)).grownBy w3 nv.ownBlock → w3.heap[mb]? = some (.cells (memoCells ⟨#[]⟩ nv now now clock) 68 (0, 0)) ∧ w3.heap[pm]? = some (.cells #[.pointer (some ⟨mb, 0, none⟩)] 62 (0, 0)) ∧
        w3.heap[bb]? = some (.cells #[.int .i64 0] 26 (0, 0)) ∧ Fr w1 w3 (fun b => b = bb ∨ b = mb ∨ nv.ownBlock = some b) := by
      intro w3 h3
      have hsz : (w2.drew.alloc (.cells #[.string k] 9)).heap.size = w2.heap.size + 1 := sizeA _ _
      have e : ∀ b, b < w2.heap.size → nv.ownBlock ≠ some b → w3.heap[b]? = w2.heap[b]? := fun b hb ho =>
        (h3.block b (by omega) (fun x => ho x.symm)).trans (Below.heap_alloc w2.drew _ b hb)
      exact ⟨(e mb l3 o3).trans hm2, (e pm l2 o2).trans hp2, (e bb (ltB hb2) o1).trans hb2, (fr2.drew.alloc _).grown h3 (fun i hi => Or.inl (Or.inr (Or.inr hi)))⟩
    go_region_law (refine step_append_lies _ rfl _ _ 54 rfl 0 9 i0 (.string ⟨#[]⟩) 1 16 Try.underlying54 hi hzz hzs hzb rfl (by decide) nv N (ns.map .string) (by rfl) (World.ownsRow.alloc (w := w2.drew) hr2 _) _ 1 1 [.string k] (by rfl) rfl (cell_one_new _ _ _) (by simp [Value.oneCell']) (by decide) (by unfold maxLen; omega) (by omega) (Nat.zero_le _) _ rfl ?_; intro g cap w3 r3 gr3 at3 lt3; obtain ⟨m3, p3, b3, fr3⟩ := app w3 gr3; have q3 := cellB p3 (i := 0) rfl; have q4 := cellB m3 (i := 1) rfl; have q5 := freeB m3 1)
    all_goals
      go_wp2
      go_ret2
      have hH : w2.heap.size + 1 = (w2.alloc (.cells #[.string k] 9)).heap.size := (sizeA _ _).symm
      have hne : g ≠ mb := by
        rcases at3 with h | h
        · intro e; subst e; exact o3 h
        · have h' : g = (w2.alloc (.cells #[.string k] 9)).heap.size := h
          omega
      refine fin _ (.slice (some ⟨g, 0, none⟩) (N + 1) cap) (fr3.setCell (Or.inl (Or.inr (Or.inl rfl))) _) ((setO (a := ⟨mb, 1, none⟩) n1 _).trans b3) (setB m3 1 _) (r3.kept (grownAt w3 mb 1 _) (Or.inr (by simpa [Value.ownBlock] using hne))) (fun g' hg' => ?_)
      have hg2 : g = g' := by simpa [Value.ownBlock] using hg'
      subst hg2
      rcases at3 with h | h
      · exact Or.inl h
      · have h' : g = (w2.alloc (.cells #[.string k] 9)).heap.size := h
        have := fr2.size
        right; omega
end Go.Proofs.Ytelddnalpkhclaa
