/- Set, Drop, Evict, Runs, Known, Ask of a graph as it lies. -/
import Derived.Test.YtelddnalpkhclaaJoin
namespace Go.Proofs.Ytelddnalpkhclaa
open Go.RowKit Go.Maps G

section
variable {gb bi bm : Nat} {room : Int} {A : Adr} {sv : Value} {σ : St} {w w' : World}

theorem wrap_small {n : Int} (h0 : 0 ≤ n) (h1 : n ≤ 1000000) : wrap64 (n + 1) = n + 1 := by unfold wrap64; omega
def May3 (gb bi bm : Nat) (b : Nat) : Prop := b = gb ∨ b = bi ∨ b = bm

/-- the inputs, the memos, the time have turned -/
theorem Rep.inputs (h : Rep gb bi bm room A sv σ w) (key : K) (hf : Fr w w' (May3 gb bi bm)) {clock : Int} {σ' : St} (hg : w'.heap[gb]? = some (.cells (graphCells (.func (.func 11) #[] #[]) bi bm room σ'.now clock σ'.runs sv) 56 (0, 0)))
    (hst : σ'.stack = σ.stack) (hi : ∃ ni : Nat, (ni : Int) ≤ σ'.now ∧ MapAt Try.prog 9 w' bi ni (inpV σ')) (A' : Adr) (hA : (A' = A ∧ σ'.memo = σ.memo ∧ σ'.n = σ.n) ∨ (A' = del A key ∧ σ'.memo = del σ.memo key ∧ σ'.n = delC σ.memo key σ.n)) (hm : MapAt Try.prog 9 w' bm σ'.n (ptrs (blk A'))) :
    Rep gb bi bm room A' sv σ' w' := by
  have hin : ∀ {k p}, A' k = some p → A k = some p ∧ σ'.memo k = σ.memo k := fun {k p} hk => by
    rcases hA with ⟨rfl, e, _⟩ | ⟨rfl, e, _⟩
    · exact ⟨hk, by rw [e]⟩
    · by_cases ek : k = key
      · subst ek; rw [del_same] at hk; cases hk
      · rw [del_other _ ek] at hk; exact ⟨hk, by rw [e, del_other _ ek]⟩
  have hstk : w'.ownsRow 0 9 1 sv σ'.stack.length (σ'.stack.map .string) := by
    rw [hst]
    refine ownsRow_fr h.stack hf (fun g hg e => ?_)
    have := h.sv_ne hg
    rcases e with e | e | e
    · exact this.1 e
    · exact this.2.1 e
    · exact this.2.2 e
  refine ⟨⟨clock, hg⟩, hstk, hi, hm, fun k b nv hk => ?_, fun k hk => ?_, fun k j b nv nv' hk hj => h.inj k j b nv nv' (hin hk).1 (hin hj).1, h.ne⟩
  · obtain ⟨hk', em⟩ := hin hk
    obtain ⟨m, us, e1, e2, e3, e4⟩ := h.has k b nv hk'
    have n1 := h.mb_ne hk'
    refine ⟨m, us, em.trans e1, hf.block' e2 (fun e => ?_), ownsRow_fr e3 hf (fun g hg e => ?_), e4⟩
    · rcases e with e | e | e
      · exact n1.1 e
      · exact n1.2.1 e
      · exact n1.2.2.1 e
    · have := h.nv_ne hk' hg
      rcases e with e | e | e
      · exact this.1 e
      · exact this.2.1 e
      · exact this.2.2.1 e
  · rcases hA with ⟨rfl, e, _⟩ | ⟨rfl, e, _⟩
    · rw [e]; exact h.dom k hk
    · rw [e]
      by_cases ek : k = key
      · subst ek; exact del_same _ _
      · rw [del_other _ ek] at hk ⊢; exact h.dom k hk

set_option maxHeartbeats 1000000 in
theorem set_change (gb bi bm ni nm : Nat) (fi fm : ByteArray → Option Value) (rule : Value) (room now clock runs : Int) (stack : Value) (key v u : ByteArray) (c : Int) (w : World)
    (hg : w.heap[gb]? = some (.cells (graphCells rule bi bm room now clock runs stack) 56 (0, 0))) (hi : MapAt Try.prog 9 w bi ni fi) (hm : MapAt Try.prog 9 w bm nm fm)
    (n1 : gb ≠ bi) (n2 : gb ≠ bm) (n3 : bi ≠ bm) (hkey : key.size ≤ maxLen) (hf : fi key = some (inV u c)) (hu : (u.toList == v.toList) = false) (hn : ni < maxLen) :
    Calls Try.prog 14 #[.pointer (some ⟨gb, 0, none⟩), .string key, .string v] w fun e w' => e = .returned (.tuple #[]) ∧
      w'.heap[gb]? = some (.cells (graphCells rule bi bm room (wrap64 (now + 1)) clock runs stack) 56 (0, 0)) ∧ MapAt Try.prog 9 w' bi (insN fi key ni) (insF fi key (inV v (wrap64 (now + 1)))) ∧
      MapAt Try.prog 9 w' bm (delN fm key nm) (delF fm key) ∧ Fr w w' (fun b => b = gb ∨ b = bi ∨ b = bm) := by
  have c1 : w.cell? ⟨gb, 1, none⟩ = some (.map (some bi)) := cellB hg rfl
  have c2 : w.cell? ⟨gb, 2, none⟩ = some (.map (some bm)) := cellB hg rfl
  have c4 : w.cell? ⟨gb, 4, none⟩ = some (.int .i64 now) := cellB hg rfl
  have f4 : w.frozen? ⟨gb, 4, none⟩ = false := freeB hg 4
  have hlt : gb < w.heap.size := ltB hg
  unfold inV at hf
  go_enter Try.func14, Try.ntmps14
  go_wp2_with (first
    | (at_lookup; refine wp_look_some _ rfl _ _ 52 true rfl 9 58 Try.underlying9 Try.underlying52 _ (zero58 _) bi ni fi rfl hi key rfl hkey _ hf ?_)
    | go_in)
  refine wp_at ?_
  intro w1 hw1
  have hg1 : w1.heap[gb]? = some (.cells (graphCells rule bi bm room (wrap64 (now + 1)) clock runs stack) 56 (0, 0)) := by
    rw [hw1, Below.heap_alloc _ _ _ (by simpa [World.setCell] using hlt)]
    exact setB hg 4 _
  have hi1 : MapAt Try.prog 9 w1 bi ni fi := by rw [hw1]; exact (hi.setCell n1.symm _).alloc _
  have hm1 : MapAt Try.prog 9 w1 bm nm fm := by rw [hw1]; exact (hm.setCell n2.symm _).alloc _
  have fr1 : Fr w w1 (fun b => b = gb ∨ b = bi ∨ b = bm) := by rw [hw1]; exact ((Fr.refl w _).setCell (Or.inl (Or.inl rfl)) _).alloc _
  clear hw1
  have d1 : w1.cell? ⟨gb, 1, none⟩ = some (.map (some bi)) := cellB hg1 rfl
  have d4 : w1.cell? ⟨gb, 4, none⟩ = some (.int .i64 (wrap64 (now + 1))) := cellB hg1 rfl
  obtain ⟨w2, hrun, hi2, ht2⟩ := hi1.drew.store Try.underlying9 Try.underlying52 hn hkey (inV v (wrap64 (now + 1)))
  unfold inV at hrun
  go_region
  have hg2 : w2.heap[gb]? = some (.cells (graphCells rule bi bm room (wrap64 (now + 1)) clock runs stack) 56 (0, 0)) := (ht2.grown.block gb (ltB hg1) (by simpa using n1)).trans hg1
  have hm2 : MapAt Try.prog 9 w2 bm nm fm := hm1.drew.kept ht2.grown (by simpa using n3.symm)
  have fr2 : Fr w w2 (fun b => b = gb ∨ b = bi ∨ b = bm) := fr1.drew.grown ht2.grown (by simp)
  have d2 : w2.cell? ⟨gb, 2, none⟩ = some (.map (some bm)) := cellB hg2 rfl
  go_wp2_with (first
    | (at_delete; refine wp_drop _ rfl _ _ 53 9 rfl 62 Try.underlying9 Try.underlying53 bm nm fm rfl hm2 key rfl hkey ?_; intro w3 hm3 ht3)
    | go_in)
  go_end0
  exact ⟨rfl, (ht3.grown.block gb (ltB hg2) (by simpa using n2)).trans hg2, hi2.kept ht3.grown (by simpa using n3), hm3, fr2.grown ht3.grown (by simp)⟩

set_option maxHeartbeats 1000000 in
theorem set_same (gb bi ni : Nat) (fi : ByteArray → Option Value) (bm : Nat) (rule : Value) (room now clock runs : Int) (stack : Value) (key v : ByteArray) (c : Int) (w : World)
    (hg : w.heap[gb]? = some (.cells (graphCells rule bi bm room now clock runs stack) 56 (0, 0))) (hi : MapAt Try.prog 9 w bi ni fi) (hkey : key.size ≤ maxLen) (hf : fi key = some (inV v c)) :
    Calls Try.prog 14 #[.pointer (some ⟨gb, 0, none⟩), .string key, .string v] w fun e w' => e = .returned (.tuple #[]) ∧ Fr w w' (fun _ => False) := by
  have c1 : w.cell? ⟨gb, 1, none⟩ = some (.map (some bi)) := cellB hg rfl
  have hlt : gb < w.heap.size := ltB hg
  have hu : (v.toList == v.toList) = true := by simp
  unfold inV at hf
  go_enter Try.func14, Try.ntmps14
  go_wp2_with (first
    | (at_lookup; refine wp_look_some _ rfl _ _ 52 true rfl 9 58 Try.underlying9 Try.underlying52 _ (zero58 _) bi ni fi rfl hi key rfl hkey _ hf ?_)
    | go_in)
  refine bodyPost_ret (results_none rfl _ _ _) rfl ?_
  exact ⟨rfl, (Fr.refl w _).alloc _⟩

def setQ (σ : St) (k v : K) : St := ⟨ins σ.inp k (v, σ.now + 1), del σ.memo k, delC σ.memo k σ.n, σ.now + 1, σ.runs, σ.stack⟩
theorem set_rep (h : Rep gb bi bm room A sv σ w) (k v : K) (hk : k.size ≤ maxLen) (hn0 : 0 ≤ σ.now) (hn : σ.now ≤ 1000000) :
    Calls Try.prog 14 #[.pointer (some ⟨gb, 0, none⟩), .string k, .string v] w fun e w' => e = .returned (.tuple #[]) ∧ ∃ A', Rep gb bi bm room A' sv (setS σ k v) w' ∧ (∀ j p, A' j = some p → A j = some p) ∧ Fr w w' (May3 gb bi bm) := by
  obtain ⟨clock, hg⟩ := h.graph
  obtain ⟨ni, hni, hi⟩ := h.inp
  have hlim : ni < maxLen := by unfold maxLen; omega
  have fin : ∀ w', w'.heap[gb]? = some (.cells (graphCells (.func (.func 11) #[] #[]) bi bm room (wrap64 (σ.now + 1)) clock σ.runs sv) 56 (0, 0)) → MapAt Try.prog 9 w' bi (insN (inpV σ) k ni) (insF (inpV σ) k (inV v (wrap64 (σ.now + 1)))) →
      MapAt Try.prog 9 w' bm (delN (ptrs (blk A)) k σ.n) (delF (ptrs (blk A)) k) → Fr w w' (May3 gb bi bm) → setS σ k v = setQ σ k v →
      ∃ A', Rep gb bi bm room A' sv (setS σ k v) w' ∧ (∀ j p, A' j = some p → A j = some p) ∧ Fr w w' (May3 gb bi bm) := by
    intro w' g1 g2 g3 g4 e
    rw [wrap_small hn0 hn] at g1 g2
    rw [e]
    refine ⟨del A k, h.inputs (σ' := setQ σ k v) k g4 g1 rfl ⟨insN (inpV σ) k ni, ?_, ?_⟩ (del A k) (Or.inr ⟨rfl, rfl, rfl⟩) ?_, fun j p hj => ?_, g4⟩
    · show ((insN (inpV σ) k ni : Nat) : Int) ≤ σ.now + 1
      unfold insN
      split <;> omega
    · have e2 : inpV (setQ σ k v) = insF (inpV σ) k (inV v (σ.now + 1)) := by
        funext j
        unfold inpV insF setQ ins
        simp only
        by_cases e : j = k
        · rw [if_pos e, if_pos e]; rfl
        · rw [if_neg e, if_neg e]
      rw [e2]
      exact g2
    · rw [delN_ptrs, ptrs_del] at g3
      have e3 : delC (blk A) k σ.n = delC σ.memo k σ.n := by unfold delC; rw [h.some_eq]
      rw [e3] at g3
      rw [blk_del]
      exact g3
    · by_cases e : j = k
      · subst e; rw [del_same] at hj; cases hj
      · rwa [del_other _ e] at hj
  cases hin : σ.inp k with
  | none =>
    have hf : inpV σ k = none := by unfold inpV; rw [hin]; rfl
    refine (set_fresh gb bi bm ni σ.n (inpV σ) (ptrs (blk A)) _ room σ.now clock σ.runs sv k v w hg hi h.memo h.gb_bi h.gb_bm h.ne hk hf hlim).mono ?_
    rintro e w' ⟨rfl, g1, g2, g3, g4⟩
    exact ⟨rfl, fin w' g1 g2 g3 g4 (by unfold setS; rw [hin]; rfl)⟩
  | some p =>
    obtain ⟨u, c⟩ := p
    have hf : inpV σ k = some (inV u c) := by unfold inpV; rw [hin]; rfl
    by_cases huv : u = v
    · subst huv
      refine (set_same gb bi ni (inpV σ) bm _ room σ.now clock σ.runs sv k u c w hg hi hk hf).mono ?_
      rintro e w' ⟨rfl, hfr⟩
      have e : setS σ k u = σ := by unfold setS; rw [hin]; simp
      rw [e]
      exact ⟨rfl, A, h.same hfr, fun _ _ h => h, hfr.mono (fun _ h => h.elim)⟩
    · have hu : (u.toList == v.toList) = false := by
        rw [beq_eq_false_iff_ne, ByteArray.toList_eq, ByteArray.toList_eq]
        intro e
        exact huv (ByteArray.ext (Array.toList_inj.1 e))
      refine (set_change gb bi bm ni σ.n (inpV σ) (ptrs (blk A)) _ room σ.now clock σ.runs sv k v u c w hg hi h.memo h.gb_bi h.gb_bm h.ne hk hf hu hlim).mono ?_
      rintro e w' ⟨rfl, g1, g2, g3, g4⟩
      exact ⟨rfl, fin w' g1 g2 g3 g4 (by unfold setS; rw [hin]; simp only; rw [if_neg huv]; rfl)⟩

set_option maxHeartbeats 1000000 in
theorem runs_rep (h : Rep gb bi bm room A sv σ w) : Calls Try.prog 16 #[.pointer (some ⟨gb, 0, none⟩)] w fun e w' => e = .returned (.int .i64 σ.runs) ∧ w' = w := by
  obtain ⟨clock, hg⟩ := h.graph
  have c6 : w.cell? ⟨gb, 6, none⟩ = some (.int .i64 σ.runs) := cellB hg rfl
  go_enter Try.func16, Try.ntmps16
  go_wp2
  go_ret
  exact ⟨rfl, rfl⟩
set_option maxHeartbeats 1000000 in
theorem known_rep (h : Rep gb bi bm room A sv σ w) : Calls Try.prog 21 #[.pointer (some ⟨gb, 0, none⟩)] w fun e w' => e = .returned (.int .i64 (σ.n : Int)) ∧ w' = w := by
  obtain ⟨clock, hg⟩ := h.graph
  have c2 : w.cell? ⟨gb, 2, none⟩ = some (.map (some bm)) := cellB hg rfl
  have hm := h.memo
  go_enter Try.func21, Try.ntmps21
  go_wp2_with (first
    | (refine wp_len _ rfl _ 53 rfl 9 62 Try.underlying53 bm σ.n (ptrs (blk A)) rfl hm ?_)
    | go_in)
  go_ret
  exact ⟨rfl, rfl⟩
set_option maxHeartbeats 1000000 in
theorem drop_rep (h : Rep gb bi bm room A sv σ w) (k : K) (hk : k.size ≤ maxLen) (hn0 : 0 ≤ σ.now) (hn : σ.now ≤ 1000000) :
    Calls Try.prog 17 #[.pointer (some ⟨gb, 0, none⟩), .string k] w fun e w' => e = .returned (.bool (σ.inp k).isSome) ∧ Rep gb bi bm room A sv (dropS σ k) w' ∧ Fr w w' (May3 gb bi bm) := by
  obtain ⟨clock, hg⟩ := h.graph
  obtain ⟨ni, hni, hi⟩ := h.inp
  have c1 : w.cell? ⟨gb, 1, none⟩ = some (.map (some bi)) := cellB hg rfl
  have c4 : w.cell? ⟨gb, 4, none⟩ = some (.int .i64 σ.now) := cellB hg rfl
  have f4 : w.frozen? ⟨gb, 4, none⟩ = false := freeB hg 4
  have hlt : gb < w.heap.size := ltB hg
  have n1 := h.gb_bi
  cases hin : σ.inp k with
  | none =>
    have hf : inpV σ k = none := by unfold inpV; rw [hin]; rfl
    have e : dropS σ k = σ := by unfold dropS; rw [hin]
    rw [e]
    go_enter Try.func17, Try.ntmps17
    go_wp2_with (first
      | (at_lookup; refine wp_look_none _ rfl _ _ 52 true rfl 9 58 Try.underlying9 Try.underlying52 _ (zero58 _) bi ni (inpV σ) rfl hi k rfl hk hf ?_)
      | go_in)
    go_ret
    exact ⟨rfl, h.same ((Fr.refl w _).alloc _), ((Fr.refl w _).alloc _)⟩
  | some p =>
    obtain ⟨u, c⟩ := p
    have hf : inpV σ k = some (.agg #[.string u, .int .i64 c]) := by unfold inpV; rw [hin]; rfl
    have fin : ∀ w', w'.heap[gb]? = some (.cells (graphCells (.func (.func 11) #[] #[]) bi bm room (σ.now + 1) clock σ.runs sv) 56 (0, 0)) → MapAt Try.prog 9 w' bi (delN (inpV σ) k ni) (delF (inpV σ) k) → MapAt Try.prog 9 w' bm σ.n (ptrs (blk A)) → Fr w w' (May3 gb bi bm) →
        Rep gb bi bm room A sv (dropS σ k) w' ∧ Fr w w' (May3 gb bi bm) := by
      intro w' g1 g2 g3 g4
      have e : dropS σ k = { σ with inp := del σ.inp k, now := σ.now + 1 } := by unfold dropS; rw [hin]
      rw [e]
      refine ⟨h.inputs (σ' := { σ with inp := del σ.inp k, now := σ.now + 1 }) k g4 g1 rfl ⟨delN (inpV σ) k ni, ?_, ?_⟩ A (Or.inl ⟨rfl, rfl, rfl⟩) g3, g4⟩
      · show ((delN (inpV σ) k ni : Nat) : Int) ≤ σ.now + 1
        unfold delN
        split <;> omega
      · have e2 : inpV { σ with inp := del σ.inp k, now := σ.now + 1 } = delF (inpV σ) k := by
          funext j
          unfold inpV delF del
          simp only
          by_cases e : j = k
          · rw [if_pos e, if_pos e]; rfl
          · rw [if_neg e, if_neg e]
        rw [e2]
        exact g2
    have hm := h.memo
    have n2 := h.gb_bm
    have n3 := h.ne
    go_enter Try.func17, Try.ntmps17
    go_wp2_with (first
      | (at_lookup; refine wp_look_some _ rfl _ _ 52 true rfl 9 58 Try.underlying9 Try.underlying52 _ (zero58 _) bi ni (inpV σ) rfl hi k rfl hk _ hf ?_)
      | (at_delete; refine wp_drop _ rfl _ _ 52 9 rfl 58 Try.underlying9 Try.underlying52 bi ni (inpV σ) rfl ((hi.setCell n1.symm _).alloc _) k rfl hk ?_; intro w3 hi3 ht3)
      | go_in)
    go_ret
    refine ⟨rfl, fin w3 ?_ hi3 ?_ ?_⟩
    · refine (ht3.grown.block gb ?_ (by simpa using n1)).trans ?_
      · rw [sizeA]; simp [World.setCell]; omega
      · rw [Below.heap_alloc _ _ _ (by simpa [World.setCell] using hlt)]
        exact setB hg 4 _
    · exact ((hm.setCell n2.symm _).alloc _).kept ht3.grown (by simpa using n3.symm)
    · exact (((Fr.refl w (May3 gb bi bm)).setCell (p := ⟨gb, 4, none⟩) (Or.inl (Or.inl rfl)) _).alloc _).grown ht3.grown (by intro i hi; cases hi; exact Or.inl (Or.inr (Or.inl rfl)))
set_option maxHeartbeats 1000000 in
theorem evict_rep (h : Rep gb bi bm room A sv σ w) (k : K) (hk : k.size ≤ maxLen) :
    Calls Try.prog 18 #[.pointer (some ⟨gb, 0, none⟩), .string k] w fun e w' => e = .returned (.bool (σ.memo k).isSome) ∧ Rep gb bi bm room (del A k) sv (dropM σ k) w' ∧ Fr w w' (fun b => b = bm) := by
  obtain ⟨clock, hg⟩ := h.graph
  have c2 : w.cell? ⟨gb, 2, none⟩ = some (.map (some bm)) := cellB hg rfl
  have hlt : gb < w.heap.size := ltB hg
  have hm := h.memo
  have fin : ∀ w3, MapAt Try.prog 9 w3 bm (delN (ptrs (blk A)) k σ.n) (delF (ptrs (blk A)) k) → w.mapTurned w3 bm → Rep gb bi bm room (del A k) sv (dropM σ k) w3 ∧ Fr w w3 (fun b => b = bm) := by
    intro w3 hm3 ht3
    have hf : Fr w w3 (fun b => b = bm) := (Fr.refl w _).grown ht3.grown (by simp)
    rw [delN_ptrs, ptrs_del] at hm3
    exact ⟨h.drop k hf hm3, hf⟩
  rw [← h.some_eq k]
  cases hA : A k with
  | none =>
    have hf : ptrs (blk A) k = none := ptrs_none (blk_none hA)
    rw [blk_none hA]
    go_enter Try.func18, Try.ntmps18
    go_wp2_with (first
      | (at_lookup; refine wp_look_none _ rfl _ _ 53 true rfl 9 62 Try.underlying9 Try.underlying53 _ (zero62 _) bm σ.n (ptrs (blk A)) rfl hm k rfl hk hf ?_)
      | (at_delete; refine wp_drop _ rfl _ _ 53 9 rfl 62 Try.underlying9 Try.underlying53 bm σ.n (ptrs (blk A)) rfl hm k rfl hk ?_; intro w3 hm3 ht3)
      | go_in)
    go_ret
    exact ⟨rfl, fin w3 hm3 ht3⟩
  | some p =>
    obtain ⟨b, nv⟩ := p
    have hf : ptrs (blk A) k = some (.pointer (some ⟨b, 0, none⟩)) := ptrs_eq (blk_some hA)
    rw [blk_some hA]
    go_enter Try.func18, Try.ntmps18
    go_wp2_with (first
      | (at_lookup; refine wp_look_some _ rfl _ _ 53 true rfl 9 62 Try.underlying9 Try.underlying53 _ (zero62 _) bm σ.n (ptrs (blk A)) rfl hm k rfl hk _ hf ?_)
      | (at_delete; refine wp_drop _ rfl _ _ 53 9 rfl 62 Try.underlying9 Try.underlying53 bm σ.n (ptrs (blk A)) rfl hm k rfl hk ?_; intro w3 hm3 ht3)
      | go_in)
    go_ret
    exact ⟨rfl, fin w3 hm3 ht3⟩

def retB : Ans → Ending
  | .ok s _ => .returned (.tuple #[.string s, .int .i64 0])
  | .err e => .returned (.tuple #[.string ⟨#[]⟩, .int .i64 e])
set_option maxHeartbeats 1000000 in
theorem Ask_rep (h : Rep gb bi bm room A sv σ w) (k : K) (R : Ans → St → Prop)
    (hask : ∀ w1, Rep gb bi bm room A (.slice none 0 0) { σ with stack := [] } w1 → Calls Try.prog 23 #[.pointer (some ⟨gb, 0, none⟩), .string k] w1 (Post gb bi bm room [] A (.slice none 0 0) w1 R)) :
    Calls Try.prog 15 #[.pointer (some ⟨gb, 0, none⟩), .string k] w fun e w' => ∃ r σ' A' sv', e = retB r ∧ ErrOk r ∧ R r σ' ∧ Rep gb bi bm room A' sv' σ' w' ∧ Ext gb bm [] A sv w A' sv' w' := by
  obtain ⟨clock, hg⟩ := h.graph
  have c7 := cellB hg (i := 7) rfl
  have f7 := freeB hg 7
  have fr1 : Fr w (w.setCell ⟨gb, 7, none⟩ (.slice none 0 0)) (fun b => b = gb) := (Fr.refl w (fun b => b = gb)).setCell (p := ⟨gb, 7, none⟩) (Or.inl rfl) _
  have hr1 : Rep gb bi bm room A (.slice none 0 0) { σ with stack := [] } (w.setCell ⟨gb, 7, none⟩ (.slice none 0 0)) :=
    h.own (runs := σ.runs) (st := []) (fr1.mono (fun _ h => Or.inl h)) (setB hg 7 _) (World.ownsRow_nil _ _ _ _) (fun g hg => by cases hg)
  have hc := hask _ hr1
  have hx : Ext gb bm [] A sv w A (.slice none 0 0) (w.setCell ⟨gb, 7, none⟩ (.slice none 0 0)) := ⟨fr1.mono (fun _ h => Or.inl h), fun _ _ _ h => Or.inl h, fun g hg => by cases hg⟩
  clear hask hr1 fr1
  go_enter Try.func15, Try.ntmps15
  go_wp2_with fail
  refine hc.mono ?_
  rintro e w1 ⟨r, σ', A', sv', he, herr, hr, hrep, hext⟩
  cases r with
  | ok s t =>
    have he' : e = .returned (.tuple #[.string s, .int .i64 t, .int .i64 0]) := he
    subst he'
    go_wp2
    go_ret2
    exact ⟨.ok s t, σ', A', sv', rfl, herr, hr, hrep, hx.trans hext⟩
  | err er =>
    have he' : e = .returned (.tuple #[.string ⟨#[]⟩, .int .i64 0, .int .i64 er]) := he
    subst he'
    go_wp2
    go_ret2
    exact ⟨.err er, σ', A', sv', rfl, herr, hr, hrep, hx.trans hext⟩
end
end Go.Proofs.Ytelddnalpkhclaa
