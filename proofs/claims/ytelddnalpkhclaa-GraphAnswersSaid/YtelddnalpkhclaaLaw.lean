/- What the laws go through: the steps' slice, the inputs' slice; light. -/
import Derived.Test.YtelddnalpkhclaaSet
import Derived.Test.YtelddnalpkhclaaAwake
namespace Go.Proofs.Ytelddnalpkhclaa
open Go.RowKit Go.Maps

structure LOp where
  kind : Int
  key : ByteArray
  val : ByteArray
def OpsAt (w : World) (v : Value) (ops : List LOp) : Prop :=
  (∃ a c, v = .slice a 0 c ∧ ops = []) ∨ ∃ b off c, v = .slice (some ⟨b, off, none⟩) ops.length c ∧ ∀ i o, ops[i]? = some o →
    w.cell? ⟨b, off + i * 3, none⟩ = some (.int .i64 o.kind) ∧ w.cell? ⟨b, off + i * 3 + 1, none⟩ = some (.string o.key) ∧ w.cell? ⟨b, off + i * 3 + 2, none⟩ = some (.string o.val)
theorem OpsAt.form {w : World} {v : Value} {ops : List LOp} (h : OpsAt w v ops) : ∃ (a : Option Addr) (c : Nat), v = .slice a ops.length c ∧ ∀ (i : Nat) (o : LOp), ops[i]? = some o → ∃ b off, a = some ⟨b, off, none⟩ ∧
    w.cell? ⟨b, off + i * 3, none⟩ = some (.int .i64 o.kind) ∧ w.cell? ⟨b, off + i * 3 + 1, none⟩ = some (.string o.key) ∧ w.cell? ⟨b, off + i * 3 + 2, none⟩ = some (.string o.val) := by
  rcases h with ⟨a, c, rfl, rfl⟩ | ⟨b, off, c, rfl, hc⟩
  · exact ⟨a, c, rfl, fun i o h => by cases h⟩
  · exact ⟨_, c, rfl, fun i o h => ⟨b, off, rfl, hc i o h⟩⟩
def lightB (ops : List LOp) : Bool := ops.all fun o => decide (o.key.size ≤ 20) && decide (o.val.size ≤ 12)

theorem light_drop {ops : List LOp} {k : Nat} {o : LOp} (h : ops[k]? = some o) : ops.drop k = o :: ops.drop (k + 1) := by
  have h1 := (List.getElem?_eq_some_iff.1 h).1
  rw [List.drop_eq_getElem_cons h1, (List.getElem?_eq_some_iff.1 h).2]

set_option maxRecDepth 100000 in
set_option maxHeartbeats 2000000 in
theorem light_ok (v : Value) (ops : List LOp) (w : World) (h : OpsAt w v ops) (hlen : ops.length ≤ 9223372036854775807) : Calls Try.prog 8 #[v] w fun e w' => e = .returned (.bool (lightB ops)) ∧ Fr w w' (fun _ => False) := by
  obtain ⟨a, c, rfl, hcell⟩ := h.form
  clear h
  generalize hN : ops.length = N at hlen ⊢
  have HN := Lib.hid hN
  clear hN
  go_enter Try.func8, Try.ntmps8
  go_wp2_with fail
  go_loopw [7] (fun i wr => ∃ k : Nat, i = .int .i64 k ∧ k ≤ N ∧ Hid (lightB ops = lightB (ops.drop k)) ∧ Fr w wr (fun _ => False)) (fun i _ => N - (intOf i).toNat)
  case atStart => exact ⟨0, rfl, Nat.zero_le _, rfl, Fr.refl _ _⟩
  case round =>
    obtain ⟨k, rfl, hk, hB, hfr⟩ := hrel
    by_cases hlt : k < N
    · have hi : ∃ o, ops[k]? = some o := ⟨_, List.getElem?_eq_getElem (by rw [HN.out]; exact hlt)⟩
      obtain ⟨o, ho⟩ := hi
      obtain ⟨b, off, rfl, c0, c1, c2⟩ := hcell k o ho
      have d0 := (World.cell?_of_block (hfr.block b (World.block_lt_of_cell? _ _ c0) id) (a := ⟨b, off + k * 3, none⟩)).trans c0
      have d1 := (World.cell?_of_block (hfr.block b (World.block_lt_of_cell? _ _ c0) id) (a := ⟨b, off + k * 3 + 1, none⟩)).trans c1
      have d2 := (World.cell?_of_block (hfr.block b (World.block_lt_of_cell? _ _ c0) id) (a := ⟨b, off + k * 3 + 2, none⟩)).trans c2
      have hd : ops.drop k = o :: ops.drop (k + 1) := light_drop ho
      have hstep : Hid (lightB (ops.drop k) = ((decide (o.key.size ≤ 20) && decide (o.val.size ≤ 12)) && lightB (ops.drop (k + 1)))) := by rw [hd]; rfl
      clear hd ho
      go_wp2_with fail
      · go_ret
        have h1 : (20 : Int) < o.key.size ∨ (12 : Int) < o.val.size := by assumption
        refine ⟨?_, hfr.alloc _⟩
        rw [hB.out, hstep.out]
        rcases h1 with h1 | h1
        · have : ¬ o.key.size ≤ 20 := by omega
          simp [this]
        · have : ¬ o.val.size ≤ 12 := by omega
          simp [this]
      · have h1 : (o.key.size : Int) ≤ 20 ∧ (o.val.size : Int) ≤ 12 := by assumption
        have e : Hid (lightB ops = lightB (ops.drop (k + 1))) := by
          show _ = _
          rw [hB.out, hstep.out]
          have h2 : o.key.size ≤ 20 := by omega
          have h3 : o.val.size ≤ 12 := by omega
          simp [h2, h3]
        go_roundw
        case rel => exact ⟨k + 1, by go_num, by omega, e, hfr.alloc _⟩
        case measure => simp [intOf]; omega
      · go_ret
        have h1 : (20 : Int) < o.key.size := by assumption
        refine ⟨?_, hfr.alloc _⟩
        rw [hB.out, hstep.out]
        have : ¬ o.key.size ≤ 20 := by omega
        simp [this]
    · have hend : Hid (lightB ops = true) := by
        show _ = _
        rw [hB.out, List.drop_eq_nil_of_le (by rw [HN.out]; omega)]
        rfl
      clear hB
      go_wp2
      go_ret
      exact ⟨by rw [hend.out]; rfl, hfr⟩

/-! ### the inputs -/
def flat (l : List (ByteArray × ByteArray)) : List Value := l.flatMap fun p => [.string p.1, .string p.2]
theorem flat_length (l : List (ByteArray × ByteArray)) : (flat l).length = l.length * 2 := by
  unfold flat
  induction l with
  | nil => rfl
  | cons p l ih => simp only [List.flatMap_cons, List.length_append, ih, List.length_cons, List.length_nil]; omega
theorem flat_at : ∀ (l : List (ByteArray × ByteArray)) (i : Nat) (p : ByteArray × ByteArray), l[i]? = some p → (flat l)[i * 2]? = some (.string p.1) ∧ (flat l)[i * 2 + 1]? = some (.string p.2)
  | [], i, p, h => by cases h
  | q :: l, 0, p, h => by
    cases h
    exact ⟨rfl, rfl⟩
  | q :: l, i + 1, p, h => by
    have := flat_at l i p h
    have e1 : flat (q :: l) = .string q.1 :: .string q.2 :: flat l := rfl
    rw [e1, show (i + 1) * 2 = i * 2 + 2 by omega]
    exact this
theorem flat_snoc (l : List (ByteArray × ByteArray)) (p : ByteArray × ByteArray) : flat (l ++ [p]) = flat l ++ [.string p.1, .string p.2] := by unfold flat; simp
def InsAt (w : World) (v : Value) (l : List (ByteArray × ByteArray)) : Prop := w.ownsRow 0 40 2 v l.length (flat l)
theorem InsAt.form {w : World} {v : Value} {l : List (ByteArray × ByteArray)} (h : InsAt w v l) : ∃ (a : Option Addr) (c : Nat), v = .slice a l.length c ∧ ∀ (i : Nat) (p : ByteArray × ByteArray), l[i]? = some p → ∃ g, a = some ⟨g, 0, none⟩ ∧ v.ownBlock = some g ∧
    w.cell? ⟨g, i * 2, none⟩ = some (.string p.1) ∧ w.cell? ⟨g, i * 2 + 1, none⟩ = some (.string p.2) := by
  have h' := h.2
  rcases h' with ⟨rfl, h0⟩ | ⟨g, cap, cur, rfl, _⟩
  · exact ⟨none, 0, by rw [h0], fun i p hi => by
      have e : l = [] := List.eq_nil_of_length_eq_zero h0
      rw [e] at hi
      cases hi⟩
  · refine ⟨_, _, rfl, fun i p hi => ⟨g, rfl, rfl, ?_, ?_⟩⟩
    · have := h.cells (g := g) rfl (i * 2) _ (flat_at l i p hi).1
      have e : (⟨g, 0, none⟩ : Addr).add (i * 2) = ⟨g, i * 2, none⟩ := by unfold Addr.add; split <;> simp_all
      rwa [e] at this
    · have := h.cells (g := g) rfl (i * 2 + 1) _ (flat_at l i p hi).2
      have e : (⟨g, 0, none⟩ : Addr).add (i * 2 + 1) = ⟨g, i * 2 + 1, none⟩ := by unfold Addr.add; split <;> simp_all
      rwa [e] at this
theorem InsAt.fr {w w' : World} {may : Nat → Prop} {v : Value} {l : List (ByteArray × ByteArray)} (h : InsAt w v l) (hf : Fr w w' may) (hn : ∀ g, v.ownBlock = some g → ¬ may g) : InsAt w' v l := by
  refine ⟨h.1, ?_⟩
  rcases h.2 with h0 | ⟨g, cap, cur, rfl, hb, hgg, rest⟩
  · exact .inl h0
  · exact .inr ⟨g, cap, cur, rfl, hb, hf.block' hgg (hn g rfl), rest⟩

set_option maxRecDepth 100000 in
set_option maxHeartbeats 2000000 in
theorem deep_ok (v : Value) (l : List (ByteArray × ByteArray)) (w : World) (h : InsAt w v l) (hlen : l.length ≤ 1000) : Calls Try.prog 13 #[v] w fun e w' => ∃ d, e = .returned (.bool d) ∧ Fr w w' (fun _ => False) := by
  obtain ⟨a, c, rfl, hcell⟩ := h.form
  clear h
  generalize hN : l.length = N at hlen ⊢
  have HN := Lib.hid hN
  clear hN
  go_enter Try.func13, Try.ntmps13
  go_wp2_with fail
  go_loopw [3, 8] (fun m i wr => ∃ (k : Nat) (x : Int), m = .int .i64 x ∧ i = .int .i64 k ∧ k ≤ N ∧ Fr w wr (fun _ => False)) (fun _ i _ => N - (intOf i).toNat)
  case atStart => exact ⟨0, 0, rfl, rfl, Nat.zero_le _, Fr.refl _ _⟩
  case round =>
    obtain ⟨k, x, rfl, rfl, hk, hfr⟩ := hrel
    by_cases hlt : k < N
    · have hi : ∃ o, l[k]? = some o := ⟨_, List.getElem?_eq_getElem (by rw [HN.out]; exact hlt)⟩
      obtain ⟨o, ho⟩ := hi
      obtain ⟨g, rfl, _, c0, c1⟩ := hcell k o ho
      have d0 := (World.cell?_of_block (hfr.block g (World.block_lt_of_cell? _ _ c0) id) (a := ⟨g, k * 2, none⟩)).trans c0
      have d1 := (World.cell?_of_block (hfr.block g (World.block_lt_of_cell? _ _ c0) id) (a := ⟨g, k * 2 + 1, none⟩)).trans c1
      clear ho
      go_wp2_with fail
      · go_roundw
        case rel => exact ⟨k + 1, _, rfl, by go_num, by omega, hfr.alloc _⟩
        case measure => simp [intOf]; omega
      · go_roundw
        case rel => exact ⟨k + 1, _, rfl, by go_num, by omega, hfr.alloc _⟩
        case measure => simp [intOf]; omega
      · go_roundw
        case rel => exact ⟨k + 1, _, rfl, by go_num, by omega, hfr.alloc _⟩
        case measure => simp [intOf]; omega
      · go_roundw
        case rel => exact ⟨k + 1, _, rfl, by go_num, by omega, hfr.alloc _⟩
        case measure => simp [intOf]; omega
    · go_wp2
      go_ret
      exact ⟨_, rfl, hfr⟩

/-! ### set -/
def setL (l : List (ByteArray × ByteArray)) (o : LOp) : List (ByteArray × ByteArray) := (l.filter fun p => p.1 != o.key) ++ if o.kind = 0 then [(o.key, o.val)] else []
theorem cell_two_new (w : World) (x y : Value) (t : TypeId) : ∀ j u, [x, y][j]? = some u → (w.alloc (.cells #[x, y] t)).cell? ((⟨w.heap.size, 0, none⟩ : Addr).add j) = some u := by
  intro j u h
  have e : (⟨w.heap.size, 0, none⟩ : Addr).add j = ⟨w.heap.size, j, none⟩ := by unfold Addr.add; split <;> simp_all
  rw [e]
  have hn : (w.alloc (.cells #[x, y] t)).heap[w.heap.size]? = some (.cells #[x, y] t) := (MapKept.heap_alloc _ _).1
  refine cellB hn ?_
  simpa using h
theorem cell_two_at (w : World) (n : Nat) (x y : Value) (t : TypeId) (hn : n = w.heap.size) : ∀ j u, [x, y][j]? = some u → (w.alloc (.cells #[x, y] t)).cell? ((⟨n, 0, none⟩ : Addr).add j) = some u := by
  subst hn
  exact cell_two_new w x y t
theorem infoIn : (Try.prog.info? 40).map (fun i => (i.zero, i.size, i.bytes)) = some (some (.agg #[.string ⟨#[]⟩, .string ⟨#[]⟩]), 2, 32) := by kernel_rfl

set_option maxRecDepth 100000 in
set_option maxHeartbeats 4000000 in
theorem set_ok (v : Value) (l : List (ByteArray × ByteArray)) (o : LOp) (w : World) (h : InsAt w v l) (hlen : l.length ≤ 1000) :
    Calls Try.prog 12 #[v, .agg #[.int .i64 o.kind, .string o.key, .string o.val]] w fun e w' => ∃ v', e = .returned v' ∧ InsAt w' v' (setL l o) ∧ (∀ g, v'.ownBlock = some g → w.heap.size ≤ g) ∧ Fr w w' (fun _ => False) := by
  obtain ⟨a, c, rfl, hcell⟩ := h.form
  clear h
  obtain ⟨i0, hinf, hzz, hzs, hzb⟩ := infoParts infoIn
  generalize hN : l.length = N at hlen ⊢
  have HN := Lib.hid hN
  clear hN
  go_enter Try.func12, Try.ntmps12
  go_wp2_with fail
  have hnew : (w.alloc (.cells #[.int .i64 o.kind, .string o.key, .string o.val] 32)).heap[w.heap.size]? = some (.cells #[.int .i64 o.kind, .string o.key, .string o.val] 32 (0, 0)) := (MapKept.heap_alloc _ _).1
  go_loopw [5, 10] (fun out i wr => ∃ k : Nat, i = .int .i64 k ∧ k ≤ N ∧ InsAt wr out ((l.take k).filter fun p => p.1 != o.key) ∧ (∀ g, out.ownBlock = some g → w.heap.size < g) ∧ Fr w wr (fun _ => False) ∧
    wr.heap[w.heap.size]? = some (.cells #[.int .i64 o.kind, .string o.key, .string o.val] 32 (0, 0))) (fun _ i _ => N - (intOf i).toNat)
  case atStart => exact ⟨0, rfl, Nat.zero_le _, World.ownsRow_nil _ _ _ _, (fun g hg => by cases hg), (Fr.refl w _).alloc _, hnew⟩
  case round =>
    clear hnew
    obtain ⟨k, rfl, hk, hin, hown, hfr, hbox⟩ := hrel
    have z0 : w.heap.size < wr.heap.size := ltB hbox
    by_cases hlt : k < N
    · have hi : ∃ p, l[k]? = some p := ⟨_, List.getElem?_eq_getElem (by rw [HN.out]; exact hlt)⟩
      obtain ⟨p, hp⟩ := hi
      obtain ⟨g, rfl, _, c0, c1⟩ := hcell k p hp
      have hgl := World.block_lt_of_cell? _ _ c0
      have d0 := (World.cell?_of_block (hfr.block g hgl id) (a := ⟨g, k * 2, none⟩)).trans c0
      have d1 := (World.cell?_of_block (hfr.block g hgl id) (a := ⟨g, k * 2 + 1, none⟩)).trans c1
      have e1 : wr.cell? ⟨w.heap.size, 1, none⟩ = some (.string o.key) := cellB hbox rfl
      have htake : l.take (k + 1) = l.take k ++ [p] := by rw [List.take_add_one, hp]; rfl
      by_cases hq : p.1 = o.key
      · have hq' : (p.1.toList == o.key.toList) = true := by rw [hq]; simp
        have hin' : Hid (InsAt wr u5 ((l.take (k + 1)).filter fun p => p.1 != o.key)) := by
          show InsAt _ _ _
          rw [htake, List.filter_append]
          have : ([p].filter fun p => p.1 != o.key) = [] := by simp [hq]
          rw [this, List.append_nil]
          exact hin
        clear hq htake hp
        go_wp2_with fail
        go_roundw
        case rel => exact ⟨k + 1, by go_num, by omega, World.ownsRow.alloc hin'.out _, hown, hfr.alloc _, (Below.heap_alloc _ _ _ z0).trans hbox⟩
        case measure => simp [intOf]; omega
      · have hq' : (p.1.toList == o.key.toList) = false := by
          rw [beq_eq_false_iff_ne, ByteArray.toList_eq, ByteArray.toList_eq]
          intro e
          exact hq (ByteArray.ext (Array.toList_inj.1 e))
        have hfil : (l.take (k + 1)).filter (fun p => p.1 != o.key) = (l.take k).filter (fun p => p.1 != o.key) ++ [p] := by
          rw [htake, List.filter_append]
          have : ([p].filter fun p => p.1 != o.key) = [p] := by simp [hq]
          rw [this]
        have hnl : ((l.take k).filter fun p => p.1 != o.key).length ≤ 1000 := by
          have h1 := List.length_filter_le (fun p : ByteArray × ByteArray => p.1 != o.key) (l.take k)
          have h2 := List.length_take_le k l
          omega
        have hin2 : wr.ownsRow 0 40 2 u5 ((l.take k).filter fun p => p.1 != o.key).length (flat ((l.take k).filter fun p => p.1 != o.key)) := hin
        have fin : ∀ w3 v3, w3.ownsRow 0 40 2 v3 (((l.take k).filter fun p => p.1 != o.key).length + 1) (flat ((l.take k).filter fun p => p.1 != o.key) ++ [.string p.1, .string p.2]) → Hid (InsAt w3 v3 ((l.take (k + 1)).filter fun p => p.1 != o.key)) := by
          intro w3 v3 h3
          show InsAt _ _ _
          rw [hfil]
          unfold InsAt
          rw [flat_snoc, List.length_append]
          exact h3
        generalize hn : ((l.take k).filter fun p => p.1 != o.key).length = n at hnl hin2 fin
        generalize hf : flat ((l.take k).filter fun p => p.1 != o.key) = fl at hin2 fin
        clear hq htake hp hin hfil hn hf
        have hb0 : wr.heap.size ≤ (wr.alloc (.cells #[.string p.1, .string p.2] 40)).heap.size := by rw [sizeA]; omega
        have hin3 : ((wr.alloc (.cells #[.string p.1, .string p.2] 40)).alloc (.cells #[.string p.1, .string p.2] 40)).ownsRow 0 40 2 u5 n fl := World.ownsRow.alloc (World.ownsRow.alloc hin2 _) _
        go_wp2_with (first
          | (refine wpList_append_lies _ rfl _ _ 30 rfl 0 40 i0 (.agg #[.string ⟨#[]⟩, .string ⟨#[]⟩]) 2 32 Try.underlying30 hinf hzz hzs hzb rfl (by decide) u5 n fl (by rfl) hin3 ⟨wr.heap.size + 1, 0, none⟩ 1 1 [.string p.1, .string p.2] (by rfl) rfl (cell_two_at _ _ _ _ _ (sizeA _ _).symm) (by simp [Value.oneCell']) (by decide) (by unfold maxLen; omega) (by omega) (Nat.zero_le _) _ rfl ?_; intro g2 cap w3 r3 gr3 at3 lt3)
          | fail)
        have hsz : ((wr.alloc (.cells #[.string p.1, .string p.2] 40)).alloc (.cells #[.string p.1, .string p.2] 40)).heap.size = wr.heap.size + 2 := by rw [sizeA, sizeA]
        have hg2 : w.heap.size < g2 := by
          rcases at3 with e | e
          · exact hown g2 e
          · rw [e, hsz]; omega
        have hfr3 : Fr w w3 (fun _ => False) := ((hfr.alloc _).alloc _).grown gr3 (fun i hi => Or.inr (Nat.le_of_lt (hown i hi)))
        have hbox3 : w3.heap[w.heap.size]? = some (.cells #[.int .i64 o.kind, .string o.key, .string o.val] 32 (0, 0)) := by
          refine (gr3.block w.heap.size (by rw [hsz]; omega) (fun e => ?_)).trans (((Below.heap_alloc _ _ _ (by rw [sizeA]; omega)).trans (Below.heap_alloc _ _ _ z0)).trans hbox)
          have := hown _ e.symm
          omega
        go_roundw
        case rel => exact ⟨k + 1, by go_num, by omega, (fin _ _ r3).out, (fun i hi => by
          have : g2 = i := by simpa [Value.ownBlock] using hi
          omega), hfr3, hbox3⟩
        case measure => simp [intOf]; omega
    · have hkN : k = N := by omega
      have hin2 : InsAt wr u5 (l.filter fun p => p.1 != o.key) := by
        have e : l.take k = l := List.take_of_length_le (by rw [HN.out, hkN]; exact Nat.le_refl _)
        rw [e] at hin
        exact hin
      have hnl : (l.filter fun p => p.1 != o.key).length ≤ 1000 := by
        have h1 := List.length_filter_le (fun p : ByteArray × ByteArray => p.1 != o.key) l
        have h2 := HN.out
        omega
      have q0 : wr.cell? ⟨w.heap.size, 0, none⟩ = some (.int .i64 o.kind) := cellB hbox rfl
      have q1 : wr.cell? ⟨w.heap.size, 1, none⟩ = some (.string o.key) := cellB hbox rfl
      have q2 : wr.cell? ⟨w.heap.size, 2, none⟩ = some (.string o.val) := cellB hbox rfl
      clear hin hkN
      by_cases h0 : o.kind = 0
      · have h0' : (o.kind == 0) = true := by simpa using h0
        have fin : ∀ w3 v3, w3.ownsRow 0 40 2 v3 ((l.filter fun p => p.1 != o.key).length + 1) (flat (l.filter fun p => p.1 != o.key) ++ [.string o.key, .string o.val]) → Hid (InsAt w3 v3 (setL l o)) := by
          intro w3 v3 h3
          show InsAt _ _ _
          unfold setL InsAt
          rw [if_pos h0, flat_snoc, List.length_append]
          exact h3
        have hin3 : (wr.alloc (.cells #[.string o.key, .string o.val] 40)).ownsRow 0 40 2 u5 (l.filter fun p => p.1 != o.key).length (flat (l.filter fun p => p.1 != o.key)) := World.ownsRow.alloc hin2 _
        generalize hn : (l.filter fun p => p.1 != o.key).length = n at hnl hin3 fin
        generalize hf : flat (l.filter fun p => p.1 != o.key) = fl at hin3 fin
        clear hin2 hn hf h0
        go_wp2_with (first
          | (refine wpList_append_lies _ rfl _ _ 30 rfl 0 40 i0 (.agg #[.string ⟨#[]⟩, .string ⟨#[]⟩]) 2 32 Try.underlying30 hinf hzz hzs hzb rfl (by decide) u5 n fl (by rfl) hin3 _ 1 1 [.string o.key, .string o.val] (by rfl) rfl (cell_two_new _ _ _ _) (by simp [Value.oneCell']) (by decide) (by unfold maxLen; omega) (by omega) (Nat.zero_le _) _ rfl ?_; intro g2 cap w3 r3 gr3 at3 lt3)
          | fail)
        go_ret
        have hfr3 : Fr w w3 (fun _ => False) := (hfr.alloc _).grown gr3 (fun i hi => Or.inr (Nat.le_of_lt (hown i hi)))
        refine ⟨_, rfl, (fin _ _ r3).out, fun i hi => ?_, hfr3⟩
        have e : g2 = i := by simpa [Value.ownBlock] using hi
        subst e
        rcases at3 with e | e
        · exact Nat.le_of_lt (hown _ e)
        · rw [e, sizeA]; omega
      · have h0' : (o.kind == 0) = false := by simpa using h0
        have e : setL l o = l.filter fun p => p.1 != o.key := by unfold setL; rw [if_neg h0, List.append_nil]
        have fin : InsAt wr u5 (setL l o) := by rw [e]; exact hin2
        clear e h0 hin2
        go_wp2_with fail
        go_ret
        exact ⟨_, rfl, fin, fun g hg => Nat.le_of_lt (hown g hg), hfr⟩
end Go.Proofs.Ytelddnalpkhclaa
