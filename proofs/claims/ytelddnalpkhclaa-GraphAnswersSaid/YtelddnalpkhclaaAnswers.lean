/- GraphAnswers: the law's walk. -/
import Derived.Test.YtelddnalpkhclaaRefO
import Derived.Test.YtelddnalpkhclaaRooms
namespace Go.Proofs.Ytelddnalpkhclaa
open Go.RowKit Go.Maps G

theorem of_ok (l : List (K × K)) (hlen : l.length ≤ 1000) (hI : ∀ j v, lookL l j = some v → v.size ≤ 200) (lv : Value) : ∀ f, OfC l lv f
  | 0 => fun k ab av w _ _ _ hso _ hfu => by
    have h1 := hso.length
    unfold fuel at hfu
    omega
  | f + 1 => of_step l hlen hI lv f (of_ok l hlen hI lv f)
theorem of_top {l : List (K × K)} (hlen : l.length ≤ 1000) (hI : ∀ j v, lookL l j = some v → v.size ≤ 200) {lv : Value} {w : World} (h : InsAt w lv l) (k : K) :
    Calls Try.prog 20 #[lv, .string k, .slice none 0 0] w fun e w' => e = retO (ofA rt (lookL l) U k []) ∧ Fr w w' (fun _ => False) :=
  of_ok l hlen hI lv _ k [] _ w h (World.ownsRow_nil _ _ _ _) (fun _ => rfl) stack_nil (fun h => absurd rfl h) rfl

section
variable {gb : Nat} {room : Int} {B : Nat} {σ : St} {w : World}
theorem drop_at (h : Live gb room (fun b => B ≤ b) σ w) (hB : B ≤ w.heap.size) (k : K) (hk : k.size ≤ 1000) (hn0 : 0 ≤ σ.now) (hn : σ.now ≤ 1000000) :
    Calls Try.prog 17 #[.pointer (some ⟨gb, 0, none⟩), .string k] w fun e w' => e = .returned (.bool (σ.inp k).isSome) ∧ Live gb room (fun b => B ≤ b) (dropS σ k) w' ∧ Fr w w' (fun b => B ≤ b ∧ Kind w b) := by
  refine (live_drop h k hk hn0 hn).mono ?_
  rintro e w' ⟨rfl, hp⟩
  exact ⟨rfl, hp.base hB, hp.2⟩
theorem evict_at (h : Live gb room (fun b => B ≤ b) σ w) (hB : B ≤ w.heap.size) (k : K) (hk : k.size ≤ 1000) :
    Calls Try.prog 18 #[.pointer (some ⟨gb, 0, none⟩), .string k] w fun e w' => e = .returned (.bool (σ.memo k).isSome) ∧ Live gb room (fun b => B ≤ b) (dropM σ k) w' ∧ Fr w w' (fun b => B ≤ b ∧ Kind w b) := by
  refine (live_evict h k hk).mono ?_
  rintro e w' ⟨rfl, hp⟩
  exact ⟨rfl, hp.base hB, hp.2⟩
end

/-- the graph, the list, the step's own box -/
structure BoxA (B gb : Nat) (room : Int) (w0 : World) (lv : Value) (l : List (K × K)) (bx : Nat) (o : LOp) (σ : St) (w : World) : Prop where
  live : Live gb room (fun b => B ≤ b) σ w
  lst : InsAt w lv l
  fr : Fr w0 w (fun b => B ≤ b)
  box : w.heap[bx]? = some (.cells #[.int .i64 o.kind, .string o.key, .string o.val] 32 (0, 0))
section
variable {B gb : Nat} {room : Int} {w0 : World} {lv : Value} {l : List (K × K)} {bx : Nat} {o : LOp} {σ σ' : St} {w w' : World}
theorem BoxA.cell (h : BoxA B gb room w0 lv l bx o σ w) : w.cell? ⟨bx, 1, none⟩ = some (.string o.key) := cellB h.box rfl
theorem BoxA.kind (h : BoxA B gb room w0 lv l bx o σ w) : w.cell? ⟨bx, 0, none⟩ = some (.int .i64 o.kind) := cellB h.box rfl
theorem BoxA.val (h : BoxA B gb room w0 lv l bx o σ w) : w.cell? ⟨bx, 2, none⟩ = some (.string o.val) := cellB h.box rfl
theorem BoxA.next (h : BoxA B gb room w0 lv l bx o σ w) (ht : Live gb room (fun b => B ≤ b) σ' w') (hf : Fr w w' (fun b => B ≤ b ∧ Kind w b)) : BoxA B gb room w0 lv l bx o σ' w' :=
  ⟨ht, h.lst.live hf, h.fr.trans (hf.mono (fun _ h => h.1)), box_keep h.box hf⟩
theorem BoxA.world (h : BoxA B gb room w0 lv l bx o σ w) (hf : Fr w w' (fun _ => False)) : BoxA B gb room w0 lv l bx o σ w' :=
  ⟨h.live.same hf, h.lst.fr hf (fun _ _ => id), h.fr.trans (hf.mono (fun _ h => h.elim)), hf.block' h.box id⟩
end
/-- what is right of the graph's state and of the list -/
structure Right (room : Int) (k : Nat) (l : List (K × K)) (σ : St) : Prop where
  inv : G.Inv rt False σ
  sizes : Sizes σ
  now : 1 ≤ σ.now ∧ σ.now ≤ 1 + k
  len : l.length ≤ k
  same : σ.I = lookL l
  few : (σ.n : Int) ≤ room
theorem Right.next {room : Int} {k : Nat} {l : List (K × K)} {σ : St} (h : Right room k l σ) : Right room (k + 1) l σ :=
  ⟨h.inv, h.sizes, ⟨h.now.1, by have := h.now.2; omega⟩, Nat.le_succ_of_le h.len, h.same, h.few⟩
theorem Right.look {room : Int} {k : Nat} {l : List (K × K)} {σ : St} (h : Right room k l σ) : ∀ j v, lookL l j = some v → v.size ≤ 200 := by
  intro j v hj
  rw [← h.same] at hj
  exact h.sizes j v hj
theorem Right.set {room : Int} {k : Nat} {l : List (K × K)} {σ : St} (h : Right room k l σ) {o : LOp} (h0 : o.kind = 0) (hv : o.val.size ≤ 200) : Right room (k + 1) (setL l o) (setS σ o.key o.val) := by
  have m1 := setS_now σ o.key o.val
  have m2 := h.now
  have m3 := setL_length l o
  have m4 := h.len
  exact ⟨h.inv.set _ _, h.sizes.set _ hv, by omega, by omega, by rw [setS_I, lookL_set l h0, h.same], setS_few _ _ h.few⟩
theorem Right.drop {room : Int} {k : Nat} {l : List (K × K)} {σ : St} (h : Right room k l σ) {o : LOp} (h0 : ¬ o.kind = 0) : Right room (k + 1) (setL l o) (dropS σ o.key) := by
  have m1 := dropS_now σ o.key
  have m2 := h.now
  have m3 := setL_length l o
  have m4 := h.len
  exact ⟨h.inv.dropS _, h.sizes.drop _, by omega, by omega, by rw [dropS_I, lookL_drop l h0, h.same], dropS_few _ h.few⟩
theorem Right.evict {room : Int} {k : Nat} {l : List (K × K)} {σ : St} (h : Right room k l σ) (j : K) : Right room (k + 1) l (dropM σ j) :=
  ⟨h.inv.evict _, h.sizes, ⟨h.now.1, by have := h.now.2; show σ.now ≤ _; omega⟩, Nat.le_succ_of_le h.len, h.same, dropM_few _ h.few⟩
theorem Right.ask {room : Int} {k : Nat} {l : List (K × K)} {σ σ' : St} (h : Right room k l σ) {j : K} {r : Ans} (ha : AskR rt room 54 { σ with stack := [] } j r σ') : Right room (k + 1) l σ' := by
  obtain ⟨s, _⟩ := ask_top (big := False) (fun h => h.elim) h.inv ha
  have e1 : σ'.I = σ.I := s.I
  have t1 : σ'.now = σ.now := s.now
  have m2 := h.now
  refine ⟨s.inv, fun i v hi => ?_, by omega, Nat.le_succ_of_le h.len, e1.trans h.same, ask_few 54 _ _ _ _ ha h.few⟩
  rw [e1] at hi
  exact h.sizes i v hi

set_option maxRecDepth 100000 in
set_option maxHeartbeats 16000000 in
theorem answers_main (a : UInt8) (v0 : Value) (ops : List LOp) (w : World) (h0 : OpsAt w v0 ops) (hlen : ops.length ≤ 9223372036854775807) (hlight : lightB ops = true) :
    Calls Try.prog 6 #[.int .u8 a.toNat, v0] w fun e w' => e = .returned (.bool true) ∧ Below w.heap.size w w' := by
  have hra : (1 : Int) ≤ 1 + (a.toNat : Int) % 12 := by omega
  go_enter Try.func6, Try.ntmps6
  go_wp2_with fail
  refine (live_new hra w).mono ?_
  rintro e w2 ⟨ga, rfl, hl1, fr1⟩
  generalize 1 + (a.toNat : Int) % 12 = ra at hra hl1 ⊢
  obtain ⟨B, hB⟩ : ∃ B, w.heap.size = B := ⟨_, rfl⟩
  have z0 : w.heap.size ≤ B := by omega
  have z0' : B ≤ w.heap.size := by omega
  have hL2 : Live ga ra (fun b => B ≤ b) σnew w2 := hl1.mono (fun b hb => Nat.le_trans z0' hb.1)
  have fr12 : Fr w w2 (fun b => B ≤ b) := fr1.mono (fun _ h => h.elim)
  have hops : ∀ w', Fr w w' (fun b => B ≤ b) → OpsAt w' v0 ops := fun w' hf => h0.fr z0 hf
  clear hB hl1 fr1
  go_wp2_with fail
  refine (light_ok v0 ops w2 (hops w2 fr12) hlen).mono ?_
  rw [hlight]
  rintro e w3 ⟨rfl, fr3⟩
  have hR0 : Right ra 0 [] σnew := ⟨inv_new, Sizes.new, ⟨by decide, by decide⟩, Nat.le_refl _, rfl, by show (0 : Int) ≤ ra; omega⟩
  have hL3 := hL2.same fr3
  have fr13 := fr12.trans (fr3.mono (fun _ h => h.elim))
  have hI3 : InsAt w3 (.slice none 0 0) [] := World.ownsRow_nil _ _ _ _
  obtain ⟨sa, sc, hv0, _⟩ := h0.form
  clear hL2 fr12 fr3 hlen
  generalize hN : ops.length = N at hv0
  have HN := Lib.hid hN
  subst hv0
  clear hN
  go_upto_block 0 with (fail)
  go_cut [8] (fun _ wx => Fr w wx (fun b => B ≤ b))
  case first =>
    go_wp2_with fail
    go_loopw [8, 40] (fun lv i wr => ∃ (k : Nat) (l : List (K × K)) (σ : St), i = .int .i64 k ∧ k ≤ N ∧ k ≤ 40 ∧ Right ra k l σ ∧ Live ga ra (fun b => B ≤ b) σ wr ∧ InsAt wr lv l ∧ Fr w wr (fun b => B ≤ b)) (fun _ i _ => N - (intOf i).toNat)
    case atStart => exact ⟨0, [], σnew, rfl, Nat.zero_le _, Nat.zero_le _, hR0, hL3, hI3, fr13⟩
    case round =>
      clear hR0 hL3 hI3 fr13
      obtain ⟨k, l, σ, rfl, hk, hk40, hR, hLv, hin, hfr⟩ := hrel
      by_cases hlt : k < N
      · have hi : ∃ o, ops[k]? = some o := ⟨_, List.getElem?_eq_getElem (by rw [HN.out]; exact hlt)⟩
        obtain ⟨o, ho⟩ := hi
        obtain ⟨a', c', hv', hcell⟩ := (hops wr hfr).form
        obtain ⟨bb, off, hab, d0, d1, d2⟩ := hcell k o ho
        have hva : sa = some ⟨bb, off, none⟩ := by
          have e : sa = a' := by injection hv'
          rw [e, hab]
        subst hva
        obtain ⟨hok, hov⟩ := light_at hlight ho
        clear hv' hcell hab
        by_cases h40 : 40 ≤ k
        · have h40' : (40 : Int) ≤ k := by omega
          go_wp2
          go_meet
          exact hfr.alloc _
        · have h40' : (k : Int) < 40 := by omega
          clear ho
          have fa : ∀ x, Fr wr (wr.alloc x) (fun _ => False) := fun x => (Fr.refl wr _).alloc x
          have hbox : (wr.alloc (.cells #[.int .i64 o.kind, .string o.key, .string o.val] 32)).heap[wr.heap.size]? = some (.cells #[.int .i64 o.kind, .string o.key, .string o.val] 32 (0, 0)) := (MapKept.heap_alloc _ _).1
          have hX : BoxA B ga ra w u8 l wr.heap.size o σ (wr.alloc (.cells #[.int .i64 o.kind, .string o.key, .string o.val] 32)) := ⟨hLv.same (fa _), hin.fr (fa _) (fun _ _ => id), hfr.trans ((fa _).mono (fun _ h => h.elim)), hbox⟩
          have hk1 : o.key.size ≤ 1000 := Nat.le_trans hok (by decide)
          have n1 := hR.now
          have hlen := hR.len
          have HR := Lib.hid hR
          clear hLv hin hfr fa hbox hR
          have fin : ∀ (lv' : Value) (l' : List (K × K)) (σ' : St) (w' : World), Right ra (k + 1) l' σ' → BoxA B ga ra w lv' l' wr.heap.size o σ' w' → ∃ (k2 : Nat) (l2 : List (K × K)) (σ2 : St), Value.int .i64 ((k : Int) + 1) = .int .i64 k2 ∧ k2 ≤ N ∧ k2 ≤ 40 ∧ Right ra k2 l2 σ2 ∧ Live ga ra (fun b => B ≤ b) σ2 w' ∧ InsAt w' lv' l2 ∧ Fr w w' (fun b => B ≤ b) :=
            fun lv' l' σ' w' h1 h2 => ⟨k + 1, l', σ', by go_num, by omega, by omega, h1, h2.live, h2.lst, h2.fr⟩
          have Fin := Lib.hid fin
          clear fin
          by_cases hk0 : o.kind = 0
          · have q0 : (o.kind == 0) = true := by simpa using hk0
            have HK := Lib.hid hk0
            clear hk0
            go_wp2_with fail
            refine (set_ok u8 l o _ hX.lst (by omega)).mono ?_
            rintro e w4 ⟨v4, rfl, hin4, _, fr4⟩
            have hX4 := hX.world fr4
            have hl41 : (setL l o).length ≤ k + 1 := by have h1 := setL_length l o; omega
            clear hX fr4
            go_wp2_with fail
            refine (deep_ok v4 (setL l o) w4 hin4 (by omega)).mono ?_
            rintro e w5 ⟨d, rfl, fr5⟩
            have hX5 := hX4.world fr5
            have hin5 := hin4.fr fr5 (fun _ _ => id)
            clear hX4 hin4 fr5
            cases d with
            | false =>
              have hfew := HR.out.few
              go_wp2_with fail
              refine (live_known hX5.live).mono ?_
              rintro e w6 ⟨rfl, hw6⟩
              rw [hw6]
              go_wp2
              go_roundw
              case rel => exact Fin.out _ _ _ _ HR.out.next hX5
              case measure => simp [intOf]; omega
            | true =>
              have c1 := hX5.cell
              have c2 := hX5.val
              go_wp2_with fail
              refine (set_at hX5.live (Nat.le_trans z0' hX5.fr.size) o.key o.val hk1 (by omega) (by omega)).mono ?_
              rintro e w6 ⟨rfl, hT6, f6⟩
              have hX6 := hX5.next hT6 f6
              have hin6 := hin5.live f6
              have hR6 := HR.out.set HK.out (Nat.le_trans hov (by decide))
              have hfew := hR6.few
              clear c1 c2 hX5 hT6 f6 hin5
              go_wp2_with fail
              refine (live_known hX6.live).mono ?_
              rintro e w7 ⟨rfl, hw7⟩
              rw [hw7]
              go_wp2
              go_roundw
              case rel => exact Fin.out _ _ _ _ hR6 ⟨hX6.live, hin6, hX6.fr, hX6.box⟩
              case measure => simp [intOf]; omega
          · have q0 : (o.kind == 0) = false := by simpa using hk0
            have HK := Lib.hid hk0
            clear hk0
            by_cases hk1' : o.kind = 1
            · have q1 : (o.kind == 1) = true := by simpa using hk1'
              clear hk1'
              have hR6 := HR.out.drop HK.out
              have hfew := hR6.few
              have c1 := hX.cell
              go_wp2_with fail
              refine (find_ok u8 l o.key _ hX.lst (by omega)).mono ?_
              rintro e w4 ⟨r, rfl, hF, hw4⟩
              rw [hw4]
              clear hw4
              have key : ∃ b : Bool, (σ.inp o.key).isSome = b ∧ decide (0 ≤ r) = b := by
                rw [inp_isSome, HR.out.same]
                rcases hF with ⟨rfl, h1⟩ | ⟨i, v, rfl, _, h1⟩
                · exact ⟨false, by rw [h1]; rfl, by decide⟩
                · exact ⟨true, by rw [h1]; rfl, by simp⟩
              obtain ⟨b, hb1, hb2⟩ := key
              have hd := drop_at hX.live (Nat.le_trans z0' hX.fr.size) o.key hk1 (by omega) (by omega)
              rw [hb1] at hd
              clear hF hb1
              go_wp2_with fail
              refine hd.mono ?_
              rintro e w5 ⟨rfl, hT5, f5⟩
              have hX5 := hX.next hT5 f5
              clear hd hX hT5 f5 c1
              have hself : (b != b) = false := by simp
              have cA := hX5.kind
              have cB := hX5.cell
              have cC := hX5.val
              go_wp2_with fail
              refine (set_ok u8 l o _ hX5.lst (by omega)).mono ?_
              rintro e w6 ⟨v6, rfl, hin6, _, fr6⟩
              have hX6 := hX5.world fr6
              clear cA cB cC hX5 fr6
              go_wp2_with fail
              refine (live_known hX6.live).mono ?_
              rintro e w7 ⟨rfl, hw7⟩
              rw [hw7]
              go_wp2
              go_roundw
              case rel => exact Fin.out _ _ _ _ hR6 ⟨hX6.live, hin6, hX6.fr, hX6.box⟩
              case measure => simp [intOf]; omega
            · have q1 : (o.kind == 1) = false := by simpa using hk1'
              clear hk1'
              by_cases hk2 : o.kind = 2
              · have q2 : (o.kind == 2) = true := by simpa using hk2
                clear hk2
                have c1 := hX.cell
                go_wp2_with fail
                refine (ask_at hX.live (Nat.le_trans z0' hX.fr.size) hra (big := False) (fun h => h.elim) HR.out.inv HR.out.sizes o.key hk1).mono ?_
                rintro e w4 ⟨ans1, σ1, he, _, hr1, hT4, f4⟩
                have hX4 := hX.next hT4 f4
                have hof := ask_of HR.out.inv hr1
                rw [HR.out.same] at hof
                have hR4 := HR.out.ask hr1
                have hfew := hR4.few
                obtain ⟨s, er, hs⟩ := retB_form ans1
                rw [hs] at he hof
                subst he
                have Hof := Lib.hid hof
                clear hX hT4 f4 hs hof c1 hr1
                have c1 := hX4.cell
                have hlook := HR.out.look
                have hot := of_top (k := o.key) (show l.length ≤ 1000 by omega) hlook hX4.lst
                clear hlook
                go_wp2_with fail
                refine hot.mono ?_
                rintro e w5 ⟨he, f5⟩
                have he' : e = .returned (.tuple #[.string s, .int .i64 er]) := by rw [he, Hof.out]
                subst he'
                have hX5 := hX4.world f5
                have hself : (er != er) = false := by simp
                clear he hot hX4 f5 c1
                go_wp2_with fail
                refine (live_known hX5.live).mono ?_
                rintro e w7 ⟨rfl, hw7⟩
                rw [hw7]
                go_wp2
                go_roundw
                case rel => exact Fin.out _ _ _ _ hR4 hX5
                case measure => simp [intOf]; omega
              · have q2 : (o.kind == 2) = false := by simpa using hk2
                clear hk2
                by_cases hk3 : o.kind = 3
                · have q3 : (o.kind == 3) = true := by simpa using hk3
                  clear hk3
                  have c1 := hX.cell
                  have hR6 := HR.out.evict o.key
                  have hfew := hR6.few
                  go_wp2_with fail
                  refine (evict_at hX.live (Nat.le_trans z0' hX.fr.size) o.key hk1).mono ?_
                  rintro e w4 ⟨rfl, hT4, f4⟩
                  have hX4 := hX.next hT4 f4
                  clear hX hT4 f4 c1
                  go_wp2_with fail
                  refine (live_known hX4.live).mono ?_
                  rintro e w7 ⟨rfl, hw7⟩
                  rw [hw7]
                  go_wp2
                  go_roundw
                  case rel => exact Fin.out _ _ _ _ hR6 hX4
                  case measure => simp [intOf]; omega
                · have q3 : (o.kind == 3) = false := by simpa using hk3
                  clear hk3
                  have hfew := HR.out.few
                  go_wp2_with fail
                  refine (live_known hX.live).mono ?_
                  rintro e w7 ⟨rfl, hw7⟩
                  rw [hw7]
                  go_wp2
                  go_roundw
                  case rel => exact Fin.out _ _ _ _ HR.out.next hX
                  case measure => simp [intOf]; omega
      · go_wp2
        go_meet
        exact hfr
  case rest =>
  clear hR0 hL3 hI3 fr13
  go_wp2_with fail
  refine (awake_ok wc).mono ?_
  rintro e w5 ⟨rfl, hb5⟩
  have f5 : Fr wc w5 (fun b => B ≤ b) := ⟨hb5.os, hb5.tape, hb5.output, hb5.size, fun b hlt _ => hb5.block b hlt⟩
  have g5 := hcut.trans f5
  go_wp2
  go_ret
  exact ⟨rfl, g5.below (Nat.le_refl _) (fun i hi => Nat.le_trans z0 hi)⟩
end Go.Proofs.Ytelddnalpkhclaa
