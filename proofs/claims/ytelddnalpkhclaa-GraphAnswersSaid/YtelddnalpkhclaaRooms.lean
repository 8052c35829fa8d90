/- GraphRooms: the law's walk. -/
import Derived.Test.YtelddnalpkhclaaTwo
import Derived.Deep.RegionHeld3
import Derived.Deep.DeepCutAuto
import Derived.Deep.CutBlock
namespace Go.Proofs.Ytelddnalpkhclaa
open Go.RowKit Go.Maps G

theorem retB_form (r : Ans) : ∃ s er, retB r = .returned (.tuple #[.string s, .int .i64 er]) := by
  cases r with
  | ok s t => exact ⟨s, 0, rfl⟩
  | err e => exact ⟨⟨#[]⟩, e, rfl⟩
theorem same_ret {r1 r2 : Ans} (h : (∃ s t t', r1 = .ok s t ∧ r2 = .ok s t') ∨ ∃ e, r1 = .err e ∧ r2 = .err e) : retB r2 = retB r1 := by
  rcases h with ⟨s, t, t', rfl, rfl⟩ | ⟨e, rfl, rfl⟩ <;> rfl
theorem box_keep {B b : Nat} {w w' : World} {cs : Array Value} (h : w.heap[b]? = some (.cells cs 32 (0, 0))) (hf : Fr w w' (fun b => B ≤ b ∧ Kind w b)) : w'.heap[b]? = some (.cells cs 32 (0, 0)) := by
  refine hf.block' h (fun hb => ?_)
  rcases hb.2 _ _ _ h with e | e | e <;> cases e

/-- two graphs, the list, the step's own box -/
structure Box (B g1 : Nat) (r1 : Int) (g2 : Nat) (r2 : Int) (w0 : World) (lv : Value) (l : List (ByteArray × ByteArray)) (bx : Nat) (o : LOp) (σ τ : St) (w : World) : Prop where
  two : Two B g1 r1 g2 r2 σ τ w
  lst : InsAt w lv l
  fr : Fr w0 w (fun b => B ≤ b)
  box : w.heap[bx]? = some (.cells #[.int .i64 o.kind, .string o.key, .string o.val] 32 (0, 0))
section
variable {B g1 g2 : Nat} {r1 r2 : Int} {w0 : World} {lv : Value} {l : List (ByteArray × ByteArray)} {bx : Nat} {o : LOp} {σ τ σ' τ' : St} {w w' : World}
theorem Box.cell (h : Box B g1 r1 g2 r2 w0 lv l bx o σ τ w) : w.cell? ⟨bx, 1, none⟩ = some (.string o.key) := cellB h.box rfl
theorem Box.kind (h : Box B g1 r1 g2 r2 w0 lv l bx o σ τ w) : w.cell? ⟨bx, 0, none⟩ = some (.int .i64 o.kind) := cellB h.box rfl
theorem Box.val (h : Box B g1 r1 g2 r2 w0 lv l bx o σ τ w) : w.cell? ⟨bx, 2, none⟩ = some (.string o.val) := cellB h.box rfl
theorem Box.next (h : Box B g1 r1 g2 r2 w0 lv l bx o σ τ w) (ht : Two B g1 r1 g2 r2 σ' τ' w') (hf : Fr w w' (fun b => B ≤ b ∧ Kind w b)) : Box B g1 r1 g2 r2 w0 lv l bx o σ' τ' w' :=
  ⟨ht, h.lst.live hf, h.fr.trans (hf.mono (fun _ h => h.1)), box_keep h.box hf⟩
theorem Box.world (h : Box B g1 r1 g2 r2 w0 lv l bx o σ τ w) (hf : Fr w w' (fun _ => False)) : Box B g1 r1 g2 r2 w0 lv l bx o σ τ w' :=
  ⟨h.two.world hf, h.lst.fr hf (fun _ _ => id), h.fr.trans (hf.mono (fun _ h => h.elim)), hf.block' h.box id⟩
end

set_option maxRecDepth 100000 in
set_option maxHeartbeats 16000000 in
theorem rooms_main (a b : UInt8) (v0 : Value) (ops : List LOp) (w : World) (h0 : OpsAt w v0 ops) (hlen : ops.length ≤ 9223372036854775807) (hlight : lightB ops = true) :
    Calls Try.prog 5 #[.int .u8 a.toNat, .int .u8 b.toNat, v0] w fun e w' => e = .returned (.bool true) ∧ Below w.heap.size w w' := by
  have hra : (1 : Int) ≤ 1 + (a.toNat : Int) % 12 := by omega
  have hrb : (1 : Int) ≤ 1 + (b.toNat : Int) % 12 := by omega
  go_enter Try.func5, Try.ntmps5
  go_wp2_with fail
  refine (live_new hra w).mono ?_
  rintro e w1 ⟨ga, rfl, hl1, fr1⟩
  go_wp2_with fail
  refine (live_new hrb w1).mono ?_
  rintro e w2 ⟨gh, rfl, hl2, fr2⟩
  generalize 1 + (a.toNat : Int) % 12 = ra at hra hl1 ⊢
  generalize 1 + (b.toNat : Int) % 12 = rb at hrb hl2 ⊢
  obtain ⟨B, hB⟩ : ∃ B, w.heap.size = B := ⟨_, rfl⟩
  have z0 : w.heap.size ≤ B := by omega
  have z0' : B ≤ w.heap.size := by omega
  have hT2 : Two B ga ra gh rb σnew σnew w2 := by
    refine ⟨_, _, hl1.same fr2, hl2, fun i hi => ?_, fun i hi => ?_, fun i h1 h2 => ?_, ?_⟩
    · exact ⟨Nat.le_trans z0' hi.1, Nat.lt_of_lt_of_le hi.2 fr2.size⟩
    · exact ⟨Nat.le_trans z0' (Nat.le_trans fr1.size hi.1), hi.2⟩
    · exact absurd h1.2 (Nat.not_lt.2 h2.1)
    · exact Nat.le_trans z0' (Nat.le_trans fr1.size fr2.size)
  have fr12 : Fr w w2 (fun b => B ≤ b) := (fr1.trans fr2).mono (fun _ h => h.elim)
  have hops : ∀ w', Fr w w' (fun b => B ≤ b) → OpsAt w' v0 ops := fun w' hf => h0.fr z0 hf
  clear hB hl1 hl2 fr1 fr2
  go_wp2_with fail
  refine (light_ok v0 ops w2 (hops w2 fr12) hlen).mono ?_
  rw [hlight]
  rintro e w3 ⟨rfl, fr3⟩
  have hW0 : Walk2 B ga ra gh rb w 0 (.slice none 0 0) [] σnew σnew w3 := ⟨hT2.world fr3, inv_new, inv_new, rfl, Sizes.new, ⟨by decide, by decide⟩, ⟨by decide, by decide⟩, World.ownsRow_nil _ _ _ _, Nat.le_refl _, fr12.trans (fr3.mono (fun _ h => h.elim))⟩
  obtain ⟨sa, sc, hv0, _⟩ := h0.form
  clear hT2 fr12 fr3 hlen
  generalize hN : ops.length = N at hv0
  have HN := Lib.hid hN
  subst hv0
  clear hN
  go_upto_block 0 with (fail)
  go_cut [11] (fun _ wx => Fr w wx (fun b => B ≤ b))
  case first =>
    go_wp2_with fail
    go_loopw [11, 57] (fun lv i wr => ∃ (k : Nat) (l : List (ByteArray × ByteArray)) (σ τ : St), i = .int .i64 k ∧ k ≤ N ∧ k ≤ 40 ∧ Walk2 B ga ra gh rb w k lv l σ τ wr) (fun _ i _ => N - (intOf i).toNat)
    case atStart => exact ⟨0, [], σnew, σnew, rfl, Nat.zero_le _, Nat.zero_le _, hW0⟩
    case round =>
      clear hW0
      obtain ⟨k, l, σ, τ, rfl, hk, hk40, hW⟩ := hrel
      by_cases hlt : k < N
      · have hi : ∃ o, ops[k]? = some o := ⟨_, List.getElem?_eq_getElem (by rw [HN.out]; exact hlt)⟩
        obtain ⟨o, ho⟩ := hi
        obtain ⟨a', c', hv', hcell⟩ := (hops wr hW.fr).form
        obtain ⟨bb, off, hab, d0, d1, d2⟩ := hcell k o ho
        have hva : sa = some ⟨bb, off, none⟩ := by
          have e : sa = a' := by injection hv'
          rw [e, hab]
        subst hva
        obtain ⟨hok, hov⟩ := light_at hlight ho
        clear hv' hcell hab
        by_cases h40 : 40 ≤ k
        · have h40' : (40 : Int) ≤ k := by omega
          go_wp2
          go_meet
          exact (hW.world ((Fr.refl wr _).alloc _)).fr
        · have h40' : (k : Int) < 40 := by omega
          clear ho
          have fa : ∀ x, Fr wr (wr.alloc x) (fun _ => False) := fun x => (Fr.refl wr _).alloc x
          have hbox : (wr.alloc (.cells #[.int .i64 o.kind, .string o.key, .string o.val] 32)).heap[wr.heap.size]? = some (.cells #[.int .i64 o.kind, .string o.key, .string o.val] 32 (0, 0)) := (MapKept.heap_alloc _ _).1
          have hX : Box B ga ra gh rb w u11 l wr.heap.size o σ τ (wr.alloc (.cells #[.int .i64 o.kind, .string o.key, .string o.val] 32)) := ⟨hW.two.world (fa _), hW.lst.fr (fa _) (fun _ _ => id), hW.fr.trans ((fa _).mono (fun _ h => h.elim)), hbox⟩
          have hk1 : o.key.size ≤ 1000 := Nat.le_trans hok (by decide)
          have n1 := hW.now1
          have n2 := hW.now2
          have hlen := hW.len
          have i1 := hW.inv1
          have i2 := hW.inv2
          have v1 := hW.sizes
          have v2 := hW.sizes2
          have hI := Lib.hid hW.same
          clear hW fa hbox
          by_cases hk0 : o.kind = 0
          · have q0 : (o.kind == 0) = true := by simpa using hk0
            clear hk0
            go_wp2_with fail
            refine (set_ok u11 l o _ hX.lst (by omega)).mono ?_
            rintro e w4 ⟨v4, rfl, hin4, _, fr4⟩
            have hX4 := hX.world fr4
            have hl41 : (setL l o).length ≤ k + 1 := by have h1 := setL_length l o; omega
            clear hX fr4
            go_wp2_with fail
            refine (deep_ok v4 (setL l o) w4 hin4 (by omega)).mono ?_
            rintro e w5 ⟨d, rfl, fr5⟩
            have hX5 := hX4.world fr5
            have hin5 := hin4.fr fr5 (fun _ _ => id)
            clear hX4 hin4 fr5
            cases d with
            | false =>
              go_wp2
              go_roundw
              case rel => exact ⟨k + 1, l, σ, τ, by go_num, by omega, by omega, Walk2.next ⟨hX5.two, i1, i2, hI.out, v1, n1, n2, hX5.lst, hlen, hX5.fr⟩⟩
              case measure => simp [intOf]; omega
            | true =>
              have c1 := hX5.cell
              have c2 := hX5.val
              go_wp2_with fail
              refine (two_set hX5.two o.key o.val hk1 (by omega) (by omega)).mono ?_
              rintro e w6 ⟨rfl, hT6, f6⟩
              have hX6 := hX5.next hT6 f6
              have hin6 := hin5.live f6
              clear c1 c2 hX5 hT6 f6 hin5
              have c1 := hX6.cell
              have c2 := hX6.val
              go_wp2_with fail
              refine (two_set hX6.two.symm o.key o.val hk1 (by omega) (by omega)).mono ?_
              rintro e w7 ⟨rfl, hT7, f7⟩
              have hX7 := hX6.next hT7.symm f7
              have hin7 := hin6.live f7
              have m1 := setS_now σ o.key o.val
              have m2 := setS_now τ o.key o.val
              clear c1 c2 hX6 hT7 f7 hin6
              go_wp2
              go_roundw
              case rel => exact ⟨k + 1, _, _, _, by go_num, by omega, by omega, ⟨hX7.two, i1.set _ _, i2.set _ _, by rw [setS_I, setS_I, hI.out], v1.set _ (Nat.le_trans hov (by decide)), by omega, by omega, hin7, hl41, hX7.fr⟩⟩
              case measure => simp [intOf]; omega
          · have q0 : (o.kind == 0) = false := by simpa using hk0
            clear hk0
            by_cases hk1' : o.kind = 1
            · have q1 : (o.kind == 1) = true := by simpa using hk1'
              clear hk1'
              go_upto_region 18 with (fail)
              have D1 : ∀ (τ' : St) (wx : World), Box B ga ra gh rb w u11 l wr.heap.size o σ τ' wx → Calls Try.prog 17 #[.pointer (some ⟨ga, 0, none⟩), .string o.key] wx fun e w' => e = .returned (.bool (σ.I o.key).isSome) ∧ Box B ga ra gh rb w u11 l wr.heap.size o (dropS σ o.key) τ' w' := by
                intro τ' wx hx
                refine (two_drop hx.two o.key hk1 (by omega) (by omega)).mono ?_
                rintro e w' ⟨rfl, h1, h2⟩
                exact ⟨by rw [inp_isSome], hx.next h1 h2⟩
              have D2 : ∀ (σ' : St) (wx : World), Box B ga ra gh rb w u11 l wr.heap.size o σ' τ wx → Calls Try.prog 17 #[.pointer (some ⟨gh, 0, none⟩), .string o.key] wx fun e w' => e = .returned (.bool (σ.I o.key).isSome) ∧ Box B ga ra gh rb w u11 l wr.heap.size o σ' (dropS τ o.key) w' := by
                intro σ' wx hx
                refine (two_drop hx.two.symm o.key hk1 (by omega) (by omega)).mono ?_
                rintro e w' ⟨rfl, h1, h2⟩
                exact ⟨by rw [inp_isSome, hI.out], hx.next h1.symm h2⟩
              have hXd := hX.world (Fr.refl _ _).drew
              have c0 := hXd.cell
              have m1 := dropS_now σ o.key
              have m2 := dropS_now τ o.key
              have hl41 : (setL l o).length ≤ k + 1 := by have h1 := setL_length l o; omega
              generalize (σ.I o.key).isSome = bo at D1 D2
              clear hX
              go_region_held3 (fun w' => w'.cell? ⟨wr.heap.size, 1, none⟩ = some (.string o.key)) (first | exact cD | exact c0) (first | (go_at_call_of 17 (Value.pointer (some ⟨ga, 0, none⟩)); refine (D1 _ _ (by first | exact hQD | exact hXd)).mono ?_; rintro e wD ⟨rfl, hQD⟩; have cD := hQD.cell) | (go_at_call_of 17 (Value.pointer (some ⟨gh, 0, none⟩)); refine (D2 _ _ (by first | exact hQD | exact hXd)).mono ?_; rintro e wD ⟨rfl, hQD⟩; have cD := hQD.cell))
              all_goals
                have hself : (bo != bo) = false := by simp
                have cA := hQD.kind
                have cC := hQD.val
                go_wp2_with fail
                refine (set_ok u11 l o _ hQD.lst (by omega)).mono ?_
                rintro e w4 ⟨v4, rfl, hin4, _, fr4⟩
                have hX4 := hQD.world fr4
                go_wp2
                go_roundw
                case rel => exact ⟨k + 1, _, _, _, by go_num, by omega, by omega, ⟨hX4.two, i1.dropS _, i2.dropS _, by rw [dropS_I, dropS_I, hI.out], v1.drop _, by omega, by omega, hin4, hl41, hX4.fr⟩⟩
                case measure => simp [intOf]; omega
            · have q1 : (o.kind == 1) = false := by simpa using hk1'
              clear hk1'
              by_cases hk2 : o.kind = 2
              · have q2 : (o.kind == 2) = true := by simpa using hk2
                clear hk2
                go_wp2_with fail
                refine (two_ask hX.two hra i1 v1 o.key hk1).mono ?_
                rintro e w4 ⟨ans1, σ1, he, _, hr1, hT4, f4⟩
                have hX4 := hX.next hT4 f4
                obtain ⟨s, er, hs⟩ := retB_form ans1
                rw [hs] at he
                subst he
                have Hs := Lib.hid hs
                clear hX hT4 f4 hs
                have c1 := hX4.cell
                go_wp2_with fail
                refine (two_ask hX4.two.symm hrb i2 v2 o.key hk1).mono ?_
                rintro e w5 ⟨ans2, τ1, he, _, hr2, hT5, f5⟩
                have hX5 := hX4.next hT5.symm f5
                have hsame := same_ret (same_ans (big := False) (big' := False) (fun h => h.elim) (fun h => h.elim) i1 i2 hI.out hr1 hr2)
                have he' : e = .returned (.tuple #[.string s, .int .i64 er]) := by rw [he, hsame, Hs.out]
                subst he'
                obtain ⟨s1, _⟩ := ask_top (big := False) (fun h => h.elim) i1 hr1
                obtain ⟨s2, _⟩ := ask_top (big := False) (fun h => h.elim) i2 hr2
                have e1 : σ1.I = σ.I := s1.I
                have e2 : τ1.I = τ.I := s2.I
                have t1 : σ1.now = σ.now := s1.now
                have t2 : τ1.now = τ.now := s2.now
                have hz1 : Sizes σ1 := by
                  intro j v hj
                  rw [e1] at hj
                  exact v1 j v hj
                have hI1 : Hid (σ1.I = τ1.I) := by show _ = _; rw [e1, e2, hI.out]
                have p1 : 1 ≤ σ1.now ∧ σ1.now ≤ 1 + k := by omega
                have p2 : 1 ≤ τ1.now ∧ τ1.now ≤ 1 + k := by omega
                have j1 := s1.inv
                have j2 := s2.inv
                have hself : (er != er) = false := by simp
                clear he hr1 hr2 hsame s1 s2 e1 e2 t1 t2 hX4 hT5 f5 c1 Hs n1 n2 v1 v2 i1 i2 hI
                go_wp2
                go_roundw
                case rel => exact ⟨k + 1, l, σ1, τ1, by go_num, by omega, by omega, Walk2.next ⟨hX5.two, j1, j2, hI1.out, hz1, p1, p2, hX5.lst, hlen, hX5.fr⟩⟩
                case measure => simp [intOf]; omega
              · have q2 : (o.kind == 2) = false := by simpa using hk2
                clear hk2
                by_cases hk3 : o.kind = 3
                · have q3 : (o.kind == 3) = true := by simpa using hk3
                  clear hk3
                  go_wp2_with fail
                  refine (two_evict hX.two o.key hk1).mono ?_
                  rintro e w4 ⟨rfl, hT4, f4⟩
                  have hX4 := hX.next hT4 f4
                  clear hX hT4 f4
                  go_wp2
                  go_roundw
                  case rel => exact ⟨k + 1, l, dropM σ o.key, τ, by go_num, by omega, by omega, Walk2.next ⟨hX4.two, i1.evict _, i2, hI.out, v1, n1, n2, hX4.lst, hlen, hX4.fr⟩⟩
                  case measure => simp [intOf]; omega
                · have q3 : (o.kind == 3) = false := by simpa using hk3
                  clear hk3
                  go_wp2
                  go_roundw
                  case rel => exact ⟨k + 1, l, σ, τ, by go_num, by omega, by omega, Walk2.next ⟨hX.two, i1, i2, hI.out, v1, n1, n2, hX.lst, hlen, hX.fr⟩⟩
                  case measure => simp [intOf]; omega
      · go_wp2
        go_meet
        exact hW.fr
  case rest =>
  clear hW0
  go_wp2_with fail
  refine (awake_ok wc).mono ?_
  rintro e w5 ⟨rfl, hb5⟩
  have f5 : Fr wc w5 (fun b => B ≤ b) := ⟨hb5.os, hb5.tape, hb5.output, hb5.size, fun b hlt _ => hb5.block b hlt⟩
  have g5 := hcut.trans f5
  go_wp2
  go_ret
  exact ⟨rfl, g5.below (Nat.le_refl _) (fun i hi => Nat.le_trans z0 hi)⟩
end Go.Proofs.Ytelddnalpkhclaa
