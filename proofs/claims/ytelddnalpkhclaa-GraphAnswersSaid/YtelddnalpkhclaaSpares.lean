/- GraphSpares: the law's walk. -/
import Derived.Test.YtelddnalpkhclaaSpP
import Derived.Deep.DeepCutAuto
import Derived.Deep.CutBlock
namespace Go.Proofs.Ytelddnalpkhclaa
open Go.RowKit Go.Maps G

theorem OpsAt.fr {w w' : World} {v : Value} {ops : List LOp} (h : OpsAt w v ops) {B : Nat} (hB : w.heap.size ≤ B) (hf : Fr w w' (fun b => B ≤ b)) : OpsAt w' v ops := by
  rcases h with h0 | ⟨b, off, c, rfl, hc⟩
  · exact Or.inl h0
  · refine Or.inr ⟨b, off, c, rfl, fun i o ho => ?_⟩
    obtain ⟨c0, c1, c2⟩ := hc i o ho
    have hlt : b < w.heap.size := World.block_lt_of_cell? _ _ c0
    have hb := hf.block b hlt (by omega)
    exact ⟨(World.cell?_of_block hb (a := ⟨b, off + i * 3, none⟩)).trans c0, (World.cell?_of_block hb (a := ⟨b, off + i * 3 + 1, none⟩)).trans c1, (World.cell?_of_block hb (a := ⟨b, off + i * 3 + 2, none⟩)).trans c2⟩
theorem InsAt.live {w w' : World} {v : Value} {l : List (ByteArray × ByteArray)} (h : InsAt w v l) {F : Nat → Prop} (hf : Fr w w' (fun b => F b ∧ Kind w b)) : InsAt w' v l := by
  refine h.fr hf (fun g hg hk => ?_)
  obtain ⟨_, hc⟩ := ownsRow_cells h hg
  rcases hk.2 _ _ _ hc with e | e | e <;> cases e
theorem light_at {ops : List LOp} (h : lightB ops = true) {i : Nat} {o : LOp} (ho : ops[i]? = some o) : o.key.size ≤ 20 ∧ o.val.size ≤ 12 := by
  have h1 := List.all_eq_true.1 h o (List.mem_of_getElem? ho)
  simp at h1
  exact h1
def nobody : ByteArray := ⟨#[110, 111, 98, 111, 100, 121, 32, 101, 118, 101, 114, 32, 97, 115, 107, 115, 32, 102, 111, 114, 32, 116, 104, 105, 115, 32, 107, 101, 121]⟩

/-- what holds of the graph and of the list while steps are taken -/
structure Walk (B : Nat) (gb : Nat) (w0 : World) (k : Nat) (lv : Value) (l : List (ByteArray × ByteArray)) (σ : St) (w : World) : Prop where
  live : Live gb 1000 (fun b => B ≤ b) σ w
  inv : G.Inv rt True σ
  sizes : Sizes σ
  short : Short σ
  now : 1 ≤ σ.now ∧ σ.now ≤ 1 + k
  lst : InsAt w lv l
  len : l.length ≤ k
  lin : LIn l σ
  fr : Fr w0 w (fun b => B ≤ b)

theorem Walk.world {B gb : Nat} {w0 : World} {k : Nat} {lv : Value} {l : List (ByteArray × ByteArray)} {σ : St} {w w' : World} (h : Walk B gb w0 k lv l σ w) (hf : Fr w w' (fun _ => False)) : Walk B gb w0 k lv l σ w' :=
  ⟨h.live.same hf, h.inv, h.sizes, h.short, h.now, h.lst.fr hf (fun _ _ => id), h.len, h.lin, h.fr.trans (hf.mono (fun _ h => h.elim))⟩
theorem Walk.next {B gb : Nat} {w0 : World} {k : Nat} {lv : Value} {l : List (ByteArray × ByteArray)} {σ : St} {w : World} (h : Walk B gb w0 k lv l σ w) : Walk B gb w0 (k + 1) lv l σ w :=
  ⟨h.live, h.inv, h.sizes, h.short, ⟨h.now.1, by have := h.now.2; omega⟩, h.lst, Nat.le_succ_of_le h.len, h.lin, h.fr⟩

set_option maxRecDepth 100000 in
set_option maxHeartbeats 8000000 in
theorem spares_main (v0 : Value) (ops : List LOp) (key : ByteArray) (w : World) (h0 : OpsAt w v0 ops) (hlen : ops.length ≤ 9223372036854775807) (hlight : lightB ops = true) (hkey : key.size ≤ 20) :
    Calls Try.prog 3 #[v0, .string key] w fun e w' => e = .returned (.bool true) ∧ Below w.heap.size w w' := by
  have hk20 : (key.size : Int) ≤ 20 := by omega
  go_enter Try.func3, Try.ntmps3
  go_wp2_with fail
  refine (light_ok v0 ops w h0 hlen).mono ?_
  rw [hlight]
  rintro e w1 ⟨rfl, fr1⟩
  go_wp2_with fail
  refine (live_new (room := 1000) (by decide) w1).mono ?_
  rintro e w2 ⟨gb, rfl, hl, fr2⟩
  obtain ⟨B, hB⟩ : ∃ B, w.heap.size = B := ⟨_, rfl⟩
  have z0 : w.heap.size ≤ B := by omega
  have z0' : B ≤ w.heap.size := by omega
  clear hB
  have hW0 : Walk B gb w 0 (.slice none 0 0) [] σnew w2 := ⟨hl.mono (fun b hb => Nat.le_trans z0' (Nat.le_trans fr1.size hb.1)), inv_new, Sizes.new, (fun k hk => absurd rfl hk), ⟨by decide, by decide⟩, World.ownsRow_nil _ _ _ _, Nat.le_refl _, (fun p hp => by cases hp), (fr1.trans fr2).mono (fun _ h => h.elim)⟩
  have hops : ∀ w', Fr w w' (fun b => B ≤ b) → OpsAt w' v0 ops := fun w' hf => h0.fr z0 hf
  obtain ⟨a, c, hv0, _⟩ := h0.form
  clear hl fr1 fr2
  generalize hN : ops.length = N at hlen hv0
  have HN := Lib.hid hN
  subst hv0
  clear hN
  go_upto_block 0 with (fail)
  go_cut [7] (fun lv wx => ∃ k l σ, Walk B gb w k lv l σ wx ∧ k ≤ 40)
  case first =>
    go_wp2_with fail
    go_loopw [7, 35] (fun lv i wr => ∃ (k : Nat) (l : List (ByteArray × ByteArray)) (σ : St), i = .int .i64 k ∧ k ≤ N ∧ k ≤ 40 ∧ Walk B gb w k lv l σ wr) (fun _ i _ => N - (intOf i).toNat)
    case atStart => exact ⟨0, [], σnew, rfl, Nat.zero_le _, Nat.zero_le _, hW0⟩
    case round =>
      clear hW0
      obtain ⟨k, l, σ, rfl, hk, hk40, hW⟩ := hrel
      by_cases hlt : k < N
      · have hi : ∃ o, ops[k]? = some o := ⟨_, List.getElem?_eq_getElem (by rw [HN.out]; exact hlt)⟩
        obtain ⟨o, ho⟩ := hi
        obtain ⟨a', c', hv', hcell⟩ := (hops wr hW.fr).form
        obtain ⟨b, off, hab, d0, d1, d2⟩ := hcell k o ho
        have hva : a = some ⟨b, off, none⟩ := by
          have e : a = a' := by injection hv'
          rw [e, hab]
        subst hva
        obtain ⟨hok, hov⟩ := light_at hlight ho
        clear hv' hcell hab
        by_cases h40 : 40 ≤ k
        · have h40' : (40 : Int) ≤ k := by omega
          go_wp2
          go_meet
          exact ⟨k, l, σ, hW.world ((Fr.refl wr _).alloc _), hk40⟩
        · have h40' : (k : Int) < 40 := by omega
          clear ho
          go_wp2_with fail
          have fa : ∀ x, Fr wr (wr.alloc x) (fun _ => False) := fun x => (Fr.refl wr _).alloc x
          refine (set_ok u7 l o _ (hW.lst.fr (fa _) (fun _ _ => id)) (by have := hW.len; omega)).mono ?_
          rintro e w3 ⟨v3, rfl, hin3, hfresh, fr3⟩
          have hW3 : Walk B gb w k u7 l σ w3 := (hW.world (fa _)).world fr3
          have hbox3 : w3.heap[wr.heap.size]? = some (.cells #[.int .i64 o.kind, .string o.key, .string o.val] 32 (0, 0)) := fr3.block' (MapKept.heap_alloc _ _).1 id
          have q0 : w3.cell? ⟨wr.heap.size, 0, none⟩ = some (.int .i64 o.kind) := cellB hbox3 rfl
          clear hW fa fr3
          by_cases hk0 : o.kind = 0
          · have hk0' : (o.kind == 0) = true := by simpa using hk0
            have hk0h := Lib.hid hk0
            clear hk0
            have hkz := hk0h.out
            have hl41 : (setL l o).length ≤ 1000 := by have h1 := setL_length l o; have h2 := hW3.len; omega
            clear hkz
            go_wp2_with fail
            refine (deep_ok v3 (setL l o) w3 hin3 hl41).mono ?_
            rintro e w4 ⟨d, rfl, fr4⟩
            have hW4 := hW3.world fr4
            have hin4 : InsAt w4 v3 (setL l o) := hin3.fr fr4 (fun _ _ => id)
            have hbox4 := fr4.block' hbox3 id
            have q1 : w4.cell? ⟨wr.heap.size, 1, none⟩ = some (.string o.key) := cellB hbox4 rfl
            have q2 : w4.cell? ⟨wr.heap.size, 2, none⟩ = some (.string o.val) := cellB hbox4 rfl
            clear hW3 hin3 hbox3 fr4
            cases d with
            | false =>
              go_wp2
              go_roundw
              case rel => exact ⟨k + 1, l, σ, by go_num, by omega, by omega, hW4.next⟩
              case measure => simp [intOf]; omega
            | true =>
              go_wp2_with fail
              refine (set_at hW4.live (Nat.le_trans z0' hW4.fr.size) o.key o.val (Nat.le_trans hok (by decide)) (by have := hW4.now; omega) (by have := hW4.now; omega)).mono ?_
              rintro e w5 ⟨rfl, hl5, fr5⟩
              have hn := setS_now σ o.key o.val
              have hW5 : Walk B gb w (k + 1) v3 (setL l o) (setS σ o.key o.val) w5 :=
                ⟨hl5, hW4.inv.set _ _, hW4.sizes.set _ (Nat.le_trans hov (by decide)), hW4.short.set hok, ⟨by have := hW4.now; omega, by have := hW4.now; omega⟩, hin4.live fr5, by have h1 := setL_length l o; have h2 := hW4.len; omega, hW4.lin.set hk0h.out, hW4.fr.trans (fr5.mono (fun _ h => h.1))⟩
              clear hW4 hn hin4
              go_wp2
              go_roundw
              case rel => exact ⟨k + 1, _, _, by go_num, by omega, by omega, hW5⟩
              case measure => simp [intOf]; omega
          · have hk0' : (o.kind == 0) = false := by simpa using hk0
            clear hk0
            go_wp2
            go_roundw
            case rel => exact ⟨k + 1, l, σ, by go_num, by omega, by omega, hW3.next⟩
            case measure => simp [intOf]; omega
      · go_wp2
        go_meet
        exact ⟨k, l, σ, hW, hk40⟩
  case rest =>
  obtain ⟨k, l, σ, hW, hk40⟩ := hcut
  clear hW0 hops HN hlight
  have hB26 : True → (26 : Int) ≤ 1000 := fun _ => by decide
  have zc := Nat.le_trans z0' hW.fr.size
  go_wp2_with fail
  refine (ask_at hW.live zc (by decide) hB26 hW.inv hW.sizes key (Nat.le_trans hkey (by decide))).mono ?_
  rintro e w3 ⟨r1, σ1, he, herr1, hr1, hl3, f3⟩
  obtain ⟨s1, a1⟩ := ask_top hB26 hW.inv hr1
  have hI1 : σ1.I = σ.I := s1.I
  have hz1 : Sizes σ1 := by
    intro j v hj
    rw [hI1] at hj
    exact hW.sizes j v hj
  have hn1 : σ1.now = σ.now := s1.now
  have hi1 : σ1.inp = σ.inp := s1.inp
  have hin3 := hW.lst.live f3
  have g3 : Fr w w3 (fun b => B ≤ b) := hW.fr.trans (f3.mono (fun _ h => h.1))
  have z3 := Nat.le_trans z0' g3.size
  have hask2 := ask_at hl3 z3 (by decide) hB26 s1.inv hz1 key (Nat.le_trans hkey (by decide))
  have hpl := fun r2 σ2 (h2 : AskR rt 1000 54 { σ1 with stack := [] } key r2 σ2) => spares_plain (by decide) hW.inv hr1 h2
  cases r1 with
  | err er =>
    have he' : e = .returned (.tuple #[.string ⟨#[]⟩, .int .i64 er]) := he
    subst he'
    have her : er = 3 ∨ er = 4 := herr1
    have hne : (er != 0) = true := by rcases her with rfl | rfl <;> decide
    have hne2 : (er == 0) = false := by rcases her with rfl | rfl <;> decide
    clear he herr1 hr1 s1 a1 hz1 hW f3
    go_wp2_with fail
    refine (live_runs hl3).mono ?_
    rintro e w3' ⟨rfl, rfl⟩
    go_wp2_with fail
    refine hask2.mono ?_
    rintro e w4 ⟨r2, σ2, he, _, hr2, hl4, f4⟩
    have g4 : Fr w w4 (fun b => B ≤ b) := g3.trans (f4.mono (fun _ h => h.1))
    have hr : r2 = .err er := by
      rcases hpl r2 σ2 hr2 with ⟨_, _, _, h, _⟩ | ⟨e, h, h'⟩
      · cases h
      · cases h; exact h'
    subst hr
    have he' : e = .returned (.tuple #[.string ⟨#[]⟩, .int .i64 er]) := he
    subst he'
    have hself : (er != er) = false := by simp
    clear hpl hask2 he hr2 f4 g3
    go_wp2_with fail
    refine (awake_ok w4).mono ?_
    rintro e w5 ⟨rfl, hb5⟩
    have g5 : Fr w w5 (fun b => B ≤ b) := g4.trans ⟨hb5.os, hb5.tape, hb5.output, hb5.size, fun b hlt _ => hb5.block b hlt⟩
    go_wp2
    go_ret
    exact ⟨rfl, g5.below (Nat.le_refl _) (fun i hi => Nat.le_trans z0 hi)⟩
  | ok s t =>
    have he' : e = .returned (.tuple #[.string s, .int .i64 0]) := he
    subst he'
    clear he herr1 hr1 a1 hz1 f3
    go_wp2_with fail
    refine (live_runs hl3).mono ?_
    rintro e w3' ⟨rfl, rfl⟩
    go_wp2_with fail
    refine hask2.mono ?_
    rintro e w4 ⟨r2, σ2, he, _, hr2, hl4, f4⟩
    have g4 : Fr w w4 (fun b => B ≤ b) := g3.trans (f4.mono (fun _ h => h.1))
    obtain ⟨s2, _⟩ := ask_top hB26 s1.inv hr2
    have hi2 : σ2.inp = σ.inp := (show σ2.inp = σ1.inp from s2.inp).trans hi1
    have hn2 : σ2.now = σ.now := (show σ2.now = σ1.now from s2.now).trans hn1
    obtain ⟨s', t1, t2, e1, rfl, hruns, hlast⟩ : ∃ s' t1 t2, Ans.ok s t = .ok s' t1 ∧ r2 = .ok s' t2 ∧ σ2.runs = σ1.runs ∧ ∀ u v, σ.inp u = none → u ∉ lowers → ∀ r3 σ3, AskR rt 1000 54 { setS σ2 u v with stack := [] } key r3 σ3 → ∃ t3, r3 = .ok s' t3 ∧ σ3.runs = σ1.runs := by
      rcases hpl r2 σ2 hr2 with h | ⟨e, h, _⟩
      · exact h
      · cases h
    obtain rfl : s = s' := by cases e1; rfl
    have he' : e = .returned (.tuple #[.string s, .int .i64 0]) := he
    subst he'
    have hself : (σ2.runs != σ1.runs) = false := by rw [hruns]; simp
    have Hlast := Lib.hid hlast
    have hi4 := hin3.live f4
    clear hpl hask2 he hr2 f4 g3 e1 hruns hlast hin3 hl3
    go_wp2_with fail
    refine (live_runs hl4).mono ?_
    rintro e w4' ⟨rfl, rfl⟩
    obtain ⟨la, lc, hlv, _⟩ := hi4.form
    obtain ⟨M, hM⟩ : ∃ M, l.length = M := ⟨_, rfl⟩
    go_wp2_with fail
    have HM := Lib.hid hM
    have Hlv := Lib.hid hlv
    have hML : M ≤ 40 := by have := hW.len; omega
    have hwp : ∀ p ∈ l, setS σ2 p.1 p.2 = σ2 ∧ p.1.size ≤ 20 := fun p hp => by
      obtain ⟨t, ht⟩ := hW.lin p hp
      exact ⟨setS_noop ⟨t, by rw [hi2]; exact ht⟩, hW.short p.1 (by rw [ht]; exact fun e => by cases e)⟩
    have hnow2 : 1 ≤ σ2.now ∧ σ2.now ≤ 41 := by have := hW.now; omega
    have hi2v : Sizes σ2 := by
      intro j v hj
      refine hW.sizes j v ?_
      have e : σ2.I = σ.I := by unfold St.I; rw [hi2]
      rw [← e]; exact hj
    have hnob : σ.inp nobody = none := by
      cases hx : σ.inp nobody with
      | none => rfl
      | some p =>
        have := hW.short nobody (by rw [hx]; exact fun e => by cases e)
        have h28 : nobody.size = 29 := rfl
        omega
    have hlow : nobody ∉ lowers := by decide
    clear hM hlv hi2 hn2 hn1 hI1 hi1 hW zc
    go_loopw [97] (fun i wr => ∃ j : Nat, i = .int .i64 j ∧ j ≤ M ∧ Live gb 1000 (fun b => B ≤ b) σ2 wr ∧ InsAt wr u7 l ∧ Fr w wr (fun b => B ≤ b)) (fun i _ => M - (intOf i).toNat)
    case atStart => exact ⟨0, rfl, Nat.zero_le _, hl4, hi4, g4⟩
    case round =>
      clear hl4 hi4 g4
      obtain ⟨j, rfl, hj, hl4, hi4, g4⟩ := hrel
      by_cases hlt : j < M
      · have hi : ∃ p, l[j]? = some p := ⟨_, List.getElem?_eq_getElem (by rw [HM.out]; exact hlt)⟩
        obtain ⟨p, hp⟩ := hi
        obtain ⟨a', c', hv', hcell⟩ := hi4.form
        obtain ⟨g, hab, _, d0, d1⟩ := hcell j p hp
        have hla : la = some ⟨g, 0, none⟩ := by
          have e : Value.slice la l.length lc = .slice a' l.length c' := Hlv.out.symm.trans hv'
          injection e with e
          rw [e, hab]
        subst hla
        obtain ⟨hset, hpk⟩ := hwp p (List.mem_of_getElem? hp)
        clear hv' hcell hab hp
        have fa : ∀ x, Fr wr (wr.alloc x) (fun _ => False) := fun x => (Fr.refl wr _).alloc x
        go_wp2_with fail
        refine (set_at (hl4.same (fa _)) (Nat.le_trans z0' (Nat.le_trans g4.size (fa _).size)) p.1 p.2 (Nat.le_trans hpk (by decide)) (by omega) (by omega)).mono ?_
        rintro e w5 ⟨rfl, hl5, f5⟩
        rw [hset] at hl5
        have hi5 := (hi4.fr (fa _) (fun _ _ => id)).live f5
        have g5 : Fr w w5 (fun b => B ≤ b) := (g4.trans ((fa _).mono (fun _ h => h.elim))).trans (f5.mono (fun _ h => h.1))
        clear hset hl4 hi4 g4 fa f5
        go_wp2
        go_roundw
        case rel => exact ⟨j + 1, by go_num, by omega, hl5, hi5, g5⟩
        case measure => simp [intOf]; omega
      · go_wp2_with fail
        refine (set_at hl4 (Nat.le_trans z0' g4.size) nobody ⟨#[120]⟩ (by decide) (by omega) (by omega)).mono ?_
        rintro e w5 ⟨rfl, hl5, f5⟩
        have g5 : Fr w w5 (fun b => B ≤ b) := g4.trans (f5.mono (fun _ h => h.1))
        have i5 : G.Inv rt True (setS σ2 nobody ⟨#[120]⟩) := s2.inv.set _ _
        have v5 : Sizes (setS σ2 nobody ⟨#[120]⟩) := hi2v.set _ (by decide)
        have hl6 := Hlast.out nobody ⟨#[120]⟩ hnob hlow
        clear hl4 g4 f5 hi4 hwp hi2v
        go_wp2_with fail
        refine (ask_at hl5 (Nat.le_trans z0' g5.size) (by decide) hB26 i5 v5 key (Nat.le_trans hkey (by decide))).mono ?_
        rintro e w6 ⟨r3, σ3, he, _, hr3, hl7, f6⟩
        obtain ⟨t3, rfl, hrun3⟩ := hl6 r3 σ3 hr3
        have he' : e = .returned (.tuple #[.string s, .int .i64 0]) := he
        subst he'
        have g6 : Fr w w6 (fun b => B ≤ b) := g5.trans (f6.mono (fun _ h => h.1))
        have hq : (σ3.runs == σ1.runs) = true := by rw [hrun3]; simp
        clear he hl5 g5 f6 i5 v5 hr3 hl6 hrun3 Hlast
        go_wp2_with fail
        refine (awake_ok w6).mono ?_
        rintro e w7 ⟨rfl, hb7⟩
        have f7 : Fr w6 w7 (fun _ => False) := ⟨hb7.os, hb7.tape, hb7.output, hb7.size, fun b hlt _ => hb7.block b hlt⟩
        have g7 : Fr w w7 (fun b => B ≤ b) := g6.trans (f7.mono (fun _ h => h.elim))
        have hl8 := hl7.same f7
        clear hl7 g6 f7 hb7
        go_wp2_with fail
        refine (live_runs hl8).mono ?_
        rintro e w8 ⟨rfl, rfl⟩
        go_wp2
        go_ret
        exact ⟨rfl, g7.below (Nat.le_refl _) (fun i hi => Nat.le_trans z0 hi)⟩
end Go.Proofs.Ytelddnalpkhclaa
