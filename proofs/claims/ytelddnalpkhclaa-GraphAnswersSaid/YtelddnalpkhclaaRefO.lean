/- The document's answer walked: Of, by induction on how deep it may still go. -/
import Derived.Test.YtelddnalpkhclaaRefW
import Derived.Deep.DeepCutAuto
import Derived.Deep.CutBlock
namespace Go.Proofs.Ytelddnalpkhclaa
open Go.RowKit Go.Maps G

def OfC (l : List (K × K)) (lv : Value) (f : Nat) : Prop := ∀ (k : K) (ab : List K) (av : Value) (w : World), InsAt w lv l → StrAt w av ab → (ab = [] → av = .slice none 0 0) → StackOk U ab → (ab ≠ [] → k ∈ U) → fuel U ab = f →
  Calls Try.prog 20 #[lv, .string k, av] w fun e w' => e = retO (ofA rt (lookL l) U k ab) ∧ Fr w w' (fun _ => False)
theorem mem_drop {ab : List K} {i : Nat} {x k : K} (h : ab[i]? = some x) (hx : x ≠ k) : k ∈ ab.drop i ↔ k ∈ ab.drop (i + 1) := by
  have h1 := (List.getElem?_eq_some_iff.1 h).1
  rw [List.drop_eq_getElem_cons h1, (List.getElem?_eq_some_iff.1 h).2, List.mem_cons]
  exact ⟨fun h => h.elim (fun e => absurd e.symm hx) id, Or.inr⟩
theorem ev_ask {orc : K → Res} {b : UInt8} {bs : List UInt8} {out s : K} (h : out.size < 200) (h1 : 97 ≤ b ∧ b ≤ 122) (ho : orc ⟨#[b]⟩ = .ok s) : evalT orc (loopT (b :: bs) out) = evalT orc (loopT bs (out ++ s)) := by
  rw [lp_letter h h1, evalT, ho]
theorem ev_err {orc : K → Res} {b : UInt8} {bs : List UInt8} {out : K} {e : Int} (h : out.size < 200) (h1 : 97 ≤ b ∧ b ≤ 122) (ho : orc ⟨#[b]⟩ = .err e) : evalT orc (loopT (b :: bs) out) = .err e := by
  rw [lp_letter h h1, evalT, ho]
theorem bytes_beq {a b : K} (h : a = b) : (a.toList == b.toList) = true := by rw [h]; simp
theorem bytes_bne {a b : K} (h : a ≠ b) : (a.toList == b.toList) = false := by
  rw [beq_eq_false_iff_ne, ByteArray.toList_eq, ByteArray.toList_eq]
  intro e
  exact h (ByteArray.ext (Array.toList_inj.1 e))

theorem strAt_snoc {w : World} {v : Value} {ab : List K} {k : K} {n : Nat} (hn : ab.length = n) (h : w.ownsRow 0 9 1 v (n + 1) (ab.map .string ++ [.string k])) : StrAt w v (ab ++ [k]) := by
  subst hn
  unfold StrAt
  rw [List.length_append, List.map_append]
  exact h

set_option maxRecDepth 100000 in
set_option maxHeartbeats 4000000 in
theorem of_step (l : List (K × K)) (hlen : l.length ≤ 1000) (hI : ∀ j v, lookL l j = some v → v.size ≤ 200) (lv : Value) (f : Nat) (IH : OfC l lv f) : OfC l lv (f + 1) := by
  intro k ab av w hin hab hnil hso hU hfu
  obtain ⟨la, lc, hlv, hlcell⟩ := hin.form
  obtain ⟨sa, sc, hav, hscell⟩ := hab.form
  have hl53 := hso.length
  rw [U_length] at hl53
  obtain ⟨i0, hinf, hzz, hzs, hzb⟩ := infoParts infoStr'
  obtain ⟨N, hN⟩ : ∃ N, ab.length = N := ⟨_, rfl⟩
  have HN := Lib.hid hN
  rw [hN] at hav hl53
  have HLV := Lib.hid hlv
  have HSO := Lib.hid hso
  have HU := Lib.hid hU
  have HFU := Lib.hid hfu
  have HNIL := Lib.hid hnil
  have HIH := Lib.hid IH
  have HI := Lib.hid hI
  subst hav
  clear hlv hso hU hfu hnil IH hI hN
  go_enter Try.func20, Try.ntmps20
  go_wp2_with fail
  refine (find_ok lv l k w hin hlen).mono ?_
  rintro e w1 ⟨r, rfl, hF, hw⟩
  rw [hw]
  clear hw
  rcases hF with ⟨hr, hnone⟩ | ⟨i, v, rfl, hi, hsome⟩
  · have hnm : r < 0 := by omega
    clear hr
    go_wp2_with fail
    go_loop [9] (fun i => ∃ n : Nat, i = .int .i64 n ∧ n ≤ N ∧ Hid (k ∈ ab ↔ k ∈ ab.drop n)) (fun i => N - (intOf i).toNat)
    case atStart => exact ⟨0, rfl, Nat.zero_le _, Iff.rfl⟩
    case round =>
      obtain ⟨n, rfl, hn, hL⟩ := hrel
      by_cases hlt : n < N
      · have hi : ∃ p, ab[n]? = some p := ⟨_, List.getElem?_eq_getElem (by rw [HN.out]; exact hlt)⟩
        obtain ⟨p, hp⟩ := hi
        obtain ⟨g, rfl, _, c0⟩ := hscell n p hp
        by_cases hq : p = k
        · have hq' := bytes_beq hq
          have hmem : k ∈ ab := by rw [← hq]; exact List.mem_of_getElem? hp
          have hres : Hid (ofA rt (lookL l) U k ab = .err 4) := ofA_twice HSO.out hnone hmem
          clear hq hp hL hmem
          go_wp2
          go_ret2
          exact ⟨by rw [hres.out]; rfl, Fr.refl _ _⟩
        · have hq' := bytes_bne hq
          have hnext : Hid (k ∈ ab ↔ k ∈ ab.drop (n + 1)) := hL.out.trans (mem_drop hp hq)
          clear hq hp hL
          go_wp2
          go_round
          case rel => exact ⟨n + 1, by go_num, by omega, hnext⟩
          case measure => simp [intOf]; omega
      · have hno : k ∉ ab := by
          rw [hL.out, List.drop_eq_nil_of_le (by rw [HN.out]; omega)]
          simp
        clear hL
        have HNO := Lib.hid hno
        have hres : Hid (ofA rt (lookL l) U k ab = evalT (fun j => ofA rt (lookL l) U j (ab ++ [k])) (rt k)) := ofA_rule HSO.out hnone hno
        clear hno
        by_cases hlet : ∃ hs : k.size = 1, (97 : UInt8) ≤ k[0] ∧ k[0] ≤ (122 : UInt8)
        · obtain ⟨hs, hb⟩ := hlet
          have hk0 : 0 < k.size := by omega
          have hb1 : (97 : Int) ≤ k[0].toNat := by have := UInt8.le_iff_toNat_le.1 hb.1; have h' : 97 ≤ k[0].toNat := this; omega
          have hb2 : (k[0].toNat : Int) ≤ 122 := by have := UInt8.le_iff_toNat_le.1 hb.2; have h' : k[0].toNat ≤ 122 := this; omega
          have hpush : Hid (StackOk U (ab ++ [k])) := HSO.out.push HNO.out HU.out
          have hfuel : Hid (fuel U (ab ++ [k]) = f) := by
            have h1 := fuel_push (k := k) HSO.out
            have h2 := HFU.out
            show _ = _
            omega
          have hup : Hid ((⟨#[k[0] - 32]⟩ : K) ∈ U) := List.mem_append_right _ (mem_upper hb)
          have kc := fun w => conv1 w (k[0] - 32) _ (sub32 hb.1)
          have hrt := Lib.hid (rt_letter hs hb)
          clear HSO HFU HNO hb
          go_upto_region 12 with (fail)
          go_cut [10] from 54 to 59 (fun nv wx => StrAt wx nv (ab ++ [k]) ∧ Fr w wx (fun _ => False))
          case first =>
            by_cases h0 : ab = []
            · have h1 := HNIL.out h0
              injection h1 with e1 e2 e3
              subst e1 e2 e3
              subst h0
              have hn0 : w.ownsRow 0 9 1 (.slice none 0 0) 0 [] := World.ownsRow_nil _ _ _ _
              go_wp2_with (first
                | (refine wpList_append_lies _ rfl _ _ 54 rfl 0 9 i0 (.string ⟨#[]⟩) 1 16 Try.underlying54 hinf hzz hzs hzb rfl (by decide) (.slice none 0 0) 0 [] (by rfl) (World.ownsRow.alloc hn0 _) _ 1 1 [.string k] (by rfl) rfl (cell_one_new _ _ _) (by simp [Value.oneCell']) (by decide) (by decide) (by decide) (Nat.zero_le _) _ rfl ?_; intro g4 cap4 w4 r4 gr4 at4 lt4)
                | fail)
              go_meet
              exact ⟨strAt_snoc rfl r4, ((Fr.refl w _).alloc _).grown gr4 (fun i hi => by cases hi)⟩
            · have hpos : 0 < N := by
                rw [← HN.out]
                exact List.length_pos_iff.2 h0
              have hsrc : ∃ g, sa = some ⟨g, 0, none⟩ ∧ ∀ j u, (ab.map Value.string)[j]? = some u → w.cell? ((⟨g, 0, none⟩ : Addr).add j) = some u := by
                obtain ⟨x, hx⟩ : ∃ x, ab[0]? = some x := ⟨_, List.getElem?_eq_getElem (by rw [HN.out]; exact hpos)⟩
                obtain ⟨g, hg, hown, _⟩ := hscell 0 x hx
                exact ⟨g, hg, fun j u hu => World.ownsRow.cells hab hown j u hu⟩
              obtain ⟨g, rfl, hnews⟩ := hsrc
              have hn0 : w.ownsRow 0 9 1 (.slice none 0 0) 0 [] := World.ownsRow_nil _ _ _ _
              have hlN : (ab.map Value.string).length = N * 1 := by rw [List.length_map, HN.out, Nat.mul_one]
              clear h0
              go_wp2_with (first
                | (refine wpList_append_lies _ rfl _ _ 54 rfl 0 9 i0 (.string ⟨#[]⟩) 1 16 Try.underlying54 hinf hzz hzs hzb rfl (by decide) (.slice none 0 0) 0 [] (by rfl) hn0 ⟨g, 0, none⟩ N sc (ab.map .string) (by rfl) hlN hnews (by simp [Value.oneCell']) hpos (by unfold maxLen; omega) (by omega) (Nat.zero_le _) _ rfl ?_; intro g3 cap3 w3 r3 gr3 at3 lt3; rw [Nat.zero_add] at r3 ⊢)
                | (refine wpList_append_lies _ rfl _ _ 54 rfl 0 9 i0 (.string ⟨#[]⟩) 1 16 Try.underlying54 hinf hzz hzs hzb rfl (by decide) (.slice (some ⟨g3, 0, none⟩) N cap3) N ([] ++ ab.map .string) (by rfl) (World.ownsRow.alloc r3 _) _ 1 1 [.string k] (by rfl) rfl (cell_one_new _ _ _) (by simp [Value.oneCell']) (by decide) (by unfold maxLen; omega) (by omega) (Nat.zero_le _) _ rfl ?_; intro g4 cap4 w4 r4 gr4 at4 lt4)
                | fail)
              have hg3 : w.heap.size ≤ g3 := by
                rcases at3 with e | e
                · cases e
                · omega
              go_meet
              refine ⟨strAt_snoc HN.out r4, (((Fr.refl w _).grown gr3 (fun i hi => by cases hi)).alloc _).grown gr4 (fun i hi => ?_)⟩
              have e : g3 = i := by simpa [Value.ownBlock] using hi
              subst e
              exact Or.inr hg3
          case rest =>
            obtain ⟨hnow, hfr⟩ := hcut
            obtain ⟨orc, horc⟩ : ∃ orc : K → Res, orc = fun j => ofA rt (lookL l) U j (ab ++ [k]) := ⟨_, rfl⟩
            have hcall : Hid (∀ j ∈ U, ∀ wx, Fr wc wx (fun _ => False) → Calls Try.prog 20 #[lv, .string j, u10] wx fun e w' => e = retO (orc j) ∧ Fr wx w' (fun _ => False)) := by
              intro j hj wx hfx
              rw [horc]
              exact HIH.out j (ab ++ [k]) u10 wx ((hin.fr hfr (fun _ _ => id)).fr hfx (fun _ _ => id)) (hnow.same hfx) (fun h => by simp at h) hpush.out (fun _ => hj) hfuel.out
            have herr : Hid (∀ j e, orc j = .err e → e = 3 ∨ e = 4) := by
              intro j e h
              rw [horc] at h
              exact ofA_errs h
            have hsz : Hid (∀ j s, orc j = .ok s → s.size ≤ 100000) := by
              intro j s h
              rw [horc] at h
              exact ofA_size HI.out h
            rw [← horc] at hres
            clear horc hpush hfuel HIH HI HNIL HU hscell hlcell hab
            have hev : Hid (ofA rt (lookL l) U k ab = evalT orc (.ask ⟨#[k[0] - 32]⟩ fun text => loopT text.data.toList ⟨#[]⟩)) := by
              show _ = _
              rw [hres.out, hrt.out]
            clear hres hrt
            obtain ⟨X, hX⟩ : ∃ X, ofA rt (lookL l) U k ab = X := ⟨_, rfl⟩
            rw [hX] at hev
            have HX := Lib.hid hX
            clear hX
            go_wp2_with fail
            refine (hcall.out ⟨#[k[0] - 32]⟩ hup.out _ ((Fr.refl wc _).alloc _)).mono ?_
            rintro e w2 ⟨he, f2⟩
            have g2 : Fr wc w2 (fun _ => False) := ((Fr.refl wc _).alloc _).trans f2
            clear f2 kc
            cases ho : orc ⟨#[k[0] - 32]⟩ with
            | err er =>
              rw [ho] at he
              have he' : e = .returned (.tuple #[.string ⟨#[]⟩, .int .i64 er]) := he
              subst he'
              have hne : (er != 0) = true := by rcases herr.out _ _ ho with rfl | rfl <;> decide
              have hfin : Hid (X = .err er) := by show _ = _; rw [hev.out, evalT, ho]
              clear he ho hev
              go_wp2_with fail
              go_ret2
              exact ⟨by rw [HX.out, hfin.out]; rfl, hfr.trans g2⟩
            | ok text =>
              rw [ho] at he
              have he' : e = .returned (.tuple #[.string text, .int .i64 0]) := he
              subst he'
              have htx := hsz.out _ _ ho
              have hfin : Hid (X = evalT orc (loopT (text.data.toList.drop 0) ⟨#[]⟩)) := by show _ = _; rw [hev.out, evalT, ho]; rfl
              clear he ho hev
              go_wp2_with fail
              refine (parts_ok text htx w2).mono ?_
              rintro e w3 ⟨pv, rfl, hp3, f3⟩
              have g3 : Fr wc w3 (fun _ => False) := g2.trans f3
              obtain ⟨pa, pc, hpv, _⟩ := hp3.form
              rw [ones_length] at hpv
              subst hpv
              clear g2 f3
              go_wp2_with fail
              go_loopw [13, 15] (fun o i wr => ∃ (n : Nat) (out : K), o = .string out ∧ i = .int .i64 n ∧ n ≤ text.size ∧ out.size ≤ 100200 ∧ Hid (X = evalT orc (loopT (text.data.toList.drop n) out)) ∧ Fr wc wr (fun _ => False) ∧ StrAt wr (.slice pa text.size pc) (ones text)) (fun _ i _ => text.size - (intOf i).toNat)
              case atStart => exact ⟨0, ⟨#[]⟩, rfl, rfl, Nat.zero_le _, by decide, hfin, g3, hp3⟩
              case round =>
                clear hfin g3 hp3
                obtain ⟨n, out, rfl, rfl, hn, hout, hev, g3, hp3⟩ := hrel
                by_cases hlt : n < text.size
                · by_cases hbig : out.size < 200
                  · have hev2 : Hid (X = evalT orc (loopT (text[n] :: text.data.toList.drop (n + 1)) out)) := by rw [← list_at text n hlt]; exact hev
                    obtain ⟨pa', pc', hpv', hpcell⟩ := hp3.form
                    obtain ⟨pg, hpa, _, p0⟩ := hpcell n _ (ones_at text n hlt)
                    have hpa' : pa = some ⟨pg, 0, none⟩ := by
                      have e : pa = pa' := by injection hpv'
                      rw [e, hpa]
                    subst hpa'
                    clear hev hpcell hpv' hpa
                    have e0 : (⟨#[text[n]]⟩ : K)[0]'(Nat.zero_lt_one) = text[n] := rfl
                    by_cases hL : (97 : UInt8) ≤ text[n] ∧ text[n] ≤ (122 : UInt8)
                    · have b1 : (97 : Int) ≤ text[n].toNat := by have := UInt8.le_iff_toNat_le.1 hL.1; have h' : 97 ≤ text[n].toNat := this; omega
                      have b2 : (text[n].toNat : Int) ≤ 122 := by have := UInt8.le_iff_toNat_le.1 hL.2; have h' : text[n].toNat ≤ 122 := this; omega
                      have hjU : (⟨#[text[n]]⟩ : K) ∈ U := List.mem_append_left _ (mem_lower hL)
                      have hc := hcall.out _ hjU wr g3
                      have HL := Lib.hid hL
                      clear hjU hL
                      go_wp2_with fail
                      refine hc.mono ?_
                      rintro e w4 ⟨he, f4⟩
                      cases ho : orc ⟨#[text[n]]⟩ with
                      | err er =>
                        rw [ho] at he
                        have he' : e = .returned (.tuple #[.string ⟨#[]⟩, .int .i64 er]) := he
                        subst he'
                        have hne : (er != 0) = true := by rcases herr.out _ _ ho with rfl | rfl <;> decide
                        have hfin : Hid (X = .err er) := by show _ = _; rw [hev2.out, ev_err hbig HL.out ho]
                        clear he ho hev2 hc
                        go_wp2_with fail
                        go_ret2
                        exact ⟨by rw [HX.out, hfin.out]; rfl, hfr.trans (g3.trans f4)⟩
                      | ok x =>
                        rw [ho] at he
                        have he' : e = .returned (.tuple #[.string x, .int .i64 0]) := he
                        subst he'
                        have hx := hsz.out _ _ ho
                        have hnext : Hid (X = evalT orc (loopT (text.data.toList.drop (n + 1)) (out ++ x))) := by show _ = _; rw [hev2.out, ev_ask hbig HL.out ho]
                        have hp4 := hp3.same f4
                        clear he ho hev2 hc hp3
                        go_wp2_with fail
                        go_roundw
                        case rel => exact ⟨n + 1, _, rfl, by go_num, by omega, by simp; omega, hnext, g3.trans f4, hp4⟩
                        case measure => simp [intOf]; omega
                    · by_cases h33 : text[n] = 33
                      · have b1 : (text[n].toNat : Int) < 97 := by rw [h33]; decide
                        have b2 : ((text[n].toNat : Int) == 33) = true := by rw [h33]; decide
                        have hfin : Hid (X = .err 3) := by
                          show _ = _
                          rw [hev2.out, h33, lp_bang hbig]
                          rfl
                        clear hev2 h33 hL
                        go_wp2_with fail
                        go_ret2
                        exact ⟨by rw [HX.out, hfin.out]; rfl, hfr.trans g3⟩
                      · by_cases h63 : text[n] = 63
                        · have b1 : (text[n].toNat : Int) < 97 := by rw [h63]; decide
                          have b2 : ((text[n].toNat : Int) == 33) = false := by rw [h63]; decide
                          have b3 : ((text[n].toNat : Int) == 63) = true := by rw [h63]; decide
                          by_cases h0 : out = ⟨#[]⟩
                          · have b4 : out.size = 0 := by rw [h0]; rfl
                            have b5 : ((out.size : Int) == 0) = true := by rw [b4]; rfl
                            have hfin : Hid (X = .ok ⟨#[]⟩) := by
                              show _ = _
                              rw [hev2.out, h63, h0, lp_quest0]
                              rfl
                            clear hev2 h63 hL h33 h0 b4
                            go_wp2_with fail
                            go_ret2
                            exact ⟨by rw [HX.out, hfin.out]; rfl, hfr.trans g3⟩
                          · have b4 : out.size ≠ 0 := fun e => h0 (by
                              obtain ⟨⟨l⟩⟩ := out
                              cases l with
                              | nil => rfl
                              | cons => cases e)
                            have b5 : ((out.size : Int) == 0) = false := by rw [beq_eq_false_iff_ne]; omega
                            have hnext : Hid (X = evalT orc (loopT (text.data.toList.drop (n + 1)) out)) := by
                              show _ = _
                              rw [hev2.out, h63, lp_quest hbig h0]
                            clear hev2 h63 hL h33 h0 b4
                            go_wp2_with fail
                            go_roundw
                            case rel => exact ⟨n + 1, _, rfl, by go_num, by omega, by omega, hnext, g3, hp3⟩
                            case measure => simp [intOf]; omega
                        · by_cases h37 : text[n] = 37
                          · have b1 : (text[n].toNat : Int) < 97 := by rw [h37]; decide
                            have b2 : ((text[n].toNat : Int) == 33) = false := by rw [h37]; decide
                            have b3 : ((text[n].toNat : Int) == 63) = false := by rw [h37]; decide
                            have b4 : ((text[n].toNat : Int) == 37) = true := by rw [h37]; decide
                            by_cases h1 : 1 < out.size
                            · have hnext : Hid (X = evalT orc (loopT (text.data.toList.drop (n + 1)) (out.extract 0 1))) := by
                                show _ = _
                                rw [hev2.out, h37, lp_cut hbig, if_pos h1]
                              have h1' : (1 : Int) < out.size := by omega
                              clear hev2 h37 hL h33 h63
                              go_wp2_with fail
                              go_roundw
                              case rel => exact ⟨n + 1, _, rfl, by go_num, by omega, by simp; omega, hnext, g3, hp3⟩
                              case measure => simp [intOf]; omega
                            · have hnext : Hid (X = evalT orc (loopT (text.data.toList.drop (n + 1)) out)) := by
                                show _ = _
                                rw [hev2.out, h37, lp_cut hbig, if_neg h1]
                              have h1' : (out.size : Int) ≤ 1 := by omega
                              clear hev2 h37 hL h33 h63
                              go_wp2_with fail
                              go_roundw
                              case rel => exact ⟨n + 1, _, rfl, by go_num, by omega, by omega, hnext, g3, hp3⟩
                              case measure => simp [intOf]; omega
                          · have b2 : ((text[n].toNat : Int) == 33) = false := by_ne h33
                            have b3 : ((text[n].toNat : Int) == 63) = false := by_ne h63
                            have b4 : ((text[n].toNat : Int) == 37) = false := by_ne h37
                            have hnext : Hid (X = evalT orc (loopT (text.data.toList.drop (n + 1)) (out ++ ⟨#[text[n]]⟩))) := by
                              show _ = _
                              rw [hev2.out, lp_else hbig hL h33 h63 h37]
                            have hor : (text[n].toNat : Int) < 97 ∨ (122 : Int) < text[n].toNat := by
                              by_cases h1 : (97 : UInt8) ≤ text[n]
                              · right
                                have h2 : ¬ text[n] ≤ (122 : UInt8) := fun h2 => hL ⟨h1, h2⟩
                                have := fun h => h2 (UInt8.le_iff_toNat_le.2 h)
                                have h' : ¬ text[n].toNat ≤ 122 := this
                                omega
                              · left
                                have := fun h => h1 (UInt8.le_iff_toNat_le.2 h)
                                have h' : ¬ 97 ≤ text[n].toNat := this
                                omega
                            clear hev2 h37 hL h33 h63
                            rcases hor with b1 | b1
                            · go_wp2_with fail
                              go_roundw
                              case rel => exact ⟨n + 1, _, rfl, by go_num, by omega, by rw [ByteArray.size_append]; exact Nat.le_trans (Nat.add_le_add_left (show (⟨#[text[n]]⟩ : K).size ≤ 1 from Nat.le_refl 1) _) (by omega), hnext, g3, hp3⟩
                              case measure => simp [intOf]; omega
                            · have b0 : (97 : Int) ≤ text[n].toNat := by omega
                              go_wp2_with fail
                              go_roundw
                              case rel => exact ⟨n + 1, _, rfl, by go_num, by omega, by rw [ByteArray.size_append]; exact Nat.le_trans (Nat.add_le_add_left (show (⟨#[text[n]]⟩ : K).size ≤ 1 from Nat.le_refl 1) _) (by omega), hnext, g3, hp3⟩
                              case measure => simp [intOf]; omega
                  · have hfin : Hid (X = .ok out) := by
                      show _ = _
                      rw [hev.out, lp_big hbig]
                      rfl
                    clear hev
                    go_wp2_with fail
                    go_ret2
                    exact ⟨by rw [HX.out, hfin.out]; rfl, hfr.trans g3⟩
                · have hfin : Hid (X = .ok out) := by
                    show _ = _
                    rw [hev.out, list_end text n hlt]
                    rfl
                  clear hev
                  go_wp2_with fail
                  go_ret2
                  exact ⟨by rw [HX.out, hfin.out]; rfl, hfr.trans g3⟩
        · have hres2 : Hid (ofA rt (lookL l) U k ab = .err 3) := by
            show _ = _
            rw [hres.out, rt_other (fun hs hb => hlet ⟨hs, hb⟩)]
            rfl
          by_cases hs : k.size = 1
          · have hk0 : 0 < k.size := by omega
            have hor : (k[0].toNat : Int) < 97 ∨ (122 : Int) < k[0].toNat := by
              by_cases h1 : (97 : UInt8) ≤ k[0]
              · right
                have h2 : ¬ k[0] ≤ (122 : UInt8) := fun h2 => hlet ⟨hs, h1, h2⟩
                have := fun h => h2 (UInt8.le_iff_toNat_le.2 h)
                have h' : ¬ k[0].toNat ≤ 122 := this
                omega
              · left
                have := fun h => h1 (UInt8.le_iff_toNat_le.2 h)
                have h' : ¬ 97 ≤ k[0].toNat := this
                omega
            clear hlet hres
            rcases hor with b1 | b1
            · go_wp2_with fail
              go_ret2
              exact ⟨by rw [hres2.out]; rfl, Fr.refl _ _⟩
            · have b0 : (97 : Int) ≤ k[0].toNat := by omega
              go_wp2_with fail
              go_ret2
              exact ⟨by rw [hres2.out]; rfl, Fr.refl _ _⟩
          · have b1 : ((k.size : Int) != 1) = true := by rw [bne_iff_ne]; omega
            clear hlet hres
            go_wp2_with fail
            go_ret2
            exact ⟨by rw [hres2.out]; rfl, Fr.refl _ _⟩
  · obtain ⟨g, rfl, _, c0, c1⟩ := hlcell i _ hi
    have hres : Hid (ofA rt (lookL l) U k ab = .ok v) := ofA_inp HSO.out hsome
    have hil : i < l.length := (List.getElem?_eq_some_iff.1 hi).1
    have hi0 : (0 : Int) ≤ i := by omega
    have hlv := HLV.out
    obtain ⟨M, hM⟩ : ∃ M, l.length = M := ⟨_, rfl⟩
    rw [hM] at hlv hil
    clear hi hsome hlcell hscell hM
    subst hlv
    go_wp2_with fail
    go_ret2
    exact ⟨by rw [hres.out]; rfl, Fr.refl _ _⟩
end Go.Proofs.Ytelddnalpkhclaa
