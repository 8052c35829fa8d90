/- GraphCuts: the law's walk. -/
import Derived.Test.YtelddnalpkhclaaCutP
import Derived.Test.YtelddnalpkhclaaNil
import Derived.Deep.DeepCutAuto
namespace Go.Proofs.Ytelddnalpkhclaa
open Go.RowKit Go.Maps G

/-! ### what stands behind Set -/
section
variable {σ : St} {k v : K}
theorem setS_same (σ : St) (k v : K) : ∃ t, (setS σ k v).inp k = some (v, t) := by
  unfold setS
  split
  · rename_i u c hu
    split
    · rename_i e
      subst e
      exact ⟨c, hu⟩
    · exact ⟨_, ins_same σ.inp k _⟩
  · exact ⟨_, ins_same σ.inp k _⟩
theorem setS_other (σ : St) {k j : K} (v : K) (h : j ≠ k) : (setS σ k v).inp j = σ.inp j := by
  unfold setS
  split
  · split
    · rfl
    · exact ins_other σ.inp _ h
  · exact ins_other σ.inp _ h
theorem setS_now (σ : St) (k v : K) : σ.now ≤ (setS σ k v).now ∧ (setS σ k v).now ≤ σ.now + 1 := by
  unfold setS
  split
  · split
    · exact ⟨Int.le_refl _, by omega⟩
    · exact ⟨by show σ.now ≤ σ.now + 1; omega, Int.le_refl _⟩
  · exact ⟨by show σ.now ≤ σ.now + 1; omega, Int.le_refl _⟩
def Sizes (σ : St) : Prop := ∀ j v, σ.I j = some v → v.size ≤ 200
theorem Sizes.new : Sizes σnew := fun j v h => by cases h
theorem Sizes.set (h : Sizes σ) (k : K) {v : K} (hv : v.size ≤ 200) : Sizes (setS σ k v) := by
  intro j u hj
  by_cases e : j = k
  · subst e
    obtain ⟨t, ht⟩ := setS_same σ j v
    have := inp_I ⟨t, ht⟩
    rw [this] at hj
    cases hj
    exact hv
  · refine h j u ?_
    have e2 : (setS σ k v).I j = σ.I j := by unfold St.I; rw [setS_other σ v e]
    rw [← e2]
    exact hj
end
theorem set_at {gb : Nat} {room : Int} {B : Nat} {σ : St} {w : World} (h : Live gb room (fun b => B ≤ b) σ w) (hB : B ≤ w.heap.size) (k v : K) (hk : k.size ≤ 1000) (hn0 : 0 ≤ σ.now) (hn : σ.now ≤ 1000000) :
    Calls Try.prog 14 #[.pointer (some ⟨gb, 0, none⟩), .string k, .string v] w fun e w' => e = .returned (.tuple #[]) ∧ Live gb room (fun b => B ≤ b) (setS σ k v) w' ∧ Fr w w' (fun b => B ≤ b ∧ Kind w b) := by
  refine (live_set h k v hk hn0 hn).mono ?_
  rintro e w' ⟨rfl, hp⟩
  exact ⟨rfl, hp.base hB, hp.2⟩
theorem ask_at {gb : Nat} {room : Int} {B : Nat} {σ : St} {w : World} (h : Live gb room (fun b => B ≤ b) σ w) (hB : B ≤ w.heap.size) (hroom : 1 ≤ room) {big : Prop} (hbig : big → (26 : Int) ≤ room) (hinv : G.Inv rt big σ) (hsz : Sizes σ) (k : K) (hk : k.size ≤ 1000) :
    Calls Try.prog 15 #[.pointer (some ⟨gb, 0, none⟩), .string k] w fun e w' => ∃ r σ', e = retB r ∧ ErrOk r ∧ AskR rt room 54 { σ with stack := [] } k r σ' ∧ Live gb room (fun b => B ≤ b) σ' w' ∧ Fr w w' (fun b => B ≤ b ∧ Kind w b) := by
  refine (live_ask h hroom hbig hinv hsz k hk).mono ?_
  rintro e w' ⟨r, σ', h1, h2, h3, hp⟩
  exact ⟨r, σ', h1, h2, h3, hp.base hB, hp.2⟩
theorem app_inj {c a b : ByteArray} (h : c ++ a = c ++ b) : a = b := by
  have h1 := congrArg (fun x : ByteArray => x.data.toList) h
  simp only [ByteArray.data_append, Array.toList_append] at h1
  exact ByteArray.ext (Array.toList_inj.1 (List.append_cancel_left h1))
theorem app2 (d : UInt8) : (⟨#[98]⟩ : ByteArray) ++ ⟨#[d]⟩ = ⟨#[98, d]⟩ := rfl

theorem conv2 (w : World) (c d : UInt8) (y : Int) (hy : y = (d.toNat : Int)) : (convert 42 9 (.slice (some ⟨w.heap.size, 0, none⟩) 2 2)).run Try.prog (w.alloc (.cells #[.int .u8 (c.toNat : Int), .int .u8 y] 5)) = .ok (.string ⟨#[c, d]⟩) (w.alloc (.cells #[.int .u8 (c.toNat : Int), .int .u8 y] 5)) := by
  subst hy
  refine Lib.run_convert_whole (P := Try.prog) _ 42 5 9 Try.underlying42 Try.underlying5 Try.underlying9 w.heap.size 0 ⟨#[c, d]⟩ ?_ 2
  intro i hi
  have h0 : i = 0 ∨ i = 1 := by
    have : i < 2 := hi
    omega
  have hnew : (w.alloc (.cells #[.int .u8 (c.toNat : Int), .int .u8 (d.toNat : Int)] 5)).heap[w.heap.size]? = some (.cells #[.int .u8 (c.toNat : Int), .int .u8 (d.toNat : Int)] 5) := (MapKept.heap_alloc _ _).1
  rcases h0 with rfl | rfl
  · exact cellB hnew rfl
  · exact cellB hnew rfl
theorem digit_of (m : UInt8) : (48 + (m.toNat : Int) % 10) = ((48 + m % 10 : UInt8).toNat : Int) ∧ Plain (48 + m % 10) := by
  have h1 : (m % 10 : UInt8).toNat = m.toNat % 10 := UInt8.toNat_mod m 10
  have h2 : (48 + m % 10 : UInt8).toNat = 48 + m.toNat % 10 := by
    rw [UInt8.toNat_add, h1]
    show (48 + m.toNat % 10) % 256 = _
    omega
  have hlt : m.toNat % 10 < 10 := Nat.mod_lt _ (by decide)
  refine ⟨by rw [h2]; omega, fun h => ?_, fun h => ?_, fun h => ?_, fun h => ?_⟩
  · have := UInt8.le_iff_toNat_le.1 h.1
    rw [h2] at this
    have h' : 97 ≤ 48 + m.toNat % 10 := this
    omega
  · have := congrArg UInt8.toNat h
    rw [h2] at this
    have h' : 48 + m.toNat % 10 = 33 := this
    omega
  · have := congrArg UInt8.toNat h
    rw [h2] at this
    have h' : 48 + m.toNat % 10 = 63 := this
    omega
  · have := congrArg UInt8.toNat h
    rw [h2] at this
    have h' : 48 + m.toNat % 10 = 37 := this
    omega

set_option maxRecDepth 100000 in
set_option maxHeartbeats 4000000 in
theorem cuts_main (first more : UInt8) (a b : ByteArray) (w : World) (ha : a.size ≤ 100) (hb : b.size ≤ 100) (hor : (first.toNat : Int) < 97 ∨ (122 : Int) < first.toNat) (h33 : first ≠ 33) (h63 : first ≠ 63) (h37 : first ≠ 37) :
    Calls Try.prog 4 #[.int .u8 first.toNat, .string a, .string b, .int .u8 more.toNat] w fun e w' => e = .returned (.bool true) ∧ Below w.heap.size w w' := by
  have b1 : ((first.toNat : Int) == 33) = false := by_ne h33
  have b2 : ((first.toNat : Int) == 63) = false := by_ne h63
  have b3 : ((first.toNat : Int) == 37) = false := by_ne h37
  have ha' : (a.size : Int) ≤ 100 := by omega
  have hb' : (b.size : Int) ≤ 100 := by omega
  clear h33 h63 h37
  obtain ⟨hd0, hd⟩ := digit_of more
  have kd := fun w => conv1 w (48 + more % 10) _ hd0
  have kf := fun w => conv1 w first _ rfl
  have k2 := fun w => conv2 w first (48 + more % 10) _ hd0
  generalize (48 + more % 10 : UInt8) = d at *
  clear hd0
  go_enter Try.func4, Try.ntmps4
  go_upto_region 1 with (fail)
  go_cut [44] (fun v wx => v = .bool false ∧ wx = w)
  case first =>
    rcases hor with hlo | hhi
    · go_wp2
      go_meet
      exact ⟨by simp; omega, rfl⟩
    · have h97 : (97 : Int) ≤ first.toNat := by omega
      go_wp2
      go_meet
      exact ⟨by simp; omega, rfl⟩
  case rest =>
  obtain ⟨rfl, rfl⟩ := hcut
  clear b1 b2 b3 hor
  go_wp2_with fail
  refine (live_new (room := 100) (by decide) wc).mono ?_
  rintro e w1 ⟨gb, rfl, hl, fr1⟩
  go_wp2_with fail
  obtain ⟨B, hB⟩ : ∃ B, wc.heap.size = B := ⟨_, rfl⟩
  rw [hB] at hl
  have z0 : B ≤ wc.heap.size := by omega
  have z1 : wc.heap.size ≤ B := by omega
  clear hB
  have hl1 : Live gb 100 (fun b => B ≤ b) σnew w1 := hl.mono (fun _ h => h.1)
  have f1 : Fr wc w1 (fun b => B ≤ b) := fr1.mono (fun _ h => h.elim)
  clear hl fr1 kd
  rw [app2]
  have hx : Cut first (⟨#[first]⟩ ++ a) := cut_of first a ha
  have hy : Cut first (⟨#[first]⟩ ++ b) := cut_of first b hb
  -- A
  have fa : Fr w1 (w1.alloc (.cells #[.int .u8 (48 + (more.toNat : Int) % 10)] 5)) (fun _ => False) := (Fr.refl w1 _).alloc _
  refine (set_at (hl1.same fa) (Nat.le_trans z0 (Nat.le_trans f1.size fa.size)) kA ⟨#[98, d]⟩ (by decide) (by decide) (by decide)).mono ?_
  rintro e w2 ⟨rfl, hl2, f2⟩
  have g2 : Fr wc w2 (fun b => B ≤ b) := (f1.trans (fa.mono (fun _ h => h.elim))).trans (f2.mono (fun _ h => h.1))
  have i2 : G.Inv rt True (setS σnew kA ⟨#[98, d]⟩) := inv_new.set _ _
  have s2 : Sizes (setS σnew kA ⟨#[98, d]⟩) := Sizes.new.set _ (show 2 ≤ 200 by decide)
  have t2 := setS_now σnew kA ⟨#[98, d]⟩
  have c2 : (setS σnew kA ⟨#[98, d]⟩).inp = ins (fun _ => none) kA (⟨#[98, d]⟩, 2) := rfl
  generalize setS σnew kA ⟨#[98, d]⟩ = σ2 at *
  have n2 : σ2.now ≤ 2 ∧ 1 ≤ σ2.now := t2.symm
  clear hl1 f1 fa f2 t2
  go_wp2_with fail
  refine (set_at hl2 (Nat.le_trans z0 g2.size) kB ⟨#[99, 37]⟩ (by decide) (by omega) (by omega)).mono ?_
  rintro e w3 ⟨rfl, hl3, f3⟩
  have g3 : Fr wc w3 (fun b => B ≤ b) := g2.trans (f3.mono (fun _ h => h.1))
  have i3 : G.Inv rt True (setS σ2 kB ⟨#[99, 37]⟩) := i2.set _ _
  have s3 : Sizes (setS σ2 kB ⟨#[99, 37]⟩) := s2.set _ (show 2 ≤ 200 by decide)
  have t3 := setS_now σ2 kB ⟨#[99, 37]⟩
  have c3 : Hid (CutIn first d (⟨#[first]⟩ ++ a) (setS (setS σ2 kB ⟨#[99, 37]⟩) kc (⟨#[first]⟩ ++ a))) := by
    refine ⟨⟨2, ?_⟩, ?_, setS_same _ _ _, ?_, ?_⟩
    · rw [setS_other _ _ (by decide), setS_other _ _ (by decide), c2]; exact ins_same _ _ _
    · rw [setS_other _ _ (by decide)]; exact setS_same _ _ _
    · rw [setS_other _ _ (by decide), setS_other _ _ (by decide), c2]; exact ins_other _ _ (by decide)
    · rw [setS_other _ _ (by decide), setS_other _ _ (by decide), c2]; exact ins_other _ _ (by decide)
  generalize setS σ2 kB ⟨#[99, 37]⟩ = σ3 at *
  have n3 : σ3.now ≤ 3 ∧ 1 ≤ σ3.now := by omega
  clear hl2 f3 t3 g2 i2 s2 c2 n2
  have f4a : ∀ o, Fr w3 (w3.alloc o) (fun _ => False) := fun o => (Fr.refl w3 _).alloc o
  have hsx : ((⟨#[first]⟩ : K) ++ a).size ≤ 200 := Nat.le_of_lt hx.1
  have hsy : ((⟨#[first]⟩ : K) ++ b).size ≤ 200 := Nat.le_of_lt hy.1
  go_wp2_with fail
  refine (set_at (hl3.same (f4a _)) (Nat.le_trans z0 (Nat.le_trans g3.size (f4a _).size)) kc _ (by decide) (by omega) (by omega)).mono ?_
  rintro e w4 ⟨rfl, hl4, f4⟩
  have g4 : Fr wc w4 (fun b => B ≤ b) := (g3.trans ((f4a _).mono (fun _ h => h.elim))).trans (f4.mono (fun _ h => h.1))
  have i4 : G.Inv rt True (setS σ3 kc (⟨#[first]⟩ ++ a)) := i3.set _ _
  have s4 : Sizes (setS σ3 kc (⟨#[first]⟩ ++ a)) := s3.set _ hsx
  have t4 := setS_now σ3 kc (⟨#[first]⟩ ++ a)
  have c4 := c3.out
  generalize setS σ3 kc (⟨#[first]⟩ ++ a) = σ4 at *
  have n4 : σ4.now ≤ 4 ∧ 1 ≤ σ4.now := by omega
  have C4 := Lib.hid c4
  clear hl3 f4 t4 g3 i3 s3 c3 n3 f4a c4
  go_wp2_with fail
  refine (ask_at hl4 (Nat.le_trans z0 g4.size) (by decide) (big := True) (fun _ => by decide) i4 s4 ka (by decide)).mono ?_
  rintro e w5 ⟨r, σ5, he, _, hr, hl5, f5⟩
  have g5 : Fr wc w5 (fun b => B ≤ b) := g4.trans (f5.mono (fun _ h => h.1))
  obtain ⟨⟨t, rfl⟩, hnext⟩ := cuts_plain (room := 100) (by decide) i4 C4.out hx hd hr hy
  have he' : e = .returned (.tuple #[.string ⟨#[first, d]⟩, .int .i64 0]) := he
  subst he'
  have hst := (ask_top (big := True) (fun _ => by decide) i4 hr).1
  have i5 : G.Inv rt True σ5 := hst.inv
  have s5 : Sizes σ5 := by
    have e : σ5.I = σ4.I := hst.I
    intro j v hj
    rw [e] at hj
    exact s4 j v hj
  have n5 : σ5.now ≤ 4 ∧ 1 ≤ σ5.now := by rw [show σ5.now = σ4.now from hst.now]; exact n4
  have Hn := Lib.hid hnext
  clear hl4 f5 g4 i4 s4 n4 hr hnext C4 he hst
  go_wp2_with fail
  refine (live_runs hl5).mono ?_
  rintro e w5' ⟨rfl, rfl⟩
  have f6a : ∀ o, Fr w5' (w5'.alloc o) (fun _ => False) := fun o => (Fr.refl w5' _).alloc o
  go_wp2_with fail
  refine (set_at (hl5.same (f6a _)) (Nat.le_trans z0 (Nat.le_trans g5.size (f6a _).size)) kc _ (by decide) (by omega) (by omega)).mono ?_
  rintro e w6 ⟨rfl, hl6, f6⟩
  have g6 : Fr wc w6 (fun b => B ≤ b) := (g5.trans ((f6a _).mono (fun _ h => h.elim))).trans (f6.mono (fun _ h => h.1))
  have i6 : G.Inv rt True (setS σ5 kc (⟨#[first]⟩ ++ b)) := i5.set _ _
  have s6 : Sizes (setS σ5 kc (⟨#[first]⟩ ++ b)) := s5.set _ hsy
  clear hl5 f6 g5 i5 s5 f6a
  go_wp2_with fail
  refine (ask_at hl6 (Nat.le_trans z0 g6.size) (by decide) (big := True) (fun _ => by decide) i6 s6 ka (by decide)).mono ?_
  rintro e w7 ⟨r2, σ7, he, _, hr2, hl7, f7⟩
  have g7 : Fr wc w7 (fun b => B ≤ b) := g6.trans (f7.mono (fun _ h => h.1))
  obtain ⟨⟨t2, rfl⟩, hruns⟩ := Hn.out r2 σ7 hr2
  have he' : e = .returned (.tuple #[.string ⟨#[first, d]⟩, .int .i64 0]) := he
  subst he'
  have Hr := Lib.hid hruns
  clear hl6 f7 g6 i6 s6 hr2 he Hn hruns n5 hsx hsy
  by_cases hab : a = b
  · have hq : (a.toList == b.toList) = true := by rw [hab]; simp
    have hq2 : (σ7.runs == σ5.runs) = true := by rw [Hr.out, if_pos (by rw [hab])]; simp
    clear hab Hr
    go_wp2_with fail
    refine (awake_ok w7).mono ?_
    rintro e w8 ⟨rfl, hb8⟩
    have f8 : Fr w7 w8 (fun _ => False) := ⟨hb8.os, hb8.tape, hb8.output, hb8.size, fun b hlt _ => hb8.block b hlt⟩
    have hl8 := hl7.same f8
    have g8 : Fr wc w8 (fun b => B ≤ b) := g7.trans (f8.mono (fun _ h => h.elim))
    have f9 : ∀ o, Fr w8 (w8.alloc o) (fun _ => False) := fun o => (Fr.refl w8 _).alloc o
    clear hl7 g7 f8 hb8
    go_wp2_with fail
    refine (live_runs (hl8.same (f9 _))).mono ?_
    rintro e w9 ⟨rfl, hw9⟩
    have g9 : Fr wc w9 (fun b => B ≤ b) := by rw [hw9]; exact g8.trans ((f9 _).mono (fun _ h => h.elim))
    clear hw9 f9 g8 hl8
    go_wp2
    go_ret
    exact ⟨rfl, g9.below (Nat.le_refl _) (fun i hi => Nat.le_trans z1 hi)⟩
  · have hq : (a.toList == b.toList) = false := by
      rw [beq_eq_false_iff_ne, ByteArray.toList_eq, ByteArray.toList_eq]
      intro e
      exact hab (ByteArray.ext (Array.toList_inj.1 e))
    have hq2 : (σ7.runs == wrap64 (σ5.runs + 1)) = true := by
      rw [Hr.out, if_neg (fun e => hab (app_inj e))]
      simp
    clear hab Hr
    go_wp2_with fail
    refine (awake_ok w7).mono ?_
    rintro e w8 ⟨rfl, hb8⟩
    have f8 : Fr w7 w8 (fun _ => False) := ⟨hb8.os, hb8.tape, hb8.output, hb8.size, fun b hlt _ => hb8.block b hlt⟩
    have hl8 := hl7.same f8
    have g8 : Fr wc w8 (fun b => B ≤ b) := g7.trans (f8.mono (fun _ h => h.elim))
    have f9 : ∀ o, Fr w8 (w8.alloc o) (fun _ => False) := fun o => (Fr.refl w8 _).alloc o
    clear hl7 g7 f8 hb8
    go_wp2_with fail
    refine (live_runs (hl8.same (f9 _))).mono ?_
    rintro e w9 ⟨rfl, hw9⟩
    have g9 : Fr wc w9 (fun b => B ≤ b) := by rw [hw9]; exact g8.trans ((f9 _).mono (fun _ h => h.elim))
    clear hw9 f9 g8 hl8
    go_wp2
    go_ret
    exact ⟨rfl, g9.below (Nat.le_refl _) (fun i hi => Nat.le_trans z1 hi)⟩
end Go.Proofs.Ytelddnalpkhclaa
