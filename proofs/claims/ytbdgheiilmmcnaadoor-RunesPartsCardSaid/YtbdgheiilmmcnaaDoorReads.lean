/- The walk of the law RunesReads. -/
import Derived.Test.YtbdgheiilmmcnaaDoorCount
import Derived.Test.YtbdgheiilmmcnaaDoorBack
import Derived.Deep.RegionWith
import Derived.Deep.RegionHeld3
import Derived.Test.YtbdgheiilmmcnaaDoorClass
namespace Go.Proofs.YtbdgheiilmmcnaaDoor.R
open Go Go.Proofs Go.RowKit

set_option maxHeartbeats 1000000 in
theorem reads_long (s : ByteArray) (a : Int) (w : World) (hT : Lib.Utf8Tabs 0 1 w) (h1 : 3000 < s.size) : Calls Tryd.prog 5 #[.string s, .int .i64 a] w (TrueB w) := by
  go_enter Tryd.func5, Tryd.ntmps5
  go_wp2_with fail
  refine (awake_walk _ hT).mono ?_
  rintro e w1 ⟨rfl, hb1⟩
  go_wp2_with fail
  go_ret
  exact ⟨rfl, hb1⟩

set_option maxRecDepth 100000 in
set_option maxHeartbeats 1000000 in
theorem reads_out (s : ByteArray) (a : Int) (w : World) (hT : Lib.Utf8Tabs 0 1 w) (h1 : s.size ≤ 3000) (h : a < 0 ∨ (s.size : Int) < a) : Calls Tryd.prog 5 #[.string s, .int .i64 a] w (TrueB w) := by
  have hs : s.size ≤ 35184372088832 := by omega
  have H17 := Lib.hid (fun w : World => next_none s a w hs (by omega))
  have H18 := Lib.hid (fun w : World => column_out s a w h)
  have H19 := Lib.hid (fun w : World => begins_out s a w h)
  have tl : decide (a < 0) = true ∨ decide (a < 0) = false ∧ (s.size : Int) < a := by
    by_cases c : a < 0
    · left; simpa using c
    · right; exact ⟨by simpa using c, by omega⟩
  clear h
  go_enter Tryd.func5, Tryd.ntmps5
  go_wp2_with fail
  refine (bad_walk s _ hs hT).mono ?_
  rintro e w1 ⟨rfl, hb1⟩
  have hc1 := hb1
  go_wp2_with fail
  refine (refBad_walk s _ hs).mono ?_
  rintro e w1' ⟨rfl, rfl⟩
  go_wp2_with fail
  refine (count_walk s _ hs).mono ?_
  rintro e w2 ⟨rfl, hb2⟩
  have hc2 := Below.next hc1 hb2
  have hT2 := Utf8Tabs_below hT hc2
  go_wp2_with fail
  refine (refCount_walk s _ hs).mono ?_
  rintro e w2' ⟨rfl, rfl⟩
  go_wp2_with fail
  refine (H17.out _).mono ?_
  rintro e w3 ⟨rfl, rfl⟩
  go_wp2_with fail
  refine (H18.out _).mono ?_
  rintro e w4 ⟨rfl, rfl⟩
  rcases tl with tl | ⟨tl, tl2⟩
  all_goals
    go_wp2_with fail
    refine (awake_walk _ hT2).mono ?_
    rintro e w5 ⟨rfl, hb5⟩
    have hc5 := Below.next hc2 hb5
    go_wp2_with fail
    refine (H19.out _).mono ?_
    rintro e w6 ⟨rfl, rfl⟩
    go_wp2_with fail
    go_ret
    exact ⟨rfl, hc5⟩

theorem begins_is (s : ByteArray) (pos : Nat) (w : World) (h : pos < s.size) (b : Bool) (hb : Lib.runeStart (s[pos].toNat : Int) = b) :
    Calls Tryd.prog 19 #[.string s, .int .i64 pos] w fun e w' => e = .returned (.bool b) ∧ w = w' := by
  have := begins_in s pos w h
  rw [hb] at this
  exact this
/-- the law's own search for the line's beginning -/
theorem byteAt_extract (s : ByteArray) (a k : Nat) (h : k < a) (ha : a ≤ s.size) : ((s.extract 0 a).data[k]!).toNat = byteAt s k := by
  have h1 : k < (s.extract 0 a).size := by simp; omega
  rw [byteAt_eq s k (by omega)]
  have e : (s.extract 0 a).data[k]! = (s.extract 0 a)[k] := by
    exact getElem!_pos (s.extract 0 a).data k h1
  rw [e]
  congr 1
  simp [ByteArray.getElem_extract]
theorem lastIdx_succ_no {s : ByteArray} {c : Int} {k : Nat} (h : ((s.data[k]!).toNat : Int) ≠ c) : Lib.lastIdx s c (k + 1) = Lib.lastIdx s c k := by
  rw [Lib.lastIdx, if_neg h]
theorem lastIdx_succ_yes {s : ByteArray} {c : Int} {k : Nat} (h : ((s.data[k]!).toNat : Int) = c) : Lib.lastIdx s c (k + 1) = k := by
  rw [Lib.lastIdx, if_pos h]

set_option maxRecDepth 100000 in
set_option maxHeartbeats 4000000 in
theorem reads_low (s : ByteArray) (a : Nat) (w : World) (hT : Lib.Utf8Tabs 0 1 w) (h1 : s.size ≤ 3000) (ha2 : a < s.size) (hb : (s[a].toNat : Int) < 128) : Calls Tryd.prog 5 #[.string s, .int .i64 a] w (TrueB w) := by
  have hs : s.size ≤ 35184372088832 := by omega
  have ha : a ≤ s.size := by omega
  obtain ⟨R, hR⟩ : ∃ R, (Utf8.decode s a).1 = R := ⟨_, rfl⟩
  obtain ⟨K, hK⟩ : ∃ K, (Utf8.decode s a).2 = K := ⟨_, rfl⟩
  have H20 := Lib.hid (fun w : World => next_c s a ha2 hs w R K _ hR hK rfl)
  have H17 := Lib.hid (fun (w : World) (hT : Lib.Utf8Tabs 0 1 w) => next_some s a w hs ha2 hT R K hR hK)
  have H19 := Lib.hid (fun w : World => begins_is s a w ha2 true (by unfold Lib.runeStart; rw [bne_iff_ne]; omega))
  have teq : ((a : Int) == (s.size : Int)) = false := by rw [beq_eq_false_iff_ne]; omega
  have hR2 : (R : Int) ≤ 2147483647 := by rw [← hR]; have := decode_le s a; omega
  clear hR hK
  have hline := Lib.hid (show lineFrom s a = Lib.lastIdx (s.extract 0 a) 10 a + 1 by
    unfold lineFrom Lib.lastIndexByte
    have : (s.extract 0 a).size = a := by simp; omega
    rw [this])
  have H18 := Lib.hid (fun (w : World) (fr : Nat) (hfr : lineFrom s a = fr) => column_in s a w hs ha fr hfr)
  obtain ⟨fr, hfr0⟩ : ∃ fr : Nat, lineFrom s a = fr := by
    have := lineFrom_bounds s a ha
    exact ⟨(lineFrom s a).toNat, by omega⟩
  have Hfr0 := Lib.hid hfr0
  clear hfr0
  go_enter Tryd.func5, Tryd.ntmps5
  go_wp2_with fail
  refine (bad_walk s _ hs hT).mono ?_
  rintro e w1 ⟨rfl, hb1⟩
  have hc1 := hb1
  go_wp2_with fail
  refine (refBad_walk s _ hs).mono ?_
  rintro e w1' ⟨rfl, rfl⟩
  go_wp2_with fail
  refine (count_walk s _ hs).mono ?_
  rintro e w2 ⟨rfl, hb2⟩
  have hc2 := Below.next hc1 hb2
  have hT2 := Utf8Tabs_below hT hc2
  go_wp2_with fail
  refine (refCount_walk s _ hs).mono ?_
  rintro e w2' ⟨rfl, rfl⟩
  go_wp2_with fail
  refine (H17.out _ hT2).mono ?_
  rintro e w3 ⟨rfl, hb3⟩
  have hc3 := Below.next hc2 hb3
  go_wp2_with fail
  refine (H18.out _ fr Hfr0.out).mono ?_
  rintro e w4 ⟨rfl, hb4⟩
  have hc4 := Below.next hc3 hb4
  have hT4 := Utf8Tabs_below hT hc4
  go_wp2_with fail
  go_loop [9] (fun v => ∃ k : Nat, v = .int .i64 k ∧ k ≤ a ∧ Hid (lineFrom s a = Lib.lastIdx (s.extract 0 a) 10 k + 1)) (fun v => (intOf v).toNat)
  case atStart => exact ⟨a, rfl, Nat.le_refl _, hline.out⟩
  case round =>
    obtain ⟨k, rfl, hk, hL⟩ := hrel
    by_cases hk0 : 0 < k
    · obtain ⟨j, rfl⟩ : ∃ j, k = j + 1 := ⟨k - 1, by omega⟩
      have hj1 : j < s.size := by omega
      by_cases hnl : s[j] = 10
      · have Hfr := Lib.hid (show lineFrom s a = ((j + 1 : Nat) : Int) by
          rw [hL.out, lastIdx_succ_yes]
          · omega
          · rw [byteAt_extract s a j (by omega) ha, byteAt_eq s j hj1, hnl]; rfl)
        have tn : ((s[j].toNat : Int) != 10) = false := by rw [hnl]; rfl
        obtain ⟨k, hkj⟩ : ∃ k, k = j + 1 := ⟨_, rfl⟩
        have Hkj := Lib.hid hkj
        rw [← hkj] at Hfr
        clear hL hnl hkj hline
        go_wp2_with fail
        obtain rfl : fr = j + 1 := by have := Hfr.out; have := Hfr0.out; have := Hkj.out; omega
        refine (refCount_walk (s.extract (j + 1) a) _ (by simp; omega)).mono ?_
        rintro e w5 ⟨rfl, rfl⟩
        go_wp2_with fail
        refine (H20.out _).mono ?_
        rintro e w6 ⟨rfl, rfl⟩
        go_wp2_with fail
        clear hb1 hc1 hb2 hc2 hT2 hb3 hc3 hb4 hT4 H17 H18 H20 Hfr Hfr0 Hkj
        have HT := Lib.hid hT
        clear hT
        have hi1 : (a : Int) < (s.size : Int) := by omega
        have hw1 : IntKind.i64.wrap (R : Int) = R := IntWalk.i64_in _ (by omega)
        have hw2 : wrap64 (R : Int) = R := IntWalk.wrap64_in _ (by omega)
        have hd1 : decide ((s[a].toNat : Int) < 128) = true := by rw [decide_eq_true_eq]; omega
        refine wp_region_later (w0 := w) (by kernel_rfl) (by kernel_rfl) hc4 ?_
        repeat (go_big_quiet_step (first | (go_at_call 8; exact Calls.later (awake_walk _ (Utf8Tabs_below HT.out (Later.below _)))) | (go_at_call 19; exact Calls.later_same (H19.out _))))
        refine wpQuiet_nil ?_
        rintro w9 ⟨n9, rfl⟩
        go_wp2_with fail
        go_ret
        exact ⟨rfl, n9.below⟩
      · have hL2 := Lib.hid (show lineFrom s a = Lib.lastIdx (s.extract 0 a) 10 j + 1 by
          rw [hL.out, lastIdx_succ_no]
          rw [byteAt_extract s a j (by omega) ha, byteAt_eq s j hj1]
          intro e
          exact hnl (UInt8.toNat_inj.1 (by have : (10 : UInt8).toNat = 10 := rfl; omega)))
        have tn : ((s[j].toNat : Int) != 10) = true := u8_ne hnl
        clear hL hnl
        go_wp2_with fail
        go_round
        case rel => exact ⟨j, rfl, by omega, hL2⟩
        case measure => simp [intOf]
    · have Hfr := Lib.hid (show lineFrom s a = ((0 : Nat) : Int) by
        have : k = 0 := by omega
        subst this
        rw [hL.out]; rfl)
      obtain rfl : k = 0 := by omega
      clear hL hline
      go_wp2_with fail
      obtain rfl : fr = 0 := by have := Hfr.out; have := Hfr0.out; omega
      refine (refCount_walk (s.extract 0 a) _ (by simp; omega)).mono ?_
      rintro e w5 ⟨rfl, rfl⟩
      go_wp2_with fail
      refine (H20.out _).mono ?_
      rintro e w6 ⟨rfl, rfl⟩
      go_wp2_with fail
      clear hb1 hc1 hb2 hc2 hT2 hb3 hc3 hb4 hT4 H17 H18 H20 Hfr Hfr0
      have HT := Lib.hid hT
      clear hT
      have hi1 : (a : Int) < (s.size : Int) := by omega
      have hw1 : IntKind.i64.wrap (R : Int) = R := IntWalk.i64_in _ (by omega)
      have hw2 : wrap64 (R : Int) = R := IntWalk.wrap64_in _ (by omega)
      have hd1 : decide ((s[a].toNat : Int) < 128) = true := by rw [decide_eq_true_eq]; omega
      refine wp_region_later (w0 := w) (by kernel_rfl) (by kernel_rfl) hc4 ?_
      repeat (go_big_quiet_step (first | (go_at_call 8; exact Calls.later (awake_walk _ (Utf8Tabs_below HT.out (Later.below _)))) | (go_at_call 19; exact Calls.later_same (H19.out _))))
      refine wpQuiet_nil ?_
      rintro w9 ⟨n9, rfl⟩
      go_wp2_with fail
      go_ret
      exact ⟨rfl, n9.below⟩

set_option maxRecDepth 100000 in
set_option maxHeartbeats 4000000 in
theorem reads_mid (s : ByteArray) (a : Nat) (w : World) (hT : Lib.Utf8Tabs 0 1 w) (h1 : s.size ≤ 3000) (ha2 : a < s.size) (hb : 128 ≤ (s[a].toNat : Int)) (hb2 : (s[a].toNat : Int) < 192) : Calls Tryd.prog 5 #[.string s, .int .i64 a] w (TrueB w) := by
  have hs : s.size ≤ 35184372088832 := by omega
  have ha : a ≤ s.size := by omega
  obtain ⟨R, hR⟩ : ∃ R, (Utf8.decode s a).1 = R := ⟨_, rfl⟩
  obtain ⟨K, hK⟩ : ∃ K, (Utf8.decode s a).2 = K := ⟨_, rfl⟩
  have H20 := Lib.hid (fun w : World => next_c s a ha2 hs w R K _ hR hK rfl)
  have H17 := Lib.hid (fun (w : World) (hT : Lib.Utf8Tabs 0 1 w) => next_some s a w hs ha2 hT R K hR hK)
  have H19 := Lib.hid (fun w : World => begins_is s a w ha2 false (by unfold Lib.runeStart; rw [bne_eq_false_iff_eq]; omega))
  have teq : ((a : Int) == (s.size : Int)) = false := by rw [beq_eq_false_iff_ne]; omega
  have hR2 : (R : Int) ≤ 2147483647 := by rw [← hR]; have := decode_le s a; omega
  clear hR hK
  have hline := Lib.hid (show lineFrom s a = Lib.lastIdx (s.extract 0 a) 10 a + 1 by
    unfold lineFrom Lib.lastIndexByte
    have : (s.extract 0 a).size = a := by simp; omega
    rw [this])
  have H18 := Lib.hid (fun (w : World) (fr : Nat) (hfr : lineFrom s a = fr) => column_in s a w hs ha fr hfr)
  obtain ⟨fr, hfr0⟩ : ∃ fr : Nat, lineFrom s a = fr := by
    have := lineFrom_bounds s a ha
    exact ⟨(lineFrom s a).toNat, by omega⟩
  have Hfr0 := Lib.hid hfr0
  clear hfr0
  go_enter Tryd.func5, Tryd.ntmps5
  go_wp2_with fail
  refine (bad_walk s _ hs hT).mono ?_
  rintro e w1 ⟨rfl, hb1⟩
  have hc1 := hb1
  go_wp2_with fail
  refine (refBad_walk s _ hs).mono ?_
  rintro e w1' ⟨rfl, rfl⟩
  go_wp2_with fail
  refine (count_walk s _ hs).mono ?_
  rintro e w2 ⟨rfl, hb2⟩
  have hc2 := Below.next hc1 hb2
  have hT2 := Utf8Tabs_below hT hc2
  go_wp2_with fail
  refine (refCount_walk s _ hs).mono ?_
  rintro e w2' ⟨rfl, rfl⟩
  go_wp2_with fail
  refine (H17.out _ hT2).mono ?_
  rintro e w3 ⟨rfl, hb3⟩
  have hc3 := Below.next hc2 hb3
  go_wp2_with fail
  refine (H18.out _ fr Hfr0.out).mono ?_
  rintro e w4 ⟨rfl, hb4⟩
  have hc4 := Below.next hc3 hb4
  have hT4 := Utf8Tabs_below hT hc4
  go_wp2_with fail
  go_loop [9] (fun v => ∃ k : Nat, v = .int .i64 k ∧ k ≤ a ∧ Hid (lineFrom s a = Lib.lastIdx (s.extract 0 a) 10 k + 1)) (fun v => (intOf v).toNat)
  case atStart => exact ⟨a, rfl, Nat.le_refl _, hline.out⟩
  case round =>
    obtain ⟨k, rfl, hk, hL⟩ := hrel
    by_cases hk0 : 0 < k
    · obtain ⟨j, rfl⟩ : ∃ j, k = j + 1 := ⟨k - 1, by omega⟩
      have hj1 : j < s.size := by omega
      by_cases hnl : s[j] = 10
      · have Hfr := Lib.hid (show lineFrom s a = ((j + 1 : Nat) : Int) by
          rw [hL.out, lastIdx_succ_yes]
          · omega
          · rw [byteAt_extract s a j (by omega) ha, byteAt_eq s j hj1, hnl]; rfl)
        have tn : ((s[j].toNat : Int) != 10) = false := by rw [hnl]; rfl
        obtain ⟨k, hkj⟩ : ∃ k, k = j + 1 := ⟨_, rfl⟩
        have Hkj := Lib.hid hkj
        rw [← hkj] at Hfr
        clear hL hnl hkj hline
        go_wp2_with fail
        obtain rfl : fr = j + 1 := by have := Hfr.out; have := Hfr0.out; have := Hkj.out; omega
        refine (refCount_walk (s.extract (j + 1) a) _ (by simp; omega)).mono ?_
        rintro e w5 ⟨rfl, rfl⟩
        go_wp2_with fail
        refine (H20.out _).mono ?_
        rintro e w6 ⟨rfl, rfl⟩
        go_wp2_with fail
        clear hb1 hc1 hb2 hc2 hT2 hb3 hc3 hb4 hT4 H17 H18 H20 Hfr Hfr0 Hkj
        have HT := Lib.hid hT
        clear hT
        have hi1 : (a : Int) < (s.size : Int) := by omega
        have hw1 : IntKind.i64.wrap (R : Int) = R := IntWalk.i64_in _ (by omega)
        have hw2 : wrap64 (R : Int) = R := IntWalk.wrap64_in _ (by omega)
        have hd1 : decide ((s[a].toNat : Int) < 128) = false := by rw [decide_eq_false_iff_not]; omega
        have hd2 : decide (192 ≤ (s[a].toNat : Int)) = false := by rw [decide_eq_false_iff_not]; omega
        refine wp_region_later (w0 := w) (by kernel_rfl) (by kernel_rfl) hc4 ?_
        repeat (go_big_quiet_step (first | (go_at_call 8; exact Calls.later (awake_walk _ (Utf8Tabs_below HT.out (Later.below _)))) | (go_at_call 19; exact Calls.later_same (H19.out _))))
        refine wpQuiet_nil ?_
        rintro w9 ⟨n9, rfl⟩
        go_wp2_with fail
        go_ret
        exact ⟨rfl, n9.below⟩
      · have hL2 := Lib.hid (show lineFrom s a = Lib.lastIdx (s.extract 0 a) 10 j + 1 by
          rw [hL.out, lastIdx_succ_no]
          rw [byteAt_extract s a j (by omega) ha, byteAt_eq s j hj1]
          intro e
          exact hnl (UInt8.toNat_inj.1 (by have : (10 : UInt8).toNat = 10 := rfl; omega)))
        have tn : ((s[j].toNat : Int) != 10) = true := u8_ne hnl
        clear hL hnl
        go_wp2_with fail
        go_round
        case rel => exact ⟨j, rfl, by omega, hL2⟩
        case measure => simp [intOf]
    · have Hfr := Lib.hid (show lineFrom s a = ((0 : Nat) : Int) by
        have : k = 0 := by omega
        subst this
        rw [hL.out]; rfl)
      obtain rfl : k = 0 := by omega
      clear hL hline
      go_wp2_with fail
      obtain rfl : fr = 0 := by have := Hfr.out; have := Hfr0.out; omega
      refine (refCount_walk (s.extract 0 a) _ (by simp; omega)).mono ?_
      rintro e w5 ⟨rfl, rfl⟩
      go_wp2_with fail
      refine (H20.out _).mono ?_
      rintro e w6 ⟨rfl, rfl⟩
      go_wp2_with fail
      clear hb1 hc1 hb2 hc2 hT2 hb3 hc3 hb4 hT4 H17 H18 H20 Hfr Hfr0
      have HT := Lib.hid hT
      clear hT
      have hi1 : (a : Int) < (s.size : Int) := by omega
      have hw1 : IntKind.i64.wrap (R : Int) = R := IntWalk.i64_in _ (by omega)
      have hw2 : wrap64 (R : Int) = R := IntWalk.wrap64_in _ (by omega)
      have hd1 : decide ((s[a].toNat : Int) < 128) = false := by rw [decide_eq_false_iff_not]; omega
      have hd2 : decide (192 ≤ (s[a].toNat : Int)) = false := by rw [decide_eq_false_iff_not]; omega
      refine wp_region_later (w0 := w) (by kernel_rfl) (by kernel_rfl) hc4 ?_
      repeat (go_big_quiet_step (first | (go_at_call 8; exact Calls.later (awake_walk _ (Utf8Tabs_below HT.out (Later.below _)))) | (go_at_call 19; exact Calls.later_same (H19.out _))))
      refine wpQuiet_nil ?_
      rintro w9 ⟨n9, rfl⟩
      go_wp2_with fail
      go_ret
      exact ⟨rfl, n9.below⟩

set_option maxRecDepth 100000 in
set_option maxHeartbeats 4000000 in
theorem reads_high (s : ByteArray) (a : Nat) (w : World) (hT : Lib.Utf8Tabs 0 1 w) (h1 : s.size ≤ 3000) (ha2 : a < s.size) (hb : 192 ≤ (s[a].toNat : Int)) (hb2 : (s[a].toNat : Int) < 256) : Calls Tryd.prog 5 #[.string s, .int .i64 a] w (TrueB w) := by
  have hs : s.size ≤ 35184372088832 := by omega
  have ha : a ≤ s.size := by omega
  obtain ⟨R, hR⟩ : ∃ R, (Utf8.decode s a).1 = R := ⟨_, rfl⟩
  obtain ⟨K, hK⟩ : ∃ K, (Utf8.decode s a).2 = K := ⟨_, rfl⟩
  have H20 := Lib.hid (fun w : World => next_c s a ha2 hs w R K _ hR hK rfl)
  have H17 := Lib.hid (fun (w : World) (hT : Lib.Utf8Tabs 0 1 w) => next_some s a w hs ha2 hT R K hR hK)
  have H19 := Lib.hid (fun w : World => begins_is s a w ha2 true (by unfold Lib.runeStart; rw [bne_iff_ne]; omega))
  have teq : ((a : Int) == (s.size : Int)) = false := by rw [beq_eq_false_iff_ne]; omega
  have hR2 : (R : Int) ≤ 2147483647 := by rw [← hR]; have := decode_le s a; omega
  clear hR hK
  have hline := Lib.hid (show lineFrom s a = Lib.lastIdx (s.extract 0 a) 10 a + 1 by
    unfold lineFrom Lib.lastIndexByte
    have : (s.extract 0 a).size = a := by simp; omega
    rw [this])
  have H18 := Lib.hid (fun (w : World) (fr : Nat) (hfr : lineFrom s a = fr) => column_in s a w hs ha fr hfr)
  obtain ⟨fr, hfr0⟩ : ∃ fr : Nat, lineFrom s a = fr := by
    have := lineFrom_bounds s a ha
    exact ⟨(lineFrom s a).toNat, by omega⟩
  have Hfr0 := Lib.hid hfr0
  clear hfr0
  go_enter Tryd.func5, Tryd.ntmps5
  go_wp2_with fail
  refine (bad_walk s _ hs hT).mono ?_
  rintro e w1 ⟨rfl, hb1⟩
  have hc1 := hb1
  go_wp2_with fail
  refine (refBad_walk s _ hs).mono ?_
  rintro e w1' ⟨rfl, rfl⟩
  go_wp2_with fail
  refine (count_walk s _ hs).mono ?_
  rintro e w2 ⟨rfl, hb2⟩
  have hc2 := Below.next hc1 hb2
  have hT2 := Utf8Tabs_below hT hc2
  go_wp2_with fail
  refine (refCount_walk s _ hs).mono ?_
  rintro e w2' ⟨rfl, rfl⟩
  go_wp2_with fail
  refine (H17.out _ hT2).mono ?_
  rintro e w3 ⟨rfl, hb3⟩
  have hc3 := Below.next hc2 hb3
  go_wp2_with fail
  refine (H18.out _ fr Hfr0.out).mono ?_
  rintro e w4 ⟨rfl, hb4⟩
  have hc4 := Below.next hc3 hb4
  have hT4 := Utf8Tabs_below hT hc4
  go_wp2_with fail
  go_loop [9] (fun v => ∃ k : Nat, v = .int .i64 k ∧ k ≤ a ∧ Hid (lineFrom s a = Lib.lastIdx (s.extract 0 a) 10 k + 1)) (fun v => (intOf v).toNat)
  case atStart => exact ⟨a, rfl, Nat.le_refl _, hline.out⟩
  case round =>
    obtain ⟨k, rfl, hk, hL⟩ := hrel
    by_cases hk0 : 0 < k
    · obtain ⟨j, rfl⟩ : ∃ j, k = j + 1 := ⟨k - 1, by omega⟩
      have hj1 : j < s.size := by omega
      by_cases hnl : s[j] = 10
      · have Hfr := Lib.hid (show lineFrom s a = ((j + 1 : Nat) : Int) by
          rw [hL.out, lastIdx_succ_yes]
          · omega
          · rw [byteAt_extract s a j (by omega) ha, byteAt_eq s j hj1, hnl]; rfl)
        have tn : ((s[j].toNat : Int) != 10) = false := by rw [hnl]; rfl
        obtain ⟨k, hkj⟩ : ∃ k, k = j + 1 := ⟨_, rfl⟩
        have Hkj := Lib.hid hkj
        rw [← hkj] at Hfr
        clear hL hnl hkj hline
        go_wp2_with fail
        obtain rfl : fr = j + 1 := by have := Hfr.out; have := Hfr0.out; have := Hkj.out; omega
        refine (refCount_walk (s.extract (j + 1) a) _ (by simp; omega)).mono ?_
        rintro e w5 ⟨rfl, rfl⟩
        go_wp2_with fail
        refine (H20.out _).mono ?_
        rintro e w6 ⟨rfl, rfl⟩
        go_wp2_with fail
        clear hb1 hc1 hb2 hc2 hT2 hb3 hc3 hb4 hT4 H17 H18 H20 Hfr Hfr0 Hkj
        have HT := Lib.hid hT
        clear hT
        have hi1 : (a : Int) < (s.size : Int) := by omega
        have hw1 : IntKind.i64.wrap (R : Int) = R := IntWalk.i64_in _ (by omega)
        have hw2 : wrap64 (R : Int) = R := IntWalk.wrap64_in _ (by omega)
        have hd1 : decide ((s[a].toNat : Int) < 128) = false := by rw [decide_eq_false_iff_not]; omega
        have hd2 : decide (192 ≤ (s[a].toNat : Int)) = true := by rw [decide_eq_true_eq]; omega
        refine wp_region_later (w0 := w) (by kernel_rfl) (by kernel_rfl) hc4 ?_
        repeat (go_big_quiet_step (first | (go_at_call 8; exact Calls.later (awake_walk _ (Utf8Tabs_below HT.out (Later.below _)))) | (go_at_call 19; exact Calls.later_same (H19.out _))))
        refine wpQuiet_nil ?_
        rintro w9 ⟨n9, rfl⟩
        go_wp2_with fail
        go_ret
        exact ⟨rfl, n9.below⟩
      · have hL2 := Lib.hid (show lineFrom s a = Lib.lastIdx (s.extract 0 a) 10 j + 1 by
          rw [hL.out, lastIdx_succ_no]
          rw [byteAt_extract s a j (by omega) ha, byteAt_eq s j hj1]
          intro e
          exact hnl (UInt8.toNat_inj.1 (by have : (10 : UInt8).toNat = 10 := rfl; omega)))
        have tn : ((s[j].toNat : Int) != 10) = true := u8_ne hnl
        clear hL hnl
        go_wp2_with fail
        go_round
        case rel => exact ⟨j, rfl, by omega, hL2⟩
        case measure => simp [intOf]
    · have Hfr := Lib.hid (show lineFrom s a = ((0 : Nat) : Int) by
        have : k = 0 := by omega
        subst this
        rw [hL.out]; rfl)
      obtain rfl : k = 0 := by omega
      clear hL hline
      go_wp2_with fail
      obtain rfl : fr = 0 := by have := Hfr.out; have := Hfr0.out; omega
      refine (refCount_walk (s.extract 0 a) _ (by simp; omega)).mono ?_
      rintro e w5 ⟨rfl, rfl⟩
      go_wp2_with fail
      refine (H20.out _).mono ?_
      rintro e w6 ⟨rfl, rfl⟩
      go_wp2_with fail
      clear hb1 hc1 hb2 hc2 hT2 hb3 hc3 hb4 hT4 H17 H18 H20 Hfr Hfr0
      have HT := Lib.hid hT
      clear hT
      have hi1 : (a : Int) < (s.size : Int) := by omega
      have hw1 : IntKind.i64.wrap (R : Int) = R := IntWalk.i64_in _ (by omega)
      have hw2 : wrap64 (R : Int) = R := IntWalk.wrap64_in _ (by omega)
      have hd1 : decide ((s[a].toNat : Int) < 128) = false := by rw [decide_eq_false_iff_not]; omega
      have hd2 : decide (192 ≤ (s[a].toNat : Int)) = true := by rw [decide_eq_true_eq]; omega
      refine wp_region_later (w0 := w) (by kernel_rfl) (by kernel_rfl) hc4 ?_
      repeat (go_big_quiet_step (first | (go_at_call 8; exact Calls.later (awake_walk _ (Utf8Tabs_below HT.out (Later.below _)))) | (go_at_call 19; exact Calls.later_same (H19.out _))))
      refine wpQuiet_nil ?_
      rintro w9 ⟨n9, rfl⟩
      go_wp2_with fail
      go_ret
      exact ⟨rfl, n9.below⟩
end Go.Proofs.YtbdgheiilmmcnaaDoor.R
