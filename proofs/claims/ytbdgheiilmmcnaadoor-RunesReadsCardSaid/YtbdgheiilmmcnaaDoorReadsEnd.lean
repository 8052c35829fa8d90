/- The walk of the law RunesReads, its end. -/
import Derived.Test.YtbdgheiilmmcnaaDoorReads
namespace Go.Proofs.YtbdgheiilmmcnaaDoor.R
open Go Go.Proofs Go.RowKit

set_option maxRecDepth 100000 in
set_option maxHeartbeats 4000000 in
theorem reads_end (s : ByteArray) (w : World) (hT : Lib.Utf8Tabs 0 1 w) (h1 : s.size ≤ 3000) : Calls Tryd.prog 5 #[.string s, .int .i64 s.size] w (TrueB w) := by
  have hs : s.size ≤ 35184372088832 := by omega
  have ha : s.size ≤ s.size := Nat.le_refl _
  have H17 := Lib.hid (fun w : World => next_none s s.size w hs (Or.inr (Int.le_refl _)))
  have H19 := Lib.hid (fun w : World => begins_end s w)
  have hline := Lib.hid (show lineFrom s s.size = Lib.lastIdx (s.extract 0 s.size) 10 s.size + 1 by
    unfold lineFrom Lib.lastIndexByte
    have : (s.extract 0 s.size).size = s.size := by simp
    rw [this])
  have H18 := Lib.hid (fun (w : World) (fr : Nat) (hfr : lineFrom s s.size = fr) => column_in s s.size w hs ha fr hfr)
  obtain ⟨fr, hfr0⟩ : ∃ fr : Nat, lineFrom s s.size = fr := by
    have := lineFrom_bounds s s.size ha
    exact ⟨(lineFrom s s.size).toNat, by omega⟩
  have Hfr0 := Lib.hid hfr0
  clear hfr0
  go_enter Tryd.func5, Tryd.ntmps5
  go_wp2_with fail
  refine (bad_walk s _ hs hT).mono ?_
  rintro e w1 ⟨rfl, hb1⟩
  have hc1 := hb1
  go_wp2_with fail
  refine (refBad_walk s _ hs).mono ?_
  rintro e w1' ⟨rfl, rfl⟩
  go_wp2_with fail
  refine (count_walk s _ hs).mono ?_
  rintro e w2 ⟨rfl, hb2⟩
  have hc2 := Below.next hc1 hb2
  have hT2 := Utf8Tabs_below hT hc2
  go_wp2_with fail
  refine (refCount_walk s _ hs).mono ?_
  rintro e w2' ⟨rfl, rfl⟩
  go_wp2_with fail
  refine (H17.out _).mono ?_
  rintro e w3 ⟨rfl, rfl⟩
  go_wp2_with fail
  refine (H18.out _ fr Hfr0.out).mono ?_
  rintro e w4 ⟨rfl, hb4⟩
  have hc4 := Below.next hc2 hb4
  have hT4 := Utf8Tabs_below hT hc4
  go_wp2_with fail
  go_loop [9] (fun v => ∃ k : Nat, v = .int .i64 k ∧ k ≤ s.size ∧ Hid (lineFrom s s.size = Lib.lastIdx (s.extract 0 s.size) 10 k + 1)) (fun v => (intOf v).toNat)
  case atStart => exact ⟨s.size, rfl, Nat.le_refl _, hline.out⟩
  case round =>
    obtain ⟨k, rfl, hk, hL⟩ := hrel
    by_cases hk0 : 0 < k
    · obtain ⟨j, rfl⟩ : ∃ j, k = j + 1 := ⟨k - 1, by omega⟩
      have hj1 : j < s.size := by omega
      by_cases hnl : s[j] = 10
      · have Hfr := Lib.hid (show lineFrom s s.size = ((j + 1 : Nat) : Int) by
          rw [hL.out, lastIdx_succ_yes]
          · omega
          · rw [byteAt_extract s s.size j (by omega) ha, byteAt_eq s j hj1, hnl]; rfl)
        have tn : ((s[j].toNat : Int) != 10) = false := by rw [hnl]; rfl
        obtain ⟨k, hkj⟩ : ∃ k, k = j + 1 := ⟨_, rfl⟩
        have Hkj := Lib.hid hkj
        rw [← hkj] at Hfr
        clear hL hnl hkj hline
        go_wp2_with fail
        obtain rfl : fr = j + 1 := by have := Hfr.out; have := Hfr0.out; have := Hkj.out; omega
        refine (refCount_walk (s.extract (j + 1) s.size) _ (by simp; omega)).mono ?_
        rintro e w5 ⟨rfl, rfl⟩
        go_wp2_with fail
        refine (awake_walk _ hT4).mono ?_
        rintro e w6 ⟨rfl, hb6⟩
        have hc6 := Below.next hc4 hb6
        go_wp2_with fail
        refine (H19.out _).mono ?_
        rintro e w7 ⟨rfl, rfl⟩
        go_wp2_with fail
        go_ret
        exact ⟨rfl, hc6⟩
      · have hL2 := Lib.hid (show lineFrom s s.size = Lib.lastIdx (s.extract 0 s.size) 10 j + 1 by
          rw [hL.out, lastIdx_succ_no]
          rw [byteAt_extract s s.size j (by omega) ha, byteAt_eq s j hj1]
          intro e
          exact hnl (UInt8.toNat_inj.1 (by have : (10 : UInt8).toNat = 10 := rfl; omega)))
        have tn : ((s[j].toNat : Int) != 10) = true := u8_ne hnl
        clear hL hnl
        go_wp2_with fail
        go_round
        case rel => exact ⟨j, rfl, by omega, hL2⟩
        case measure => simp [intOf]
    · have Hfr := Lib.hid (show lineFrom s s.size = ((0 : Nat) : Int) by
        have : k = 0 := by omega
        subst this
        rw [hL.out]; rfl)
      obtain rfl : k = 0 := by omega
      clear hL hline
      go_wp2_with fail
      obtain rfl : fr = 0 := by have := Hfr.out; have := Hfr0.out; omega
      refine (refCount_walk s _ hs).mono ?_
      rintro e w5 ⟨rfl, rfl⟩
      go_wp2_with fail
      refine (awake_walk _ hT4).mono ?_
      rintro e w6 ⟨rfl, hb6⟩
      have hc6 := Below.next hc4 hb6
      go_wp2_with fail
      refine (H19.out _).mono ?_
      rintro e w7 ⟨rfl, rfl⟩
      go_wp2_with fail
      go_ret
      exact ⟨rfl, hc6⟩

theorem reads_walk (s : ByteArray) (a : Int) (w : World) (hT : Lib.Utf8Tabs 0 1 w) : Calls Tryd.prog 5 #[.string s, .int .i64 a] w (TrueB w) := by
  by_cases h1 : 3000 < s.size
  · exact reads_long s a w hT h1
  by_cases h2 : a < 0 ∨ (s.size : Int) < a
  · exact reads_out s a w hT (by omega) h2
  obtain ⟨k, rfl⟩ : ∃ k : Nat, a = k := ⟨a.toNat, by omega⟩
  by_cases h3 : k = s.size
  · subst h3; exact reads_end s w hT (by omega)
  have hk : k < s.size := by omega
  have hu := UInt8.toNat_lt s[k]
  by_cases h4 : (s[k].toNat : Int) < 128
  · exact reads_low s k w hT (by omega) hk h4
  by_cases h5 : (s[k].toNat : Int) < 192
  · exact reads_mid s k w hT (by omega) hk (by omega) h5
  · exact reads_high s k w hT (by omega) hk (by omega) (by omega)
end Go.Proofs.YtbdgheiilmmcnaaDoor.R
