/- The walk of the law RunesParts. -/
import Derived.Test.YtbdgheiilmmcnaaDoorPuts
import Derived.Test.YtbdgheiilmmcnaaDoorReads
namespace Go.Proofs.YtbdgheiilmmcnaaDoor.R
open Go Go.Proofs Go.RowKit

set_option maxHeartbeats 1000000 in
theorem parts_long (s : ByteArray) (a r : Int) (w : World) (hT : Lib.Utf8Tabs 0 1 w) (h1 : 2000 < s.size) : Calls Tryd.prog 7 #[.string s, .int .i64 a, .int .i32 r] w (TrueB w) := by
  go_enter Tryd.func7, Tryd.ntmps7
  go_wp2_with fail
  refine (awake_walk _ hT).mono ?_
  rintro e w1 ⟨rfl, hb1⟩
  go_wp2_with fail
  go_ret
  exact ⟨rfl, hb1⟩
set_option maxHeartbeats 1000000 in
theorem parts_bad (s : ByteArray) (a r : Int) (w : World) (hT : Lib.Utf8Tabs 0 1 w) (h1 : s.size ≤ 2000) (hbad : 0 ≤ bad s) : Calls Tryd.prog 7 #[.string s, .int .i64 a, .int .i32 r] w (TrueB w) := by
  have H := Lib.hid (bad_walk s w (by omega) hT)
  obtain ⟨z, hz⟩ : ∃ z, bad s = z := ⟨_, rfl⟩
  rw [hz] at H hbad
  clear hz
  go_enter Tryd.func7, Tryd.ntmps7
  go_wp2_with fail
  refine H.out.mono ?_
  rintro e w1 ⟨rfl, hb1⟩
  have hT1 := Utf8Tabs_below hT hb1
  go_wp2_with fail
  refine (awake_walk _ hT1).mono ?_
  rintro e w2 ⟨rfl, hb2⟩
  have hc2 := Below.next hb1 hb2
  go_wp2_with fail
  go_ret
  exact ⟨rfl, hc2⟩
set_option maxHeartbeats 1000000 in
theorem parts_not (s : ByteArray) (a r : Int) (w : World) (hT : Lib.Utf8Tabs 0 1 w) (h1 : s.size ≤ 2000) (hbad : bad s = -1) (hbe : ∀ w : World, Calls Tryd.prog 19 #[.string s, .int .i64 a] w fun e w' => e = .returned (.bool false) ∧ w = w') :
    Calls Tryd.prog 7 #[.string s, .int .i64 a, .int .i32 r] w (TrueB w) := by
  have h := bad_walk s w (by omega) hT
  rw [hbad] at h
  have H := Lib.hid h
  have HB := Lib.hid hbe
  clear h hbad hbe
  go_enter Tryd.func7, Tryd.ntmps7
  go_wp2_with fail
  refine H.out.mono ?_
  rintro e w1 ⟨rfl, hb1⟩
  have hT1 := Utf8Tabs_below hT hb1
  go_wp2_with fail
  refine (HB.out _).mono ?_
  rintro e w1' ⟨rfl, rfl⟩
  go_wp2_with fail
  refine (awake_walk _ hT1).mono ?_
  rintro e w2 ⟨rfl, hb2⟩
  have hc2 := Below.next hb1 hb2
  go_wp2_with fail
  go_ret
  exact ⟨rfl, hc2⟩

structure PartsFacts (s : ByteArray) (a : Nat) (r : Int) (k1 k2 : Nat) (w : World) : Prop where
  tabs : Lib.Utf8Tabs 0 1 w
  bad : ∀ w' : World, Below w.heap.size w w' → Calls Tryd.prog 13 #[.string s] w' fun e w'' => e = .returned (.int .i64 (-1)) ∧ Below w'.heap.size w' w''
  begins : ∀ w' : World, Calls Tryd.prog 19 #[.string s, .int .i64 a] w' fun e w'' => e = .returned (.bool true) ∧ w' = w''
  badA : ∀ w' : World, Below w.heap.size w w' → Calls Tryd.prog 13 #[.string (s.extract 0 a)] w' fun e w'' => e = .returned (.int .i64 (-1)) ∧ Below w'.heap.size w' w''
  badB : ∀ w' : World, Below w.heap.size w w' → Calls Tryd.prog 13 #[.string (s.extract a s.size)] w' fun e w'' => e = .returned (.int .i64 (-1)) ∧ Below w'.heap.size w' w''
  countA : ∀ w' : World, Calls Tryd.prog 15 #[.string (s.extract 0 a)] w' fun e w'' => e = .returned (.int .i64 k1) ∧ Below w'.heap.size w' w''
  countB : ∀ w' : World, Calls Tryd.prog 15 #[.string (s.extract a s.size)] w' fun e w'' => e = .returned (.int .i64 k2) ∧ Below w'.heap.size w' w''
  countS : ∀ w' : World, Calls Tryd.prog 15 #[.string s] w' fun e w'' => e = .returned (.int .i64 ((k1 : Int) + k2)) ∧ Below w'.heap.size w' w''
  put : ∀ w' : World, Calls Tryd.prog 22 #[.string s, .slice (some ⟨w'.heap.size, 0, none⟩) 1 1] (w'.alloc (.cells #[.int .i32 r] 21)) fun e w'' => e = .returned (.string (s ++ encB r)) ∧ Below w'.heap.size w' w''
  countP : ∀ w' : World, Calls Tryd.prog 15 #[.string (s ++ encB r)] w' fun e w'' => e = .returned (.int .i64 ((k1 : Int) + k2 + 1)) ∧ Below w'.heap.size w' w''
  small : k1 + k2 ≤ 2000
theorem parts_facts (s : ByteArray) (a : Nat) (r : Int) (w : World) (hT : Lib.Utf8Tabs 0 1 w) (hs : s.size ≤ 2000) (ha : a ≤ s.size) (h0 : -2147483648 ≤ r) (h1 : r ≤ 2147483647) (hbad : R.bad s = -1)
    (hbe : ∀ w' : World, Calls Tryd.prog 19 #[.string s, .int .i64 a] w' fun e w'' => e = .returned (.bool true) ∧ w' = w'') (hb : a = s.size ∨ ¬ M (byteAt s a)) : ∃ k1 k2, PartsFacts s a r k1 k2 w := by
  obtain ⟨k, hk⟩ := steps_all hbad
  obtain ⟨k1, k2, rfl, s1, s2⟩ := steps_cut hk a (Nat.zero_le _) ha hb
  have hA : (s.extract 0 a).size ≤ 2000 := by simp; omega
  have hBs : (s.extract a s.size).size ≤ 2000 := by simp; omega
  have hP := put_steps hk r
  have hPs : (s ++ encB r).size ≤ 3000 := by
    have h2 := encB_size r
    have h3 := Lib.encodeRuneZ_length r
    rw [ByteArray.size_append]; omega
  refine ⟨k1, k2, hT, fun w' hb => ?_, hbe, fun w' hb => ?_, fun w' hb => ?_, fun w' => ?_, fun w' => ?_, fun w' => ?_, fun w' => ?_, fun w' => ?_, ?_⟩
  · have := bad_walk s w' (by omega) (Utf8Tabs_below hT hb)
    rw [hbad] at this; exact this
  · have := bad_walk (s.extract 0 a) w' (by omega) (Utf8Tabs_below hT hb)
    rw [steps_bad s1] at this; exact this
  · have := bad_walk (s.extract a s.size) w' (by omega) (Utf8Tabs_below hT hb)
    rw [steps_bad s2] at this; exact this
  · have := count_walk (s.extract 0 a) w' (by omega)
    rw [steps_count s1] at this; exact this
  · have := count_walk (s.extract a s.size) w' (by omega)
    rw [steps_count s2] at this; exact this
  · have := count_walk s w' (by omega)
    rw [steps_count hk] at this
    rw [show ((k1 : Int) + k2) = ((k1 + k2 : Nat) : Int) by omega]; exact this
  · have := put_walk s (.slice (some ⟨w'.heap.size, 0, none⟩) 1 1) [r] (w'.alloc (.cells #[.int .i32 r] 21)) hs (by simp) (fun z hz => by simp at hz; subst hz; exact ⟨h0, h1⟩)
      (Or.inr ⟨w'.heap.size, 0, 1, rfl, by simp, fun i hi => by
        have : i = 0 := by simpa using hi
        subst this
        simp⟩)
    refine this.mono ?_
    rintro e w'' ⟨rfl, hb⟩
    exact ⟨rfl, Below.next ((Below.refl _ w').alloc (Nat.le_refl _) _) hb⟩
  · have := count_walk (s ++ encB r) w' (by omega)
    rw [steps_count hP] at this
    rw [show ((k1 : Int) + k2 + 1) = ((k1 + k2 + 1 : Nat) : Int) by omega]; exact this
  · have h1 := Lib.runeCount_le s
    rw [steps_count hk] at h1
    omega

set_option maxRecDepth 100000 in
set_option maxHeartbeats 2000000 in
theorem parts_main (s : ByteArray) (a : Nat) (r : Int) (k1 k2 : Nat) (w : World) (hs : s.size ≤ 2000) (ha : a ≤ s.size) (hF : PartsFacts s a r k1 k2 w) : Calls Tryd.prog 7 #[.string s, .int .i64 a, .int .i32 r] w (TrueB w) := by
  have HF := Lib.hid hF
  have hsm := hF.small
  clear hF
  have hai : (a : Int) ≤ (s.size : Int) := by omega
  go_enter Tryd.func7, Tryd.ntmps7
  go_wp2_with fail
  refine (HF.out.bad _ (Below.refl _ _)).mono ?_
  rintro e w1 ⟨rfl, hb1⟩
  have hc1 := hb1
  go_wp2_with fail
  refine (HF.out.begins _).mono ?_
  rintro e w1' ⟨rfl, rfl⟩
  go_wp2_with fail
  go_quiet (fail)
  have hc2 : Below w.heap.size w (w1.drewN nq) := Below.next hc1 ⟨rfl, rfl, rfl, Nat.le_refl _, fun _ _ => rfl⟩
  go_wp2_with fail
  refine (awake_walk _ (Utf8Tabs_below HF.out.tabs hc2)).mono ?_
  rintro e w3 ⟨rfl, hb3⟩
  have hc3 := Below.next hc2 hb3
  go_wp2_with fail
  refine (HF.out.countA _).mono ?_
  rintro e w4 ⟨rfl, hb4⟩
  have hc4 := Below.next hc3 hb4
  go_wp2_with fail
  refine (HF.out.countB _).mono ?_
  rintro e w5 ⟨rfl, hb5⟩
  have hc5 := Below.next hc4 hb5
  go_wp2_with fail
  refine (HF.out.countS _).mono ?_
  rintro e w6 ⟨rfl, hb6⟩
  have hc6 := Below.next hc5 hb6
  go_wp2_with fail
  refine (HF.out.badA _ hc6).mono ?_
  rintro e w7 ⟨rfl, hb7⟩
  have hc7 := Below.next hc6 hb7
  go_wp2_with fail
  refine (HF.out.badB _ hc7).mono ?_
  rintro e w8 ⟨rfl, hb8⟩
  have hc8 := Below.next hc7 hb8
  go_wp2_with fail
  refine (HF.out.put _).mono ?_
  rintro e w9 ⟨rfl, hb9⟩
  have hc9 := Below.next hc8 hb9
  go_wp2_with fail
  refine (HF.out.countP _).mono ?_
  rintro e w10 ⟨rfl, hb10⟩
  have hc10 := Below.next hc9 hb10
  go_wp2_with fail
  refine (HF.out.countS _).mono ?_
  rintro e w11 ⟨rfl, hb11⟩
  have hc11 := Below.next hc10 hb11
  go_wp2_with fail
  go_ret
  exact ⟨rfl, hc11⟩

theorem parts_walk (s : ByteArray) (a r : Int) (w : World) (hT : Lib.Utf8Tabs 0 1 w) (h0 : -2147483648 ≤ r) (h1 : r ≤ 2147483647) : Calls Tryd.prog 7 #[.string s, .int .i64 a, .int .i32 r] w (TrueB w) := by
  by_cases hl : 2000 < s.size
  · exact parts_long s a r w hT hl
  rcases bad_ge s s.size 0 with hb | hb
  · by_cases ho : a < 0 ∨ (s.size : Int) < a
    · exact parts_not s a r w hT (by omega) hb (fun w => begins_out s a w ho)
    · obtain ⟨k, rfl⟩ : ∃ k : Nat, a = k := ⟨a.toNat, by omega⟩
      by_cases he : k = s.size
      · subst he
        obtain ⟨k1, k2, hF⟩ := parts_facts s s.size r w hT (by omega) (Nat.le_refl _) h0 h1 hb (fun w => begins_end s w) (Or.inl rfl)
        exact parts_main s s.size r k1 k2 w (by omega) (Nat.le_refl _) hF
      · have hk : k < s.size := by omega
        by_cases hst : Lib.runeStart (s[k].toNat : Int) = true
        · obtain ⟨k1, k2, hF⟩ := parts_facts s k r w hT (by omega) (by omega) h0 h1 hb (fun w => begins_is s k w hk _ hst) (Or.inr (by
            rw [byteAt_eq s k hk]
            unfold M
            unfold Lib.runeStart at hst
            rw [bne_iff_ne] at hst
            omega))
          exact parts_main s k r k1 k2 w (by omega) (by omega) hF
        · exact parts_not s k r w hT (by omega) hb (fun w => begins_is s k w hk _ (by simpa using hst))
  · exact parts_bad s a r w hT (by omega) hb
end Go.Proofs.YtbdgheiilmmcnaaDoor.R
