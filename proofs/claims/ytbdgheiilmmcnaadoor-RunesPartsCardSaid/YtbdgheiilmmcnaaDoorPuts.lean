/- The walk of the law RunesPuts. -/
import Derived.Test.YtbdgheiilmmcnaaDoorRefP
import Derived.Test.YtbdgheiilmmcnaaDoorCount
namespace Go.Proofs.YtbdgheiilmmcnaaDoor.R
open Go Go.Proofs Go.RowKit

theorem HoldsR.below {w w' : World} {v : Value} {zs : List Int} (h : HoldsR w v zs) (hb : Below w.heap.size w w') : HoldsR w' v zs := by
  rcases h with h | ⟨b, off, c, rfl, hlt, hc⟩
  · exact Or.inl h
  · exact Or.inr ⟨b, off, c, rfl, Nat.lt_of_lt_of_le hlt hb.size, fun i hi => (hb.cell (p := ⟨b, off + i, none⟩) hlt).trans (hc i hi)⟩

set_option maxHeartbeats 1000000 in
theorem puts_long (s : ByteArray) (a : Option Addr) (n c : Nat) (w : World) (hT : Lib.Utf8Tabs 0 1 w) (h : 1000 < s.size ∨ 500 < n) : Calls Tryd.prog 6 #[.string s, .slice a n c] w (TrueB w) := by
  by_cases h1 : 1000 < s.size
  · clear h
    go_enter Tryd.func6, Tryd.ntmps6
    go_wp2_with fail
    refine (awake_walk _ hT).mono ?_
    rintro e w1 ⟨rfl, hb1⟩
    go_wp2_with fail
    go_ret
    exact ⟨rfl, hb1⟩
  · have h2 : 500 < n := by omega
    clear h
    go_enter Tryd.func6, Tryd.ntmps6
    go_wp2_with fail
    refine (awake_walk _ hT).mono ?_
    rintro e w1 ⟨rfl, hb1⟩
    go_wp2_with fail
    go_ret
    exact ⟨rfl, hb1⟩

/-- what is left behind the loop -/
structure PutsFacts (s : ByteArray) (zs : List Int) (v : Value) (w : World) : Prop where
  tabs : Lib.Utf8Tabs 0 1 w
  put : ∀ w' : World, Below w.heap.size w w' → Calls Tryd.prog 22 #[.string s, v] w' fun e w'' => e = .returned (.string (putAll s zs)) ∧ Below w'.heap.size w' w''
  put0 : ∀ w' : World, Below w.heap.size w w' → Calls Tryd.prog 22 #[.string ⟨#[]⟩, v] w' fun e w'' => e = .returned (.string (putAll ⟨#[]⟩ zs)) ∧ Below w'.heap.size w' w''
  bad0 : ∀ w' : World, Below w.heap.size w w' → Calls Tryd.prog 13 #[.string (putAll ⟨#[]⟩ zs)] w' fun e w'' => e = .returned (.int .i64 (-1)) ∧ Below w'.heap.size w' w''
  count0 : ∀ w' : World, Calls Tryd.prog 15 #[.string (putAll ⟨#[]⟩ zs)] w' fun e w'' => e = .returned (.int .i64 zs.length) ∧ Below w'.heap.size w' w''
theorem puts_facts (s : ByteArray) (zs : List Int) (v : Value) (w : World) (hT : Lib.Utf8Tabs 0 1 w) (hs : s.size ≤ 1000) (hz : zs.length ≤ 500) (hok : okR zs) (hv : HoldsR w v zs) : PutsFacts s zs v w := by
  have hst := putAll_steps steps_nil zs
  rw [Nat.zero_add] at hst
  have hsz := putAll_size ⟨#[]⟩ zs
  have h0 : (⟨#[]⟩ : ByteArray).size = 0 := rfl
  refine ⟨hT, fun w' hb => put_walk s v zs w' (by omega) hz hok (hv.below hb), fun w' hb => put_walk ⟨#[]⟩ v zs w' (by omega) hz hok (hv.below hb), fun w' hb => ?_, fun w' => ?_⟩
  · have := bad_walk (putAll ⟨#[]⟩ zs) w' (by omega) (Utf8Tabs_below hT hb)
    rw [steps_bad hst] at this
    exact this
  · have := count_walk (putAll ⟨#[]⟩ zs) w' (by omega)
    rw [steps_count hst] at this
    exact this

set_option maxHeartbeats 1000000 in
theorem puts_empty (s : ByteArray) (a : Option Addr) (c : Nat) (w : World) (hs : s.size ≤ 1000) (hF : PutsFacts s [] (.slice a 0 c) w) : Calls Tryd.prog 6 #[.string s, .slice a 0 c] w (TrueB w) := by
  have HF := Lib.hid hF
  clear hF
  go_enter Tryd.func6, Tryd.ntmps6
  go_wp2_with fail
  go_loop [5, 22] (fun v i => i = .int .i64 0 ∧ v = .string s) (fun _ _ => 0)
  case atStart => exact ⟨rfl, rfl⟩
  case round =>
    obtain ⟨rfl, rfl⟩ := hrel
    go_wp2_with fail
    refine (HF.out.put _ (Below.refl _ _)).mono ?_
    rintro e w1 ⟨rfl, hb1⟩
    have hc1 := hb1
    go_wp2_with fail
    refine (HF.out.put0 _ hc1).mono ?_
    rintro e w2 ⟨rfl, hb2⟩
    have hc2 := Below.next hc1 hb2
    go_wp2_with fail
    refine (awake_walk _ (Utf8Tabs_below HF.out.tabs hc2)).mono ?_
    rintro e w3 ⟨rfl, hb3⟩
    have hc3 := Below.next hc2 hb3
    have e0 : putAll s [] = s := rfl
    rw [e0]
    go_wp2_with fail
    refine (HF.out.bad0 _ hc3).mono ?_
    rintro e w4 ⟨rfl, hb4⟩
    have hc4 := Below.next hc3 hb4
    go_wp2_with fail
    refine (HF.out.count0 _).mono ?_
    rintro e w5 ⟨rfl, hb5⟩
    have hc5 := Below.next hc4 hb5
    go_wp2_with fail
    go_ret
    exact ⟨rfl, hc5⟩
set_option maxHeartbeats 1000000 in
theorem puts_some (s : ByteArray) (zs : List Int) (b off c : Nat) (w : World) (hs : s.size ≤ 1000) (hz : zs.length ≤ 500) (hb : b < w.heap.size) (hok : okR zs)
    (hc : ∀ i, i < zs.length → w.cell? ⟨b, off + i, none⟩ = some (.int .i32 (zs.getD i 0))) (hF : PutsFacts s zs (.slice (some ⟨b, off, none⟩) zs.length c) w) :
    Calls Tryd.prog 6 #[.string s, .slice (some ⟨b, off, none⟩) zs.length c] w (TrueB w) := by
  have HF := Lib.hid hF
  have Hc := Lib.hid hc
  have Hok := Lib.hid hok
  clear hF hc hok
  go_enter Tryd.func6, Tryd.ntmps6
  go_wp2_with fail
  go_loopw [5, 22] (fun v i wr => ∃ k : Nat, k ≤ zs.length ∧ i = .int .i64 k ∧ v = .string (putAll s (zs.take k)) ∧ Below w.heap.size w wr) (fun _ i _ => zs.length - (intOf i).toNat)
  case atStart => exact ⟨0, Nat.zero_le _, rfl, rfl, Below.refl _ _⟩
  case round =>
    obtain ⟨k, hk, rfl, rfl, hbr⟩ := hrel
    by_cases hlt : k < zs.length
    · have hcell : wr.cell? ⟨b, off + k, none⟩ = some (.int .i32 (zs.getD k 0)) := (hbr.cell (p := ⟨b, off + k, none⟩) hb).trans (Hc.out k hlt)
      obtain ⟨z, hz⟩ : ∃ z, zs.getD k 0 = z := ⟨_, rfl⟩
      obtain ⟨hz1, hz2⟩ := okR_at Hok.out k hlt
      have happ : Hid (putAll s (zs.take (k + 1)) = putAll s (zs.take k) ++ encB z) := by
        have e : zs.take (k + 1) = zs.take k ++ [z] := by
          rw [List.take_succ_eq_append_getElem hlt, ← hz]
          simp [List.getD_eq_getElem?_getD, hlt]
        show _ = _
        rw [e, putAll_snoc]
      rw [hz] at hcell hz1 hz2
      clear hz
      have hbnd : (putAll s (zs.take k)).size + (encB z).size ≤ 100000 := by
        have h1 := putAll_size s (zs.take k)
        have h2 := encB_size z
        have h3 := Lib.encodeRuneZ_length z
        have h4 : (zs.take k).length ≤ k := List.length_take_le _ _
        omega
      go_wp2_with fail
      refine (rput_walk _ z).mono ?_
      rintro e w2 ⟨rfl, hbe⟩
      go_wp2_with fail
      go_roundw
      case rel => exact ⟨k + 1, by omega, by go_num, by rw [happ.out], Below.next hbr hbe⟩
      case measure => simp [intOf]; omega
    · have e : zs.take k = zs := List.take_of_length_le (by omega)
      rw [e]
      clear e
      go_wp2_with fail
      refine (HF.out.put _ hbr).mono ?_
      rintro e w1 ⟨rfl, hb1⟩
      have hc1 := Below.next hbr hb1
      go_wp2_with fail
      refine (HF.out.put0 _ hc1).mono ?_
      rintro e w2 ⟨rfl, hb2⟩
      have hc2 := Below.next hc1 hb2
      go_wp2_with fail
      refine (awake_walk _ (Utf8Tabs_below HF.out.tabs hc2)).mono ?_
      rintro e w3 ⟨rfl, hb3⟩
      have hc3 := Below.next hc2 hb3
      go_wp2_with fail
      refine (HF.out.bad0 _ hc3).mono ?_
      rintro e w4 ⟨rfl, hb4⟩
      have hc4 := Below.next hc3 hb4
      go_wp2_with fail
      refine (HF.out.count0 _).mono ?_
      rintro e w5 ⟨rfl, hb5⟩
      have hc5 := Below.next hc4 hb5
      go_wp2_with fail
      go_ret
      exact ⟨rfl, hc5⟩
theorem puts_walk (s : ByteArray) (v : Value) (zs : List Int) (w : World) (hT : Lib.Utf8Tabs 0 1 w) (hok : okR zs) (hv : HoldsR w v zs) : Calls Tryd.prog 6 #[.string s, v] w (TrueB w) := by
  by_cases h : 1000 < s.size ∨ 500 < zs.length
  · rcases hv with ⟨rfl, a, c, rfl⟩ | ⟨b, off, c, rfl, hb, hc⟩
    · exact puts_long s a 0 c w hT h
    · exact puts_long s _ _ c w hT h
  · have hF := puts_facts s zs v w hT (by omega) (by omega) hok hv
    rcases hv with ⟨rfl, a, c, rfl⟩ | ⟨b, off, c, rfl, hb, hc⟩
    · exact puts_empty s a c w (by omega) hF
    · exact puts_some s zs b off c w (by omega) (by omega) hb hok hc hF
end Go.Proofs.YtbdgheiilmmcnaaDoor.R
