/- The walks of the document's Bad and Count, and of runes.Count, Next, Column, Begins. -/
import Derived.Test.YtbdgheiilmmcnaaDoorRefN
namespace Go.Proofs.YtbdgheiilmmcnaaDoor.R
open Go Go.Proofs Go.RowKit

theorem next_c (s : ByteArray) (pos : Nat) (hp : pos < s.size) (hm : s.size ≤ 35184372088832) (w : World) (R K : Nat) (b : Bool) (hR : (Utf8.decode s pos).1 = R) (hK : (Utf8.decode s pos).2 = K) (hb : okAt s pos = b) :
    Calls Tryd.prog 20 #[.string s, .int .i64 pos] w fun e w' => e = .returned (.tuple #[.int .i64 (R : Int), .int .i64 (K : Int), .bool b]) ∧ w = w' := by
  refine (next_walk s pos hp hm w).mono ?_
  rintro e w' ⟨rfl, rfl⟩
  rw [hR, hK, hb]
  exact ⟨rfl, rfl⟩

set_option maxHeartbeats 1000000 in
theorem refBad_walk (s : ByteArray) (w : World) (hs : s.size ≤ 35184372088832) :
    Calls Tryd.prog 14 #[.string s] w fun e w' => e = .returned (.int .i64 (bad s)) ∧ w = w' := by
  go_enter Tryd.func14, Tryd.ntmps14
  go_wp2_with fail
  go_loop [3] (fun i => ∃ (pos f : Nat), i = .int .i64 pos ∧ pos ≤ s.size ∧ s.size ≤ pos + f ∧ Hid (bad s = badFrom s f pos)) (fun i => s.size - (intOf i).toNat)
  case atStart => exact ⟨0, s.size, rfl, by omega, by omega, rfl⟩
  case round =>
    obtain ⟨pos, f, rfl, hps, hf, hU⟩ := hrel
    by_cases hlt : pos < s.size
    · obtain ⟨R, hR⟩ : ∃ R, (Utf8.decode s pos).1 = R := ⟨_, rfl⟩
      obtain ⟨K, hK⟩ : ∃ K, (Utf8.decode s pos).2 = K := ⟨_, rfl⟩
      have hbd := dec_bounds s pos hlt
      rw [hK] at hbd
      obtain ⟨hk1, hk2⟩ := hbd
      by_cases hbad : R = 65533 ∧ K = 1
      · have hc := Lib.hid (next_c s pos hlt hs w R K false hR hK (by unfold okAt; rw [hR, hK, hbad.1, hbad.2]; rfl))
        have hfin := Lib.hid (hU.out.trans (badFrom_yes hlt (hR.trans hbad.1) (hK.trans hbad.2) hf))
        clear hR hK hU hbad
        go_wp2_with fail
        refine hc.out.mono ?_
        rintro e w1 ⟨rfl, rfl⟩
        go_wp2_with fail
        go_ret
        exact ⟨ret_int hfin.out.symm, rfl⟩
      · have hok : okAt s pos = true := by
          unfold okAt; rw [hR, hK]
          by_cases h : R = 65533
          · have : K ≠ 1 := fun e => hbad ⟨h, e⟩
            simp [this]
          · simp [h]
        have hc := Lib.hid (next_c s pos hlt hs w R K true hR hK hok)
        have hfin := Lib.hid (hU.out.trans (badFrom_next hlt (by rw [hR, hK]; exact hbad) hf))
        rw [hK] at hfin
        clear hR hK hU hbad hok
        go_wp2_with fail
        refine hc.out.mono ?_
        rintro e w1 ⟨rfl, rfl⟩
        go_wp2_with fail
        go_round
        case rel => exact ⟨pos + K, f - 1, by go_num, by omega, by omega, hfin⟩
        case measure => simp [intOf]; omega
    · have hfin := Lib.hid (hU.out.trans (badFrom_end hlt))
      clear hU
      go_wp2_with fail
      go_ret
      exact ⟨ret_int hfin.out.symm, rfl⟩

theorem count_next {s : ByteArray} {f pos : Nat} (h : pos < s.size) (hf : s.size ≤ pos + f) : Lib.runeCountFrom s f pos = 1 + Lib.runeCountFrom s (f - 1) (pos + (Utf8.decode s pos).2) := by
  cases f with
  | zero => omega
  | succ f => rw [Lib.runeCountFrom, if_pos h]; rfl

set_option maxHeartbeats 1000000 in
theorem refCount_walk (s : ByteArray) (w : World) (hs : s.size ≤ 35184372088832) :
    Calls Tryd.prog 16 #[.string s] w fun e w' => e = .returned (.int .i64 (Lib.runeCount s)) ∧ w = w' := by
  go_enter Tryd.func16, Tryd.ntmps16
  go_wp2_with fail
  go_loop [3, 4] (fun c i => ∃ (pos f k : Nat), i = .int .i64 pos ∧ c = .int .i64 k ∧ k ≤ pos ∧ pos ≤ s.size ∧ s.size ≤ pos + f ∧ Hid (Lib.runeCount s = k + Lib.runeCountFrom s f pos)) (fun _ i => s.size - (intOf i).toNat)
  case atStart => exact ⟨0, s.size, 0, rfl, rfl, by omega, by omega, by omega, by show _ = _; rw [Nat.zero_add]; rfl⟩
  case round =>
    obtain ⟨pos, f, k, rfl, rfl, hkp, hps, hf, hU⟩ := hrel
    by_cases hlt : pos < s.size
    · obtain ⟨R, hR⟩ : ∃ R, (Utf8.decode s pos).1 = R := ⟨_, rfl⟩
      obtain ⟨K, hK⟩ : ∃ K, (Utf8.decode s pos).2 = K := ⟨_, rfl⟩
      have hbd := dec_bounds s pos hlt
      rw [hK] at hbd
      obtain ⟨hk1, hk2⟩ := hbd
      obtain ⟨b, hb⟩ : ∃ b, okAt s pos = b := ⟨_, rfl⟩
      have hc := Lib.hid (next_c s pos hlt hs w R K b hR hK hb)
      have hfin := Lib.hid (hU.out.trans (by rw [count_next hlt hf, hK, ← Nat.add_assoc] : _ = k + 1 + Lib.runeCountFrom s (f - 1) (pos + K)))
      clear hR hK hU hb
      go_wp2_with fail
      refine hc.out.mono ?_
      rintro e w1 ⟨rfl, rfl⟩
      go_wp2_with fail
      go_round
      case rel => exact ⟨pos + K, f - 1, k + 1, by go_num, by go_num, by omega, by omega, by omega, hfin⟩
      case measure => simp [intOf]; omega
    · have hfin := Lib.hid (hU.out.trans (by rw [Lib.runeCountFrom_end s f pos hlt]; rfl : _ = k))
      clear hU
      go_wp2_with fail
      go_ret
      exact ⟨ret_int (by rw [hfin.out]), rfl⟩

/-- runes.Count: the world has one iterator more -/
theorem count_walk (s : ByteArray) (w : World) (hs : s.size ≤ 35184372088832) :
    Calls Tryd.prog 15 #[.string s] w fun e w' => e = .returned (.int .i64 (Lib.runeCount s)) ∧ Below w.heap.size w w' := by
  go_enter Tryd.func15, Tryd.ntmps15
  go_wp2_with fail
  refine (Tryd.utf8_RuneCountInString s _ (by omega)).mono ?_
  rintro e w1 ⟨rfl, pos, rfl⟩
  go_wp2_with fail
  go_ret
  exact ⟨rfl, (Below.refl _ w).alloc (Nat.le_refl _) _⟩

set_option maxHeartbeats 1000000 in
theorem next_none (s : ByteArray) (a : Int) (w : World) (_hs : s.size ≤ 35184372088832) (h : a < 0 ∨ (s.size : Int) ≤ a) :
    Calls Tryd.prog 17 #[.string s, .int .i64 a] w fun e w' => e = .returned (.tuple #[.int .i32 0, .int .i64 0]) ∧ w = w' := by
  by_cases h1 : a < 0
  · clear h
    go_enter Tryd.func17, Tryd.ntmps17
    go_wp2_with fail
    go_ret2
    exact ⟨rfl, rfl⟩
  · have h2 : (s.size : Int) ≤ a := by omega
    clear h
    go_enter Tryd.func17, Tryd.ntmps17
    go_wp2_with fail
    go_ret2
    exact ⟨rfl, rfl⟩
set_option maxHeartbeats 1000000 in
theorem next_some (s : ByteArray) (pos : Nat) (w : World) (_hs : s.size ≤ 35184372088832) (h : pos < s.size) (hT : Lib.Utf8Tabs 0 1 w) (R K : Nat) (hR : (Utf8.decode s pos).1 = R) (hK : (Utf8.decode s pos).2 = K) :
    Calls Tryd.prog 17 #[.string s, .int .i64 pos] w fun e w' => e = .returned (.tuple #[.int .i32 R, .int .i64 K]) ∧ Below w.heap.size w w' := by
  have hc := Lib.hid (dec_c s pos h w hT R K hR hK)
  clear hR hK
  go_enter Tryd.func17, Tryd.ntmps17
  go_wp2_with fail
  refine hc.out.mono ?_
  rintro e w1 ⟨rfl, hb⟩
  go_wp2_with fail
  go_ret2
  exact ⟨rfl, hb⟩

set_option maxHeartbeats 1000000 in
theorem begins_out (s : ByteArray) (a : Int) (w : World) (h : a < 0 ∨ (s.size : Int) < a) :
    Calls Tryd.prog 19 #[.string s, .int .i64 a] w fun e w' => e = .returned (.bool false) ∧ w = w' := by
  by_cases h1 : a < 0
  · clear h
    go_enter Tryd.func19, Tryd.ntmps19
    go_wp2_with fail
    go_ret
    exact ⟨rfl, rfl⟩
  · have h2 : (s.size : Int) < a := by omega
    have h3 : (a == (s.size : Int)) = false := by rw [beq_eq_false_iff_ne]; omega
    clear h
    go_enter Tryd.func19, Tryd.ntmps19
    go_wp2_with fail
    go_ret
    exact ⟨rfl, rfl⟩
set_option maxHeartbeats 1000000 in
theorem begins_end (s : ByteArray) (w : World) :
    Calls Tryd.prog 19 #[.string s, .int .i64 s.size] w fun e w' => e = .returned (.bool true) ∧ w = w' := by
  go_enter Tryd.func19, Tryd.ntmps19
  go_wp2_with fail
  go_ret
  exact ⟨rfl, rfl⟩
set_option maxHeartbeats 1000000 in
theorem begins_in (s : ByteArray) (pos : Nat) (w : World) (h : pos < s.size) :
    Calls Tryd.prog 19 #[.string s, .int .i64 pos] w fun e w' => e = .returned (.bool (Lib.runeStart (s[pos].toNat : Int))) ∧ w = w' := by
  have h3 : ((pos : Int) == (s.size : Int)) = false := by rw [beq_eq_false_iff_ne]; omega
  have hu := UInt8.toNat_lt s[pos]
  go_enter Tryd.func19, Tryd.ntmps19
  go_wp2_with fail
  refine (Tryd.utf8_RuneStart _ _ (by omega) (by omega)).mono ?_
  rintro e w1 ⟨rfl, rfl⟩
  go_wp2_with fail
  go_ret
  exact ⟨rfl, rfl⟩

/-- the beginning of the line in which place a stands -/
def lineFrom (s : ByteArray) (a : Nat) : Int := Lib.lastIndexByte (s.extract 0 a) 10 + 1
theorem lineFrom_bounds (s : ByteArray) (a : Nat) (h : a ≤ s.size) : 0 ≤ lineFrom s a ∧ lineFrom s a ≤ a := by
  unfold lineFrom
  have hsz : (s.extract 0 a).size = a := by simp; omega
  rcases Lib.lastIndexByte_spec (s.extract 0 a) 10 with ⟨e, _⟩ | ⟨i, hi, e, _⟩
  · rw [e]; omega
  · rw [e]; omega
set_option maxHeartbeats 1000000 in
theorem column_out (s : ByteArray) (a : Int) (w : World) (h : a < 0 ∨ (s.size : Int) < a) :
    Calls Tryd.prog 18 #[.string s, .int .i64 a] w fun e w' => e = .returned (.tuple #[.int .i64 0, .int .i64 6]) ∧ w = w' := by
  by_cases h1 : a < 0
  · clear h
    go_enter Tryd.func18, Tryd.ntmps18
    go_wp2_with fail
    go_ret2
    exact ⟨rfl, rfl⟩
  · have h2 : (s.size : Int) < a := by omega
    clear h
    go_enter Tryd.func18, Tryd.ntmps18
    go_wp2_with fail
    go_ret2
    exact ⟨rfl, rfl⟩
set_option maxHeartbeats 1000000 in
theorem column_in (s : ByteArray) (a : Nat) (w : World) (hs : s.size ≤ 35184372088832) (h : a ≤ s.size) (fr : Nat) (hfr : lineFrom s a = fr) :
    Calls Tryd.prog 18 #[.string s, .int .i64 a] w fun e w' => e = .returned (.tuple #[.int .i64 (Lib.runeCount (s.extract fr a)), .int .i64 0]) ∧ Below w.heap.size w w' := by
  have hb := lineFrom_bounds s a h
  rw [hfr] at hb
  have hl : ∀ w : World, Calls Tryd.prog 28 #[.string (s.extract 0 a), .int .u8 10] w fun e w' => e = .returned (.int .i64 ((fr : Int) - 1)) ∧ w = w' := by
    intro w
    refine (Tryd.strings_LastIndexByte _ _ (by simp; omega) w).mono ?_
    rintro e w' ⟨rfl, rfl⟩
    refine ⟨?_, rfl⟩
    have : Lib.lastIndexByte (s.extract 0 a) 10 = (fr : Int) - 1 := by unfold lineFrom at hfr; omega
    rw [this]
  have Hl := Lib.hid hl
  clear hl hfr
  obtain ⟨hb0, hb1⟩ := hb
  go_enter Tryd.func18, Tryd.ntmps18
  go_wp2_with fail
  refine (Hl.out _).mono ?_
  rintro e w1 ⟨rfl, rfl⟩
  go_wp2_with fail
  refine (count_walk (s.extract fr a) _ (by simp; omega)).mono ?_
  rintro e w2 ⟨rfl, hb⟩
  go_wp2_with fail
  go_ret2
  exact ⟨rfl, hb⟩
end Go.Proofs.YtbdgheiilmmcnaaDoor.R
