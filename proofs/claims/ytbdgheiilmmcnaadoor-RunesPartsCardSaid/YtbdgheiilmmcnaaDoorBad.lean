/- The walks of runes.Bad and of the examples (awake). -/
import Derived.Test.YtbdgheiilmmcnaaDoorRefU
import Derived.Lib.TrimUEq
namespace Go.Proofs.YtbdgheiilmmcnaaDoor.R
open Go Go.Proofs Go.RowKit

theorem decodeGo_extract (s : ByteArray) (pos : Nat) (h : pos < s.size) : Lib.decodeGo (s.extract pos s.size) = Utf8.decode s pos := by
  have hx := ba_from s pos
  have hsz : (s.extract pos s.size).size ≠ 0 := by rw [← ba_len, hx, List.length_drop, ba_len]; omega
  unfold Lib.decodeGo
  rw [if_neg hsz, ← Lib.decodeL_drop s pos, ← hx]
  rfl

/-- runes.Bad from place pos on -/
def badFrom (s : ByteArray) : Nat → Nat → Int
  | 0, _ => -1
  | f + 1, pos => if pos < s.size then (if (Utf8.decode s pos).1 = 65533 ∧ (Utf8.decode s pos).2 = 1 then pos else badFrom s f (pos + (Utf8.decode s pos).2)) else -1
def bad (s : ByteArray) : Int := badFrom s s.size 0

theorem badFrom_yes {s : ByteArray} {f pos : Nat} (h : pos < s.size) (h1 : (Utf8.decode s pos).1 = 65533) (h2 : (Utf8.decode s pos).2 = 1) (hf : s.size ≤ pos + f) : badFrom s f pos = pos := by
  cases f with
  | zero => omega
  | succ f => simp [badFrom, h, h1, h2]
theorem badFrom_next {s : ByteArray} {f pos : Nat} (h : pos < s.size) (h1 : ¬ ((Utf8.decode s pos).1 = 65533 ∧ (Utf8.decode s pos).2 = 1)) (hf : s.size ≤ pos + f) : badFrom s f pos = badFrom s (f - 1) (pos + (Utf8.decode s pos).2) := by
  cases f with
  | zero => omega
  | succ f => rw [badFrom, if_pos h, if_neg h1]; rfl
theorem badFrom_end {s : ByteArray} {f pos : Nat} (h : ¬ pos < s.size) : badFrom s f pos = -1 := by
  cases f with
  | zero => rfl
  | succ f => rw [badFrom, if_neg h]

theorem dec_c (s : ByteArray) (pos : Nat) (h : pos < s.size) (w : World) (hT : Lib.Utf8Tabs 0 1 w) (R K : Nat) (hR : (Utf8.decode s pos).1 = R) (hK : (Utf8.decode s pos).2 = K) :
    Calls Tryd.prog 26 #[.string (s.extract pos s.size)] w fun e w' => e = .returned (.tuple #[.int .i32 (R : Int), .int .i64 (K : Int)]) ∧ Below w.heap.size w w' := by
  refine (Tryd.utf8_DecodeRuneInString _ w hT).mono ?_
  rintro e w' ⟨rfl, hb⟩
  rw [decodeGo_extract s pos h, hR, hK]
  exact ⟨rfl, hb⟩
theorem dec_bounds (s : ByteArray) (pos : Nat) (h : pos < s.size) : 1 ≤ (Utf8.decode s pos).2 ∧ pos + (Utf8.decode s pos).2 ≤ s.size := by
  refine ⟨Lib.decode_width_pos s pos h, ?_⟩
  simp only [Utf8.decode]
  repeat' split
  all_goals (simp only [Bool.and_eq_true, decide_eq_true_eq] at *; omega)
theorem ret_int {k : IntKind} {a b : Int} (h : a = b) : Ending.returned (.int k a) = .returned (.int k b) := by rw [h]

set_option maxHeartbeats 1000000 in
theorem bad_walk (s : ByteArray) (w : World) (hs : s.size ≤ 35184372088832) (hT : Lib.Utf8Tabs 0 1 w) :
    Calls Tryd.prog 13 #[.string s] w fun e w' => e = .returned (.int .i64 (bad s)) ∧ Below w.heap.size w w' := by
  go_enter Tryd.func13, Tryd.ntmps13
  go_wp2_with fail
  go_loopw [3] (fun i wr => ∃ (pos f : Nat), i = .int .i64 pos ∧ pos ≤ s.size ∧ s.size ≤ pos + f ∧ Hid (bad s = badFrom s f pos) ∧ Below w.heap.size w wr) (fun i _ => s.size - (intOf i).toNat)
  case atStart => exact ⟨0, s.size, rfl, by omega, by omega, rfl, Below.refl _ _⟩
  case round =>
    obtain ⟨pos, f, rfl, hps, hf, hU, hbw⟩ := hrel
    by_cases hlt : pos < s.size
    · obtain ⟨R, hR⟩ : ∃ R, (Utf8.decode s pos).1 = R := ⟨_, rfl⟩
      obtain ⟨K, hK⟩ : ∃ K, (Utf8.decode s pos).2 = K := ⟨_, rfl⟩
      have hbd := dec_bounds s pos hlt
      rw [hK] at hbd
      obtain ⟨hk1, hk2⟩ := hbd
      have hTr := Lib.hid (Utf8Tabs_below hT hbw)
      have hc := Lib.hid (dec_c s pos hlt wr hTr.out R K hR hK)
      by_cases hbad : R = 65533 ∧ K = 1
      · have hfin := Lib.hid (hU.out.trans (badFrom_yes hlt (hR.trans hbad.1) (hK.trans hbad.2) hf))
        obtain ⟨rfl, rfl⟩ := hbad
        clear hR hK hU hTr
        go_wp2_with fail
        refine hc.out.mono ?_
        rintro e w1 ⟨rfl, hb1⟩
        go_wp2_with fail
        go_ret
        exact ⟨ret_int hfin.out.symm, hbw.trans (hb1.mono hbw.size)⟩
      · have hfin := Lib.hid (hU.out.trans (badFrom_next hlt (by rw [hR, hK]; exact hbad) hf))
        rw [hK] at hfin
        clear hR hK hU hTr
        have h3 : ((R : Int) == 65533) = false ∨ ((R : Int) == 65533) = true ∧ ((K : Int) == 1) = false := by
          by_cases h : R = 65533
          · right
            refine ⟨by rw [h]; rfl, ?_⟩
            rw [beq_eq_false_iff_ne]
            intro e
            exact hbad ⟨h, by omega⟩
          · left
            rw [beq_eq_false_iff_ne]
            omega
        clear hbad
        rcases h3 with h3 | ⟨h3, h4⟩
        all_goals
          go_wp2_with fail
          refine hc.out.mono ?_
          rintro e w1 ⟨rfl, hb1⟩
          go_wp2_with fail
          go_roundw
          case rel => exact ⟨pos + K, f - 1, by go_num, by omega, by omega, hfin, hbw.trans (hb1.mono hbw.size)⟩
          case measure => simp [intOf]; omega
    · have hfin := Lib.hid (hU.out.trans (badFrom_end hlt))
      clear hU
      go_wp2_with fail
      go_ret
      exact ⟨ret_int hfin.out.symm, hbw⟩
end Go.Proofs.YtbdgheiilmmcnaaDoor.R
