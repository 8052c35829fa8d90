/- The walks of the document's Quote and Unquote (whetstoneref03). -/
import Derived.Test.YtbdgheiilmmcnaaDoorUnq
namespace Go.Proofs.YtbdgheiilmmcnaaDoor.R
open Go Go.Proofs Go.RowKit

theorem ba_of {x : ByteArray} {l : List UInt8} (h : x.data.toList = l) : x = ⟨l.toArray⟩ := by
  subst h; obtain ⟨⟨l⟩⟩ := x; rfl
theorem ret_str {x : ByteArray} {l : List UInt8} (h : x.data.toList = l) : Ending.returned (.string x) = .returned (.string ⟨l.toArray⟩) := by rw [ba_of h]
theorem app_list (x y : ByteArray) : (x ++ y).data.toList = x.data.toList ++ y.data.toList := by simp
theorem extract_one (s : ByteArray) (k : Nat) (h : k < s.size) : (s.extract k (k + 1)).data.toList = [s[k]] := by
  rw [Lib.extract_data]
  have e : s.data.toList.drop k = s[k] :: s.data.toList.drop (k + 1) := List.drop_eq_getElem_cons (by simpa using h)
  have e2 : k + 1 - k = 1 := by omega
  rw [e, e2]
  rfl
theorem u8_eq {c n : UInt8} (h : ((c.toNat : Int) == (n.toNat : Int)) = true) : c = n := by
  rw [beq_iff_eq] at h; exact UInt8.toNat_inj.1 (by omega)
theorem u8_neq {c n : UInt8} (h : ((c.toNat : Int) == (n.toNat : Int)) = false) : c ≠ n := by
  rintro rfl; simp at h
theorem esc10 {c : UInt8} (h : ((c.toNat : Int) == 10) = true) : esc c = [92, 110] := by rw [u8_eq (n := 10) h]; rfl
theorem esc9 {c : UInt8} (h : ((c.toNat : Int) == 9) = true) : esc c = [92, 116] := by rw [u8_eq (n := 9) h]; rfl
theorem esc34 {c : UInt8} (h : ((c.toNat : Int) == 34) = true) : esc c = [92, 34] := by rw [u8_eq (n := 34) h]; rfl
theorem esc92 {c : UInt8} (h : ((c.toNat : Int) == 92) = true) : esc c = [92, 92] := by rw [u8_eq (n := 92) h]; rfl
theorem esc_id {c : UInt8} (h1 : ((c.toNat : Int) == 10) = false) (h2 : ((c.toNat : Int) == 9) = false) (h3 : ((c.toNat : Int) == 34) = false) (h4 : ((c.toNat : Int) == 92) = false) : esc c = [c] := by
  unfold esc nameOf
  rw [if_neg (u8_neq (n := 10) h1), if_neg (u8_neq (n := 9) h2), if_neg (u8_neq (n := 34) h3), if_neg (u8_neq (n := 92) h4)]
theorem qstep {s x y : ByteArray} {k : Nat} (h : k < s.size) (hx : x.data.toList = 34 :: quoteB (s.data.toList.take k)) (hy : y.data.toList = esc s[k]) :
    (x ++ y).data.toList = 34 :: quoteB (s.data.toList.take (k + 1)) := by
  rw [app_list, hx, hy, take_snoc s k h, quoteB_append]
  simp [quoteB]
theorem qsize {s x : ByteArray} {k : Nat} (hx : x.data.toList = 34 :: quoteB (s.data.toList.take k)) : x.size ≤ 2 * k + 1 := by
  have h1 : x.size = x.data.toList.length := by simp
  have := quoteB_length_le (s.data.toList.take k)
  rw [h1, hx]
  simp only [List.length_cons, List.length_take] at this ⊢
  omega

set_option maxHeartbeats 1000000 in
theorem refQuote_walk (s : ByteArray) (w : World) (hs : s.size ≤ 35184372088832) :
    Calls Tryd.prog 12 #[.string s] w fun e w' => e = .returned (.string ⟨(quote s.data.toList).toArray⟩) ∧ w = w' := by
  go_enter Tryd.func12, Tryd.ntmps12
  go_wp2_with fail
  go_loop [3, 4] (fun v i => ∃ (k : Nat) (x : ByteArray), k ≤ s.size ∧ i = .int .i64 k ∧ v = .string x ∧ x.size ≤ 2 * k + 1 ∧ Hid (x.data.toList = 34 :: quoteB (s.data.toList.take k))) (fun _ i => s.size - (intOf i).toNat)
  case atStart => exact ⟨0, ⟨#[34]⟩, Nat.zero_le _, rfl, rfl, by decide, rfl⟩
  case round =>
    obtain ⟨k, x, hk, rfl, rfl, hxs, hx⟩ := hrel
    by_cases hlt : k < s.size
    · go_wp2_with fail
      all_goals
        go_round
        case rel =>
          suffices hs : _ by exact ⟨k + 1, _, by omega, by go_num, rfl, qsize hs, hs⟩
          refine qstep hlt hx.out ?_
          first
            | (rw [esc10 (by assumption)]; done)
            | (rw [esc9 (by assumption)]; done)
            | (rw [esc34 (by assumption)]; done)
            | (rw [esc92 (by assumption)]; done)
            | (rw [esc_id (by assumption) (by assumption) (by assumption) (by assumption)]; exact extract_one s k hlt)
        case measure => simp [intOf]; omega
    · have he : s.data.toList.take k = s.data.toList := List.take_of_length_le (by simp; omega)
      have hx' : Hid ((x ++ (⟨#[34]⟩ : ByteArray)).data.toList = quote s.data.toList) := by
        show _ = _
        rw [app_list, hx.out, he]; rfl
      clear he hx
      go_wp2_with fail
      go_ret
      exact ⟨ret_str hx'.out, rfl⟩
end Go.Proofs.YtbdgheiilmmcnaaDoor.R
