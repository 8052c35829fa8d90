/- The walk of the document's Unquote (whetstoneref03). -/
import Derived.Test.YtbdgheiilmmcnaaDoorRefQ
namespace Go.Proofs.YtbdgheiilmmcnaaDoor.R
open Go Go.Proofs Go.RowKit

def strSize : Value → Nat | .string s => s.size | _ => 0
theorem strSize_mk (s : ByteArray) : strSize (.string s) = s.size := rfl
theorem ba_len (y : ByteArray) : y.data.toList.length = y.size := by simp
theorem ba_from (y : ByteArray) (k : Nat) : (y.extract k y.size).data.toList = y.data.toList.drop k := by
  rw [Lib.extract_data]
  exact List.take_of_length_le (by simp)
theorem ba_cons (y : ByteArray) (h : 0 < y.size) : y.data.toList = y[0] :: (y.extract 1 y.size).data.toList := by
  rw [ba_from]
  exact List.drop_eq_getElem_cons (i := 0) (by simpa using h)
theorem ba_cons2 (y : ByteArray) (h : 1 < y.size) : y.data.toList = y[0] :: y[1] :: (y.extract 2 y.size).data.toList := by
  have e := ba_cons y (by omega)
  rw [ba_from] at e
  rw [ba_from, e]
  congr 1
  rw [← e]
  exact List.drop_eq_getElem_cons (i := 1) (by rw [ba_len]; exact h)
theorem ba_head (y : ByteArray) (h : 0 < y.size) : (y.extract 0 1).data.toList = [y[0]] := extract_one y 0 h
theorem ba_mid (s : ByteArray) : (s.extract 1 (s.size - 1)).data.toList = rest s 1 := by
  rw [Lib.extract_data]
  unfold rest
  rw [List.drop_take]

theorem v_lt {c n : UInt8} (h : (c.toNat : Int) < (n.toNat : Int)) : c < n := UInt8.lt_iff_toNat_lt.2 (by omega)
theorem v_ge {c n : UInt8} (h : (n.toNat : Int) ≤ (c.toNat : Int)) : ¬ c < n := fun e => by have := UInt8.lt_iff_toNat_lt.1 e; omega
theorem v_neq {c n : UInt8} (h : ((c.toNat : Int) != (n.toNat : Int)) = true) : c ≠ n := by
  rintro rfl; simp at h
theorem v_eq {c n : UInt8} (h : ((c.toNat : Int) != (n.toNat : Int)) = false) : c = n := by
  apply UInt8.toNat_inj.1
  simp only [bne_eq_false_iff_eq] at h
  omega
theorem ret_pair {x y : ByteArray} {a b : Int} {e : Ending} (he : e = .returned (.tuple #[.string x, .int .i64 a])) (hx : x = y) (ha : a = b) : e = .returned (.tuple #[.string y, .int .i64 b]) := by rw [he, hx, ha]
theorem unqS_of {l m : List UInt8} (h : unquote l = some m) : m = unqS l := by unfold unqS; rw [h]; rfl
theorem unqE_of {l m : List UInt8} (h : unquote l = some m) : (0 : Int) = unqE l := by unfold unqE; rw [h]; rfl
section
variable {l : List UInt8} {x y : ByteArray} (hU : unquote l = (unB y.data.toList).map (x.data.toList ++ ·)) (h0 : 0 < y.size)
include hU
theorem ru_bad (h : y[0] < 32 ∨ y[0] = 34) : unquote l = none := by
  have h92 : y[0] ≠ 92 := by
    intro e
    rw [e] at h
    revert h; decide
  rw [hU, ba_cons y h0, unB_cons, if_neg h92, if_pos h]; rfl
theorem ru_cut (h : y[0] = 92) (h2 : y.size < 2) : unquote l = none := by
  have e : (y.extract 1 y.size).data.toList = [] := by
    rw [ba_from]; exact List.drop_eq_nil_of_le (by rw [ba_len]; omega)
  rw [hU, ba_cons y h0, unB_cons, if_pos h, e]; rfl
theorem ru_none (h : y[0] = 92) (h2 : 1 < y.size) (hn : signOf y[1] = none) : unquote l = none := by
  rw [hU, ba_cons2 y h2, unB_cons, if_pos h]
  dsimp only
  rw [hn]; rfl
theorem ru_plain (h1 : ¬ y[0] < 32) (h2 : y[0] ≠ 34) (h3 : y[0] ≠ 92) : unquote l = (unB (y.extract 1 y.size).data.toList).map ((x ++ y.extract 0 1).data.toList ++ ·) := by
  rw [hU, ba_cons y h0, unB_cons, if_neg h3, if_neg (by simp [h1, h2]), Option.map_map, app_list, ba_head y h0]
  congr 1
  funext z
  simp
theorem ru_some {c : UInt8} (h : y[0] = 92) (h2 : 1 < y.size) (hn : signOf y[1] = some c) : unquote l = (unB (y.extract 2 y.size).data.toList).map ((x ++ (⟨#[c]⟩ : ByteArray)).data.toList ++ ·) := by
  rw [hU, ba_cons2 y h2, unB_cons, if_pos h]
  dsimp only
  rw [hn]
  dsimp only
  rw [Option.map_map, app_list]
  congr 1
  funext z
  simp
end
theorem sg110 {c : UInt8} (h : ((c.toNat : Int) == 110) = true) : signOf c = some 10 := by rw [u8_eq (n := 110) h]; rfl
theorem sg116 {c : UInt8} (h : ((c.toNat : Int) == 116) = true) : signOf c = some 9 := by rw [u8_eq (n := 116) h]; rfl
theorem sg34 {c : UInt8} (h : ((c.toNat : Int) == 34) = true) : signOf c = some 34 := by rw [u8_eq (n := 34) h]; rfl
theorem sg92 {c : UInt8} (h : ((c.toNat : Int) == 92) = true) : signOf c = some 92 := by rw [u8_eq (n := 92) h]; rfl
theorem sg_no {c : UInt8} (h1 : ((c.toNat : Int) == 110) = false) (h2 : ((c.toNat : Int) == 116) = false) (h3 : ((c.toNat : Int) == 34) = false) (h4 : ((c.toNat : Int) == 92) = false) : signOf c = none := by
  unfold signOf
  rw [if_neg (u8_neq (n := 110) h1), if_neg (u8_neq (n := 116) h2), if_neg (u8_neq (n := 34) h3), if_neg (u8_neq (n := 92) h4)]
theorem sz_one (x : ByteArray) (c : UInt8) : (x ++ (⟨#[c]⟩ : ByteArray)).size = x.size + 1 := by rw [ByteArray.size_append]; rfl
set_option maxHeartbeats 1000000 in
theorem refUnq_yes (s : ByteArray) (w : World) (h : 2 ≤ s.size) (hm : s.size ≤ 35184372088832) (h0 : s[0] = 34) (h1 : s[s.size - 1] = 34) : Calls Tryd.prog 10 #[.string s] w (UnqPost s.data.toList w) := by
  have hu := unquote_rest s h h0 h1
  have b1 : ((s[s.size - 1].toNat : Int) != 34) = false := by rw [h1]; rfl
  have b0 : ((s[0].toNat : Int) != 34) = false := by rw [h0]; rfl
  clear h0 h1
  have hu2 : Hid (unquote s.data.toList = (unB (s.extract 1 (s.size - 1)).data.toList).map ((⟨#[]⟩ : ByteArray).data.toList ++ ·)) := by rw [hu, ba_mid]; simp [Hid]
  clear hu
  go_enter Tryd.func10, Tryd.ntmps10
  go_wp2_with fail
  go_loop [5, 6] (fun o i => ∃ (x y : ByteArray), o = .string x ∧ i = .string y ∧ x.size + y.size ≤ s.size ∧ Hid (unquote s.data.toList = (unB y.data.toList).map (x.data.toList ++ ·))) (fun _ i => strSize i)
  case atStart => exact ⟨⟨#[]⟩, _, rfl, rfl, by simp; show 0 + _ ≤ _; omega, hu2⟩
  case round =>
    obtain ⟨x, y, rfl, rfl, hs, hU⟩ := hrel
    by_cases hlt : 0 < y.size
    · go_wp2_with fail
      · go_ret2
        refine UnqPost.bad (ru_bad hU.out hlt ?_) (Below.refl _ _)
        rename_i hor _
        rcases hor with h | h
        · exact Or.inl (v_lt (n := 32) h)
        · exact Or.inr (u8_eq (n := 34) h)
      · have h3 : (32 : Int) ≤ y[0].toNat := by assumption
        have h4 : (32 : Int) ≤ y[0].toNat ∧ ((y[0].toNat : Int) == 34) = false := by assumption
        have h5 : ((y[0].toNat : Int) != 92) = true := by assumption
        go_round
        case rel => exact ⟨_, _, rfl, rfl, by simp; omega, ru_plain hU.out hlt (v_ge (n := 32) h3) (u8_neq (n := 34) h4.2) (v_neq (n := 92) h5)⟩
        case measure => simp [strSize]; omega
      · go_ret2
        have h5 : ((y[0].toNat : Int) != 92) = false := by assumption
        exact UnqPost.bad (ru_cut hU.out hlt (v_eq (n := 92) h5) (by omega)) (Below.refl _ _)
      rotate_right 1
      · go_ret2
        have h : (y[0].toNat : Int) < 32 := by assumption
        exact UnqPost.bad (ru_bad hU.out hlt (Or.inl (v_lt (n := 32) h))) (Below.refl _ _)
      all_goals have h5 : ((y[0].toNat : Int) != 92) = false := by assumption
      all_goals have h6 : 1 < y.size := by omega
      · go_round
        case rel => exact ⟨_, _, rfl, rfl, by rw [sz_one]; simp; omega, ru_some hU.out hlt (v_eq (n := 92) h5) h6 (sg110 (by assumption))⟩
        case measure => simp [strSize]; omega
      · go_round
        case rel => exact ⟨_, _, rfl, rfl, by rw [sz_one]; simp; omega, ru_some hU.out hlt (v_eq (n := 92) h5) h6 (sg116 (by assumption))⟩
        case measure => simp [strSize]; omega
      · go_round
        case rel => exact ⟨_, _, rfl, rfl, by rw [sz_one]; simp; omega, ru_some hU.out hlt (v_eq (n := 92) h5) h6 (sg34 (by assumption))⟩
        case measure => simp [strSize]; omega
      · go_round
        case rel => exact ⟨_, _, rfl, rfl, by rw [sz_one]; simp; omega, ru_some hU.out hlt (v_eq (n := 92) h5) h6 (sg92 (by assumption))⟩
        case measure => simp [strSize]; omega
      · go_ret2
        exact UnqPost.bad (ru_none hU.out hlt (v_eq (n := 92) h5) h6 (sg_no (by assumption) (by assumption) (by assumption) (by assumption))) (Below.refl _ _)
    · have hend : Hid (unquote s.data.toList = some x.data.toList) := by
        have : y.data.toList = [] := List.eq_nil_of_length_eq_zero (by rw [ba_len]; omega)
        have e := hU.out
        rw [this] at e
        show _ = _
        simpa [unB] using e
      clear hU
      go_wp2_with fail
      go_ret2
      refine ⟨?_, Below.refl _ _⟩
      exact ret_pair rfl (ba_of (unqS_of hend.out)) (unqE_of hend.out)
set_option maxHeartbeats 1000000 in
theorem refUnq_short (s : ByteArray) (w : World) (h : s.size < 2) : Calls Tryd.prog 10 #[.string s] w (UnqPost s.data.toList w) := by
  have hu := Lib.hid (unquote_short s h)
  go_enter Tryd.func10, Tryd.ntmps10
  go_wp2_with fail
  go_ret2
  exact UnqPost.bad hu.out (Below.refl _ _)
set_option maxHeartbeats 1000000 in
theorem refUnq_not (s : ByteArray) (w : World) (h : 2 ≤ s.size) (hm : s.size ≤ 35184372088832) (h1 : s[0] ≠ 34 ∨ s[s.size - 1] ≠ 34) : Calls Tryd.prog 10 #[.string s] w (UnqPost s.data.toList w) := by
  have hu := Lib.hid (unquote_not s h h1)
  by_cases h0 : s[0] = 34
  · have h2 : s[s.size - 1] ≠ 34 := by rcases h1 with h1 | h1; exact absurd h0 h1; exact h1
    have b1 : ((s[s.size - 1].toNat : Int) != 34) = true := u8_ne h2
    have b0 : ((s[0].toNat : Int) != 34) = false := by rw [h0]; rfl
    clear h0 h2 h1
    go_enter Tryd.func10, Tryd.ntmps10
    go_wp2_with fail
    go_ret2
    exact UnqPost.bad hu.out (Below.refl _ _)
  · have b0 : ((s[0].toNat : Int) != 34) = true := u8_ne h0
    clear h0 h1
    go_enter Tryd.func10, Tryd.ntmps10
    go_wp2_with fail
    go_ret2
    exact UnqPost.bad hu.out (Below.refl _ _)
theorem refUnq_walk (s : ByteArray) (w : World) (hm : s.size ≤ 35184372088832) : Calls Tryd.prog 10 #[.string s] w (UnqPost s.data.toList w) := by
  by_cases h : s.size < 2
  · exact refUnq_short s w h
  · by_cases h0 : s[0] = 34
    · by_cases h1 : s[s.size - 1] = 34
      · exact refUnq_yes s w (by omega) hm h0 h1
      · exact refUnq_not s w (by omega) hm (Or.inr h1)
    · exact refUnq_not s w (by omega) hm (Or.inl h0)
end Go.Proofs.YtbdgheiilmmcnaaDoor.R
