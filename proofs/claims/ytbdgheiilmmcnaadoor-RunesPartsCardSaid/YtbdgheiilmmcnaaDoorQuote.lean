/- The walks of runes.Quote and runes.Unquote. -/
import Derived.Test.YtbdgheiilmmcnaaDoorShelf
import Derived.Test.YtbdgheiilmmcnaaDoorPlain
import Derived.WalkKit
import Derived.Outline
import Derived.WalkSpells
import Derived.Lib.Hide
namespace Go.Proofs.YtbdgheiilmmcnaaDoor.R
open Go Go.Proofs Go.RowKit

theorem idx_quoted (c : UInt8) : Lib.indexByte [10, 9, 34, 92] c = if c = 10 then 0 else if c = 9 then 1 else if c = 34 then 2 else if c = 92 then 3 else -1 := by
  unfold Lib.indexByte Lib.indexByte Lib.indexByte Lib.indexByte Lib.indexByte
  by_cases h1 : c = 10
  · subst h1; rfl
  by_cases h2 : c = 9
  · subst h2; rfl
  by_cases h3 : c = 34
  · subst h3; rfl
  by_cases h4 : c = 92
  · subst h4; rfl
  simp [h1, h2, h3, h4, Ne.symm h1, Ne.symm h2, Ne.symm h3, Ne.symm h4]

theorem byte_back (c : UInt8) : ((c.toNat : Int)).toNat.toUInt8 = c := by simp
theorem idxq (c : UInt8) (v : Int) (h : Lib.indexByte [10, 9, 34, 92] c = v) (w : World) :
    Calls Tryd.prog 23 #[.string ⟨#[10, 9, 34, 92]⟩, .int .u8 (c.toNat : Int)] w fun e w' => e = .returned (.int .i64 v) ∧ w = w' := by
  refine (Tryd.strings_IndexByte _ _ _).mono ?_
  rintro e w' ⟨rfl, rfl⟩
  refine ⟨?_, rfl⟩
  rw [byte_back, ← h]
theorem take_snoc (s : ByteArray) (k : Nat) (h : k < s.size) : s.data.toList.take (k + 1) = s.data.toList.take k ++ [s[k]] := by
  rw [List.take_succ_eq_append_getElem (by simpa using h)]; rfl
theorem quoteB_snoc (s : ByteArray) (k : Nat) (h : k < s.size) : Lib.byteCells (34 :: quoteB (s.data.toList.take (k + 1))) = Lib.byteCells (34 :: quoteB (s.data.toList.take k)) ++ (esc s[k]).map fun b => Value.int .u8 b.toNat := by
  rw [take_snoc s k h, quoteB_append]
  simp [quoteB, Lib.byteCells]
theorem esc_none {c : UInt8} (h : nameOf c = none) : esc c = [c] := by unfold esc; rw [h]
theorem esc_some {c d : UInt8} (h : nameOf c = some d) : esc c = [92, d] := by unfold esc; rw [h]
theorem nameOf_cases (c : UInt8) : (nameOf c = none ∧ Lib.indexByte [10, 9, 34, 92] c = -1) ∨ (nameOf c = some 110 ∧ Lib.indexByte [10, 9, 34, 92] c = 0) ∨ (nameOf c = some 116 ∧ Lib.indexByte [10, 9, 34, 92] c = 1) ∨ (nameOf c = some 34 ∧ Lib.indexByte [10, 9, 34, 92] c = 2) ∨ (nameOf c = some 92 ∧ Lib.indexByte [10, 9, 34, 92] c = 3) := by
  rw [idx_quoted]
  unfold nameOf
  repeat' split
  all_goals simp

set_option maxHeartbeats 1000000 in
theorem quote_walk (s : ByteArray) (w : World) (hs : s.size ≤ 35184372088832) :
    Calls Tryd.prog 11 #[.string s] w fun e w' => e = .returned (.string ⟨(quote s.data.toList).toArray⟩) ∧ Below w.heap.size w w' := by
  go_enter Tryd.func11, Tryd.ntmps11
  go_wp2_with fail
  refine (Tryd.Builder_WriteByte w.heap.size w.heap.size [] 34 _ (Lib.fresh_isBuilder 46 5 w) (by simp) (by simp)).mono ?_
  rintro e w1 ⟨rfl, hB0, hb1⟩
  have hb : Below w.heap.size w w1 := ((Below.refl _ w).alloc (Nat.le_refl _) _).trans hb1
  clear hb1
  go_wp2_with fail
  go_loopw [9] (fun i wr => ∃ k : Nat, k ≤ s.size ∧ i = .int .i64 k ∧ Lib.IsBuilder 46 5 w.heap.size w.heap.size (Lib.byteCells (34 :: quoteB (s.data.toList.take k))) wr ∧ Below w.heap.size w wr) (fun i _ => s.size - (intOf i).toNat)
  case atStart => exact ⟨0, Nat.zero_le _, rfl, Or.inr hB0, hb⟩
  case round =>
    obtain ⟨k, hk, rfl, hB, hbw⟩ := hrel
    have hsz : w.heap.size ≤ wr.heap.size := hbw.size
    have hql : (Lib.byteCells (34 :: quoteB (s.data.toList.take k))).length ≤ 2 * k + 1 := by
      have := quoteB_length_le (s.data.toList.take k)
      rw [Lib.byteCells_length]
      simp only [List.length_cons, List.length_take] at this ⊢
      omega
    by_cases hlt : k < s.size
    · have hq := Lib.hid (quoteB_snoc s k hlt)
      rcases nameOf_cases s[k] with ⟨hn, hi⟩ | hcs
      · have he := Lib.hid (esc_none hn)
        have hi' := Lib.hid hi
        clear hn hi
        go_wp2_with fail
        refine (idxq s[k] _ hi'.out _).mono ?_
        rintro e w2 ⟨rfl, rfl⟩
        go_wp2_with fail
        refine (Tryd.Builder_WriteByte w.heap.size w.heap.size _ _ _ hB (by omega) hsz).mono ?_
        rintro e w2 ⟨rfl, hB1, hb1⟩
        go_wp2_with fail
        go_roundw
        case rel =>
          refine ⟨k + 1, by omega, by go_num, Or.inr ?_, hbw.trans hb1⟩
          rw [hq.out, he.out]
          exact hB1
        case measure => simp [intOf]; omega
      · obtain ⟨d, v, hn, hi, hv⟩ : ∃ (d : UInt8) (v : Int), nameOf s[k] = some d ∧ Lib.indexByte [10, 9, 34, 92] s[k] = v ∧ (d = 110 ∧ v = 0 ∨ d = 116 ∧ v = 1 ∨ d = 34 ∧ v = 2 ∨ d = 92 ∧ v = 3) := by
          rcases hcs with ⟨h, g⟩ | ⟨h, g⟩ | ⟨h, g⟩ | ⟨h, g⟩ <;> exact ⟨_, _, h, g, by decide⟩
        have he := Lib.hid (esc_some hn)
        have hi' := Lib.hid hi
        clear hn hi hcs
        rcases hv with ⟨rfl, rfl⟩ | ⟨rfl, rfl⟩ | ⟨rfl, rfl⟩ | ⟨rfl, rfl⟩
        all_goals
          go_wp2_with fail
          refine (idxq s[k] _ hi'.out _).mono ?_
          rintro e w2 ⟨rfl, rfl⟩
          go_wp2_with fail
          refine (Tryd.Builder_WriteByte w.heap.size w.heap.size _ _ _ hB (by omega) hsz).mono ?_
          rintro e w2 ⟨rfl, hB1, hb1⟩
          have hz1 := hb1.size
          go_wp2_with fail
          refine (Tryd.Builder_WriteByte w.heap.size w.heap.size _ _ _ (Or.inr hB1) (by simp; omega) (by omega)).mono ?_
          rintro e w3 ⟨rfl, hB2, hb2⟩
          go_wp2_with fail
          go_roundw
          case rel =>
            refine ⟨k + 1, by omega, by go_num, Or.inr ?_, (hbw.trans hb1).trans hb2⟩
            rw [hq.out, he.out]
            rw [List.append_assoc] at hB2
            exact hB2
          case measure => simp [intOf]; omega
    · have hk' : k = s.size := by omega
      have he : s.data.toList.take k = s.data.toList := by rw [hk']; exact List.take_of_length_le (by simp)
      rw [he] at hB hql
      clear hk' he
      go_wp2_with fail
      refine (Tryd.Builder_WriteByte w.heap.size w.heap.size _ _ _ hB (by omega) hsz).mono ?_
      rintro e w2 ⟨rfl, hB1, hb1⟩
      have hz1 := hb1.size
      go_wp2_with fail
      have hIs : Lib.IsBuilder 46 5 w.heap.size w.heap.size (Lib.byteCells (quote s.data.toList)) w2 := Or.inr (by simpa [quote, Lib.byteCells] using hB1)
      refine (Tryd.Builder_String_any w.heap.size w.heap.size (quote s.data.toList) _ hIs (by omega)).mono ?_
      rintro e w3 ⟨rfl, hb2⟩
      go_wp2_with fail
      go_ret
      exact ⟨rfl, (hbw.trans hb1).trans hb2⟩
end Go.Proofs.YtbdgheiilmmcnaaDoor.R
