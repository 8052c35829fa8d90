/- The walk of runes.Unquote. -/
import Derived.Test.YtbdgheiilmmcnaaDoorQuote
import Derived.Deep.QuietTactic
import Derived.BigQuiet
namespace Go.Proofs.YtbdgheiilmmcnaaDoor.R
open Go Go.Proofs Go.RowKit

def unqS (l : List UInt8) : List UInt8 := (unquote l).getD []
def unqE (l : List UInt8) : Int := if (unquote l).isSome then 0 else 22
def UnqPost (l : List UInt8) (w : World) (e : Ending) (w' : World) : Prop := e = .returned (.tuple #[.string ⟨(unqS l).toArray⟩, .int .i64 (unqE l)]) ∧ Below w.heap.size w w'
theorem UnqPost.bad {l : List UInt8} {w w' : World} (h : unquote l = none) (hb : Below w.heap.size w w') : UnqPost l w (.returned (.tuple #[.string ⟨#[]⟩, .int .i64 22])) w' := by
  refine ⟨?_, hb⟩
  unfold unqS unqE
  rw [h]; rfl
theorem UnqPost.good {l m : List UInt8} {w w' : World} (h : unquote l = some m) (hb : Below w.heap.size w w') : UnqPost l w (.returned (.tuple #[.string ⟨m.toArray⟩, .int .i64 0])) w' := by
  refine ⟨?_, hb⟩
  unfold unqS unqE
  rw [h]; rfl

/-- what stands from place k on, but the last byte -/
def rest (s : ByteArray) (k : Nat) : List UInt8 := (s.data.toList.take (s.size - 1)).drop k
theorem rest_cons (s : ByteArray) (k : Nat) (h : k < s.size) (h1 : k < s.size - 1) : rest s k = s[k] :: rest s (k + 1) := by
  unfold rest
  rw [List.drop_eq_getElem_cons (by simp; omega)]
  simp
  rfl
theorem rest_end (s : ByteArray) (k : Nat) (h : s.size - 1 ≤ k) : rest s k = [] := by
  unfold rest
  rw [List.drop_eq_nil_iff]
  simp; omega
theorem list_ends (l : List UInt8) (h : 2 ≤ l.length) : l = l[0] :: ((l.take (l.length - 1)).drop 1 ++ [l[l.length - 1]]) := by
  match l, h with
  | a :: b :: r, h =>
    apply List.ext_getElem
    · simp
    · intro i h1 h2
      match i with
      | 0 => rfl
      | i + 1 =>
        simp only [List.getElem_cons_succ]
        rw [List.getElem_append]
        split
        · simp [List.getElem_take]
        · rename_i hi
          simp only [List.length_drop, List.length_take, List.length_cons] at hi h1
          have : i = r.length := by omega
          subst this
          simp
theorem list_of (s : ByteArray) (h : 2 ≤ s.size) : s.data.toList = s[0] :: (rest s 1 ++ [s[s.size - 1]]) := by
  have e := list_ends s.data.toList (by simpa using h)
  simp only [Array.length_toList, ByteArray.size_data] at e
  exact e
theorem unquote_rest (s : ByteArray) (h : 2 ≤ s.size) (h0 : s[0] = 34) (h1 : s[s.size - 1] = 34) : unquote s.data.toList = unB (rest s 1) := by
  rw [list_of s h, h0, h1]
  unfold unquote
  rw [if_neg]
  · simp
  · simp [List.getLast?_cons]
theorem unquote_not (s : ByteArray) (h : 2 ≤ s.size) (h1 : s[0] ≠ 34 ∨ s[s.size - 1] ≠ 34) : unquote s.data.toList = none := by
  rw [list_of s h]
  unfold unquote
  rw [if_pos]
  rcases h1 with h1 | h1
  · simp [h1]
  · simp [List.getLast?_cons, h1]
theorem unquote_short (s : ByteArray) (h : s.size < 2) : unquote s.data.toList = none := by
  unfold unquote
  rw [if_pos]
  left; simpa using h

/-- one step of the reading, by what stands at place k -/
theorem step_plain {s : ByteArray} {k : Nat} {acc : List UInt8} (hk : k < s.size) (h : k < s.size - 1) (hU : unquote s.data.toList = (unB (rest s k)).map (acc ++ ·)) (h1 : s[k] ≠ 92) (h2 : ¬ s[k] < 32) (h3 : s[k] ≠ 34) :
    unquote s.data.toList = (unB (rest s (k + 1))).map ((acc ++ [s[k]]) ++ ·) := by
  rw [hU, rest_cons s k hk h, unB_cons, if_neg h1, if_neg (by simp [h2, h3]), Option.map_map]
  congr 1
  funext x
  simp
theorem step_bad {s : ByteArray} {k : Nat} {acc : List UInt8} (hk : k < s.size) (h : k < s.size - 1) (hU : unquote s.data.toList = (unB (rest s k)).map (acc ++ ·)) (h1 : s[k] ≠ 92) (h2 : s[k] < 32 ∨ s[k] = 34) :
    unquote s.data.toList = none := by
  rw [hU, rest_cons s k hk h, unB_cons, if_neg h1, if_pos h2]
  rfl
theorem step_cut {s : ByteArray} {k : Nat} {acc : List UInt8} (hk : k < s.size) (h : k < s.size - 1) (he : k + 1 = s.size - 1) (hU : unquote s.data.toList = (unB (rest s k)).map (acc ++ ·)) (h1 : s[k] = 92) :
    unquote s.data.toList = none := by
  rw [hU, rest_cons s k hk h, unB_cons, if_pos h1, rest_end s (k + 1) (by omega)]
  rfl
theorem step_none {s : ByteArray} {k : Nat} {acc : List UInt8} (hk : k + 1 < s.size) (h : k + 1 < s.size - 1) (hU : unquote s.data.toList = (unB (rest s k)).map (acc ++ ·)) (h1 : s[k] = 92) (h2 : signOf s[k + 1] = none) :
    unquote s.data.toList = none := by
  rw [hU, rest_cons s k (by omega) (by omega), unB_cons, if_pos h1, rest_cons s (k + 1) hk h]
  dsimp only
  rw [h2]
  rfl
theorem step_some {s : ByteArray} {k : Nat} {acc : List UInt8} {x : UInt8} (hk : k + 1 < s.size) (h : k + 1 < s.size - 1) (hU : unquote s.data.toList = (unB (rest s k)).map (acc ++ ·)) (h1 : s[k] = 92) (h2 : signOf s[k + 1] = some x) :
    unquote s.data.toList = (unB (rest s (k + 2))).map ((acc ++ [x]) ++ ·) := by
  rw [hU, rest_cons s k (by omega) (by omega), unB_cons, if_pos h1, rest_cons s (k + 1) hk h]
  dsimp only
  rw [h2]
  dsimp only
  rw [Option.map_map]
  congr 1
  funext x
  simp
theorem step_end {s : ByteArray} {k : Nat} {acc : List UInt8} (h : s.size - 1 ≤ k) (hU : unquote s.data.toList = (unB (rest s k)).map (acc ++ ·)) : unquote s.data.toList = some acc := by
  rw [hU, rest_end s k h]
  simp [unB]
theorem idx_names (c : UInt8) : Lib.indexByte [110, 116, 34, 92] c = if c = 110 then 0 else if c = 116 then 1 else if c = 34 then 2 else if c = 92 then 3 else -1 := by
  unfold Lib.indexByte Lib.indexByte Lib.indexByte Lib.indexByte Lib.indexByte
  by_cases h1 : c = 110
  · subst h1; rfl
  by_cases h2 : c = 116
  · subst h2; rfl
  by_cases h3 : c = 34
  · subst h3; rfl
  by_cases h4 : c = 92
  · subst h4; rfl
  simp [h1, h2, h3, h4, Ne.symm h1, Ne.symm h2, Ne.symm h3, Ne.symm h4]
theorem signOf_cases (c : UInt8) : (signOf c = none ∧ Lib.indexByte [110, 116, 34, 92] c = -1) ∨ (signOf c = some 10 ∧ Lib.indexByte [110, 116, 34, 92] c = 0) ∨ (signOf c = some 9 ∧ Lib.indexByte [110, 116, 34, 92] c = 1) ∨ (signOf c = some 34 ∧ Lib.indexByte [110, 116, 34, 92] c = 2) ∨ (signOf c = some 92 ∧ Lib.indexByte [110, 116, 34, 92] c = 3) := by
  rw [idx_names]
  unfold signOf
  repeat' split
  all_goals simp
theorem idxn (c : UInt8) (v : Int) (h : Lib.indexByte [110, 116, 34, 92] c = v) (w : World) :
    Calls Tryd.prog 23 #[.string ⟨#[110, 116, 34, 92]⟩, .int .u8 (c.toNat : Int)] w fun e w' => e = .returned (.int .i64 v) ∧ w = w' := by
  refine (Tryd.strings_IndexByte _ _ _).mono ?_
  rintro e w' ⟨rfl, rfl⟩
  refine ⟨?_, rfl⟩
  rw [byte_back, ← h]
theorem u8_ne {c : UInt8} {n : UInt8} (h : c ≠ n) : ((c.toNat : Int) != (n.toNat : Int)) = true := by
  rw [bne_iff_ne]; intro e; exact h (UInt8.toNat_inj.1 (by omega))

set_option maxHeartbeats 1000000 in
theorem unq_short (s : ByteArray) (w : World) (h : s.size < 2) : Calls Tryd.prog 9 #[.string s] w (UnqPost s.data.toList w) := by
  have hu := Lib.hid (unquote_short s h)
  go_enter Tryd.func9, Tryd.ntmps9
  go_wp2_with fail
  go_ret2
  exact UnqPost.bad hu.out (Below.refl _ _)
set_option maxHeartbeats 1000000 in
theorem unq_not (s : ByteArray) (w : World) (h : 2 ≤ s.size) (hm : s.size ≤ 35184372088832) (h1 : s[0] ≠ 34 ∨ s[s.size - 1] ≠ 34) : Calls Tryd.prog 9 #[.string s] w (UnqPost s.data.toList w) := by
  have hu := Lib.hid (unquote_not s h h1)
  by_cases h0 : s[0] = 34
  · have h2 : s[s.size - 1] ≠ 34 := by rcases h1 with h1 | h1; exact absurd h0 h1; exact h1
    have b1 : ((s[s.size - 1].toNat : Int) != 34) = true := u8_ne h2
    have b0 : ((s[0].toNat : Int) != 34) = false := by rw [h0]; rfl
    clear h0 h2 h1
    go_enter Tryd.func9, Tryd.ntmps9
    go_wp2_with fail
    go_ret2
    exact UnqPost.bad hu.out (Below.refl _ _)
  · have b0 : ((s[0].toNat : Int) != 34) = true := u8_ne h0
    clear h0 h1
    go_enter Tryd.func9, Tryd.ntmps9
    go_wp2_with fail
    go_ret2
    exact UnqPost.bad hu.out (Below.refl _ _)
set_option maxHeartbeats 1000000 in
theorem unq_yes (s : ByteArray) (w : World) (h : 2 ≤ s.size) (hm : s.size ≤ 35184372088832) (h0 : s[0] = 34) (h1 : s[s.size - 1] = 34) : Calls Tryd.prog 9 #[.string s] w (UnqPost s.data.toList w) := by
  have hu := unquote_rest s h h0 h1
  have b1 : ((s[s.size - 1].toNat : Int) != 34) = false := by rw [h1]; rfl
  have b0 : ((s[0].toNat : Int) != 34) = false := by rw [h0]; rfl
  have H1 := Lib.hid h1
  clear h0 h1
  have hu2 : Hid (unquote s.data.toList = (unB (rest s 1)).map ([] ++ ·)) := by rw [hu]; simp [Hid]
  clear hu
  go_enter Tryd.func9, Tryd.ntmps9
  go_wp2_with fail
  go_loopw [5] (fun i wr => ∃ (k : Nat) (acc : List UInt8), 1 ≤ k ∧ k ≤ s.size - 1 ∧ i = .int .i64 k ∧ Lib.IsBuilder 46 5 w.heap.size w.heap.size (Lib.byteCells acc) wr ∧ acc.length ≤ k ∧ Hid (unquote s.data.toList = (unB (rest s k)).map (acc ++ ·)) ∧ Below w.heap.size w wr) (fun i _ => s.size - (intOf i).toNat)
  case atStart => exact ⟨1, [], by omega, by omega, rfl, Lib.fresh_isBuilder 46 5 w, by simp, hu2, (Below.refl _ w).alloc (Nat.le_refl _) _⟩
  case round =>
    obtain ⟨k, acc, hk1, hk, rfl, hB, hal, hU, hbw⟩ := hrel
    have hsz : w.heap.size ≤ wr.heap.size := hbw.size
    by_cases hlt : k < s.size - 1
    · have hks : k < s.size := by omega
      by_cases h92 : s[k] = 92
      · have t92 : ((s[k].toNat : Int) == 92) = true := by rw [h92]; rfl
        have hks1 : k + 1 < s.size := by omega
        by_cases hcut : k + 1 = s.size - 1
        · have hbad := Lib.hid (step_cut hks hlt hcut hU.out h92)
          obtain ⟨v, hv⟩ : ∃ v, Lib.indexByte [110, 116, 34, 92] s[k + 1] = v := ⟨_, rfl⟩
          have hv0 : 0 ≤ v := by
            have : s[k + 1] = 34 := by have := H1.out; simpa [hcut] using this
            rw [this] at hv
            have : Lib.indexByte [110, 116, 34, 92] 34 = 2 := rfl
            omega
          have hv' := Lib.hid hv
          have tc : ((k : Int) + 1 == (s.size : Int) - 1) = true := by rw [beq_iff_eq]; omega
          clear hv hcut h92 hU
          go_wp2_with fail
          refine (idxn s[k + 1] _ hv'.out _).mono ?_
          rintro e w2 ⟨rfl, rfl⟩
          go_wp2_with fail
          go_ret2
          exact UnqPost.bad hbad.out hbw
        · have hlt1 : k + 1 < s.size - 1 := by omega
          clear hcut
          rcases signOf_cases s[k + 1] with ⟨hn, hi⟩ | hcs
          · have hbad := Lib.hid (step_none hks1 hlt1 hU.out h92 hn)
            have hi' := Lib.hid hi
            clear hn hi h92 hU
            go_wp2_with fail
            refine (idxn s[k + 1] _ hi'.out _).mono ?_
            rintro e w2 ⟨rfl, rfl⟩
            go_wp2_with fail
            go_ret2
            exact UnqPost.bad hbad.out hbw
          · obtain ⟨x, v, hn, hi, hv⟩ : ∃ (x : UInt8) (v : Int), signOf s[k + 1] = some x ∧ Lib.indexByte [110, 116, 34, 92] s[k + 1] = v ∧ (x = 10 ∧ v = 0 ∨ x = 9 ∧ v = 1 ∨ x = 34 ∧ v = 2 ∨ x = 92 ∧ v = 3) := by
              rcases hcs with ⟨h, g⟩ | ⟨h, g⟩ | ⟨h, g⟩ | ⟨h, g⟩ <;> exact ⟨_, _, h, g, by decide⟩
            have hst := Lib.hid (step_some hks1 hlt1 hU.out h92 hn)
            have hi' := Lib.hid hi
            clear hn hi hcs h92 hU
            rcases hv with ⟨rfl, rfl⟩ | ⟨rfl, rfl⟩ | ⟨rfl, rfl⟩ | ⟨rfl, rfl⟩
            all_goals
              go_wp2_with fail
              refine (idxn s[k + 1] _ hi'.out _).mono ?_
              rintro e w2 ⟨rfl, rfl⟩
              go_wp2_with fail
              refine (Tryd.Builder_WriteByte w.heap.size w.heap.size _ _ _ hB (by rw [Lib.byteCells_length]; omega) hsz).mono ?_
              rintro e w2 ⟨rfl, hB1, hb1⟩
              go_wp2_with fail
              go_roundw
              case rel =>
                refine ⟨k + 2, acc ++ [_], by omega, by omega, by go_num, Or.inr ?_, by simp; omega, hst, hbw.trans hb1⟩
                rw [Lib.byteCells_append]
                exact hB1
              case measure => simp [intOf]; omega
      · have t92 : ((s[k].toNat : Int) == 92) = false := by have := u8_ne h92; simpa using this
        by_cases h32 : s[k] < 32
        · have hbad := Lib.hid (step_bad hks hlt hU.out h92 (Or.inl h32))
          have t32 : (s[k].toNat : Int) < 32 := by have := UInt8.lt_iff_toNat_lt.1 h32; simp at this; omega
          clear h92 h32 hU
          go_wp2_with fail
          go_ret2
          exact UnqPost.bad hbad.out hbw
        · have t32 : ¬ (s[k].toNat : Int) < 32 := by intro e; exact h32 (UInt8.lt_iff_toNat_lt.2 (by simp; omega))
          by_cases h34 : s[k] = 34
          · have hbad := Lib.hid (step_bad hks hlt hU.out h92 (Or.inr h34))
            have t34 : ((s[k].toNat : Int) == 34) = true := by rw [h34]; rfl
            clear h92 h32 h34 hU
            go_wp2_with fail
            go_ret2
            exact UnqPost.bad hbad.out hbw
          · have t34 : ((s[k].toNat : Int) == 34) = false := by have := u8_ne h34; simpa using this
            have hst := Lib.hid (step_plain hks hlt hU.out h92 h32 h34)
            clear h92 h32 h34 hU
            go_wp2_with fail
            refine (Tryd.Builder_WriteByte w.heap.size w.heap.size _ _ _ hB (by rw [Lib.byteCells_length]; omega) hsz).mono ?_
            rintro e w2 ⟨rfl, hB1, hb1⟩
            go_wp2_with fail
            go_roundw
            case rel =>
              refine ⟨k + 1, acc ++ [s[k]], by omega, by omega, by go_num, Or.inr ?_, by simp; omega, hst, hbw.trans hb1⟩
              rw [Lib.byteCells_append]
              exact hB1
            case measure => simp [intOf]; omega
    · have hend := Lib.hid (step_end (by omega) hU.out)
      clear hU
      go_wp2_with fail
      refine (Tryd.Builder_String_any w.heap.size w.heap.size acc _ hB (by omega)).mono ?_
      rintro e w3 ⟨rfl, hb2⟩
      go_wp2_with fail
      go_ret2
      exact UnqPost.good hend.out (hbw.trans hb2)

theorem unq_walk (s : ByteArray) (w : World) (hm : s.size ≤ 35184372088832) : Calls Tryd.prog 9 #[.string s] w (UnqPost s.data.toList w) := by
  by_cases h : s.size < 2
  · exact unq_short s w h
  · by_cases h0 : s[0] = 34
    · by_cases h1 : s[s.size - 1] = 34
      · exact unq_yes s w (by omega) hm h0 h1
      · exact unq_not s w (by omega) hm (Or.inr h1)
    · exact unq_not s w (by omega) hm (Or.inl h0)
end Go.Proofs.YtbdgheiilmmcnaaDoor.R
