/- The walk of the law RunesBack. -/
import Derived.Test.YtbdgheiilmmcnaaDoorLaws
namespace Go.Proofs.YtbdgheiilmmcnaaDoor.R
open Go Go.Proofs Go.RowKit

theorem low_snoc (s : ByteArray) (k : Nat) (h : k < s.size) : low (s.data.toList.take (k + 1)) = (low (s.data.toList.take k) || (decide (s[k] < 32) && s[k] != 9 && s[k] != 10)) := by
  rw [take_snoc s k h]
  simp [low]
theorem lt32 (c : UInt8) : decide ((c.toNat : Int) < 32) = decide (c < 32) := by
  rw [decide_eq_decide, UInt8.lt_iff_toNat_lt]
  simp
  omega
theorem ne_b (c n : UInt8) : ((c.toNat : Int) != (n.toNat : Int)) = (c != n) := by
  rw [Bool.eq_iff_iff, bne_iff_ne, bne_iff_ne]
  constructor
  · rintro h rfl; exact h rfl
  · intro h e; exact h (UInt8.toNat_inj.1 (by omega))

/-- a byte that is low, and one that is not, in the walk's spelling -/
theorem lowb_cases (c : UInt8) : (¬ ((c.toNat : Int) < 32) ∧ (decide (c < 32) && c != 9 && c != 10) = false) ∨
    ((c.toNat : Int) < 32 ∧ ((c.toNat : Int) != 9) = false ∧ (decide (c < 32) && c != 9 && c != 10) = false) ∨
    ((c.toNat : Int) < 32 ∧ ((c.toNat : Int) != 9) = true ∧ ((c.toNat : Int) != 10) = false ∧ (decide (c < 32) && c != 9 && c != 10) = false) ∨
    ((c.toNat : Int) < 32 ∧ ((c.toNat : Int) != 9) = true ∧ ((c.toNat : Int) != 10) = true ∧ (decide (c < 32) && c != 9 && c != 10) = true) := by
  have h1 := lt32 c
  have h2 := ne_b c 9
  have h3 := ne_b c 10
  have e9 : ((9 : UInt8).toNat : Int) = 9 := rfl
  have e10 : ((10 : UInt8).toNat : Int) = 10 := rfl
  rw [e9] at h2
  rw [e10] at h3
  rw [← h1, h2, h3]
  by_cases a : (c.toNat : Int) < 32
  · cases b : (c != 9) <;> cases d : (c != 10) <;> simp [a]
  · simp [a]

theorem ba_self (y : ByteArray) : (⟨y.data.toList.toArray⟩ : ByteArray) = y := (ba_of rfl).symm
theorem unq_someB {s y : ByteArray} (hm : s.size ≤ 35184372088832) (h : unquote s.data.toList = some y.data.toList) (w : World) :
    Calls Tryd.prog 9 #[.string s] w fun e w' => e = .returned (.tuple #[.string y, .int .i64 0]) ∧ Below w.heap.size w w' := by
  have := unq_some hm h w
  rw [ba_self] at this
  exact this
theorem quote_size (s : ByteArray) : (⟨(quote s.data.toList).toArray⟩ : ByteArray).size ≤ 2 * s.size + 2 := by
  have h := quoteB_length_le s.data.toList
  rw [ba_len] at h
  show (quote s.data.toList).toArray.size ≤ _
  simp [quote]
  omega
theorem unq_back_ok (s : ByteArray) (hm : s.size ≤ 2000) (h : low s.data.toList = false) (w : World) :
    Calls Tryd.prog 9 #[.string ⟨(quote s.data.toList).toArray⟩] w fun e w' => e = .returned (.tuple #[.string s, .int .i64 0]) ∧ Below w.heap.size w w' := by
  refine unq_someB (by have := quote_size s; omega) ?_ w
  show unquote (quote s.data.toList).toArray.toList = _
  rw [List.toList_toArray, unquote_quote, h]
  rfl
theorem unq_back_low (s : ByteArray) (hm : s.size ≤ 2000) (h : low s.data.toList = true) (w : World) :
    Calls Tryd.prog 9 #[.string ⟨(quote s.data.toList).toArray⟩] w fun e w' => e = .returned (.tuple #[.string ⟨#[]⟩, .int .i64 22]) ∧ Below w.heap.size w w' := by
  refine unq_none (by have := quote_size s; omega) ?_ w
  show unquote (quote s.data.toList).toArray.toList = _
  rw [List.toList_toArray, unquote_quote, h]
  rfl
/-- the world goes on below -/
theorem Below.next {w w1 w2 : World} (h : Below w.heap.size w w1) (k : Below w1.heap.size w1 w2) : Below w.heap.size w w2 := h.trans (k.mono h.size)

set_option maxHeartbeats 1000000 in
theorem back_long (s t : ByteArray) (w : World) (hT : Lib.Utf8Tabs 0 1 w) (h : 2000 < s.size ∨ 2000 < t.size) : Calls Tryd.prog 4 #[.string s, .string t] w (TrueB w) := by
  by_cases h1 : 2000 < s.size
  · clear h
    go_enter Tryd.func4, Tryd.ntmps4
    go_wp2_with fail
    refine (awake_walk _ hT).mono ?_
    rintro e w1 ⟨rfl, hb1⟩
    go_wp2_with fail
    go_ret
    exact ⟨rfl, hb1⟩
  · have h2 : 2000 < t.size := by omega
    clear h
    go_enter Tryd.func4, Tryd.ntmps4
    go_wp2_with fail
    refine (awake_walk _ hT).mono ?_
    rintro e w1 ⟨rfl, hb1⟩
    go_wp2_with fail
    go_ret
    exact ⟨rfl, hb1⟩

set_option maxHeartbeats 1000000 in
theorem back_short (s t : ByteArray) (w : World) (hT : Lib.Utf8Tabs 0 1 w) (h1 : s.size ≤ 2000) (h2 : t.size ≤ 2000) : Calls Tryd.prog 4 #[.string s, .string t] w (TrueB w) := by
  go_enter Tryd.func4, Tryd.ntmps4
  go_wp2_with fail
  go_loop [5, 24] (fun b i => ∃ k : Nat, k ≤ s.size ∧ i = .int .i64 k ∧ b = .bool (low (s.data.toList.take k))) (fun _ i => s.size - (intOf i).toNat)
  case atStart => exact ⟨0, Nat.zero_le _, rfl, rfl⟩
  case round =>
    obtain ⟨k, hk, rfl, rfl⟩ := hrel
    by_cases hlt : k < s.size
    · have hsn := Lib.hid (low_snoc s k hlt)
      cases hl : low (s.data.toList.take k)
      · have hl' := Lib.hid hl
        clear hl
        rcases lowb_cases s[k] with ⟨a, hb⟩ | ⟨a, b, hb⟩ | ⟨a, b, c, hb⟩ | ⟨a, b, c, hb⟩
        all_goals
          have hb' := Lib.hid hb
          clear hb
          go_wp2_with fail
          go_round
          case rel => exact ⟨k + 1, by omega, by go_num, by rw [hsn.out, hl'.out, hb'.out]; rfl⟩
          case measure => simp [intOf]; omega
      · have hl' := Lib.hid hl
        clear hl
        go_wp2_with fail
        go_round
        case rel => exact ⟨k + 1, by omega, by go_num, by rw [hsn.out, hl'.out]; rfl⟩
        case measure => simp [intOf]; omega
    · have he : s.data.toList.take k = s.data.toList := List.take_of_length_le (by simp; omega)
      rw [he]
      clear he
      have hy : unquote t.data.toList = none ∨ ∃ y : ByteArray, unquote t.data.toList = some y.data.toList ∧ y.size ≤ 2000 ∧ low y.data.toList = false := by
        cases hu : unquote t.data.toList with
        | none => exact Or.inl rfl
        | some m =>
          refine Or.inr ⟨⟨m.toArray⟩, by simp, ?_, ?_⟩
          · have := unquote_length _ _ hu
            rw [ba_len] at this
            show m.toArray.size ≤ _
            simp; omega
          · show low m.toArray.toList = false
            rw [List.toList_toArray]; exact unquote_low _ _ hu
      cases hl : low s.data.toList
      · have hq := Lib.hid (unq_back_ok s h1 hl)
        clear hl
        rcases hy with hy | ⟨y, hy, hys, hyl⟩
        · have hu := Lib.hid (unq_none (s := t) (by omega) hy)
          clear hy
          go_wp2_with fail
          refine (quote_walk s _ (by omega)).mono ?_
          rintro e w1 ⟨rfl, hb1⟩
          have hc1 := hb1
          go_wp2_with fail
          refine (hq.out _).mono ?_
          rintro e w2 ⟨rfl, hb2⟩
          have hc2 := Below.next hc1 hb2
          go_wp2_with fail
          refine (hu.out _).mono ?_
          rintro e w3 ⟨rfl, hb3⟩
          have hc3 := Below.next hc2 hb3
          go_wp2_with fail
          refine (awake_walk _ (Utf8Tabs_below hT hc3)).mono ?_
          rintro e w4 ⟨rfl, hb4⟩
          have hc4 := Below.next hc3 hb4
          go_wp2_with fail
          go_ret
          exact ⟨rfl, hc4⟩
        · have hu := Lib.hid (unq_someB (s := t) (by omega) hy)
          have hy2 := Lib.hid (unq_back_ok y hys hyl)
          clear hy hyl
          go_wp2_with fail
          refine (quote_walk s _ (by omega)).mono ?_
          rintro e w1 ⟨rfl, hb1⟩
          have hc1 := hb1
          go_wp2_with fail
          refine (hq.out _).mono ?_
          rintro e w2 ⟨rfl, hb2⟩
          have hc2 := Below.next hc1 hb2
          go_wp2_with fail
          refine (hu.out _).mono ?_
          rintro e w3 ⟨rfl, hb3⟩
          have hc3 := Below.next hc2 hb3
          go_wp2_with fail
          refine (quote_walk y _ (by omega)).mono ?_
          rintro e w4 ⟨rfl, hb4⟩
          have hc4 := Below.next hc3 hb4
          go_wp2_with fail
          refine (hy2.out _).mono ?_
          rintro e w5 ⟨rfl, hb5⟩
          have hc5 := Below.next hc4 hb5
          go_wp2_with fail
          refine (awake_walk _ (Utf8Tabs_below hT hc5)).mono ?_
          rintro e w6 ⟨rfl, hb6⟩
          have hc6 := Below.next hc5 hb6
          go_wp2_with fail
          go_ret
          exact ⟨rfl, hc6⟩
      · have hq := Lib.hid (unq_back_low s h1 hl)
        clear hl
        rcases hy with hy | ⟨y, hy, hys, hyl⟩
        · have hu := Lib.hid (unq_none (s := t) (by omega) hy)
          clear hy
          go_wp2_with fail
          refine (quote_walk s _ (by omega)).mono ?_
          rintro e w1 ⟨rfl, hb1⟩
          have hc1 := hb1
          go_wp2_with fail
          refine (hq.out _).mono ?_
          rintro e w2 ⟨rfl, hb2⟩
          have hc2 := Below.next hc1 hb2
          go_wp2_with fail
          refine (hu.out _).mono ?_
          rintro e w3 ⟨rfl, hb3⟩
          have hc3 := Below.next hc2 hb3
          go_wp2_with fail
          refine (awake_walk _ (Utf8Tabs_below hT hc3)).mono ?_
          rintro e w4 ⟨rfl, hb4⟩
          have hc4 := Below.next hc3 hb4
          go_wp2_with fail
          go_ret
          exact ⟨rfl, hc4⟩
        · have hu := Lib.hid (unq_someB (s := t) (by omega) hy)
          have hy2 := Lib.hid (unq_back_ok y hys hyl)
          clear hy hyl
          go_wp2_with fail
          refine (quote_walk s _ (by omega)).mono ?_
          rintro e w1 ⟨rfl, hb1⟩
          have hc1 := hb1
          go_wp2_with fail
          refine (hq.out _).mono ?_
          rintro e w2 ⟨rfl, hb2⟩
          have hc2 := Below.next hc1 hb2
          go_wp2_with fail
          refine (hu.out _).mono ?_
          rintro e w3 ⟨rfl, hb3⟩
          have hc3 := Below.next hc2 hb3
          go_wp2_with fail
          refine (quote_walk y _ (by omega)).mono ?_
          rintro e w4 ⟨rfl, hb4⟩
          have hc4 := Below.next hc3 hb4
          go_wp2_with fail
          refine (hy2.out _).mono ?_
          rintro e w5 ⟨rfl, hb5⟩
          have hc5 := Below.next hc4 hb5
          go_wp2_with fail
          refine (awake_walk _ (Utf8Tabs_below hT hc5)).mono ?_
          rintro e w6 ⟨rfl, hb6⟩
          have hc6 := Below.next hc5 hb6
          go_wp2_with fail
          go_ret
          exact ⟨rfl, hc6⟩
theorem back_walk (s t : ByteArray) (w : World) (hT : Lib.Utf8Tabs 0 1 w) : Calls Tryd.prog 4 #[.string s, .string t] w (TrueB w) := by
  by_cases h : 2000 < s.size ∨ 2000 < t.size
  · exact back_long s t w hT h
  · exact back_short s t w hT (by omega) (by omega)
end Go.Proofs.YtbdgheiilmmcnaaDoor.R
