/- The walks of the laws RunesQuotes and RunesBack. -/
import Derived.Test.YtbdgheiilmmcnaaDoorBad
namespace Go.Proofs.YtbdgheiilmmcnaaDoor.R
open Go Go.Proofs Go.RowKit

theorem bad_a : bad ⟨#[97]⟩ = -1 := by decide +kernel
theorem quote_nl : quote (ByteArray.mk #[10]).data.toList = [34, 92, 110, 34] := by decide +kernel
set_option maxHeartbeats 1000000 in
theorem awake_walk (w : World) (hT : Lib.Utf8Tabs 0 1 w) :
    Calls Tryd.prog 8 #[] w fun e w' => e = .returned (.bool true) ∧ Below w.heap.size w w' := by
  have hq : ∀ w : World, Calls Tryd.prog 11 #[.string ⟨#[10]⟩] w fun e w' => e = .returned (.string ⟨#[34, 92, 110, 34]⟩) ∧ Below w.heap.size w w' := by
    intro w
    have := quote_walk ⟨#[10]⟩ w (by decide)
    rw [quote_nl] at this
    exact this
  have hb : ∀ w : World, Lib.Utf8Tabs 0 1 w → Calls Tryd.prog 13 #[.string ⟨#[97]⟩] w fun e w' => e = .returned (.int .i64 (-1)) ∧ Below w.heap.size w w' := by
    intro w hT
    have := bad_walk ⟨#[97]⟩ w (by decide) hT
    rw [bad_a] at this
    exact this
  have Hq := Lib.hid hq
  have Hb := Lib.hid hb
  clear hq hb
  go_enter Tryd.func8, Tryd.ntmps8
  go_wp2_with fail
  refine (Hq.out _).mono ?_
  rintro e w1 ⟨rfl, hb1⟩
  go_wp2_with fail
  refine (Hb.out _ (Utf8Tabs_below hT hb1)).mono ?_
  rintro e w2 ⟨rfl, hb2⟩
  go_wp2_with fail
  go_ret
  exact ⟨rfl, hb1.trans (hb2.mono hb1.size)⟩

/-- Unquote at a string of which it is known what it stands for -/
theorem unq_some {s : ByteArray} {m : List UInt8} (hm : s.size ≤ 35184372088832) (h : unquote s.data.toList = some m) (w : World) :
    Calls Tryd.prog 9 #[.string s] w fun e w' => e = .returned (.tuple #[.string ⟨m.toArray⟩, .int .i64 0]) ∧ Below w.heap.size w w' := by
  refine (unq_walk s w hm).mono ?_
  rintro e w' ⟨rfl, hb⟩
  unfold unqS unqE
  rw [h]
  exact ⟨rfl, hb⟩
theorem unq_none {s : ByteArray} (hm : s.size ≤ 35184372088832) (h : unquote s.data.toList = none) (w : World) :
    Calls Tryd.prog 9 #[.string s] w fun e w' => e = .returned (.tuple #[.string ⟨#[]⟩, .int .i64 22]) ∧ Below w.heap.size w w' := by
  refine (unq_walk s w hm).mono ?_
  rintro e w' ⟨rfl, hb⟩
  unfold unqS unqE
  rw [h]
  exact ⟨rfl, hb⟩
theorem ref_some {s : ByteArray} {m : List UInt8} (hm : s.size ≤ 35184372088832) (h : unquote s.data.toList = some m) (w : World) :
    Calls Tryd.prog 10 #[.string s] w fun e w' => e = .returned (.tuple #[.string ⟨m.toArray⟩, .int .i64 0]) ∧ Below w.heap.size w w' := by
  refine (refUnq_walk s w hm).mono ?_
  rintro e w' ⟨rfl, hb⟩
  unfold unqS unqE
  rw [h]
  exact ⟨rfl, hb⟩
theorem ref_none {s : ByteArray} (hm : s.size ≤ 35184372088832) (h : unquote s.data.toList = none) (w : World) :
    Calls Tryd.prog 10 #[.string s] w fun e w' => e = .returned (.tuple #[.string ⟨#[]⟩, .int .i64 22]) ∧ Below w.heap.size w w' := by
  refine (refUnq_walk s w hm).mono ?_
  rintro e w' ⟨rfl, hb⟩
  unfold unqS unqE
  rw [h]
  exact ⟨rfl, hb⟩

def TrueB (w : World) (e : Ending) (w' : World) : Prop := e = .returned (.bool true) ∧ Below w.heap.size w w'

set_option maxHeartbeats 1000000 in
theorem quotes_long (s t : ByteArray) (w : World) (hT : Lib.Utf8Tabs 0 1 w) (h : 2000 < s.size ∨ 2000 < t.size) : Calls Tryd.prog 3 #[.string s, .string t] w (TrueB w) := by
  by_cases h1 : 2000 < s.size
  · clear h
    go_enter Tryd.func3, Tryd.ntmps3
    go_wp2_with fail
    refine (awake_walk _ hT).mono ?_
    rintro e w1 ⟨rfl, hb1⟩
    go_wp2_with fail
    go_ret
    exact ⟨rfl, hb1⟩
  · have h2 : 2000 < t.size := by omega
    clear h
    go_enter Tryd.func3, Tryd.ntmps3
    go_wp2_with fail
    refine (awake_walk _ hT).mono ?_
    rintro e w1 ⟨rfl, hb1⟩
    go_wp2_with fail
    go_ret
    exact ⟨rfl, hb1⟩
set_option maxHeartbeats 1000000 in
theorem quotes_short (s t : ByteArray) (w : World) (hT : Lib.Utf8Tabs 0 1 w) (h1 : s.size ≤ 2000) (h2 : t.size ≤ 2000) : Calls Tryd.prog 3 #[.string s, .string t] w (TrueB w) := by
  cases hu : unquote t.data.toList with
  | none =>
    have h9 := Lib.hid (unq_none (s := t) (by omega) hu)
    have h10 := Lib.hid (ref_none (s := t) (by omega) hu)
    clear hu
    go_enter Tryd.func3, Tryd.ntmps3
    go_wp2_with fail
    refine (h9.out _).mono ?_
    rintro e w1 ⟨rfl, hb1⟩
    have hT1 := Utf8Tabs_below hT hb1
    go_wp2_with fail
    refine (h10.out _).mono ?_
    rintro e w2 ⟨rfl, hb2⟩
    have hT2 := Utf8Tabs_below hT1 hb2
    go_wp2_with fail
    refine (awake_walk _ hT2).mono ?_
    rintro e w3 ⟨rfl, hb3⟩
    go_wp2_with fail
    refine (quote_walk s _ (by omega)).mono ?_
    rintro e w4 ⟨rfl, hb4⟩
    go_wp2_with fail
    refine (refQuote_walk s _ (by omega)).mono ?_
    rintro e w5 ⟨rfl, rfl⟩
    go_wp2_with fail
    go_ret
    exact ⟨rfl, (((hb1.trans (hb2.mono hb1.size)).trans (hb3.mono (Nat.le_trans hb1.size hb2.size))).trans (hb4.mono (Nat.le_trans (Nat.le_trans hb1.size hb2.size) hb3.size)))⟩
  | some m =>
    have h9 := Lib.hid (unq_some (s := t) (by omega) hu)
    have h10 := Lib.hid (ref_some (s := t) (by omega) hu)
    clear hu
    go_enter Tryd.func3, Tryd.ntmps3
    go_wp2_with fail
    refine (h9.out _).mono ?_
    rintro e w1 ⟨rfl, hb1⟩
    have hT1 := Utf8Tabs_below hT hb1
    go_wp2_with fail
    refine (h10.out _).mono ?_
    rintro e w2 ⟨rfl, hb2⟩
    have hT2 := Utf8Tabs_below hT1 hb2
    go_wp2_with fail
    refine (awake_walk _ hT2).mono ?_
    rintro e w3 ⟨rfl, hb3⟩
    go_wp2_with fail
    refine (quote_walk s _ (by omega)).mono ?_
    rintro e w4 ⟨rfl, hb4⟩
    go_wp2_with fail
    refine (refQuote_walk s _ (by omega)).mono ?_
    rintro e w5 ⟨rfl, rfl⟩
    go_wp2_with fail
    go_ret
    exact ⟨rfl, (((hb1.trans (hb2.mono hb1.size)).trans (hb3.mono (Nat.le_trans hb1.size hb2.size))).trans (hb4.mono (Nat.le_trans (Nat.le_trans hb1.size hb2.size) hb3.size)))⟩
theorem quotes_walk (s t : ByteArray) (w : World) (hT : Lib.Utf8Tabs 0 1 w) : Calls Tryd.prog 3 #[.string s, .string t] w (TrueB w) := by
  by_cases h : 2000 < s.size ∨ 2000 < t.size
  · exact quotes_long s t w hT h
  · exact quotes_short s t w hT (by omega) (by omega)
end Go.Proofs.YtbdgheiilmmcnaaDoor.R
