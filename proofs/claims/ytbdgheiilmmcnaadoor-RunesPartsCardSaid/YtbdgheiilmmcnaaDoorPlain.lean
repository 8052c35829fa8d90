/- Plain laws on lists of bytes for the layer runes: quoting and unquoting. No program in sight. -/
import Derived.Lib.Bytealg
import Derived.Lib.UnsafeStr
namespace Go.Proofs.YtbdgheiilmmcnaaDoor.R
open Go

/-- what stands behind the backslash for a byte that is quoted -/
def nameOf (c : UInt8) : Option UInt8 :=
  if c = 10 then some 110 else if c = 9 then some 116 else if c = 34 then some 34 else if c = 92 then some 92 else none
def esc (c : UInt8) : List UInt8 := match nameOf c with | some d => [92, d] | none => [c]
def quoteB : List UInt8 → List UInt8
  | [] => []
  | c :: r => esc c ++ quoteB r
def quote (l : List UInt8) : List UInt8 := 34 :: (quoteB l ++ [34])

/-- what a sign behind the backslash stands for -/
def signOf (c : UInt8) : Option UInt8 :=
  if c = 110 then some 10 else if c = 116 then some 9 else if c = 34 then some 34 else if c = 92 then some 92 else none

theorem quoteB_append (a b : List UInt8) : quoteB (a ++ b) = quoteB a ++ quoteB b := by
  induction a with
  | nil => rfl
  | cons c r ih => simp [quoteB, ih]
theorem quoteB_length_le (a : List UInt8) : (quoteB a).length ≤ 2 * a.length := by
  induction a with
  | nil => simp [quoteB]
  | cons c r ih =>
    have : (esc c).length ≤ 2 := by unfold esc; split <;> simp
    simp [quoteB]; omega

/-- the inner part of a string, unquoted: none where it is no string -/
def unB : List UInt8 → Option (List UInt8)
  | [] => some []
  | b :: r =>
    if b = 92 then
      match r with
      | [] => none
      | c :: r' => match signOf c with
        | some x => (unB r').map (x :: ·)
        | none => none
    else if b < 32 ∨ b = 34 then none
    else (unB r).map (b :: ·)
theorem unB_cons (b : UInt8) (r : List UInt8) : unB (b :: r) = if b = 92 then
      match r with
      | [] => none
      | c :: r' => match signOf c with
        | some x => (unB r').map (x :: ·)
        | none => none
    else if b < 32 ∨ b = 34 then none
    else (unB r).map (b :: ·) := by
  cases r with
  | nil => rfl
  | cons c r' => rfl
def unquote (l : List UInt8) : Option (List UInt8) :=
  if l.length < 2 ∨ l.head? ≠ some 34 ∨ l.getLast? ≠ some 34 then none else unB (l.tail.dropLast)

def low (l : List UInt8) : Bool := l.any fun c => decide (c < 32) && c != 9 && c != 10

theorem signOf_nameOf (c d : UInt8) (h : nameOf c = some d) : signOf d = some c := by
  unfold nameOf at h
  repeat' split at h
  all_goals first | (cases h; done) | (simp only [Option.some.injEq] at h; subst h; subst_vars; decide)

theorem nameOf_none (c : UInt8) (h : nameOf c = none) : c ≠ 10 ∧ c ≠ 9 ∧ c ≠ 34 ∧ c ≠ 92 := by
  unfold nameOf at h
  repeat' split at h
  all_goals first | (cases h; done) | (refine ⟨?_, ?_, ?_, ?_⟩ <;> assumption)

/-- WHAT WAS QUOTED IS UNQUOTED AS IT WAS: where no byte is low. -/
theorem unB_quoteB (l : List UInt8) : unB (quoteB l) = if low l then none else some l := by
  induction l with
  | nil => simp [quoteB, unB, low]
  | cons c r ih =>
    unfold quoteB esc
    have hl : low (c :: r) = ((decide (c < 32) && c != 9 && c != 10) || low r) := by simp [low]
    cases hn : nameOf c with
    | some d =>
      have hs := signOf_nameOf c d hn
      have hc : (decide (c < 32) && c != 9 && c != 10) = false := by
        unfold nameOf at hn
        repeat' split at hn
        all_goals first | (cases hn; done) | (subst_vars; decide)
      simp only [List.cons_append, List.nil_append]
      rw [unB_cons, if_pos rfl]
      simp only [hs, ih, hl, hc, Bool.false_or]
      cases low r <;> simp
    | none =>
      obtain ⟨h1, h2, h3, h4⟩ := nameOf_none c hn
      simp only [List.cons_append, List.nil_append]
      rw [unB_cons, if_neg h4, ih, hl]
      by_cases hlt : c < 32
      · simp [hlt, h1, h2]
      · simp only [hlt, h3, or_self, if_false, decide_false, Bool.false_and, Bool.false_or]
        cases low r <;> simp

theorem unquote_quote (l : List UInt8) : unquote (quote l) = if low l then none else some l := by
  have h : unquote (quote l) = unB (quoteB l) := by
    unfold unquote quote
    rw [if_neg]
    · simp
    · simp [List.getLast?_cons]
  rw [h, unB_quoteB]

/-- what comes out of unB has no low byte -/
theorem unB_low : ∀ (n : Nat) (l m : List UInt8), l.length ≤ n → unB l = some m → low m = false := by
  intro n
  induction n with
  | zero => intro l m hn h; cases l with
    | nil => rw [unB] at h; cases h; rfl
    | cons a r => simp at hn
  | succ n ih =>
    intro l m hn h
    cases l with
    | nil => rw [unB] at h; cases h; rfl
    | cons b r =>
      rw [unB_cons] at h
      split at h
      · cases r with
        | nil => cases h
        | cons c r' =>
          dsimp only at h
          cases hs : signOf c with
          | none => rw [hs] at h; cases h
          | some x =>
            rw [hs] at h
            dsimp only at h
            obtain ⟨q, hq, rfl⟩ := Option.map_eq_some_iff.1 h
            have := ih r' q (by simp at hn; omega) hq
            have hx : (decide (x < 32) && x != 9 && x != 10) = false := by
              unfold signOf at hs
              repeat' split at hs
              all_goals first | (cases hs; done) | (simp only [Option.some.injEq] at hs; subst hs; decide)
            simp [low] at this hx ⊢
            exact ⟨hx, this⟩
      · split at h
        · cases h
        · rename_i hb
          obtain ⟨q, hq, rfl⟩ := Option.map_eq_some_iff.1 h
          have := ih r q (by simp at hn; omega) hq
          have hx : ¬ b < 32 := fun e => hb (Or.inl e)
          simp [low, hx] at this ⊢
          exact this

theorem unquote_low (l m : List UInt8) (h : unquote l = some m) : low m = false := by
  unfold unquote at h
  split at h
  · cases h
  · exact unB_low _ _ _ (Nat.le_refl _) h

/-- a string that is unquoted and quoted again stands for the same -/
theorem unquote_again (l m : List UInt8) (h : unquote l = some m) : unquote (quote m) = some m := by
  rw [unquote_quote, unquote_low l m h]; rfl

theorem unB_length : ∀ (n : Nat) (l m : List UInt8), l.length ≤ n → unB l = some m → m.length ≤ l.length := by
  intro n
  induction n with
  | zero => intro l m hn h; cases l with
    | nil => rw [unB] at h; cases h; simp
    | cons a r => simp at hn
  | succ n ih =>
    intro l m hn h
    cases l with
    | nil => rw [unB] at h; cases h; simp
    | cons b r =>
      rw [unB_cons] at h
      split at h
      · cases r with
        | nil => cases h
        | cons c r' =>
          dsimp only at h
          cases hs : signOf c with
          | none => rw [hs] at h; cases h
          | some x =>
            rw [hs] at h
            dsimp only at h
            obtain ⟨q, hq, rfl⟩ := Option.map_eq_some_iff.1 h
            have := ih r' q (by simp at hn; omega) hq
            simp; omega
      · split at h
        · cases h
        · obtain ⟨q, hq, rfl⟩ := Option.map_eq_some_iff.1 h
          have := ih r q (by simp at hn; omega) hq
          simp; omega
theorem unquote_length (l m : List UInt8) (h : unquote l = some m) : m.length ≤ l.length := by
  unfold unquote at h
  split at h
  · cases h
  · have := unB_length _ _ _ (Nat.le_refl _) h
    simp at this; omega
end Go.Proofs.YtbdgheiilmmcnaaDoor.R
