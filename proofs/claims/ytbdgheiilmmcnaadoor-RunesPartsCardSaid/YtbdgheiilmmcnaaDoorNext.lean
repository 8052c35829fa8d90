/- Plain: the document's reading of a character, and that it is the model's own decoding. -/
import Derived.Lib.RuneCount
namespace Go.Proofs.YtbdgheiilmmcnaaDoor.R
open Go

def byteAt (s : ByteArray) (i : Nat) : Nat := (s.get! i).toNat
theorem byteAt_eq (s : ByteArray) (i : Nat) (h : i < s.size) : byteAt s i = (s[i]'h).toNat := by
  unfold byteAt
  rw [ByteArray.get!]
  obtain ⟨a⟩ := s
  simp only [ByteArray.size] at h
  show (a[i]!).toNat = (a[i]'h).toNat
  rw [getElem!_pos a i h]
theorem byteAt_lt (s : ByteArray) (i : Nat) : byteAt s i < 256 := UInt8.toNat_lt _

/-- how many bytes, what the first byte gives, the least character -/
def kindOf (b : Nat) : Nat × Nat × Nat :=
  if 192 ≤ b ∧ b < 224 then (2, b - 192, 128) else if 224 ≤ b ∧ b < 240 then (3, b - 224, 2048) else if 240 ≤ b ∧ b < 248 then (4, b - 240, 65536) else (0, 0, 0)
/-- the sum behind i bytes -/
def sumUp (s : ByteArray) (pos f0 : Nat) : Nat → Nat
  | 0 => f0
  | 1 => f0
  | i + 2 => sumUp s pos f0 (i + 1) * 64 + (byteAt s (pos + (i + 1)) - 128)
def more (b : Nat) : Bool := decide (128 ≤ b) && decide (b < 192)
def okAt (s : ByteArray) (pos : Nat) : Bool := !(decide ((Utf8.decode s pos).1 = 65533) && decide ((Utf8.decode s pos).2 = 1))
theorem okAt_bad {s : ByteArray} {pos : Nat} (h : Utf8.decode s pos = (65533, 1)) : okAt s pos = false := by unfold okAt; rw [h]; rfl
theorem okAt_good {s : ByteArray} {pos c n : Nat} (h : Utf8.decode s pos = (c, n)) (hn : n ≠ 1 ∨ c ≠ 65533) : okAt s pos = true := by
  unfold okAt; rw [h]
  rcases hn with h | h <;> simp [h]

/-- how the model decodes, as a function of numbers -/
def dec (sz pos b0 b1 b2 b3 : Nat) : Nat × Nat :=
  if b0 < 0x80 then (b0, 1)
  else if b0 / 32 == 6 && (decide (pos + 1 < sz) && b1 / 64 == 2) then
    if (b0 % 32) * 64 + b1 % 64 ≥ 0x80 then ((b0 % 32) * 64 + b1 % 64, 2) else (65533, 1)
  else if b0 / 16 == 14 && (decide (pos + 1 < sz) && b1 / 64 == 2) && (decide (pos + 2 < sz) && b2 / 64 == 2) then
    if decide ((b0 % 16) * 4096 + (b1 % 64) * 64 + b2 % 64 ≥ 0x800) && Utf8.valid ((b0 % 16) * 4096 + (b1 % 64) * 64 + b2 % 64 : Nat) then ((b0 % 16) * 4096 + (b1 % 64) * 64 + b2 % 64, 3) else (65533, 1)
  else if b0 / 8 == 30 && (decide (pos + 1 < sz) && b1 / 64 == 2) && (decide (pos + 2 < sz) && b2 / 64 == 2) && (decide (pos + 3 < sz) && b3 / 64 == 2) then
    if decide ((b0 % 8) * 262144 + (b1 % 64) * 4096 + (b2 % 64) * 64 + b3 % 64 ≥ 0x10000) && Utf8.valid ((b0 % 8) * 262144 + (b1 % 64) * 4096 + (b2 % 64) * 64 + b3 % 64 : Nat) then ((b0 % 8) * 262144 + (b1 % 64) * 4096 + (b2 % 64) * 64 + b3 % 64, 4) else (65533, 1)
  else (65533, 1)
theorem decode_dec (s : ByteArray) (pos : Nat) : Utf8.decode s pos = dec s.size pos (byteAt s pos) (byteAt s (pos + 1)) (byteAt s (pos + 2)) (byteAt s (pos + 3)) := rfl
theorem more_ge {b : Nat} (h : more b = true) : 128 ≤ b ∧ b < 192 := by simpa [more] using h
theorem more_no {b : Nat} (h : more b = false) : ¬ (128 ≤ b ∧ b < 192) := by simpa [more] using h
theorem valid_iff (n : Nat) : Utf8.valid (n : Int) = (decide (n < 55296) || (decide (57344 ≤ n) && decide (n ≤ 1114111))) := by
  unfold Utf8.valid
  rw [Bool.eq_iff_iff]
  simp
  omega

section
variable {sz pos b0 b1 b2 b3 : Nat}
theorem dec_ascii (h : b0 < 128) : dec sz pos b0 b1 b2 b3 = (b0, 1) := by unfold dec; rw [if_pos h]
theorem dec_lead (h : 128 ≤ b0) (h' : b0 < 192 ∨ 248 ≤ b0) (hb : b0 < 256) : dec sz pos b0 b1 b2 b3 = (65533, 1) := by
  unfold dec
  repeat' split
  all_goals first | rfl | (exfalso; omega) | (exfalso; simp only [Bool.and_eq_true, decide_eq_true_eq, beq_iff_eq] at *; omega)
theorem dec_short2 (h : 192 ≤ b0) (hp : sz ≤ pos + 1) : dec sz pos b0 b1 b2 b3 = (65533, 1) := by
  unfold dec
  repeat' split
  all_goals first | rfl | (exfalso; omega) | (exfalso; simp only [Bool.and_eq_true, decide_eq_true_eq, beq_iff_eq] at *; omega)
theorem dec_short3 (h : 224 ≤ b0) (hp : sz ≤ pos + 2) : dec sz pos b0 b1 b2 b3 = (65533, 1) := by
  unfold dec
  repeat' split
  all_goals first | rfl | (exfalso; omega) | (exfalso; simp only [Bool.and_eq_true, decide_eq_true_eq, beq_iff_eq] at *; omega)
theorem dec_short4 (h : 240 ≤ b0) (hp : sz ≤ pos + 3) : dec sz pos b0 b1 b2 b3 = (65533, 1) := by
  unfold dec
  repeat' split
  all_goals first | rfl | (exfalso; omega) | (exfalso; simp only [Bool.and_eq_true, decide_eq_true_eq, beq_iff_eq] at *; omega)
theorem dec_more1 (h : 128 ≤ b0) (hp : ¬ (128 ≤ b1 ∧ b1 < 192)) : dec sz pos b0 b1 b2 b3 = (65533, 1) := by
  unfold dec
  repeat' split
  all_goals first | rfl | (exfalso; omega) | (exfalso; simp only [Bool.and_eq_true, decide_eq_true_eq, beq_iff_eq] at *; omega)
theorem dec_more2 (h : 224 ≤ b0) (hp : ¬ (128 ≤ b2 ∧ b2 < 192)) : dec sz pos b0 b1 b2 b3 = (65533, 1) := by
  unfold dec
  repeat' split
  all_goals first | rfl | (exfalso; omega) | (exfalso; simp only [Bool.and_eq_true, decide_eq_true_eq, beq_iff_eq] at *; omega)
theorem dec_more3 (h : 240 ≤ b0) (hp : ¬ (128 ≤ b3 ∧ b3 < 192)) : dec sz pos b0 b1 b2 b3 = (65533, 1) := by
  unfold dec
  repeat' split
  all_goals first | rfl | (exfalso; omega) | (exfalso; simp only [Bool.and_eq_true, decide_eq_true_eq, beq_iff_eq] at *; omega)
theorem dec_two (h : 192 ≤ b0) (h' : b0 < 224) (hp : pos + 1 < sz) (h1 : 128 ≤ b1 ∧ b1 < 192) :
    dec sz pos b0 b1 b2 b3 = if (b0 - 192) * 64 + (b1 - 128) < 128 then (65533, 1) else ((b0 - 192) * 64 + (b1 - 128), 2) := by
  have e : b0 % 32 * 64 + b1 % 64 = (b0 - 192) * 64 + (b1 - 128) := by omega
  unfold dec
  rw [if_neg (by omega), if_pos (by simp only [Bool.and_eq_true, decide_eq_true_eq, beq_iff_eq]; omega), e]
  by_cases a : (b0 - 192) * 64 + (b1 - 128) < 128
  · rw [if_neg (by omega), if_pos a]
  · rw [if_pos (by omega), if_neg a]
theorem dec_three (h : 224 ≤ b0) (h' : b0 < 240) (hp : pos + 2 < sz) (h1 : 128 ≤ b1 ∧ b1 < 192) (h2 : 128 ≤ b2 ∧ b2 < 192) :
    dec sz pos b0 b1 b2 b3 = if ((b0 - 224) * 64 + (b1 - 128)) * 64 + (b2 - 128) < 2048 ∨ 55296 ≤ ((b0 - 224) * 64 + (b1 - 128)) * 64 + (b2 - 128) ∧ ((b0 - 224) * 64 + (b1 - 128)) * 64 + (b2 - 128) < 57344 then (65533, 1) else (((b0 - 224) * 64 + (b1 - 128)) * 64 + (b2 - 128), 3) := by
  have e : b0 % 16 * 4096 + b1 % 64 * 64 + b2 % 64 = ((b0 - 224) * 64 + (b1 - 128)) * 64 + (b2 - 128) := by omega
  have eb : ((b0 - 224) * 64 + (b1 - 128)) * 64 + (b2 - 128) < 65536 := by omega
  unfold dec
  rw [if_neg (by omega), if_neg (by simp only [Bool.and_eq_true, decide_eq_true_eq, beq_iff_eq]; omega), if_pos (by simp only [Bool.and_eq_true, decide_eq_true_eq, beq_iff_eq]; omega), e, valid_iff]
  generalize ((b0 - 224) * 64 + (b1 - 128)) * 64 + (b2 - 128) = c at eb
  by_cases a : c < 2048 ∨ 55296 ≤ c ∧ c < 57344
  · rw [if_neg (by simp only [Bool.and_eq_true, Bool.or_eq_true, decide_eq_true_eq]; omega), if_pos a]
  · rw [if_pos (by simp only [Bool.and_eq_true, Bool.or_eq_true, decide_eq_true_eq]; omega), if_neg a]
theorem dec_four (h : 240 ≤ b0) (h' : b0 < 248) (hp : pos + 3 < sz) (h1 : 128 ≤ b1 ∧ b1 < 192) (h2 : 128 ≤ b2 ∧ b2 < 192) (h3 : 128 ≤ b3 ∧ b3 < 192) :
    dec sz pos b0 b1 b2 b3 = if (((b0 - 240) * 64 + (b1 - 128)) * 64 + (b2 - 128)) * 64 + (b3 - 128) < 65536 ∨ 1114111 < (((b0 - 240) * 64 + (b1 - 128)) * 64 + (b2 - 128)) * 64 + (b3 - 128) then (65533, 1) else ((((b0 - 240) * 64 + (b1 - 128)) * 64 + (b2 - 128)) * 64 + (b3 - 128), 4) := by
  have e : b0 % 8 * 262144 + b1 % 64 * 4096 + b2 % 64 * 64 + b3 % 64 = (((b0 - 240) * 64 + (b1 - 128)) * 64 + (b2 - 128)) * 64 + (b3 - 128) := by omega
  unfold dec
  rw [if_neg (by omega), if_neg (by simp only [Bool.and_eq_true, decide_eq_true_eq, beq_iff_eq]; omega), if_neg (by simp only [Bool.and_eq_true, decide_eq_true_eq, beq_iff_eq]; omega), if_pos (by simp only [Bool.and_eq_true, decide_eq_true_eq, beq_iff_eq]; omega), e, valid_iff]
  generalize (((b0 - 240) * 64 + (b1 - 128)) * 64 + (b2 - 128)) * 64 + (b3 - 128) = c
  by_cases a : c < 65536 ∨ 1114111 < c
  · rw [if_neg (by simp only [Bool.and_eq_true, Bool.or_eq_true, decide_eq_true_eq]; omega), if_pos a]
  · rw [if_pos (by simp only [Bool.and_eq_true, Bool.or_eq_true, decide_eq_true_eq]; omega), if_neg a]
end
end Go.Proofs.YtbdgheiilmmcnaaDoor.R
