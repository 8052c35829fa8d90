/- Plain: texts that are all characters; cutting them, and putting a character behind them. -/
import Derived.Test.YtbdgheiilmmcnaaDoorBad
import Derived.Test.YtbdgheiilmmcnaaDoorNext
import Derived.Lib.RuneBytes
namespace Go.Proofs.YtbdgheiilmmcnaaDoor.R
open Go

def M (b : Nat) : Prop := 128 ≤ b ∧ b < 192
def Good (c n b0 b1 b2 b3 : Nat) : Prop :=
  (n = 1 ∧ b0 < 128 ∧ c = b0) ∨
  (n = 2 ∧ 192 ≤ b0 ∧ b0 < 224 ∧ M b1 ∧ c = (b0 - 192) * 64 + (b1 - 128) ∧ 128 ≤ c) ∨
  (n = 3 ∧ 224 ≤ b0 ∧ b0 < 240 ∧ M b1 ∧ M b2 ∧ c = ((b0 - 224) * 64 + (b1 - 128)) * 64 + (b2 - 128) ∧ 2048 ≤ c ∧ ¬ (55296 ≤ c ∧ c < 57344)) ∨
  (n = 4 ∧ 240 ≤ b0 ∧ b0 < 248 ∧ M b1 ∧ M b2 ∧ M b3 ∧ c = (((b0 - 240) * 64 + (b1 - 128)) * 64 + (b2 - 128)) * 64 + (b3 - 128) ∧ 65536 ≤ c ∧ c ≤ 1114111)

theorem good_dec {sz pos c n b0 b1 b2 b3 : Nat} (h : Good c n b0 b1 b2 b3) (hp : pos + n ≤ sz) : dec sz pos b0 b1 b2 b3 = (c, n) := by
  rcases h with ⟨rfl, h0, rfl⟩ | ⟨rfl, h0, h0', h1, hc, hl⟩ | ⟨rfl, h0, h0', h1, h2, hc, hl, hs⟩ | ⟨rfl, h0, h0', h1, h2, h3, hc, hl, hs⟩
  · exact dec_ascii h0
  · rw [dec_two h0 h0' (by omega) h1, ← hc, if_neg (by omega)]
  · rw [dec_three h0 h0' (by omega) h1 h2, ← hc, if_neg (by omega)]
  · rw [dec_four h0 h0' (by omega) h1 h2 h3, ← hc, if_neg (by omega)]
theorem good_pos {c n b0 b1 b2 b3 : Nat} (h : Good c n b0 b1 b2 b3) : 1 ≤ n ∧ n ≤ 4 ∧ ¬ (c = 65533 ∧ n = 1) := by
  rcases h with ⟨rfl, h0, rfl⟩ | ⟨rfl, h⟩ | ⟨rfl, h⟩ | ⟨rfl, h⟩ <;> omega
theorem dec_good {sz pos c n b0 b1 b2 b3 : Nat} (hb : b0 < 256) (hp : pos < sz) (h : dec sz pos b0 b1 b2 b3 = (c, n)) (hok : ¬ (c = 65533 ∧ n = 1)) : Good c n b0 b1 b2 b3 ∧ pos + n ≤ sz := by
  have no : dec sz pos b0 b1 b2 b3 ≠ (65533, 1) := by
    intro e
    rw [e] at h
    simp only [Prod.mk.injEq] at h
    exact hok ⟨h.1.symm, h.2.symm⟩
  by_cases h0 : b0 < 128
  · rw [dec_ascii h0] at h
    simp only [Prod.mk.injEq] at h
    exact ⟨Or.inl ⟨h.2.symm, h0, h.1.symm⟩, by omega⟩
  by_cases h1 : b0 < 192 ∨ 248 ≤ b0
  · exact absurd (dec_lead (by omega) h1 hb) no
  have m1 : M b1 := by
    by_cases a : M b1
    · exact a
    · exact absurd (dec_more1 (by omega) a) no
  have p1 : pos + 1 < sz := by
    by_cases a : sz ≤ pos + 1
    · exact absurd (dec_short2 (by omega) a) no
    · omega
  by_cases h2 : b0 < 224
  · have e := dec_two (b2 := b2) (b3 := b3) (by omega) h2 p1 m1
    by_cases a : (b0 - 192) * 64 + (b1 - 128) < 128
    · rw [if_pos a] at e; exact absurd e no
    · rw [if_neg a, h] at e
      simp only [Prod.mk.injEq] at e
      exact ⟨Or.inr (Or.inl ⟨e.2, by omega, h2, m1, e.1, by omega⟩), by omega⟩
  have m2 : M b2 := by
    by_cases a : M b2
    · exact a
    · exact absurd (dec_more2 (by omega) a) no
  have p2 : pos + 2 < sz := by
    by_cases a : sz ≤ pos + 2
    · exact absurd (dec_short3 (by omega) a) no
    · omega
  by_cases h3 : b0 < 240
  · have e := dec_three (b3 := b3) (by omega) h3 p2 m1 m2
    by_cases a : ((b0 - 224) * 64 + (b1 - 128)) * 64 + (b2 - 128) < 2048 ∨ 55296 ≤ ((b0 - 224) * 64 + (b1 - 128)) * 64 + (b2 - 128) ∧ ((b0 - 224) * 64 + (b1 - 128)) * 64 + (b2 - 128) < 57344
    · rw [if_pos a] at e; exact absurd e no
    · rw [if_neg a, h] at e
      simp only [Prod.mk.injEq] at e
      exact ⟨Or.inr (Or.inr (Or.inl ⟨e.2, by omega, h3, m1, m2, e.1, by omega, by omega⟩)), by omega⟩
  have m3 : M b3 := by
    by_cases a : M b3
    · exact a
    · exact absurd (dec_more3 (by omega) a) no
  have p3 : pos + 3 < sz := by
    by_cases a : sz ≤ pos + 3
    · exact absurd (dec_short4 (by omega) a) no
    · omega
  have e := dec_four (by omega) (by omega : b0 < 248) p3 m1 m2 m3
  by_cases a : (((b0 - 240) * 64 + (b1 - 128)) * 64 + (b2 - 128)) * 64 + (b3 - 128) < 65536 ∨ 1114111 < (((b0 - 240) * 64 + (b1 - 128)) * 64 + (b2 - 128)) * 64 + (b3 - 128)
  · rw [if_pos a] at e; exact absurd e no
  · rw [if_neg a, h] at e
    simp only [Prod.mk.injEq] at e
    exact ⟨Or.inr (Or.inr (Or.inr ⟨e.2, by omega, by omega, m1, m2, m3, e.1, by omega, by omega⟩)), by omega⟩
/-- only the first n bytes count -/
theorem good_congr {c n b0 b1 b2 b3 d0 d1 d2 d3 : Nat} (h : Good c n b0 b1 b2 b3) (e0 : d0 = b0) (e1 : 1 < n → d1 = b1) (e2 : 2 < n → d2 = b2) (e3 : 3 < n → d3 = b3) : Good c n d0 d1 d2 d3 := by
  subst e0
  rcases h with ⟨rfl, h⟩ | ⟨rfl, h⟩ | ⟨rfl, h⟩ | ⟨rfl, h⟩
  · exact Or.inl ⟨rfl, h⟩
  · rw [← e1 (by omega)] at h; exact Or.inr (Or.inl ⟨rfl, h⟩)
  · rw [← e1 (by omega), ← e2 (by omega)] at h; exact Or.inr (Or.inr (Or.inl ⟨rfl, h⟩))
  · rw [← e1 (by omega), ← e2 (by omega), ← e3 (by omega)] at h; exact Or.inr (Or.inr (Or.inr ⟨rfl, h⟩))
/-- what stands inside a character is one of 80 to bf -/
theorem good_inner {c n b0 b1 b2 b3 : Nat} (h : Good c n b0 b1 b2 b3) : (1 < n → M b1) ∧ (2 < n → M b2) ∧ (3 < n → M b3) := by
  rcases h with ⟨rfl, h⟩ | ⟨rfl, _, _, h1, h⟩ | ⟨rfl, _, _, h1, h2, h⟩ | ⟨rfl, _, _, h1, h2, h3, h⟩
  · exact ⟨fun _ => by omega, fun _ => by omega, fun _ => by omega⟩
  · exact ⟨fun _ => h1, fun _ => by omega, fun _ => by omega⟩
  · exact ⟨fun _ => h1, fun _ => h2, fun _ => by omega⟩
  · exact ⟨fun _ => h1, fun _ => h2, fun _ => h3⟩

def GoodAt (s : ByteArray) (pos c n : Nat) : Prop := Good c n (byteAt s pos) (byteAt s (pos + 1)) (byteAt s (pos + 2)) (byteAt s (pos + 3)) ∧ pos + n ≤ s.size
/-- from a place to the end: so many characters, and nothing else -/
inductive Steps (s : ByteArray) : Nat → Nat → Prop
  | done {pos : Nat} (h : pos = s.size) : Steps s pos 0
  | step {pos c n k : Nat} (h : GoodAt s pos c n) (r : Steps s (pos + n) k) : Steps s pos (k + 1)

theorem goodAt_decode {s : ByteArray} {pos c n : Nat} (h : GoodAt s pos c n) : Utf8.decode s pos = (c, n) := by
  rw [decode_dec]; exact good_dec h.1 h.2
theorem decode_goodAt {s : ByteArray} {pos : Nat} (hp : pos < s.size) (hok : ¬ ((Utf8.decode s pos).1 = 65533 ∧ (Utf8.decode s pos).2 = 1)) : GoodAt s pos (Utf8.decode s pos).1 (Utf8.decode s pos).2 := by
  have := dec_good (byteAt_lt s pos) hp (decode_dec s pos).symm hok
  exact this

theorem steps_of_bad (s : ByteArray) : ∀ (f pos : Nat), pos ≤ s.size → s.size ≤ pos + f → badFrom s f pos = -1 → ∃ k, Steps s pos k := by
  intro f
  induction f with
  | zero => intro pos h1 h2 _; exact ⟨0, .done (by omega)⟩
  | succ f ih =>
    intro pos h1 h2 hb
    by_cases hp : pos < s.size
    · rw [badFrom, if_pos hp] at hb
      split at hb
      · omega
      · rename_i hno
        have hg := decode_goodAt hp hno
        have hn := good_pos hg.1
        obtain ⟨k, hk⟩ := ih _ hg.2 (by omega) hb
        exact ⟨k + 1, .step hg hk⟩
    · exact ⟨0, .done (by omega)⟩
theorem steps_run {s : ByteArray} {pos k : Nat} (h : Steps s pos k) : ∀ f, s.size ≤ pos + f → badFrom s f pos = -1 ∧ Lib.runeCountFrom s f pos = k := by
  induction h with
  | done h =>
    intro f _
    exact ⟨badFrom_end (by omega), Lib.runeCountFrom_end s f _ (by omega)⟩
  | @step pos c n k hg _ ih =>
    intro f hf
    have hd := goodAt_decode hg
    have hn := good_pos hg.1
    have hl := hg.2
    obtain ⟨g, rfl⟩ : ∃ g, f = g + 1 := ⟨f - 1, by omega⟩
    obtain ⟨i1, i2⟩ := ih g (by omega)
    refine ⟨?_, ?_⟩
    · rw [badFrom, if_pos (by omega), hd]
      simp only
      rw [if_neg hn.2.2, i1]
    · rw [Lib.runeCountFrom, if_pos (by omega), hd]
      simp only
      rw [i2]; omega
theorem steps_all {s : ByteArray} (h : bad s = -1) : ∃ k, Steps s 0 k := steps_of_bad s s.size 0 (by omega) (by omega) h
theorem steps_bad {s : ByteArray} {k : Nat} (h : Steps s 0 k) : bad s = -1 := (steps_run h s.size (by omega)).1
theorem steps_count {s : ByteArray} {k : Nat} (h : Steps s 0 k) : Lib.runeCount s = k := (steps_run h s.size (by omega)).2
theorem bad_ge (s : ByteArray) : ∀ f pos, badFrom s f pos = -1 ∨ 0 ≤ badFrom s f pos := by
  intro f
  induction f with
  | zero => intro pos; exact Or.inl rfl
  | succ f ih =>
    intro pos
    rw [badFrom]
    split
    · split
      · right; omega
      · exact ih _
    · exact Or.inl rfl

theorem byteAt_list (s : ByteArray) (i : Nat) : byteAt s i = (s.data.toList.getD i 0).toNat := by
  unfold byteAt
  obtain ⟨⟨l⟩⟩ := s
  show ((⟨l⟩ : Array UInt8)[i]!).toNat = _
  simp [getElem!_def, List.getD_eq_getElem?_getD]
  cases l[i]? <;> rfl
theorem byteAt_from (s : ByteArray) (a j : Nat) : byteAt (s.extract a s.size) j = byteAt s (a + j) := by
  rw [byteAt_list, byteAt_list, ba_from]
  simp [List.getD_eq_getElem?_getD, List.getElem?_drop]
theorem byteAt_upto (s : ByteArray) (a j : Nat) (h : j < a) : byteAt (s.extract 0 a) j = byteAt s j := by
  rw [byteAt_list, byteAt_list, Lib.extract_data]
  simp [List.getD_eq_getElem?_getD, h]
theorem byteAt_app_left (s e : ByteArray) (j : Nat) (h : j < s.size) : byteAt (s ++ e) j = byteAt s j := by
  rw [byteAt_list, byteAt_list, app_list]
  rw [List.getD_eq_getElem?_getD, List.getD_eq_getElem?_getD, List.getElem?_append_left (by rw [ba_len]; exact h)]
theorem byteAt_app_right (s e : ByteArray) (j : Nat) : byteAt (s ++ e) (s.size + j) = byteAt e j := by
  rw [byteAt_list, byteAt_list, app_list]
  rw [List.getD_eq_getElem?_getD, List.getD_eq_getElem?_getD, List.getElem?_append_right (by rw [ba_len]; omega), ba_len]
  simp

theorem steps_shift {s : ByteArray} {p k : Nat} (h : Steps s p k) : ∀ (a j : Nat), p = a + j → a ≤ s.size → Steps (s.extract a s.size) j k := by
  induction h with
  | done h => intro a j e ha; exact .done (by simp; omega)
  | @step pos c n k hg _ ih =>
    intro a j e ha
    subst e
    have hg' : GoodAt (s.extract a s.size) j c n := by
      refine ⟨?_, ?_⟩
      · rw [byteAt_from, byteAt_from, byteAt_from, byteAt_from, ← Nat.add_assoc, ← Nat.add_assoc, ← Nat.add_assoc]
        exact hg.1
      · have := hg.2
        simp; omega
    exact .step hg' (ih a (j + n) (by omega) ha)
theorem steps_cut {s : ByteArray} {pos k : Nat} (h : Steps s pos k) : ∀ a, pos ≤ a → a ≤ s.size → (a = s.size ∨ ¬ M (byteAt s a)) → ∃ k1 k2, k = k1 + k2 ∧ Steps (s.extract 0 a) pos k1 ∧ Steps (s.extract a s.size) 0 k2 := by
  induction h with
  | done h =>
    intro a h1 h2 _
    exact ⟨0, 0, rfl, .done (by simp; omega), .done (by simp; omega)⟩
  | @step pos c n k hg hr ih =>
    intro a h1 h2 h3
    by_cases hp : pos = a
    · subst hp
      exact ⟨0, k + 1, by omega, .done (by simp; omega), steps_shift (.step hg hr) pos 0 rfl h2⟩
    · have hn := good_pos hg.1
      have hi := good_inner hg.1
      have hl := hg.2
      have hle : pos + n ≤ a := by
        by_cases c1 : pos + n ≤ a
        · exact c1
        · exfalso
          rcases h3 with h3 | h3
          · omega
          · have : a = pos + 1 ∨ a = pos + 2 ∨ a = pos + 3 := by omega
            rcases this with e | e | e
            · subst e; exact h3 (hi.1 (by omega))
            · subst e; exact h3 (hi.2.1 (by omega))
            · subst e; exact h3 (hi.2.2 (by omega))
      obtain ⟨k1, k2, e, s1, s2⟩ := ih a hle h2 h3
      refine ⟨k1 + 1, k2, by omega, .step (c := c) (n := n) ⟨?_, ?_⟩ s1, s2⟩
      · exact good_congr hg.1 (byteAt_upto s a _ (by omega)) (fun _ => byteAt_upto s a _ (by omega)) (fun _ => byteAt_upto s a _ (by omega)) (fun _ => byteAt_upto s a _ (by omega))
      · simp; omega
theorem steps_app {s e : ByteArray} {c : Nat} (he : GoodAt e 0 c e.size) {pos k : Nat} (h : Steps s pos k) : Steps (s ++ e) pos (k + 1) := by
  induction h with
  | done h =>
    subst h
    refine .step (c := c) (n := e.size) ⟨?_, by simp⟩ (.done (by simp))
    have b0 := byteAt_app_right s e 0
    rw [Nat.add_zero] at b0
    rw [b0, byteAt_app_right, byteAt_app_right, byteAt_app_right]
    simpa using he.1
  | @step pos c n k hg _ ih =>
    have hl := hg.2
    refine .step (c := c) (n := n) ⟨?_, by simp; omega⟩ ih
    exact good_congr hg.1 (byteAt_app_left s e _ (by have := good_pos hg.1; omega)) (fun _ => byteAt_app_left s e _ (by omega)) (fun _ => byteAt_app_left s e _ (by omega)) (fun _ => byteAt_app_left s e _ (by omega))

def encB (r : Int) : ByteArray := ⟨(Lib.encodeRune r).toArray⟩
theorem encB_size (r : Int) : (encB r).size = (Lib.encodeRuneZ r).length := by
  show (Lib.encodeRune r).toArray.size = _
  simp [Lib.encodeRune]
theorem byteAt_enc (r : Int) (i : Nat) : byteAt (encB r) i = ((Lib.encodeRuneZ r).getD i 0).toNat := by
  rw [byteAt_list]
  have e : (encB r).data.toList = (Lib.encodeRuneZ r).map fun x => x.toNat.toUInt8 := by
    show (Lib.encodeRune r).toArray.toList = _
    simp [Lib.encodeRune]
  rw [e, List.getD_eq_getElem?_getD, List.getD_eq_getElem?_getD, List.getElem?_map]
  cases hx : (Lib.encodeRuneZ r)[i]? with
  | none => rfl
  | some x =>
    have hb := Lib.encodeRuneZ_byte r x (List.mem_of_getElem? hx)
    simp
    omega
theorem enc_good (r : Int) : ∃ c, GoodAt (encB r) 0 c (encB r).size := by
  have h : ∀ c : Nat, Good c (encB r).size (byteAt (encB r) 0) (byteAt (encB r) (0 + 1)) (byteAt (encB r) (0 + 2)) (byteAt (encB r) (0 + 3)) → ∃ c, GoodAt (encB r) 0 c (encB r).size := fun c hc => ⟨c, hc, by omega⟩
  rw [byteAt_enc, byteAt_enc, byteAt_enc, byteAt_enc, encB_size] at h
  rw [encB_size]
  by_cases h1 : 0 ≤ r ∧ r ≤ 127
  · rw [Lib.encodeRuneZ_one h1.1 h1.2] at h ⊢
    exact h r.toNat (Or.inl ⟨rfl, by show r.toNat < 128; omega, rfl⟩)
  by_cases h2 : 128 ≤ r ∧ r ≤ 2047
  · rw [Lib.encodeRuneZ_two h2.1 h2.2] at h ⊢
    refine h r.toNat (Or.inr (Or.inl ⟨rfl, ?_⟩))
    show 192 ≤ (192 + r / 64).toNat ∧ (192 + r / 64).toNat < 224 ∧ M (128 + r % 64).toNat ∧ r.toNat = ((192 + r / 64).toNat - 192) * 64 + ((128 + r % 64).toNat - 128) ∧ 128 ≤ r.toNat
    unfold M
    omega
  by_cases h3 : (2048 ≤ r ∧ r < 55296) ∨ (57343 < r ∧ r ≤ 65535)
  · rw [Lib.encodeRuneZ_three h3] at h ⊢
    refine h r.toNat (Or.inr (Or.inr (Or.inl ⟨rfl, ?_⟩)))
    show 224 ≤ (224 + r / 4096).toNat ∧ (224 + r / 4096).toNat < 240 ∧ M (128 + r / 64 % 64).toNat ∧ M (128 + r % 64).toNat ∧ r.toNat = (((224 + r / 4096).toNat - 224) * 64 + ((128 + r / 64 % 64).toNat - 128)) * 64 + ((128 + r % 64).toNat - 128) ∧ 2048 ≤ r.toNat ∧ ¬ (55296 ≤ r.toNat ∧ r.toNat < 57344)
    unfold M
    omega
  by_cases h4 : 65536 ≤ r ∧ r ≤ 1114111
  · rw [Lib.encodeRuneZ_four h4.1 h4.2] at h ⊢
    refine h r.toNat (Or.inr (Or.inr (Or.inr ⟨rfl, ?_⟩)))
    show 240 ≤ (240 + r / 262144).toNat ∧ (240 + r / 262144).toNat < 248 ∧ M (128 + r / 4096 % 64).toNat ∧ M (128 + r / 64 % 64).toNat ∧ M (128 + r % 64).toNat ∧ r.toNat = ((((240 + r / 262144).toNat - 240) * 64 + ((128 + r / 4096 % 64).toNat - 128)) * 64 + ((128 + r / 64 % 64).toNat - 128)) * 64 + ((128 + r % 64).toNat - 128) ∧ 65536 ≤ r.toNat ∧ r.toNat ≤ 1114111
    unfold M
    omega
  · rw [Lib.encodeRuneZ_bad (by omega)] at h ⊢
    refine h 65533 (Or.inr (Or.inr (Or.inl ⟨rfl, ?_⟩)))
    show 224 ≤ 239 ∧ 239 < 240 ∧ M 191 ∧ M 189 ∧ 65533 = ((239 - 224) * 64 + (191 - 128)) * 64 + (189 - 128) ∧ 2048 ≤ 65533 ∧ ¬ (55296 ≤ 65533 ∧ 65533 < 57344)
    unfold M
    omega

/-- a character put behind a text that is all characters -/
theorem put_steps {s : ByteArray} {k : Nat} (h : Steps s 0 k) (r : Int) : Steps (s ++ encB r) 0 (k + 1) := by
  obtain ⟨c, hc⟩ := enc_good r
  exact steps_app hc h
def putAll (s : ByteArray) : List Int → ByteArray
  | [] => s
  | r :: l => putAll (s ++ encB r) l
theorem putAll_snoc (s : ByteArray) (l : List Int) (r : Int) : putAll s (l ++ [r]) = putAll s l ++ encB r := by
  induction l generalizing s with
  | nil => rfl
  | cons x l ih => exact ih _
theorem putAll_steps {s : ByteArray} {k : Nat} (h : Steps s 0 k) (l : List Int) : Steps (putAll s l) 0 (k + l.length) := by
  induction l generalizing s k with
  | nil => exact h
  | cons x l ih =>
    have := ih (put_steps h x)
    rw [show k + (x :: l).length = k + 1 + l.length by simp; omega]
    exact this
theorem steps_nil : Steps ⟨#[]⟩ 0 0 := .done rfl
theorem putAll_size (s : ByteArray) (l : List Int) : (putAll s l).size ≤ s.size + 4 * l.length := by
  induction l generalizing s with
  | nil => simp [putAll]
  | cons x l ih =>
    have h := ih (s ++ encB x)
    have := encB_size x
    have := Lib.encodeRuneZ_length x
    rw [ByteArray.size_append] at h
    show (putAll (s ++ encB x) l).size ≤ _
    simp only [List.length_cons]
    omega
end Go.Proofs.YtbdgheiilmmcnaaDoor.R
