/- The law's rule as a tree, and its walk. -/
import Derived.Test.YtelddnalpkhclaaRel
import Derived.Test.YtelddnalpkhclaaLeaf
import Derived.RegionTactic
import Derived.WalkSpells
import Derived.Lib.SlBytesRow
import Derived.Deep.AppendLies
namespace Go.Proofs.Ytelddnalpkhclaa
open Go.RowKit Go.Maps G

def loopT : List UInt8 → K → Tree
  | [], out => .ret (.ok out)
  | b :: bs, out => if 200 ≤ out.size then .ret (.ok out) else
    if 97 ≤ b ∧ b ≤ 122 then .ask ⟨#[b]⟩ (fun s => loopT bs (out ++ s))
    else if b = 33 then .ret (.err 3)
    else if b = 63 then (if out = ⟨#[]⟩ then .ret (.ok ⟨#[]⟩) else loopT bs out)
    else if b = 37 then loopT bs (if 1 < out.size then out.extract 0 1 else out)
    else loopT bs (out ++ ⟨#[b]⟩)
def rt (key : K) : Tree := match key.data.toList with
  | [b] => if 97 ≤ b ∧ b ≤ 122 then .ask ⟨#[b - 32]⟩ (fun text => loopT text.data.toList ⟨#[]⟩) else .ret (.err 3)
  | _ => .ret (.err 3)

def fptr (b : Nat) : Value := .pointer (some ⟨b, 0, none⟩)
def RulePost (key : K) (J : List (K × K) → World → Prop) (E : List (K × K) → K → Int → World → Prop) (e : Ending) (w' : World) : Prop :=
  (∃ s vs, e = .returned (.tuple #[.string s, .int .i64 0]) ∧ goT (rt key) vs = some (.ret (.ok s)) ∧ J vs w') ∨
  (∃ vs, e = .returned (.tuple #[.string ⟨#[]⟩, .int .i64 3]) ∧ goT (rt key) vs = some (.ret (.err 3)) ∧ J vs w') ∨
  (∃ vs k c er, e = .returned (.tuple #[.string ⟨#[]⟩, .int .i64 er]) ∧ (er = 3 ∨ er = 4) ∧ goT (rt key) vs = some (.ask k c) ∧ E vs k er w')

theorem conv1 (w : World) (c : UInt8) (x : Int) (hx : x = (c.toNat : Int)) : (convert 42 9 (.slice (some ⟨w.heap.size, 0, none⟩) 1 1)).run Try.prog (w.alloc (.cells #[.int .u8 x] 5)) = .ok (.string ⟨#[c]⟩) (w.alloc (.cells #[.int .u8 x] 5)) := by
  subst hx
  refine Lib.run_convert_whole (P := Try.prog) _ 42 5 9 Try.underlying42 Try.underlying5 Try.underlying9 w.heap.size 0 ⟨#[c]⟩ ?_ 1
  intro i hi
  have h0 : i = 0 := by
    have : i < 1 := hi
    omega
  subst h0
  exact cell_one_new w (.int .u8 (c.toNat : Int)) 5 0 _ rfl
theorem sub32 {c : UInt8} (h1 : 97 ≤ c) : ((c.toNat : Int) - 32) = ((c - 32).toNat : Int) := by
  have h := UInt8.le_iff_toNat_le.1 h1
  have e : (c - 32).toNat = c.toNat - 32 := UInt8.toNat_sub_of_le c 32 (UInt8.le_iff_toNat_le.2 (Nat.le_trans (by decide) h))
  rw [e]
  have h' : 97 ≤ c.toNat := h
  omega
theorem rt_letter {key : K} (hs : key.size = 1) (h : (97 : UInt8) ≤ key[0] ∧ key[0] ≤ (122 : UInt8)) : rt key = .ask ⟨#[key[0] - 32]⟩ (fun text => loopT text.data.toList ⟨#[]⟩) := by
  obtain ⟨⟨l⟩⟩ := key
  match l, hs with
  | [b], _ =>
    have h' : 97 ≤ b ∧ b ≤ 122 := h
    show (if 97 ≤ b ∧ b ≤ 122 then _ else _) = _
    rw [if_pos h']
    rfl
theorem rt_other {key : K} (h : ∀ hs : key.size = 1, ¬ ((97 : UInt8) ≤ key[0] ∧ key[0] ≤ (122 : UInt8))) : rt key = .ret (.err 3) := by
  obtain ⟨⟨l⟩⟩ := key
  match l, h with
  | [], _ => rfl
  | [b], h =>
    have h' : ¬ (97 ≤ b ∧ b ≤ 122) := h rfl
    show (if 97 ≤ b ∧ b ≤ 122 then _ else _) = _
    rw [if_neg h']
  | _ :: _ :: _, _ => rfl

theorem list_at (t : K) (k : Nat) (h : k < t.size) : t.data.toList.drop k = t[k] :: t.data.toList.drop (k + 1) := List.drop_eq_getElem_cons (i := k) (by simpa using h)
theorem list_end (t : K) (k : Nat) (h : ¬ k < t.size) : t.data.toList.drop k = [] := List.drop_eq_nil_of_le (by
  have e : t.data.toList.length = t.size := by simp
  omega)
theorem cut_one (t : K) (k : Nat) (h : k < t.size) : t.extract k (k + 1) = (⟨#[t[k]]⟩ : K) := by
  apply ByteArray.ext
  apply Array.toList_inj.1
  rw [Lib.extract_data, list_at t k h, show k + 1 - k = 1 by omega]
  rfl
theorem lp_big {bs : List UInt8} {out : K} (h : ¬ out.size < 200) : loopT bs out = .ret (.ok out) := by
  cases bs with
  | nil => rfl
  | cons b bs => rw [loopT, if_pos (by omega)]
theorem lp_letter {b : UInt8} {bs : List UInt8} {out : K} (h : out.size < 200) (h1 : 97 ≤ b ∧ b ≤ 122) : loopT (b :: bs) out = .ask ⟨#[b]⟩ (fun s => loopT bs (out ++ s)) := by
  rw [loopT, if_neg (by omega), if_pos h1]
theorem lp_bang {bs : List UInt8} {out : K} (h : out.size < 200) : loopT (33 :: bs) out = .ret (.err 3) := by
  rw [loopT, if_neg (by omega), if_neg (by decide), if_pos rfl]
theorem lp_quest0 {bs : List UInt8} : loopT (63 :: bs) ⟨#[]⟩ = .ret (.ok ⟨#[]⟩) := by
  rw [loopT, if_neg (by decide), if_neg (by decide), if_neg (by decide), if_pos rfl, if_pos rfl]
theorem lp_quest {bs : List UInt8} {out : K} (h : out.size < 200) (h1 : out ≠ ⟨#[]⟩) : loopT (63 :: bs) out = loopT bs out := by
  rw [loopT, if_neg (by omega), if_neg (by decide), if_neg (by decide), if_pos rfl, if_neg h1]
theorem lp_cut {bs : List UInt8} {out : K} (h : out.size < 200) : loopT (37 :: bs) out = loopT bs (if 1 < out.size then out.extract 0 1 else out) := by
  rw [loopT, if_neg (by omega), if_neg (by decide), if_neg (by decide), if_neg (by decide), if_pos rfl]
theorem lp_else {b : UInt8} {bs : List UInt8} {out : K} (h : out.size < 200) (h1 : ¬ (97 ≤ b ∧ b ≤ 122)) (h2 : b ≠ 33) (h3 : b ≠ 63) (h4 : b ≠ 37) : loopT (b :: bs) out = loopT bs (out ++ ⟨#[b]⟩) := by
  rw [loopT, if_neg (by omega), if_neg h1, if_neg h2, if_neg h3, if_neg h4]
theorem not_empty {out : K} (h : out ≠ ⟨#[]⟩) : out.toList.isEmpty = false := by
  rw [ByteArray.toList_eq]
  obtain ⟨⟨l⟩⟩ := out
  cases l with
  | nil => exact absurd rfl h
  | cons => rfl
theorem by_ne {c n : UInt8} (h : c ≠ n) : ((c.toNat : Int) == (n.toNat : Int)) = false := by
  rw [beq_eq_false_iff_ne]
  intro e
  exact h (UInt8.toNat_inj.1 (by omega))

set_option maxRecDepth 100000 in
set_option maxHeartbeats 1000000 in
theorem rule_letter (bb pg pm : Nat) (key : K) (J : List (K × K) → World → Prop) (E : List (K × K) → K → Int → World → Prop) (w : World)
    (hal : ∀ vs w o, J vs w → J vs (w.alloc o))
    (hcl : ∀ vs k c w1, goT (rt key) vs = some (.ask k c) → J vs w1 → Calls Try.prog 30 #[.string k, .pointer (some ⟨bb, 0, none⟩), .pointer (some ⟨pg, 0, none⟩), .pointer (some ⟨pm, 0, none⟩)] w1 fun e w2 =>
      (∃ x, x.size ≤ 100000 ∧ e = .returned (.tuple #[.string x, .int .i64 0]) ∧ J (vs ++ [(k, x)]) w2) ∨ (∃ er, (er = 3 ∨ er = 4) ∧ e = .returned (.tuple #[.string ⟨#[]⟩, .int .i64 er]) ∧ E vs k er w2))
    (hJ : J [] w) (hs : key.size = 1) (hb : (97 : UInt8) ≤ key[0] ∧ key[0] ≤ (122 : UInt8)) :
    Calls Try.prog 11 #[.func (.func 30) #[] #[.pointer (some ⟨bb, 0, none⟩), .pointer (some ⟨pg, 0, none⟩), .pointer (some ⟨pm, 0, none⟩)], .string key] w (RulePost key J E) := by
  have hrt := rt_letter hs hb
  have kc := fun w => conv1 w (key[0] - 32) _ (sub32 hb.1)
  have hk0 : 0 < key.size := by omega
  have hb1 : (97 : Int) ≤ key[0].toNat := by have := UInt8.le_iff_toNat_le.1 hb.1; have h' : 97 ≤ key[0].toNat := this; omega
  have hb2 : (key[0].toNat : Int) ≤ 122 := by have := UInt8.le_iff_toNat_le.1 hb.2; have h' : key[0].toNat ≤ 122 := this; omega
  have hgo0 : Hid (goT (rt key) [] = some (.ask ⟨#[key[0] - 32]⟩ (fun text => loopT text.data.toList ⟨#[]⟩))) := by rw [hrt]; rfl
  clear hrt
  go_enter Try.func11, Try.ntmps11
  go_wp2_with fail
  clear kc
  refine (hcl [] _ _ _ hgo0.out (hal _ _ _ hJ)).mono ?_
  rintro e w1 (⟨text, htx, rfl, hJ1⟩ | ⟨er, her, rfl, hE⟩)
  · have hgo1 : Hid (goT (rt key) [(⟨#[key[0] - 32]⟩, text)] = some (loopT (text.data.toList.drop 0) ⟨#[]⟩)) := goT_snoc (vs := []) hgo0.out text
    clear hgo0
    go_wp2_with fail
    go_loopw [8, 9] (fun o i wr => ∃ (k : Nat) (out : K) (vs : List (K × K)), o = .string out ∧ i = .int .i64 k ∧ k ≤ text.size ∧ out.size ≤ 100200 ∧ Hid (goT (rt key) vs = some (loopT (text.data.toList.drop k) out)) ∧ J vs wr) (fun _ i _ => text.size - (intOf i).toNat)
    case atStart => exact ⟨0, ⟨#[]⟩, _, rfl, rfl, Nat.zero_le _, by decide, hgo1, hJ1⟩
    case round =>
      clear hgo1 hJ1
      obtain ⟨k, out, vs, rfl, rfl, hk, ho, hgo, hJk⟩ := hrel
      by_cases hlt : k < text.size
      · by_cases hbig : out.size < 200
        · have hgo2 : Hid (goT (rt key) vs = some (loopT (text[k] :: text.data.toList.drop (k + 1)) out)) := by rw [← list_at text k hlt]; exact hgo
          clear hgo
          by_cases hL : (97 : UInt8) ≤ text[k] ∧ text[k] ≤ (122 : UInt8)
          · have b1 : (97 : Int) ≤ text[k].toNat := by have := UInt8.le_iff_toNat_le.1 hL.1; have h' : 97 ≤ text[k].toNat := this; omega
            have b2 : (text[k].toNat : Int) ≤ 122 := by have := UInt8.le_iff_toNat_le.1 hL.2; have h' : text[k].toNat ≤ 122 := this; omega
            have hgo3 : Hid (goT (rt key) vs = some (.ask ⟨#[text[k]]⟩ (fun s => loopT (text.data.toList.drop (k + 1)) (out ++ s)))) := by rw [← lp_letter hbig hL]; exact hgo2
            clear hgo2 hL
            go_wp2_with fail
            rw [show (Value.string (text.extract k (k + 1))) = .string ⟨#[text[k]]⟩ from by rw [cut_one text k hlt]]
            refine (hcl vs _ _ _ hgo3.out hJk).mono ?_
            rintro e w2 (⟨x, hx, rfl, hJ2⟩ | ⟨er, her, rfl, hE⟩)
            · have hgo4 : Hid (goT (rt key) (vs ++ [(⟨#[text[k]]⟩, x)]) = some (loopT (text.data.toList.drop (k + 1)) (out ++ x))) := goT_snoc hgo3.out x
              clear hgo3
              go_wp2_with fail
              go_roundw
              case rel => exact ⟨k + 1, _, _, rfl, by go_num, by omega, by simp; omega, hgo4, hJ2⟩
              case measure => simp [intOf]; omega
            · have hne : (er != 0) = true := by rcases her with rfl | rfl <;> decide
              go_wp2_with fail
              go_ret2
              exact Or.inr (Or.inr ⟨vs, _, _, er, rfl, her, hgo3.out, hE⟩)
          · by_cases h33 : text[k] = 33
            · have b1 : (text[k].toNat : Int) < 97 := by rw [h33]; decide
              have b2 : ((text[k].toNat : Int) == 33) = true := by rw [h33]; decide
              have hgo3 : Hid (goT (rt key) vs = some (.ret (.err 3))) := by rw [← lp_bang (bs := text.data.toList.drop (k + 1)) hbig, ← h33]; exact hgo2
              clear hgo2 h33 hL
              go_wp2_with fail
              go_ret2
              exact Or.inr (Or.inl ⟨vs, rfl, hgo3.out, hJk⟩)
            · by_cases h63 : text[k] = 63
              · have b1 : (text[k].toNat : Int) < 97 := by rw [h63]; decide
                have b2 : ((text[k].toNat : Int) == 33) = false := by rw [h63]; decide
                have b3 : ((text[k].toNat : Int) == 63) = true := by rw [h63]; decide
                by_cases h0 : out = ⟨#[]⟩
                · have b4 : out.toList.isEmpty = true := by rw [h0, ByteArray.toList_eq]; rfl
                  have hgo3 : Hid (goT (rt key) vs = some (.ret (.ok ⟨#[]⟩))) := by rw [← lp_quest0 (bs := text.data.toList.drop (k + 1)), ← h63]; rw [h0] at hgo2; exact hgo2
                  clear hgo2 h63 hL h33 h0
                  go_wp2_with fail
                  go_ret2
                  exact Or.inl ⟨_, vs, rfl, hgo3.out, hJk⟩
                · have b4 : out.toList.isEmpty = false := not_empty h0
                  have hgo3 : Hid (goT (rt key) vs = some (loopT (text.data.toList.drop (k + 1)) out)) := by rw [← lp_quest hbig h0, ← h63]; exact hgo2
                  clear hgo2 h63 hL h33 h0
                  go_wp2_with fail
                  go_roundw
                  case rel => exact ⟨k + 1, _, _, rfl, by go_num, by omega, by omega, hgo3, hJk⟩
                  case measure => simp [intOf]; omega
              · by_cases h37 : text[k] = 37
                · have b1 : (text[k].toNat : Int) < 97 := by rw [h37]; decide
                  have b2 : ((text[k].toNat : Int) == 33) = false := by rw [h37]; decide
                  have b3 : ((text[k].toNat : Int) == 63) = false := by rw [h37]; decide
                  have b4 : ((text[k].toNat : Int) == 37) = true := by rw [h37]; decide
                  by_cases h1 : 1 < out.size
                  · have hgo3 : Hid (goT (rt key) vs = some (loopT (text.data.toList.drop (k + 1)) (out.extract 0 1))) := by
                      have e := lp_cut (bs := text.data.toList.drop (k + 1)) hbig
                      rw [if_pos h1] at e
                      rw [← e, ← h37]
                      exact hgo2
                    clear hgo2 h37 hL h33 h63
                    go_wp2_with fail
                    go_roundw
                    case rel => exact ⟨k + 1, _, _, rfl, by go_num, by omega, by simp; omega, hgo3, hJk⟩
                    case measure => simp [intOf]; omega
                  · have hgo3 : Hid (goT (rt key) vs = some (loopT (text.data.toList.drop (k + 1)) out)) := by
                      have e := lp_cut (bs := text.data.toList.drop (k + 1)) hbig
                      rw [if_neg h1] at e
                      rw [← e, ← h37]
                      exact hgo2
                    clear hgo2 h37 hL h33 h63
                    go_wp2_with fail
                    go_roundw
                    case rel => exact ⟨k + 1, _, _, rfl, by go_num, by omega, by omega, hgo3, hJk⟩
                    case measure => simp [intOf]; omega
                · have b2 : ((text[k].toNat : Int) == 33) = false := by_ne h33
                  have b3 : ((text[k].toNat : Int) == 63) = false := by_ne h63
                  have b4 : ((text[k].toNat : Int) == 37) = false := by_ne h37
                  have hgo3 : Hid (goT (rt key) vs = some (loopT (text.data.toList.drop (k + 1)) (out ++ text.extract k (k + 1)))) := by
                    rw [cut_one text k hlt, ← lp_else hbig hL h33 h63 h37]
                    exact hgo2
                  have hor : (text[k].toNat : Int) < 97 ∨ (122 : Int) < text[k].toNat := by
                    by_cases h1 : (97 : UInt8) ≤ text[k]
                    · right
                      have h2 : ¬ text[k] ≤ (122 : UInt8) := fun h2 => hL ⟨h1, h2⟩
                      have := fun h => h2 (UInt8.le_iff_toNat_le.2 h)
                      have h' : ¬ text[k].toNat ≤ 122 := this
                      omega
                    · left
                      have := fun h => h1 (UInt8.le_iff_toNat_le.2 h)
                      have h' : ¬ 97 ≤ text[k].toNat := this
                      omega
                  clear hgo2 h37 hL h33 h63
                  rcases hor with b1 | b1
                  · go_wp2_with fail
                    go_roundw
                    case rel => exact ⟨k + 1, _, _, rfl, by go_num, by omega, by simp; omega, hgo3, hJk⟩
                    case measure => simp [intOf]; omega
                  · have b0 : (97 : Int) ≤ text[k].toNat := by omega
                    go_wp2_with fail
                    go_roundw
                    case rel => exact ⟨k + 1, _, _, rfl, by go_num, by omega, by simp; omega, hgo3, hJk⟩
                    case measure => simp [intOf]; omega
        · have hend : Hid (goT (rt key) vs = some (.ret (.ok out))) := by rw [← lp_big (bs := text.data.toList.drop k) hbig]; exact hgo
          clear hgo
          go_wp2_with fail
          go_ret2
          exact Or.inl ⟨out, vs, rfl, hend.out, hJk⟩
      · have hend : Hid (goT (rt key) vs = some (.ret (.ok out))) := by rw [list_end text k hlt] at hgo; exact hgo
        clear hgo
        go_wp2_with fail
        go_ret2
        exact Or.inl ⟨out, vs, rfl, hend.out, hJk⟩
  · have hne : (er != 0) = true := by rcases her with rfl | rfl <;> decide
    go_wp2_with fail
    go_ret2
    exact Or.inr (Or.inr ⟨[], _, _, er, rfl, her, hgo0.out, hE⟩)

set_option maxHeartbeats 1000000 in
theorem rule_other (bb pg pm : Nat) (key : K) (J : List (K × K) → World → Prop) (E : List (K × K) → K → Int → World → Prop) (w : World)
    (hJ : J [] w) (hb : ∀ hs : key.size = 1, ¬ ((97 : UInt8) ≤ key[0] ∧ key[0] ≤ (122 : UInt8))) :
    Calls Try.prog 11 #[.func (.func 30) #[] #[.pointer (some ⟨bb, 0, none⟩), .pointer (some ⟨pg, 0, none⟩), .pointer (some ⟨pm, 0, none⟩)], .string key] w (RulePost key J E) := by
  have hgo : Hid (goT (rt key) [] = some (.ret (.err 3))) := by rw [rt_other hb]; rfl
  by_cases hs : key.size = 1
  · have hk0 : 0 < key.size := by omega
    have hor : (key[0].toNat : Int) < 97 ∨ (122 : Int) < key[0].toNat := by
      by_cases h1 : (97 : UInt8) ≤ key[0]
      · right
        have h2 : ¬ key[0] ≤ (122 : UInt8) := fun h2 => hb hs ⟨h1, h2⟩
        have := fun h => h2 (UInt8.le_iff_toNat_le.2 h)
        have h' : ¬ key[0].toNat ≤ 122 := this
        omega
      · left
        have := fun h => h1 (UInt8.le_iff_toNat_le.2 h)
        have h' : ¬ 97 ≤ key[0].toNat := this
        omega
    clear hb
    rcases hor with b1 | b1
    · go_enter Try.func11, Try.ntmps11
      go_wp2_with fail
      go_ret2
      exact Or.inr (Or.inl ⟨[], rfl, hgo.out, hJ⟩)
    · have b0 : (97 : Int) ≤ key[0].toNat := by omega
      go_enter Try.func11, Try.ntmps11
      go_wp2_with fail
      go_ret2
      exact Or.inr (Or.inl ⟨[], rfl, hgo.out, hJ⟩)
  · have b1 : ((key.size : Int) != 1) = true := by rw [bne_iff_ne]; omega
    clear hb
    go_enter Try.func11, Try.ntmps11
    go_wp2_with fail
    go_ret2
    exact Or.inr (Or.inl ⟨[], rfl, hgo.out, hJ⟩)
theorem rule_ok (bb pg pm : Nat) (key : K) (J : List (K × K) → World → Prop) (E : List (K × K) → K → Int → World → Prop) (w : World)
    (hal : ∀ vs w o, J vs w → J vs (w.alloc o))
    (hcl : ∀ vs k c w1, goT (rt key) vs = some (.ask k c) → J vs w1 → Calls Try.prog 30 #[.string k, .pointer (some ⟨bb, 0, none⟩), .pointer (some ⟨pg, 0, none⟩), .pointer (some ⟨pm, 0, none⟩)] w1 fun e w2 =>
      (∃ x, x.size ≤ 100000 ∧ e = .returned (.tuple #[.string x, .int .i64 0]) ∧ J (vs ++ [(k, x)]) w2) ∨ (∃ er, (er = 3 ∨ er = 4) ∧ e = .returned (.tuple #[.string ⟨#[]⟩, .int .i64 er]) ∧ E vs k er w2))
    (hJ : J [] w) :
    Calls Try.prog 11 #[.func (.func 30) #[] #[.pointer (some ⟨bb, 0, none⟩), .pointer (some ⟨pg, 0, none⟩), .pointer (some ⟨pm, 0, none⟩)], .string key] w (RulePost key J E) := by
  by_cases h : ∃ hs : key.size = 1, (97 : UInt8) ≤ key[0] ∧ key[0] ≤ (122 : UInt8)
  · obtain ⟨hs, hb⟩ := h
    exact rule_letter bb pg pm key J E w hal hcl hJ hs hb
  · exact rule_other bb pg pm key J E w hJ (fun hs hb => h ⟨hs, hb⟩)
end Go.Proofs.Ytelddnalpkhclaa
