/- The walk of the document's Next (whetstoneref03). -/
import Derived.Test.YtbdgheiilmmcnaaDoorNext
import Derived.Test.YtbdgheiilmmcnaaDoorLaws
namespace Go.Proofs.YtbdgheiilmmcnaaDoor.R
open Go Go.Proofs Go.RowKit

def NextPost (s : ByteArray) (pos : Nat) (w : World) (e : Ending) (w' : World) : Prop :=
  e = .returned (.tuple #[.int .i64 ((Utf8.decode s pos).1 : Nat), .int .i64 ((Utf8.decode s pos).2 : Nat), .bool (okAt s pos)]) ∧ w = w'
theorem NextPost.bad {s : ByteArray} {pos : Nat} {w : World} (h : Utf8.decode s pos = (65533, 1)) : NextPost s pos w (.returned (.tuple #[.int .i64 65533, .int .i64 1, .bool false])) w := by
  refine ⟨?_, rfl⟩
  rw [okAt_bad h, h]; rfl
theorem NextPost.good {s : ByteArray} {pos c n : Nat} {w : World} {z k : Int} (h : Utf8.decode s pos = (c, n)) (hn : n ≠ 1 ∨ c ≠ 65533) (hz : z = c) (hk : k = n) : NextPost s pos w (.returned (.tuple #[.int .i64 z, .int .i64 k, .bool true])) w := by
  refine ⟨?_, rfl⟩
  rw [okAt_good h hn, h, hz, hk]

/-- the sum behind i bytes, as the walk has it -/
def sumZ (s : ByteArray) (pos : Nat) (f0 : Int) : Nat → Int
  | 0 => f0
  | 1 => f0
  | i + 2 => sumZ s pos f0 (i + 1) * 64 + (byteAt s (pos + (i + 1)) : Int) - 128
def lim : Nat → Int | 0 => 31 | 1 => 31 | i + 2 => lim (i + 1) * 64 + 63
theorem lim_succ (i : Nat) (h : 1 ≤ i) : lim (i + 1) = lim i * 64 + 63 := by
  cases i with
  | zero => omega
  | succ i => rfl
theorem lim_le (i : Nat) (h : i ≤ 4) : lim i ≤ 8388607 := by
  match i, h with
  | 0, _ => decide
  | 1, _ => decide
  | 2, _ => decide
  | 3, _ => decide
  | 4, _ => decide
theorem sumZ_succ (s : ByteArray) (pos : Nat) (f0 : Int) (i : Nat) (h : 1 ≤ i) : sumZ s pos f0 (i + 1) = sumZ s pos f0 i * 64 + (byteAt s (pos + i) : Int) - 128 := by
  cases i with
  | zero => omega
  | succ i => rfl
def allMore (s : ByteArray) (pos i : Nat) : Prop := ∀ m, 1 ≤ m → m < i → more (byteAt s (pos + m)) = true

theorem ret_bool {a b : Bool} (h : a = b) : Ending.returned (.bool a) = .returned (.bool b) := by rw [h]
theorem more_walk (b : UInt8) (w : World) : Calls Tryd.prog 30 #[.int .u8 (b.toNat : Int)] w fun e w' => e = .returned (.bool (more b.toNat)) ∧ w = w' := by
  have hm := Lib.hid (show more b.toNat = (decide (128 ≤ b.toNat) && decide (b.toNat < 192)) from rfl)
  by_cases h1 : 128 ≤ (b.toNat : Int)
  · by_cases h2 : (b.toNat : Int) < 192
    · go_enter Tryd.func30, Tryd.ntmps30
      go_wp2_with fail
      go_ret
      exact ⟨ret_bool (by rw [hm.out]; simp; omega), rfl⟩
    · go_enter Tryd.func30, Tryd.ntmps30
      go_wp2_with fail
      go_ret
      exact ⟨ret_bool (by rw [hm.out]; simp; omega), rfl⟩
  · go_enter Tryd.func30, Tryd.ntmps30
    go_wp2_with fail
    go_ret
    exact ⟨ret_bool (by rw [hm.out]; simp; omega), rfl⟩

set_option maxRecDepth 100000 in
set_option maxHeartbeats 1000000 in
theorem next_ascii (s : ByteArray) (pos : Nat) (hp : pos < s.size) (_hm : s.size ≤ 35184372088832) (w : World) (h : (s[pos].toNat : Int) < 128) : Calls Tryd.prog 20 #[.string s, .int .i64 pos] w (NextPost s pos w) := by
  have hd := Lib.hid (show Utf8.decode s pos = (s[pos].toNat, 1) by rw [decode_dec, byteAt_eq s pos hp]; exact dec_ascii (by omega))
  go_enter Tryd.func20, Tryd.ntmps20
  go_wp2_with fail
  go_ret3
  exact NextPost.good hd.out (Or.inr (by omega)) rfl rfl
set_option maxRecDepth 100000 in
set_option maxHeartbeats 1000000 in
theorem next_lead (s : ByteArray) (pos : Nat) (hp : pos < s.size) (_hm : s.size ≤ 35184372088832) (w : World) (h : 128 ≤ (s[pos].toNat : Int)) (h' : (s[pos].toNat : Int) < 192 ∨ 248 ≤ (s[pos].toNat : Int)) : Calls Tryd.prog 20 #[.string s, .int .i64 pos] w (NextPost s pos w) := by
  have hd := Lib.hid (show Utf8.decode s pos = (65533, 1) by
    rw [decode_dec, byteAt_eq s pos hp]; exact dec_lead (by omega) (by omega) (UInt8.toNat_lt _))
  have hu : (s[pos].toNat : Int) < 256 := by have := UInt8.toNat_lt s[pos]; omega
  rcases h' with h' | h'
  · go_enter Tryd.func20, Tryd.ntmps20
    go_wp2_with fail
    go_ret3
    exact NextPost.bad hd.out
  · go_enter Tryd.func20, Tryd.ntmps20
    go_wp2_with fail
    go_ret3
    exact NextPost.bad hd.out
theorem dec_more {s : ByteArray} {pos i : Nat} (hi : i = 1 ∧ 128 ≤ byteAt s pos ∨ i = 2 ∧ 224 ≤ byteAt s pos ∨ i = 3 ∧ 240 ≤ byteAt s pos) (hm : more (byteAt s (pos + i)) = false) : Utf8.decode s pos = (65533, 1) := by
  rw [decode_dec]
  have := more_no hm
  rcases hi with ⟨rfl, h⟩ | ⟨rfl, h⟩ | ⟨rfl, h⟩
  · exact dec_more1 h this
  · exact dec_more2 h this
  · exact dec_more3 h this
theorem fin_two {s : ByteArray} {pos : Nat} (h : 192 ≤ byteAt s pos) (h' : byteAt s pos < 224) (hp : pos + 2 ≤ s.size) (hm : allMore s pos 2) :
    ∃ c : Nat, sumZ s pos (byteAt s pos - 192) 2 = c ∧ c ≤ 2047 ∧ Utf8.decode s pos = if c < 128 then (65533, 1) else (c, 2) := by
  have h1 := more_ge (hm 1 (by omega) (by omega))
  refine ⟨(byteAt s pos - 192) * 64 + (byteAt s (pos + 1) - 128), ?_, by omega, ?_⟩
  · simp only [sumZ, Nat.zero_add]; omega
  · rw [decode_dec]; exact dec_two h h' (by omega) h1
theorem fin_three {s : ByteArray} {pos : Nat} (h : 224 ≤ byteAt s pos) (h' : byteAt s pos < 240) (hp : pos + 3 ≤ s.size) (hm : allMore s pos 3) :
    ∃ c : Nat, sumZ s pos (byteAt s pos - 224) 3 = c ∧ c ≤ 65535 ∧ Utf8.decode s pos = if c < 2048 ∨ 55296 ≤ c ∧ c < 57344 then (65533, 1) else (c, 3) := by
  have h1 := more_ge (hm 1 (by omega) (by omega))
  have h2 := more_ge (hm 2 (by omega) (by omega))
  refine ⟨((byteAt s pos - 224) * 64 + (byteAt s (pos + 1) - 128)) * 64 + (byteAt s (pos + 2) - 128), ?_, by omega, ?_⟩
  · simp only [sumZ, Nat.zero_add, Nat.reduceAdd]; omega
  · rw [decode_dec]; exact dec_three h h' (by omega) h1 h2
theorem fin_four {s : ByteArray} {pos : Nat} (h : 240 ≤ byteAt s pos) (h' : byteAt s pos < 248) (hp : pos + 4 ≤ s.size) (hm : allMore s pos 4) :
    ∃ c : Nat, sumZ s pos (byteAt s pos - 240) 4 = c ∧ c ≤ 2097151 ∧ Utf8.decode s pos = if c < 65536 ∨ 1114111 < c then (65533, 1) else (c, 4) := by
  have h1 := more_ge (hm 1 (by omega) (by omega))
  have h2 := more_ge (hm 2 (by omega) (by omega))
  have h3 := more_ge (hm 3 (by omega) (by omega))
  refine ⟨(((byteAt s pos - 240) * 64 + (byteAt s (pos + 1) - 128)) * 64 + (byteAt s (pos + 2) - 128)) * 64 + (byteAt s (pos + 3) - 128), ?_, by omega, ?_⟩
  · simp only [sumZ, Nat.zero_add, Nat.reduceAdd]; omega
  · rw [decode_dec]; exact dec_four h h' (by omega) h1 h2 h3
theorem allMore_one (s : ByteArray) (pos : Nat) : allMore s pos 1 := fun m h1 h2 => by omega
theorem allMore_succ {s : ByteArray} {pos i : Nat} (h : allMore s pos i) (hm : more (byteAt s (pos + i)) = true) : allMore s pos (i + 1) := fun m h1 h2 => by
  by_cases e : m = i
  · subst e; exact hm
  · exact h m h1 (by omega)

set_option maxRecDepth 100000 in
set_option maxHeartbeats 2000000 in
theorem next_two (s : ByteArray) (pos : Nat) (hp : pos < s.size) (_hm : s.size ≤ 35184372088832) (w : World) (h : 192 ≤ (s[pos].toNat : Int)) (h' : (s[pos].toNat : Int) < 224) : Calls Tryd.prog 20 #[.string s, .int .i64 pos] w (NextPost s pos w) := by
  have hb := byteAt_eq s pos hp
  by_cases hs : s.size - pos < 2
  · have hd := Lib.hid (show Utf8.decode s pos = (65533, 1) by
      rw [decode_dec, hb]; exact dec_short2 (by omega) (by omega))
    clear hb
    go_enter Tryd.func20, Tryd.ntmps20
    go_wp2_with fail
    go_ret3
    exact NextPost.bad hd.out
  · have Hb := Lib.hid hb
    clear hb
    go_enter Tryd.func20, Tryd.ntmps20
    go_wp2_with fail
    go_loop [9, 11] (fun v11 v9 => ∃ (i : Nat) (f : Int), v11 = .int .i64 f ∧ v9 = .int .i64 i ∧ 1 ≤ i ∧ i ≤ 2 ∧ 0 ≤ f ∧ f ≤ lim i ∧ Hid (f = sumZ s pos ((s[pos].toNat : Int) - 192) i ∧ allMore s pos i)) (fun _ i => 5 - (intOf i).toNat)
    case atStart => exact ⟨1, _, rfl, rfl, by omega, by omega, by omega, by have : lim 1 = 31 := rfl; omega, rfl, allMore_one s pos⟩
    case round =>
      obtain ⟨i, f, rfl, rfl, hi1, hin, hf0, hfl, hR⟩ := hrel
      have hl1 := Lib.hid (lim_succ i hi1)
      have hl2 := lim_le i (by omega)
      by_cases hlt : i < 2
      · have hk : pos + i < s.size := by omega
        have hu : (s[pos + i].toNat : Int) < 256 := by have := UInt8.toNat_lt s[pos + i]; omega
        have hbi := Lib.hid (byteAt_eq s (pos + i) hk)
        cases hmr : more s[pos + i].toNat
        · have hd := Lib.hid (show Utf8.decode s pos = (65533, 1) by
            refine dec_more (i := i) ?_ (by rw [hbi.out]; exact hmr)
            rw [Hb.out]
            omega)
          have Hmr := Lib.hid hmr
          clear hmr
          go_wp2_with fail
          refine (more_walk s[pos + i] _).mono ?_
          rintro e w1 ⟨rfl, rfl⟩
          rw [Hmr.out]
          go_wp2_with fail
          go_ret3
          exact NextPost.bad hd.out
        · have hge := more_ge hmr
          have hbnd : 0 ≤ f * 64 + (s[pos + i].toNat : Int) - 128 ∧ f * 64 + (s[pos + i].toNat : Int) - 128 ≤ lim (i + 1) := by rw [hl1.out]; omega
          obtain ⟨hb1, hb2⟩ := hbnd
          have hR2 : Hid (f * 64 + (s[pos + i].toNat : Int) - 128 = sumZ s pos ((s[pos].toNat : Int) - 192) (i + 1) ∧ allMore s pos (i + 1)) := by
            refine ⟨?_, allMore_succ hR.out.2 (by rw [hbi.out]; exact hmr)⟩
            rw [sumZ_succ s pos _ i hi1, ← hR.out.1, hbi.out]
          have Hmr := Lib.hid hmr
          clear hmr
          go_wp2_with fail
          refine (more_walk s[pos + i] _).mono ?_
          rintro e w1 ⟨rfl, rfl⟩
          rw [Hmr.out]
          go_wp2_with fail
          go_round
          case rel => exact ⟨i + 1, _, rfl, by go_num, by omega, by omega, hb1, hb2, hR2⟩
          case measure => simp [intOf]; omega
      · have hfin : ∃ c : Nat, f = c ∧ c ≤ 2047 ∧ Utf8.decode s pos = if c < 128 then (65533, 1) else (c, 2) := by
          have e : i = 2 := by omega
          subst e
          have := fin_two (s := s) (pos := pos) (by rw [Hb.out]; omega) (by rw [Hb.out]; omega) (by omega) hR.out.2
          rw [Hb.out, ← hR.out.1] at this
          exact this
        obtain ⟨c, hfc, hcm, hd⟩ := hfin
        have hd' := Lib.hid hd
        have hfc' := Lib.hid hfc
        have hfc1 : f ≤ c := by omega
        have hfc2 : c ≤ f := by omega
        clear hd hfc hR
        by_cases a : f < 128
        · go_wp2_with fail
          go_ret3
          exact NextPost.bad (by rw [hd'.out, if_pos (by omega)])
        · go_wp2_with fail
          go_ret3
          exact NextPost.good (c := c) (n := 2) (by rw [hd'.out, if_neg (by omega)]) (Or.inl (by omega)) hfc'.out rfl
set_option maxRecDepth 100000 in
set_option maxHeartbeats 2000000 in
theorem next_three (s : ByteArray) (pos : Nat) (hp : pos < s.size) (_hm : s.size ≤ 35184372088832) (w : World) (h : 224 ≤ (s[pos].toNat : Int)) (h' : (s[pos].toNat : Int) < 240) : Calls Tryd.prog 20 #[.string s, .int .i64 pos] w (NextPost s pos w) := by
  have hb := byteAt_eq s pos hp
  by_cases hs : s.size - pos < 3
  · have hd := Lib.hid (show Utf8.decode s pos = (65533, 1) by
      rw [decode_dec, hb]; exact dec_short3 (by omega) (by omega))
    clear hb
    go_enter Tryd.func20, Tryd.ntmps20
    go_wp2_with fail
    go_ret3
    exact NextPost.bad hd.out
  · have Hb := Lib.hid hb
    clear hb
    go_enter Tryd.func20, Tryd.ntmps20
    go_wp2_with fail
    go_loop [9, 11] (fun v11 v9 => ∃ (i : Nat) (f : Int), v11 = .int .i64 f ∧ v9 = .int .i64 i ∧ 1 ≤ i ∧ i ≤ 3 ∧ 0 ≤ f ∧ f ≤ lim i ∧ Hid (f = sumZ s pos ((s[pos].toNat : Int) - 224) i ∧ allMore s pos i)) (fun _ i => 5 - (intOf i).toNat)
    case atStart => exact ⟨1, _, rfl, rfl, by omega, by omega, by omega, by have : lim 1 = 31 := rfl; omega, rfl, allMore_one s pos⟩
    case round =>
      obtain ⟨i, f, rfl, rfl, hi1, hin, hf0, hfl, hR⟩ := hrel
      have hl1 := Lib.hid (lim_succ i hi1)
      have hl2 := lim_le i (by omega)
      by_cases hlt : i < 3
      · have hk : pos + i < s.size := by omega
        have hu : (s[pos + i].toNat : Int) < 256 := by have := UInt8.toNat_lt s[pos + i]; omega
        have hbi := Lib.hid (byteAt_eq s (pos + i) hk)
        cases hmr : more s[pos + i].toNat
        · have hd := Lib.hid (show Utf8.decode s pos = (65533, 1) by
            refine dec_more (i := i) ?_ (by rw [hbi.out]; exact hmr)
            rw [Hb.out]
            omega)
          have Hmr := Lib.hid hmr
          clear hmr
          go_wp2_with fail
          refine (more_walk s[pos + i] _).mono ?_
          rintro e w1 ⟨rfl, rfl⟩
          rw [Hmr.out]
          go_wp2_with fail
          go_ret3
          exact NextPost.bad hd.out
        · have hge := more_ge hmr
          have hbnd : 0 ≤ f * 64 + (s[pos + i].toNat : Int) - 128 ∧ f * 64 + (s[pos + i].toNat : Int) - 128 ≤ lim (i + 1) := by rw [hl1.out]; omega
          obtain ⟨hb1, hb2⟩ := hbnd
          have hR2 : Hid (f * 64 + (s[pos + i].toNat : Int) - 128 = sumZ s pos ((s[pos].toNat : Int) - 224) (i + 1) ∧ allMore s pos (i + 1)) := by
            refine ⟨?_, allMore_succ hR.out.2 (by rw [hbi.out]; exact hmr)⟩
            rw [sumZ_succ s pos _ i hi1, ← hR.out.1, hbi.out]
          have Hmr := Lib.hid hmr
          clear hmr
          go_wp2_with fail
          refine (more_walk s[pos + i] _).mono ?_
          rintro e w1 ⟨rfl, rfl⟩
          rw [Hmr.out]
          go_wp2_with fail
          go_round
          case rel => exact ⟨i + 1, _, rfl, by go_num, by omega, by omega, hb1, hb2, hR2⟩
          case measure => simp [intOf]; omega
      · have hfin : ∃ c : Nat, f = c ∧ c ≤ 65535 ∧ Utf8.decode s pos = if c < 2048 ∨ 55296 ≤ c ∧ c < 57344 then (65533, 1) else (c, 3) := by
          have e : i = 3 := by omega
          subst e
          have := fin_three (s := s) (pos := pos) (by rw [Hb.out]; omega) (by rw [Hb.out]; omega) (by omega) hR.out.2
          rw [Hb.out, ← hR.out.1] at this
          exact this
        obtain ⟨c, hfc, hcm, hd⟩ := hfin
        have hd' := Lib.hid hd
        have hfc' := Lib.hid hfc
        have hfc1 : f ≤ c := by omega
        have hfc2 : c ≤ f := by omega
        clear hd hfc hR
        by_cases a : f < 2048
        · go_wp2_with fail
          go_ret3
          exact NextPost.bad (by rw [hd'.out, if_pos (by omega)])
        by_cases b : 55296 ≤ f
        · by_cases d : f < 57344
          · go_wp2_with fail
            go_ret3
            exact NextPost.bad (by rw [hd'.out, if_pos (by omega)])
          · go_wp2_with fail
            go_ret3
            exact NextPost.good (c := c) (n := 3) (by rw [hd'.out, if_neg (by omega)]) (Or.inl (by omega)) hfc'.out rfl
        · go_wp2_with fail
          go_ret3
          exact NextPost.good (c := c) (n := 3) (by rw [hd'.out, if_neg (by omega)]) (Or.inl (by omega)) hfc'.out rfl
set_option maxRecDepth 100000 in
set_option maxHeartbeats 2000000 in
theorem next_four (s : ByteArray) (pos : Nat) (hp : pos < s.size) (_hm : s.size ≤ 35184372088832) (w : World) (h : 240 ≤ (s[pos].toNat : Int)) (h' : (s[pos].toNat : Int) < 248) : Calls Tryd.prog 20 #[.string s, .int .i64 pos] w (NextPost s pos w) := by
  have hb := byteAt_eq s pos hp
  by_cases hs : s.size - pos < 4
  · have hd := Lib.hid (show Utf8.decode s pos = (65533, 1) by
      rw [decode_dec, hb]; exact dec_short4 (by omega) (by omega))
    clear hb
    go_enter Tryd.func20, Tryd.ntmps20
    go_wp2_with fail
    go_ret3
    exact NextPost.bad hd.out
  · have Hb := Lib.hid hb
    clear hb
    go_enter Tryd.func20, Tryd.ntmps20
    go_wp2_with fail
    go_loop [9, 11] (fun v11 v9 => ∃ (i : Nat) (f : Int), v11 = .int .i64 f ∧ v9 = .int .i64 i ∧ 1 ≤ i ∧ i ≤ 4 ∧ 0 ≤ f ∧ f ≤ lim i ∧ Hid (f = sumZ s pos ((s[pos].toNat : Int) - 240) i ∧ allMore s pos i)) (fun _ i => 5 - (intOf i).toNat)
    case atStart => exact ⟨1, _, rfl, rfl, by omega, by omega, by omega, by have : lim 1 = 31 := rfl; omega, rfl, allMore_one s pos⟩
    case round =>
      obtain ⟨i, f, rfl, rfl, hi1, hin, hf0, hfl, hR⟩ := hrel
      have hl1 := Lib.hid (lim_succ i hi1)
      have hl2 := lim_le i (by omega)
      by_cases hlt : i < 4
      · have hk : pos + i < s.size := by omega
        have hu : (s[pos + i].toNat : Int) < 256 := by have := UInt8.toNat_lt s[pos + i]; omega
        have hbi := Lib.hid (byteAt_eq s (pos + i) hk)
        cases hmr : more s[pos + i].toNat
        · have hd := Lib.hid (show Utf8.decode s pos = (65533, 1) by
            refine dec_more (i := i) ?_ (by rw [hbi.out]; exact hmr)
            rw [Hb.out]
            omega)
          have Hmr := Lib.hid hmr
          clear hmr
          go_wp2_with fail
          refine (more_walk s[pos + i] _).mono ?_
          rintro e w1 ⟨rfl, rfl⟩
          rw [Hmr.out]
          go_wp2_with fail
          go_ret3
          exact NextPost.bad hd.out
        · have hge := more_ge hmr
          have hbnd : 0 ≤ f * 64 + (s[pos + i].toNat : Int) - 128 ∧ f * 64 + (s[pos + i].toNat : Int) - 128 ≤ lim (i + 1) := by rw [hl1.out]; omega
          obtain ⟨hb1, hb2⟩ := hbnd
          have hR2 : Hid (f * 64 + (s[pos + i].toNat : Int) - 128 = sumZ s pos ((s[pos].toNat : Int) - 240) (i + 1) ∧ allMore s pos (i + 1)) := by
            refine ⟨?_, allMore_succ hR.out.2 (by rw [hbi.out]; exact hmr)⟩
            rw [sumZ_succ s pos _ i hi1, ← hR.out.1, hbi.out]
          have Hmr := Lib.hid hmr
          clear hmr
          go_wp2_with fail
          refine (more_walk s[pos + i] _).mono ?_
          rintro e w1 ⟨rfl, rfl⟩
          rw [Hmr.out]
          go_wp2_with fail
          go_round
          case rel => exact ⟨i + 1, _, rfl, by go_num, by omega, by omega, hb1, hb2, hR2⟩
          case measure => simp [intOf]; omega
      · have hfin : ∃ c : Nat, f = c ∧ c ≤ 2097151 ∧ Utf8.decode s pos = if c < 65536 ∨ 1114111 < c then (65533, 1) else (c, 4) := by
          have e : i = 4 := by omega
          subst e
          have := fin_four (s := s) (pos := pos) (by rw [Hb.out]; omega) (by rw [Hb.out]; omega) (by omega) hR.out.2
          rw [Hb.out, ← hR.out.1] at this
          exact this
        obtain ⟨c, hfc, hcm, hd⟩ := hfin
        have hd' := Lib.hid hd
        have hfc' := Lib.hid hfc
        have hfc1 : f ≤ c := by omega
        have hfc2 : c ≤ f := by omega
        clear hd hfc hR
        by_cases a : f < 65536
        · go_wp2_with fail
          go_ret3
          exact NextPost.bad (by rw [hd'.out, if_pos (by omega)])
        by_cases b : 1114111 < f
        · go_wp2_with fail
          go_ret3
          exact NextPost.bad (by rw [hd'.out, if_pos (by omega)])
        · go_wp2_with fail
          go_ret3
          exact NextPost.good (c := c) (n := 4) (by rw [hd'.out, if_neg (by omega)]) (Or.inl (by omega)) hfc'.out rfl

theorem next_walk (s : ByteArray) (pos : Nat) (hp : pos < s.size) (hm : s.size ≤ 35184372088832) (w : World) : Calls Tryd.prog 20 #[.string s, .int .i64 pos] w (NextPost s pos w) := by
  have hu := UInt8.toNat_lt s[pos]
  by_cases h1 : (s[pos].toNat : Int) < 128
  · exact next_ascii s pos hp hm w h1
  by_cases h2 : (s[pos].toNat : Int) < 192 ∨ 248 ≤ (s[pos].toNat : Int)
  · exact next_lead s pos hp hm w (by omega) h2
  by_cases h3 : (s[pos].toNat : Int) < 224
  · exact next_two s pos hp hm w (by omega) h3
  by_cases h4 : (s[pos].toNat : Int) < 240
  · exact next_three s pos hp hm w (by omega) h4
  · exact next_four s pos hp hm w (by omega) (by omega)
end Go.Proofs.YtbdgheiilmmcnaaDoor.R
