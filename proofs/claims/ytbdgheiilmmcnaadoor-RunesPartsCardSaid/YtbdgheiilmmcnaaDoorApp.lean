/- unicode/utf8.AppendRune, onto a row of bytes that the call made and whose spare places may be written. -/
import Derived.Test.YtbdgheiilmmcnaaDoorBuf
import Derived.Lib.Hide
namespace Go.Proofs.YtbdgheiilmmcnaaDoor.R
open Go Go.Proofs Go.RowKit

theorem infoByte : (Tryd.prog.info? 5).map (fun i => (i.zero, i.size, i.bytes)) = some (some (.int .u8 0), 1, 1) := by kernel_rfl
def AppPost (w : World) (B : Nat) (l : List UInt8) (e : Ending) (w' : World) : Prop :=
  ∃ g cap, e = .returned (.slice (some ⟨g, 0, none⟩) l.length cap) ∧ Buf w' B g cap l ∧ Below B w w'
def bufV (g cap : Nat) (l : List UInt8) : Value := .slice (some ⟨g, 0, none⟩) l.length cap
theorem AppPost.room {w : World} {B g cap : Nat} {l news : List UInt8} {o : Obj} (hB : B ≤ w.heap.size) (h : Buf (w.alloc o) B g cap l) (hr : l.length + news.length ≤ cap) :
    AppPost w B (l ++ news) (.returned (.slice (some ⟨g, 0, none⟩) (l.length + news.length) cap)) ((w.alloc o).setCells g l.length (Lib.byteCells news)) := by
  rw [show l.length = 0 + l.length * 1 by omega]
  rw [show 0 + l.length * 1 + news.length = l.length + news.length by omega]
  refine ⟨g, cap, by rw [List.length_append], h.room news hr, ?_⟩
  exact below_setCells h.lo _ _ _ ((Below.refl B w).alloc hB o)
theorem AppPost.grown {w w' : World} {B n : Nat} {l : List UInt8} {v : Value} {o : Obj} (hB : B ≤ w.heap.size) (h : w'.ownsRow (w.heap.size + 1) 5 1 v n (Lib.byteCells l)) (hn : 0 < n) (hg : (w.alloc o).grownBy w' none) :
    AppPost w B l (.returned v) w' := by
  have hz : (w.alloc o).heap.size = w.heap.size + 1 := by simp
  rw [← hz] at h
  obtain ⟨g, cap, rfl, hb⟩ := Buf.grown (B := B) (by omega) h hn
  exact ⟨g, cap, rfl, hb, ((Below.refl B w).alloc hB o).grown hg (by omega) (fun k hk => by cases hk)⟩

theorem cells_new (w : World) (T : TypeId) (news : List Value) : ∀ j u, news[j]? = some u → (w.alloc (.cells news.toArray T)).cell? ((⟨w.heap.size, 0, none⟩ : Addr).add j) = some u := by
  intro j u hj
  have : (⟨w.heap.size, 0, none⟩ : Addr).add j = ⟨w.heap.size, j, none⟩ := by
    unfold Addr.add; split <;> simp_all
  rw [this, World.cell?_alloc_mark]
  simpa using hj
theorem one_cells (l : List UInt8) : ∀ u ∈ Lib.byteCells l, u.oneCell' = true := by
  intro u hu
  simp only [Lib.byteCells, List.mem_map] at hu
  obtain ⟨b, _, rfl⟩ := hu
  rfl
theorem held0 {w : World} {B g cap : Nat} {l : List UInt8} (h : Buf w B g cap l) : ∀ j u, (Lib.byteCells l)[j]? = some u → w.cell? ⟨g, 0 + j, none⟩ = some u := by
  intro j u hj
  rw [Nat.zero_add]; exact h.held j u hj
theorem spare0 {w : World} {B g cap m : Nat} {l : List UInt8} (h : Buf w B g cap l) : l.length + m ≤ cap → ∀ j, j < m → (w.cell? ⟨g, 0 + l.length * 1 + j, none⟩).isSome = true ∧ w.frozen? ⟨g, 0 + l.length * 1 + j, none⟩ = false := by
  intro hc j hj
  rw [show 0 + l.length * 1 + j = l.length + j by omega]
  exact h.spare _ (by omega) (by omega)
theorem spare1 {w : World} {B g cap m : Nat} {l : List UInt8} (h : Buf w B g cap l) : l.length + m ≤ cap → ∀ j, j < m → (w.cell? ⟨g, l.length + j, none⟩).isSome = true ∧ w.frozen? ⟨g, l.length + j, none⟩ = false := by
  intro hc j hj
  exact h.spare _ (by omega) (by omega)

set_option maxHeartbeats 1000000 in
set_option maxRecDepth 100000 in
theorem app_one (w : World) (B g cap : Nat) (l : List UInt8) (r : Int) (hB : B ≤ w.heap.size) (hl : l.length ≤ 1000000) (hb : Buf w B g cap l) (h0 : 0 ≤ r) (h1 : r < 128) : Calls Tryd.prog 31 #[.slice (some ⟨g, 0, none⟩) l.length cap, .int .i32 r] w (AppPost w B (l ++ Lib.encodeRune r)) := by
  obtain ⟨i0, hi, hz0, hz1, hz2⟩ := info_parts infoByte
  have hE : Lib.byteCells (Lib.encodeRune r) = [.int .u8 r] := by
    rw [Lib.byteCells_encodeRune]
    unfold Lib.runeCells
    rw [Lib.encodeRuneZ_one h0 (by omega)]
    rfl
  have hEl : (Lib.encodeRune r).length = 1 := by
    have := congrArg List.length hE
    rw [Lib.byteCells_length] at this
    simpa using this
  have HE := Lib.hid hE
  have HEl := Lib.hid hEl
  have HB := Lib.hid hb
  have hlen : (Lib.byteCells l).length = l.length * 1 := by rw [Lib.byteCells_length]; omega
  have Hlen := Lib.hid hlen
  clear hE hEl hb hlen
  go_enter Tryd.func31, Tryd.ntmps31
  go_wp2_with (at_builtin; refine wpList_append_arg _ rfl _ _ 44 rfl 5 i0 (.int .u8 0) 1 1 Tryd.underlying44 hi hz0 hz1 hz2 rfl (by decide) g 0 l.length cap (Lib.byteCells l) rfl Hlen.out (held0 (HB.out.alloc _)) ⟨w.heap.size, 0, none⟩ 1 1 [.int .u8 r] rfl rfl (cells_new w 5 _) ?c2 ?c3 ?c4 ?c5 ?room ?grow)
  case c2 => first | (intro u hu; rw [← HE.out] at hu; exact one_cells _ u hu) | exact ⟨rfl, rfl, rfl⟩
  case c3 => first | exact fun hc j hj => spare0 (m := 1) (HB.out.alloc _) hc j hj | exact fun hc j hj => spare1 (m := 1) (HB.out.alloc _) hc j hj
  case c4 => unfold maxLen; omega
  case c5 => omega
  case room =>
    intro hroom
    have hf := AppPost.room (w := w) (news := Lib.encodeRune r) (o := .cells #[.int .u8 r] 5) hB (HB.out.alloc _) (by rw [HEl.out]; exact hroom)
    rw [HEl.out, HE.out] at hf
    have hfin := Lib.hid hf
    clear hf
    go_wp2
    go_ret
    exact hfin.out
  case grow =>
    intro _ v' w' hown hg
    rw [← HE.out, ← Lib.byteCells_append] at hown
    have hfin : Hid (AppPost w B (l ++ Lib.encodeRune r) (.returned v') w') := AppPost.grown (n := l.length + 1) hB hown (by omega) hg
    clear hown hg
    go_wp2
    go_ret
    exact hfin.out

set_option maxHeartbeats 1000000 in
set_option maxRecDepth 100000 in
theorem app_two (w : World) (B g cap : Nat) (l : List UInt8) (r : Int) (hB : B ≤ w.heap.size) (hl : l.length ≤ 1000000) (hb : Buf w B g cap l) (h0 : 128 ≤ r) (h1 : r ≤ 2047) : Calls Tryd.prog 36 #[.slice (some ⟨g, 0, none⟩) l.length cap, .int .i32 r] w (AppPost w B (l ++ Lib.encodeRune r)) := by
  obtain ⟨i0, hi, hz0, hz1, hz2⟩ := info_parts infoByte
  have hE : Lib.byteCells (Lib.encodeRune r) = [.int .u8 (192 + r / 64), .int .u8 (128 + r % 64)] := by
    rw [Lib.byteCells_encodeRune]
    unfold Lib.runeCells
    rw [Lib.encodeRuneZ_two h0 h1]
    rfl
  have hEl : (Lib.encodeRune r).length = 2 := by
    have := congrArg List.length hE
    rw [Lib.byteCells_length] at this
    simpa using this
  have HE := Lib.hid hE
  have HEl := Lib.hid hEl
  have HB := Lib.hid hb
  have hlen : (Lib.byteCells l).length = l.length * 1 := by rw [Lib.byteCells_length]; omega
  have Hlen := Lib.hid hlen
  clear hE hEl hb hlen
  go_enter Tryd.func36, Tryd.ntmps36
  go_wp2_with (at_builtin; refine wpList_append_arg _ rfl _ _ 44 rfl 5 i0 (.int .u8 0) 1 1 Tryd.underlying44 hi hz0 hz1 hz2 rfl (by decide) g 0 l.length cap (Lib.byteCells l) rfl Hlen.out (held0 (HB.out.alloc _)) ⟨w.heap.size, 0, none⟩ 2 2 [.int .u8 (192 + r / 64), .int .u8 (128 + r % 64)] rfl rfl (cells_new w 5 _) ?c2 ?c3 ?c4 ?c5 ?room ?grow)
  case c2 => first | (intro u hu; rw [← HE.out] at hu; exact one_cells _ u hu) | exact ⟨rfl, rfl, rfl⟩
  case c3 => first | exact fun hc j hj => spare0 (m := 2) (HB.out.alloc _) hc j hj | exact fun hc j hj => spare1 (m := 2) (HB.out.alloc _) hc j hj
  case c4 => unfold maxLen; omega
  case c5 => omega
  case room =>
    intro hroom
    have hf := AppPost.room (w := w) (news := Lib.encodeRune r) (o := .cells #[.int .u8 (192 + r / 64), .int .u8 (128 + r % 64)] 5) hB (HB.out.alloc _) (by rw [HEl.out]; exact hroom)
    rw [HEl.out, HE.out] at hf
    have hfin := Lib.hid hf
    clear hf
    go_wp2
    go_ret
    exact hfin.out
  case grow =>
    intro _ v' w' hown hg
    rw [← HE.out, ← Lib.byteCells_append] at hown
    have hfin : Hid (AppPost w B (l ++ Lib.encodeRune r) (.returned v') w') := AppPost.grown (n := l.length + 2) hB hown (by omega) hg
    clear hown hg
    go_wp2
    go_ret
    exact hfin.out

set_option maxHeartbeats 1000000 in
set_option maxRecDepth 100000 in
theorem app_three_lo (w : World) (B g cap : Nat) (l : List UInt8) (r : Int) (hB : B ≤ w.heap.size) (hl : l.length ≤ 1000000) (hb : Buf w B g cap l) (h0 : 2048 ≤ r) (h1 : r < 55296) : Calls Tryd.prog 36 #[.slice (some ⟨g, 0, none⟩) l.length cap, .int .i32 r] w (AppPost w B (l ++ Lib.encodeRune r)) := by
  obtain ⟨i0, hi, hz0, hz1, hz2⟩ := info_parts infoByte
  have hE : Lib.byteCells (Lib.encodeRune r) = [.int .u8 (224 + r / 4096), .int .u8 (128 + r / 64 % 64), .int .u8 (128 + r % 64)] := by
    rw [Lib.byteCells_encodeRune]
    unfold Lib.runeCells
    rw [Lib.encodeRuneZ_three (Or.inl ⟨h0, h1⟩)]
    rfl
  have hEl : (Lib.encodeRune r).length = 3 := by
    have := congrArg List.length hE
    rw [Lib.byteCells_length] at this
    simpa using this
  have HE := Lib.hid hE
  have HEl := Lib.hid hEl
  have HB := Lib.hid hb
  have hlen : (Lib.byteCells l).length = l.length * 1 := by rw [Lib.byteCells_length]; omega
  have Hlen := Lib.hid hlen
  clear hE hEl hb hlen
  go_enter Tryd.func36, Tryd.ntmps36
  go_wp2_with (at_builtin; refine wpList_append_arg _ rfl _ _ 44 rfl 5 i0 (.int .u8 0) 1 1 Tryd.underlying44 hi hz0 hz1 hz2 rfl (by decide) g 0 l.length cap (Lib.byteCells l) rfl Hlen.out (held0 (HB.out.alloc _)) ⟨w.heap.size, 0, none⟩ 3 3 [.int .u8 (224 + r / 4096), .int .u8 (128 + r / 64 % 64), .int .u8 (128 + r % 64)] rfl rfl (cells_new w 5 _) ?c2 ?c3 ?c4 ?c5 ?room ?grow)
  case c2 => first | (intro u hu; rw [← HE.out] at hu; exact one_cells _ u hu) | exact ⟨rfl, rfl, rfl⟩
  case c3 => first | exact fun hc j hj => spare0 (m := 3) (HB.out.alloc _) hc j hj | exact fun hc j hj => spare1 (m := 3) (HB.out.alloc _) hc j hj
  case c4 => unfold maxLen; omega
  case c5 => omega
  case room =>
    intro hroom
    have hf := AppPost.room (w := w) (news := Lib.encodeRune r) (o := .cells #[.int .u8 (224 + r / 4096), .int .u8 (128 + r / 64 % 64), .int .u8 (128 + r % 64)] 5) hB (HB.out.alloc _) (by rw [HEl.out]; exact hroom)
    rw [HEl.out, HE.out] at hf
    have hfin := Lib.hid hf
    clear hf
    go_wp2
    go_ret
    exact hfin.out
  case grow =>
    intro _ v' w' hown hg
    rw [← HE.out, ← Lib.byteCells_append] at hown
    have hfin : Hid (AppPost w B (l ++ Lib.encodeRune r) (.returned v') w') := AppPost.grown (n := l.length + 3) hB hown (by omega) hg
    clear hown hg
    go_wp2
    go_ret
    exact hfin.out

set_option maxHeartbeats 1000000 in
set_option maxRecDepth 100000 in
theorem app_three_hi (w : World) (B g cap : Nat) (l : List UInt8) (r : Int) (hB : B ≤ w.heap.size) (hl : l.length ≤ 1000000) (hb : Buf w B g cap l) (h0 : 57343 < r) (h1 : r ≤ 65535) : Calls Tryd.prog 36 #[.slice (some ⟨g, 0, none⟩) l.length cap, .int .i32 r] w (AppPost w B (l ++ Lib.encodeRune r)) := by
  obtain ⟨i0, hi, hz0, hz1, hz2⟩ := info_parts infoByte
  have hE : Lib.byteCells (Lib.encodeRune r) = [.int .u8 (224 + r / 4096), .int .u8 (128 + r / 64 % 64), .int .u8 (128 + r % 64)] := by
    rw [Lib.byteCells_encodeRune]
    unfold Lib.runeCells
    rw [Lib.encodeRuneZ_three (Or.inr ⟨h0, h1⟩)]
    rfl
  have hEl : (Lib.encodeRune r).length = 3 := by
    have := congrArg List.length hE
    rw [Lib.byteCells_length] at this
    simpa using this
  have HE := Lib.hid hE
  have HEl := Lib.hid hEl
  have HB := Lib.hid hb
  have hlen : (Lib.byteCells l).length = l.length * 1 := by rw [Lib.byteCells_length]; omega
  have Hlen := Lib.hid hlen
  clear hE hEl hb hlen
  go_enter Tryd.func36, Tryd.ntmps36
  go_wp2_with (at_builtin; refine wpList_append_arg _ rfl _ _ 44 rfl 5 i0 (.int .u8 0) 1 1 Tryd.underlying44 hi hz0 hz1 hz2 rfl (by decide) g 0 l.length cap (Lib.byteCells l) rfl Hlen.out (held0 (HB.out.alloc _)) ⟨w.heap.size, 0, none⟩ 3 3 [.int .u8 (224 + r / 4096), .int .u8 (128 + r / 64 % 64), .int .u8 (128 + r % 64)] rfl rfl (cells_new w 5 _) ?c2 ?c3 ?c4 ?c5 ?room ?grow)
  case c2 => first | (intro u hu; rw [← HE.out] at hu; exact one_cells _ u hu) | exact ⟨rfl, rfl, rfl⟩
  case c3 => first | exact fun hc j hj => spare0 (m := 3) (HB.out.alloc _) hc j hj | exact fun hc j hj => spare1 (m := 3) (HB.out.alloc _) hc j hj
  case c4 => unfold maxLen; omega
  case c5 => omega
  case room =>
    intro hroom
    have hf := AppPost.room (w := w) (news := Lib.encodeRune r) (o := .cells #[.int .u8 (224 + r / 4096), .int .u8 (128 + r / 64 % 64), .int .u8 (128 + r % 64)] 5) hB (HB.out.alloc _) (by rw [HEl.out]; exact hroom)
    rw [HEl.out, HE.out] at hf
    have hfin := Lib.hid hf
    clear hf
    go_wp2
    go_ret
    exact hfin.out
  case grow =>
    intro _ v' w' hown hg
    rw [← HE.out, ← Lib.byteCells_append] at hown
    have hfin : Hid (AppPost w B (l ++ Lib.encodeRune r) (.returned v') w') := AppPost.grown (n := l.length + 3) hB hown (by omega) hg
    clear hown hg
    go_wp2
    go_ret
    exact hfin.out

set_option maxHeartbeats 1000000 in
set_option maxRecDepth 100000 in
theorem app_four (w : World) (B g cap : Nat) (l : List UInt8) (r : Int) (hB : B ≤ w.heap.size) (hl : l.length ≤ 1000000) (hb : Buf w B g cap l) (h0 : 65536 ≤ r) (h1 : r ≤ 1114111) : Calls Tryd.prog 36 #[.slice (some ⟨g, 0, none⟩) l.length cap, .int .i32 r] w (AppPost w B (l ++ Lib.encodeRune r)) := by
  obtain ⟨i0, hi, hz0, hz1, hz2⟩ := info_parts infoByte
  have hE : Lib.byteCells (Lib.encodeRune r) = [.int .u8 (240 + r / 262144), .int .u8 (128 + r / 4096 % 64), .int .u8 (128 + r / 64 % 64), .int .u8 (128 + r % 64)] := by
    rw [Lib.byteCells_encodeRune]
    unfold Lib.runeCells
    rw [Lib.encodeRuneZ_four h0 h1]
    rfl
  have hEl : (Lib.encodeRune r).length = 4 := by
    have := congrArg List.length hE
    rw [Lib.byteCells_length] at this
    simpa using this
  have HE := Lib.hid hE
  have HEl := Lib.hid hEl
  have HB := Lib.hid hb
  have hlen : (Lib.byteCells l).length = l.length * 1 := by rw [Lib.byteCells_length]; omega
  have Hlen := Lib.hid hlen
  clear hE hEl hb hlen
  go_enter Tryd.func36, Tryd.ntmps36
  go_wp2_with (at_builtin; refine wpList_append_arg _ rfl _ _ 44 rfl 5 i0 (.int .u8 0) 1 1 Tryd.underlying44 hi hz0 hz1 hz2 rfl (by decide) g 0 l.length cap (Lib.byteCells l) rfl Hlen.out (held0 (HB.out.alloc _)) ⟨w.heap.size, 0, none⟩ 4 4 [.int .u8 (240 + r / 262144), .int .u8 (128 + r / 4096 % 64), .int .u8 (128 + r / 64 % 64), .int .u8 (128 + r % 64)] rfl rfl (cells_new w 5 _) ?c2 ?c3 ?c4 ?c5 ?room ?grow)
  case c2 => first | (intro u hu; rw [← HE.out] at hu; exact one_cells _ u hu) | exact ⟨rfl, rfl, rfl⟩
  case c3 => first | exact fun hc j hj => spare0 (m := 4) (HB.out.alloc _) hc j hj | exact fun hc j hj => spare1 (m := 4) (HB.out.alloc _) hc j hj
  case c4 => unfold maxLen; omega
  case c5 => omega
  case room =>
    intro hroom
    have hf := AppPost.room (w := w) (news := Lib.encodeRune r) (o := .cells #[.int .u8 (240 + r / 262144), .int .u8 (128 + r / 4096 % 64), .int .u8 (128 + r / 64 % 64), .int .u8 (128 + r % 64)] 5) hB (HB.out.alloc _) (by rw [HEl.out]; exact hroom)
    rw [HEl.out, HE.out] at hf
    have hfin := Lib.hid hf
    clear hf
    go_wp2
    go_ret
    exact hfin.out
  case grow =>
    intro _ v' w' hown hg
    rw [← HE.out, ← Lib.byteCells_append] at hown
    have hfin : Hid (AppPost w B (l ++ Lib.encodeRune r) (.returned v') w') := AppPost.grown (n := l.length + 4) hB hown (by omega) hg
    clear hown hg
    go_wp2
    go_ret
    exact hfin.out

set_option maxHeartbeats 1000000 in
set_option maxRecDepth 100000 in
theorem app_neg (w : World) (B g cap : Nat) (l : List UInt8) (r : Int) (hB : B ≤ w.heap.size) (hl : l.length ≤ 1000000) (hb : Buf w B g cap l) (h0 : r < 0) (h1 : -2147483648 ≤ r) : Calls Tryd.prog 36 #[.slice (some ⟨g, 0, none⟩) l.length cap, .int .i32 r] w (AppPost w B (l ++ Lib.encodeRune r)) := by
  obtain ⟨i0, hi, hz0, hz1, hz2⟩ := info_parts infoByte
  have hE : Lib.byteCells (Lib.encodeRune r) = [.int .u8 239, .int .u8 191, .int .u8 189] := by
    rw [Lib.byteCells_encodeRune]
    unfold Lib.runeCells
    rw [Lib.encodeRuneZ_bad (Or.inl h0)]
    rfl
  have hEl : (Lib.encodeRune r).length = 3 := by
    have := congrArg List.length hE
    rw [Lib.byteCells_length] at this
    simpa using this
  have HE := Lib.hid hE
  have HEl := Lib.hid hEl
  have HB := Lib.hid hb
  have hlen : (Lib.byteCells l).length = l.length * 1 := by rw [Lib.byteCells_length]; omega
  have Hlen := Lib.hid hlen
  clear hE hEl hb hlen
  go_enter Tryd.func36, Tryd.ntmps36
  go_wp2_with (at_builtin; refine wpList_append_arg _ rfl _ _ 44 rfl 5 i0 (.int .u8 0) 1 1 Tryd.underlying44 hi hz0 hz1 hz2 rfl (by decide) g 0 l.length cap (Lib.byteCells l) rfl Hlen.out (held0 (HB.out.alloc _)) ⟨w.heap.size, 0, none⟩ 3 3 [.int .u8 239, .int .u8 191, .int .u8 189] rfl rfl (cells_new w 5 _) ?c2 ?c3 ?c4 ?c5 ?room ?grow)
  case c2 => first | (intro u hu; rw [← HE.out] at hu; exact one_cells _ u hu) | exact ⟨rfl, rfl, rfl⟩
  case c3 => first | exact fun hc j hj => spare0 (m := 3) (HB.out.alloc _) hc j hj | exact fun hc j hj => spare1 (m := 3) (HB.out.alloc _) hc j hj
  case c4 => unfold maxLen; omega
  case c5 => omega
  case room =>
    intro hroom
    have hf := AppPost.room (w := w) (news := Lib.encodeRune r) (o := .cells #[.int .u8 239, .int .u8 191, .int .u8 189] 5) hB (HB.out.alloc _) (by rw [HEl.out]; exact hroom)
    rw [HEl.out, HE.out] at hf
    have hfin := Lib.hid hf
    clear hf
    go_wp2
    go_ret
    exact hfin.out
  case grow =>
    intro _ v' w' hown hg
    rw [← HE.out, ← Lib.byteCells_append] at hown
    have hfin : Hid (AppPost w B (l ++ Lib.encodeRune r) (.returned v') w') := AppPost.grown (n := l.length + 3) hB hown (by omega) hg
    clear hown hg
    go_wp2
    go_ret
    exact hfin.out

set_option maxHeartbeats 1000000 in
set_option maxRecDepth 100000 in
theorem app_sur (w : World) (B g cap : Nat) (l : List UInt8) (r : Int) (hB : B ≤ w.heap.size) (hl : l.length ≤ 1000000) (hb : Buf w B g cap l) (h0 : 55296 ≤ r) (h1 : r ≤ 57343) : Calls Tryd.prog 36 #[.slice (some ⟨g, 0, none⟩) l.length cap, .int .i32 r] w (AppPost w B (l ++ Lib.encodeRune r)) := by
  obtain ⟨i0, hi, hz0, hz1, hz2⟩ := info_parts infoByte
  have hE : Lib.byteCells (Lib.encodeRune r) = [.int .u8 239, .int .u8 191, .int .u8 189] := by
    rw [Lib.byteCells_encodeRune]
    unfold Lib.runeCells
    rw [Lib.encodeRuneZ_bad (Or.inr (Or.inl ⟨h0, h1⟩))]
    rfl
  have hEl : (Lib.encodeRune r).length = 3 := by
    have := congrArg List.length hE
    rw [Lib.byteCells_length] at this
    simpa using this
  have HE := Lib.hid hE
  have HEl := Lib.hid hEl
  have HB := Lib.hid hb
  have hlen : (Lib.byteCells l).length = l.length * 1 := by rw [Lib.byteCells_length]; omega
  have Hlen := Lib.hid hlen
  clear hE hEl hb hlen
  go_enter Tryd.func36, Tryd.ntmps36
  go_wp2_with (at_builtin; refine wpList_append_arg _ rfl _ _ 44 rfl 5 i0 (.int .u8 0) 1 1 Tryd.underlying44 hi hz0 hz1 hz2 rfl (by decide) g 0 l.length cap (Lib.byteCells l) rfl Hlen.out (held0 (HB.out.alloc _)) ⟨w.heap.size, 0, none⟩ 3 3 [.int .u8 239, .int .u8 191, .int .u8 189] rfl rfl (cells_new w 5 _) ?c2 ?c3 ?c4 ?c5 ?room ?grow)
  case c2 => first | (intro u hu; rw [← HE.out] at hu; exact one_cells _ u hu) | exact ⟨rfl, rfl, rfl⟩
  case c3 => first | exact fun hc j hj => spare0 (m := 3) (HB.out.alloc _) hc j hj | exact fun hc j hj => spare1 (m := 3) (HB.out.alloc _) hc j hj
  case c4 => unfold maxLen; omega
  case c5 => omega
  case room =>
    intro hroom
    have hf := AppPost.room (w := w) (news := Lib.encodeRune r) (o := .cells #[.int .u8 239, .int .u8 191, .int .u8 189] 5) hB (HB.out.alloc _) (by rw [HEl.out]; exact hroom)
    rw [HEl.out, HE.out] at hf
    have hfin := Lib.hid hf
    clear hf
    go_wp2
    go_ret
    exact hfin.out
  case grow =>
    intro _ v' w' hown hg
    rw [← HE.out, ← Lib.byteCells_append] at hown
    have hfin : Hid (AppPost w B (l ++ Lib.encodeRune r) (.returned v') w') := AppPost.grown (n := l.length + 3) hB hown (by omega) hg
    clear hown hg
    go_wp2
    go_ret
    exact hfin.out

set_option maxHeartbeats 1000000 in
set_option maxRecDepth 100000 in
theorem app_high (w : World) (B g cap : Nat) (l : List UInt8) (r : Int) (hB : B ≤ w.heap.size) (hl : l.length ≤ 1000000) (hb : Buf w B g cap l) (h0 : 1114111 < r) (h1 : r ≤ 2147483647) : Calls Tryd.prog 36 #[.slice (some ⟨g, 0, none⟩) l.length cap, .int .i32 r] w (AppPost w B (l ++ Lib.encodeRune r)) := by
  obtain ⟨i0, hi, hz0, hz1, hz2⟩ := info_parts infoByte
  have hE : Lib.byteCells (Lib.encodeRune r) = [.int .u8 239, .int .u8 191, .int .u8 189] := by
    rw [Lib.byteCells_encodeRune]
    unfold Lib.runeCells
    rw [Lib.encodeRuneZ_bad (Or.inr (Or.inr h0))]
    rfl
  have hEl : (Lib.encodeRune r).length = 3 := by
    have := congrArg List.length hE
    rw [Lib.byteCells_length] at this
    simpa using this
  have HE := Lib.hid hE
  have HEl := Lib.hid hEl
  have HB := Lib.hid hb
  have hlen : (Lib.byteCells l).length = l.length * 1 := by rw [Lib.byteCells_length]; omega
  have Hlen := Lib.hid hlen
  clear hE hEl hb hlen
  go_enter Tryd.func36, Tryd.ntmps36
  go_wp2_with (at_builtin; refine wpList_append_arg _ rfl _ _ 44 rfl 5 i0 (.int .u8 0) 1 1 Tryd.underlying44 hi hz0 hz1 hz2 rfl (by decide) g 0 l.length cap (Lib.byteCells l) rfl Hlen.out (held0 (HB.out.alloc _)) ⟨w.heap.size, 0, none⟩ 3 3 [.int .u8 239, .int .u8 191, .int .u8 189] rfl rfl (cells_new w 5 _) ?c2 ?c3 ?c4 ?c5 ?room ?grow)
  case c2 => first | (intro u hu; rw [← HE.out] at hu; exact one_cells _ u hu) | exact ⟨rfl, rfl, rfl⟩
  case c3 => first | exact fun hc j hj => spare0 (m := 3) (HB.out.alloc _) hc j hj | exact fun hc j hj => spare1 (m := 3) (HB.out.alloc _) hc j hj
  case c4 => unfold maxLen; omega
  case c5 => omega
  case room =>
    intro hroom
    have hf := AppPost.room (w := w) (news := Lib.encodeRune r) (o := .cells #[.int .u8 239, .int .u8 191, .int .u8 189] 5) hB (HB.out.alloc _) (by rw [HEl.out]; exact hroom)
    rw [HEl.out, HE.out] at hf
    have hfin := Lib.hid hf
    clear hf
    go_wp2
    go_ret
    exact hfin.out
  case grow =>
    intro _ v' w' hown hg
    rw [← HE.out, ← Lib.byteCells_append] at hown
    have hfin : Hid (AppPost w B (l ++ Lib.encodeRune r) (.returned v') w') := AppPost.grown (n := l.length + 3) hB hown (by omega) hg
    clear hown hg
    go_wp2
    go_ret
    exact hfin.out

theorem app_tail (w : World) (B g cap : Nat) (l : List UInt8) (r : Int) (hB : B ≤ w.heap.size) (hl : l.length ≤ 1000000) (hb : Buf w B g cap l) (h0 : -2147483648 ≤ r) (h1 : r ≤ 2147483647) (hn : r < 0 ∨ 128 ≤ r) : Calls Tryd.prog 36 #[.slice (some ⟨g, 0, none⟩) l.length cap, .int .i32 r] w (AppPost w B (l ++ Lib.encodeRune r)) := by
  by_cases a : r < 0
  · exact app_neg w B g cap l r hB hl hb a h0
  by_cases b : r ≤ 2047
  · exact app_two w B g cap l r hB hl hb (by omega) b
  by_cases c : r < 55296
  · exact app_three_lo w B g cap l r hB hl hb (by omega) c
  by_cases d : r ≤ 57343
  · exact app_sur w B g cap l r hB hl hb (by omega) d
  by_cases e : r ≤ 65535
  · exact app_three_hi w B g cap l r hB hl hb (by omega) e
  by_cases f : r ≤ 1114111
  · exact app_four w B g cap l r hB hl hb (by omega) f
  · exact app_high w B g cap l r hB hl hb (by omega) h1
theorem app_walk (w : World) (B g cap : Nat) (l : List UInt8) (r : Int) (hB : B ≤ w.heap.size) (hl : l.length ≤ 1000000) (hb : Buf w B g cap l) (h0 : -2147483648 ≤ r) (h1 : r ≤ 2147483647) : Calls Tryd.prog 31 #[.slice (some ⟨g, 0, none⟩) l.length cap, .int .i32 r] w (AppPost w B (l ++ Lib.encodeRune r)) := by
  by_cases a : 0 ≤ r
  · by_cases b : r < 128
    · exact app_one w B g cap l r hB hl hb a b
    · have hc := Lib.hid (app_tail w B g cap l r hB hl hb h0 h1 (by omega))
      clear hb
      go_enter Tryd.func31, Tryd.ntmps31
      go_wp2_with fail
      refine hc.out.mono ?_
      rintro e w' ⟨g', cap', rfl, h2, h3⟩
      have hfin : Hid (AppPost w B (l ++ Lib.encodeRune r) (.returned (.slice (some ⟨g', 0, none⟩) (l.length + (Lib.encodeRune r).length) cap')) w') := ⟨g', cap', by rw [List.length_append], h2, h3⟩
      clear h2 h3
      go_wp2_with fail
      go_ret
      exact hfin.out
  · have hc := Lib.hid (app_tail w B g cap l r hB hl hb h0 h1 (by omega))
    clear hb
    go_enter Tryd.func31, Tryd.ntmps31
    go_wp2_with fail
    refine hc.out.mono ?_
    rintro e w' ⟨g', cap', rfl, h2, h3⟩
    have hfin : Hid (AppPost w B (l ++ Lib.encodeRune r) (.returned (.slice (some ⟨g', 0, none⟩) (l.length + (Lib.encodeRune r).length) cap')) w') := ⟨g', cap', by rw [List.length_append], h2, h3⟩
    clear h2 h3
    go_wp2_with fail
    go_ret
    exact hfin.out

end Go.Proofs.YtbdgheiilmmcnaaDoor.R
