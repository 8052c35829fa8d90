/- The walk of the document's Put (whetstoneref03). -/
import Derived.Test.YtbdgheiilmmcnaaDoorPut
namespace Go.Proofs.YtbdgheiilmmcnaaDoor.R
open Go Go.Proofs Go.RowKit

theorem back_new (w : World) (l : List UInt8) : (convert 44 9 (.slice (some ⟨w.heap.size, 0, none⟩) l.length l.length)).run Tryd.prog (w.alloc (.cells (Lib.byteCells l).toArray 5)) = .ok (.string ⟨l.toArray⟩) (w.alloc (.cells (Lib.byteCells l).toArray 5)) :=
  run_convert_bytes_back _ 44 9 5 ⟨w.heap.size, 0, none⟩ l.length l Tryd.underlying44 Tryd.underlying5 Tryd.underlying9 (fun j hj => cells_new w 5 (Lib.byteCells l) j _ (by simp [Lib.byteCells, hj]))

set_option maxHeartbeats 1000000 in
set_option maxRecDepth 100000 in
theorem rput_one (w : World) (r : Int) (h0 : 0 ≤ r) (h1 : r < 128) : Calls Tryd.prog 21 #[.int .i64 r] w fun e w' => e = .returned (.string (encB r)) ∧ Below w.heap.size w w' := by
  have hE : Lib.byteCells (Lib.encodeRune r) = [.int .u8 r] := by
    rw [Lib.byteCells_encodeRune]
    unfold Lib.runeCells
    rw [Lib.encodeRuneZ_one h0 (by omega)]
    rfl
  have hEl : (Lib.encodeRune r).length = 1 := by
    have := congrArg List.length hE
    rw [Lib.byteCells_length] at this
    simpa using this
  have hbk := fun w : World => back_new w (Lib.encodeRune r)
  rw [hE, hEl] at hbk
  clear hE hEl
  have hbk2 := hbk w
  clear hbk
  have he : (⟨(Lib.encodeRune r).toArray⟩ : ByteArray) = encB r := rfl
  rw [he] at hbk2
  clear he
  go_enter Tryd.func21, Tryd.ntmps21
  go_wp2_with fail
  go_ret
  exact ⟨rfl, (Below.refl _ w).alloc (Nat.le_refl _) _⟩

set_option maxHeartbeats 1000000 in
set_option maxRecDepth 100000 in
theorem rput_two (w : World) (r : Int) (h0 : 128 ≤ r) (h1 : r ≤ 2047) : Calls Tryd.prog 21 #[.int .i64 r] w fun e w' => e = .returned (.string (encB r)) ∧ Below w.heap.size w w' := by
  have hE : Lib.byteCells (Lib.encodeRune r) = [.int .u8 (192 + r / 64), .int .u8 (128 + r % 64)] := by
    rw [Lib.byteCells_encodeRune]
    unfold Lib.runeCells
    rw [Lib.encodeRuneZ_two h0 h1]
    rfl
  have hEl : (Lib.encodeRune r).length = 2 := by
    have := congrArg List.length hE
    rw [Lib.byteCells_length] at this
    simpa using this
  have hbk := fun w : World => back_new w (Lib.encodeRune r)
  rw [hE, hEl] at hbk
  clear hE hEl
  have hbk2 := hbk w
  clear hbk
  have he : (⟨(Lib.encodeRune r).toArray⟩ : ByteArray) = encB r := rfl
  rw [he] at hbk2
  clear he
  go_enter Tryd.func21, Tryd.ntmps21
  go_wp2_with fail
  go_ret
  exact ⟨rfl, (Below.refl _ w).alloc (Nat.le_refl _) _⟩

set_option maxHeartbeats 1000000 in
set_option maxRecDepth 100000 in
theorem rput_three_lo (w : World) (r : Int) (h0 : 2048 ≤ r) (h1 : r < 55296) : Calls Tryd.prog 21 #[.int .i64 r] w fun e w' => e = .returned (.string (encB r)) ∧ Below w.heap.size w w' := by
  have hE : Lib.byteCells (Lib.encodeRune r) = [.int .u8 (224 + r / 4096), .int .u8 (128 + r / 64 % 64), .int .u8 (128 + r % 64)] := by
    rw [Lib.byteCells_encodeRune]
    unfold Lib.runeCells
    rw [Lib.encodeRuneZ_three (Or.inl ⟨h0, h1⟩)]
    rfl
  have hEl : (Lib.encodeRune r).length = 3 := by
    have := congrArg List.length hE
    rw [Lib.byteCells_length] at this
    simpa using this
  have hbk := fun w : World => back_new w (Lib.encodeRune r)
  rw [hE, hEl] at hbk
  clear hE hEl
  have hbk2 := hbk w
  clear hbk
  have he : (⟨(Lib.encodeRune r).toArray⟩ : ByteArray) = encB r := rfl
  rw [he] at hbk2
  clear he
  go_enter Tryd.func21, Tryd.ntmps21
  go_wp2_with fail
  go_ret
  exact ⟨rfl, (Below.refl _ w).alloc (Nat.le_refl _) _⟩

set_option maxHeartbeats 1000000 in
set_option maxRecDepth 100000 in
theorem rput_three_hi (w : World) (r : Int) (h0 : 57343 < r) (h1 : r ≤ 65535) : Calls Tryd.prog 21 #[.int .i64 r] w fun e w' => e = .returned (.string (encB r)) ∧ Below w.heap.size w w' := by
  have hE : Lib.byteCells (Lib.encodeRune r) = [.int .u8 (224 + r / 4096), .int .u8 (128 + r / 64 % 64), .int .u8 (128 + r % 64)] := by
    rw [Lib.byteCells_encodeRune]
    unfold Lib.runeCells
    rw [Lib.encodeRuneZ_three (Or.inr ⟨h0, h1⟩)]
    rfl
  have hEl : (Lib.encodeRune r).length = 3 := by
    have := congrArg List.length hE
    rw [Lib.byteCells_length] at this
    simpa using this
  have hbk := fun w : World => back_new w (Lib.encodeRune r)
  rw [hE, hEl] at hbk
  clear hE hEl
  have hbk2 := hbk w
  clear hbk
  have he : (⟨(Lib.encodeRune r).toArray⟩ : ByteArray) = encB r := rfl
  rw [he] at hbk2
  clear he
  go_enter Tryd.func21, Tryd.ntmps21
  go_wp2_with fail
  go_ret
  exact ⟨rfl, (Below.refl _ w).alloc (Nat.le_refl _) _⟩

set_option maxHeartbeats 1000000 in
set_option maxRecDepth 100000 in
theorem rput_four (w : World) (r : Int) (h0 : 65536 ≤ r) (h1 : r ≤ 1114111) : Calls Tryd.prog 21 #[.int .i64 r] w fun e w' => e = .returned (.string (encB r)) ∧ Below w.heap.size w w' := by
  have hE : Lib.byteCells (Lib.encodeRune r) = [.int .u8 (240 + r / 262144), .int .u8 (128 + r / 4096 % 64), .int .u8 (128 + r / 64 % 64), .int .u8 (128 + r % 64)] := by
    rw [Lib.byteCells_encodeRune]
    unfold Lib.runeCells
    rw [Lib.encodeRuneZ_four h0 h1]
    rfl
  have hEl : (Lib.encodeRune r).length = 4 := by
    have := congrArg List.length hE
    rw [Lib.byteCells_length] at this
    simpa using this
  have hbk := fun w : World => back_new w (Lib.encodeRune r)
  rw [hE, hEl] at hbk
  clear hE hEl
  have hbk2 := hbk w
  clear hbk
  have he : (⟨(Lib.encodeRune r).toArray⟩ : ByteArray) = encB r := rfl
  rw [he] at hbk2
  clear he
  go_enter Tryd.func21, Tryd.ntmps21
  go_wp2_with fail
  go_ret
  exact ⟨rfl, (Below.refl _ w).alloc (Nat.le_refl _) _⟩

set_option maxHeartbeats 1000000 in
set_option maxRecDepth 100000 in
theorem rput_neg (w : World) (r : Int) (h0 : r < 0) : Calls Tryd.prog 21 #[.int .i64 r] w fun e w' => e = .returned (.string (encB r)) ∧ Below w.heap.size w w' := by
  have hE : Lib.byteCells (Lib.encodeRune r) = [.int .u8 239, .int .u8 191, .int .u8 189] := by
    rw [Lib.byteCells_encodeRune]
    unfold Lib.runeCells
    rw [Lib.encodeRuneZ_bad (Or.inl h0)]
    rfl
  have hEl : (Lib.encodeRune r).length = 3 := by
    have := congrArg List.length hE
    rw [Lib.byteCells_length] at this
    simpa using this
  have hbk := fun w : World => back_new w (Lib.encodeRune r)
  rw [hE, hEl] at hbk
  clear hE hEl
  have hbk2 := hbk w
  clear hbk
  have he : (⟨(Lib.encodeRune r).toArray⟩ : ByteArray) = encB r := rfl
  rw [he] at hbk2
  clear he
  go_enter Tryd.func21, Tryd.ntmps21
  go_wp2_with fail
  go_ret
  exact ⟨rfl, (Below.refl _ w).alloc (Nat.le_refl _) _⟩

set_option maxHeartbeats 1000000 in
set_option maxRecDepth 100000 in
theorem rput_sur (w : World) (r : Int) (h0 : 55296 ≤ r) (h1 : r ≤ 57343) : Calls Tryd.prog 21 #[.int .i64 r] w fun e w' => e = .returned (.string (encB r)) ∧ Below w.heap.size w w' := by
  have hE : Lib.byteCells (Lib.encodeRune r) = [.int .u8 239, .int .u8 191, .int .u8 189] := by
    rw [Lib.byteCells_encodeRune]
    unfold Lib.runeCells
    rw [Lib.encodeRuneZ_bad (Or.inr (Or.inl ⟨h0, h1⟩))]
    rfl
  have hEl : (Lib.encodeRune r).length = 3 := by
    have := congrArg List.length hE
    rw [Lib.byteCells_length] at this
    simpa using this
  have hbk := fun w : World => back_new w (Lib.encodeRune r)
  rw [hE, hEl] at hbk
  clear hE hEl
  have hbk2 := hbk w
  clear hbk
  have he : (⟨(Lib.encodeRune r).toArray⟩ : ByteArray) = encB r := rfl
  rw [he] at hbk2
  clear he
  go_enter Tryd.func21, Tryd.ntmps21
  go_wp2_with fail
  go_ret
  exact ⟨rfl, (Below.refl _ w).alloc (Nat.le_refl _) _⟩

set_option maxHeartbeats 1000000 in
set_option maxRecDepth 100000 in
theorem rput_high (w : World) (r : Int) (h0 : 1114111 < r) : Calls Tryd.prog 21 #[.int .i64 r] w fun e w' => e = .returned (.string (encB r)) ∧ Below w.heap.size w w' := by
  have hE : Lib.byteCells (Lib.encodeRune r) = [.int .u8 239, .int .u8 191, .int .u8 189] := by
    rw [Lib.byteCells_encodeRune]
    unfold Lib.runeCells
    rw [Lib.encodeRuneZ_bad (Or.inr (Or.inr h0))]
    rfl
  have hEl : (Lib.encodeRune r).length = 3 := by
    have := congrArg List.length hE
    rw [Lib.byteCells_length] at this
    simpa using this
  have hbk := fun w : World => back_new w (Lib.encodeRune r)
  rw [hE, hEl] at hbk
  clear hE hEl
  have hbk2 := hbk w
  clear hbk
  have he : (⟨(Lib.encodeRune r).toArray⟩ : ByteArray) = encB r := rfl
  rw [he] at hbk2
  clear he
  go_enter Tryd.func21, Tryd.ntmps21
  go_wp2_with fail
  go_ret
  exact ⟨rfl, (Below.refl _ w).alloc (Nat.le_refl _) _⟩

theorem rput_walk (w : World) (r : Int) : Calls Tryd.prog 21 #[.int .i64 r] w fun e w' => e = .returned (.string (encB r)) ∧ Below w.heap.size w w' := by
  by_cases a : r < 0
  · exact rput_neg w r a
  by_cases a2 : r < 128
  · exact rput_one w r (by omega) a2
  by_cases b : r ≤ 2047
  · exact rput_two w r (by omega) b
  by_cases c : r < 55296
  · exact rput_three_lo w r (by omega) c
  by_cases d : r ≤ 57343
  · exact rput_sur w r (by omega) d
  by_cases e : r ≤ 65535
  · exact rput_three_hi w r (by omega) e
  by_cases f : r ≤ 1114111
  · exact rput_four w r (by omega) f
  · exact rput_high w r (by omega)
end Go.Proofs.YtbdgheiilmmcnaaDoor.R
