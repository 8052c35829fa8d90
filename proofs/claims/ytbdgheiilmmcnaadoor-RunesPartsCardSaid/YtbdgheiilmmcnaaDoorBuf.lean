/- A row of bytes that the call made, to which bytes are appended; its spare places may be written. -/
import Derived.Test.YtbdgheiilmmcnaaDoorUtf
import Derived.Test.YtbdgheiilmmcnaaDoorShelf
import Derived.ArgAppend
import Derived.Laws.IdiomStrings
import Derived.Lib.ConvBytes
import Derived.Lib.LazyBuf
namespace Go.Proofs.YtbdgheiilmmcnaaDoor.R
open Go Go.Proofs Go.RowKit

structure Buf (w : World) (B g cap : Nat) (l : List UInt8) : Prop where
  lo : B ≤ g
  lt : g < w.heap.size
  len : l.length ≤ cap
  held : ∀ j u, (Lib.byteCells l)[j]? = some u → w.cell? ⟨g, j, none⟩ = some u
  spare : ∀ j, l.length ≤ j → j < cap → (w.cell? ⟨g, j, none⟩).isSome = true ∧ w.frozen? ⟨g, j, none⟩ = false

theorem Buf.alloc {w : World} {B g cap : Nat} {l : List UInt8} (h : Buf w B g cap l) (o : Obj) : Buf (w.alloc o) B g cap l := by
  have hb : (w.alloc o).heap[g]? = w.heap[g]? := Below.heap_alloc w o g h.lt
  refine ⟨h.lo, by have := h.lt; simp; omega, h.len, fun j u hj => ?_, fun j h1 h2 => ?_⟩
  · rw [World.cell?_of_block (a := ⟨g, j, none⟩) hb]; exact h.held j u hj
  · rw [World.cell?_of_block (a := ⟨g, j, none⟩) hb, World.frozen?_of_block (a := ⟨g, j, none⟩) hb]; exact h.spare j h1 h2

theorem Buf.room {w : World} {B g cap : Nat} {l : List UInt8} (h : Buf w B g cap l) (news : List UInt8) (hr : l.length + news.length ≤ cap) :
    Buf (w.setCells g (0 + l.length * 1) (Lib.byteCells news)) B g cap (l ++ news) := by
  have hlen : (Lib.byteCells news).length = news.length := Lib.byteCells_length _
  refine ⟨h.lo, ?_, by simpa using hr, fun j u hj => ?_, fun j h1 h2 => ?_⟩
  · have := h.lt
    have e := Below.size (below_setCells (Nat.le_refl g) (Lib.byteCells news) (0 + l.length * 1) w (Below.refl g w))
    omega
  · rw [Lib.byteCells_append] at hj
    by_cases hjl : j < l.length
    · rw [World.cell?_setCells_out g _ _ _ _ (fun _ _ => Or.inl (by show j < _; omega))]
      rw [List.getElem?_append_left (by rw [Lib.byteCells_length]; exact hjl)] at hj
      exact h.held j u hj
    · rw [List.getElem?_append_right (by rw [Lib.byteCells_length]; omega), Lib.byteCells_length] at hj
      have hjn : j - l.length < (Lib.byteCells news).length := (List.getElem?_eq_some_iff.1 hj).1
      have := World.cell?_setCells_in g (Lib.byteCells news) (0 + l.length * 1) w (fun i hi => by
        have := (h.spare (l.length + i) (by omega) (by omega)).1
        simpa using this) (j - l.length) hjn
      rw [show 0 + l.length * 1 + (j - l.length) = j by omega] at this
      rw [this]
      rw [List.getElem?_eq_getElem hjn] at hj
      exact hj
  · simp only [List.length_append] at h1
    rw [World.cell?_setCells_out g _ _ _ _ (fun _ _ => Or.inr (by show _ ≤ j; omega)), World.frozen?_setCells]
    exact h.spare j (by omega) h2

theorem Buf.grown {w w0 : World} {B n : Nat} {v : Value} {l : List UInt8} (hB : B ≤ w0.heap.size) (h : w.ownsRow w0.heap.size 5 1 v n (Lib.byteCells l)) (hn : 0 < n) :
    ∃ g cap, v = .slice (some ⟨g, 0, none⟩) l.length cap ∧ Buf w B g cap l := by
  obtain ⟨hl, h | ⟨g, cap, cur, rfl, hg, hgg, hnc, hcm, hcs, htk⟩⟩ := h
  · omega
  · have hln : l.length = n := by rw [Lib.byteCells_length] at hl; omega
    subst hln
    refine ⟨g, cap, rfl, by omega, (Array.getElem?_eq_some_iff.1 hgg).1, hnc, fun j u hj => ?_, fun j h1 h2 => ?_⟩
    · rw [← htk, List.getElem?_take] at hj
      split at hj
      · simp [World.cell?, hgg]
        simpa using hj
      · cases hj
    · have : j < cur.size := by omega
      refine ⟨by simp [World.cell?, hgg, this], ?_⟩
      simp [World.frozen?, hgg]
end Go.Proofs.YtbdgheiilmmcnaaDoor.R
