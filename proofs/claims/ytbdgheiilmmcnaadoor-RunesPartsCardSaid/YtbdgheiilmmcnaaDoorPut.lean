/- The walks of runes.Put and of the document's Put. -/
import Derived.Test.YtbdgheiilmmcnaaDoorApp
import Derived.Test.YtbdgheiilmmcnaaDoorBack
namespace Go.Proofs.YtbdgheiilmmcnaaDoor.R
open Go Go.Proofs Go.RowKit

/-- the slice value v holds the numbers zs -/
def HoldsR (w : World) (v : Value) (zs : List Int) : Prop :=
  (zs = [] ∧ ∃ a c, v = .slice a 0 c) ∨ ∃ b off c, v = .slice (some ⟨b, off, none⟩) zs.length c ∧ b < w.heap.size ∧ ∀ i, i < zs.length → w.cell? ⟨b, off + i, none⟩ = some (.int .i32 (zs.getD i 0))
def okR (zs : List Int) : Prop := ∀ z ∈ zs, -2147483648 ≤ z ∧ z ≤ 2147483647

def madeRow (w : World) (s : ByteArray) : World := w.drew.alloc (.cells (bytesRow s (grownCap w s.size 0 5)) 5 ((bytesRow s (grownCap w s.size 0 5)).size, (bytesRow s (grownCap w s.size 0 5)).size + 1))
theorem conv_bytes (w : World) (s : ByteArray) : (convert 9 44 (.string s)).run Tryd.prog w = .ok (.slice (some ⟨w.heap.size, 0, none⟩) s.size (grownCap w s.size 0 5)) (madeRow w s) :=
  run_bytes_of_string w 9 44 5 s Tryd.underlying9 Tryd.underlying44 Tryd.underlying5
theorem bytesRow_size (s : ByteArray) (cap : Nat) (h : s.size ≤ cap) : (bytesRow s cap).size = cap := by
  unfold bytesRow
  simp
  omega
theorem madeRow_below (w : World) (s : ByteArray) : Below w.heap.size w (madeRow w s) := ((Below.refl _ w).drew).alloc (Nat.le_refl _) _
theorem madeRow_buf (w : World) (s : ByteArray) : Buf (madeRow w s) w.heap.size w.heap.size (grownCap w s.size 0 5) s.data.toList := by
  have hge : s.size ≤ grownCap w s.size 0 5 := grownCap_ge w s.size 0 5
  have hsz := bytesRow_size s _ hge
  have hg : (madeRow w s).heap[w.heap.size]? = some (.cells (bytesRow s (grownCap w s.size 0 5)) 5 ((bytesRow s (grownCap w s.size 0 5)).size, (bytesRow s (grownCap w s.size 0 5)).size + 1)) := by
    show (w.heap.push _)[w.heap.size]? = _
    simp
  refine ⟨Nat.le_refl _, (Array.getElem?_eq_some_iff.1 hg).1, by simpa using hge, fun j u hj => ?_, fun j h1 h2 => ?_⟩
  · simp only [World.cell?, hg]
    have hjl : j < s.data.size := by
      have := (List.getElem?_eq_some_iff.1 hj).1
      rw [Lib.byteCells_length] at this
      simpa using this
    simp only [Lib.byteCells, List.getElem?_map] at hj
    unfold bytesRow
    rw [Array.getElem?_append_left (by simpa using hjl)]
    simpa using hj
  · refine ⟨?_, ?_⟩
    · simp only [World.cell?, hg]
      rw [Array.getElem?_eq_getElem (by omega)]
      rfl
    · simp only [World.frozen?, hg, hsz]
      simp
      omega

theorem back_string {w : World} {B g cap : Nat} {l : List UInt8} (h : Buf w B g cap l) : (convert 44 9 (.slice (some ⟨g, 0, none⟩) l.length cap)).run Tryd.prog w = .ok (.string ⟨l.toArray⟩) w :=
  run_convert_bytes_back w 44 9 5 ⟨g, 0, none⟩ cap l Tryd.underlying44 Tryd.underlying5 Tryd.underlying9 (fun j hj => by
    have : (⟨g, 0, none⟩ : Addr).add j = ⟨g, j, none⟩ := by unfold Addr.add; split <;> simp_all
    rw [this]
    exact h.held j _ (by simp [Lib.byteCells, hj]))

set_option maxHeartbeats 1000000 in
theorem put_empty (s : ByteArray) (a : Option Addr) (c : Nat) (w : World) (_hs : s.size ≤ 2000) :
    Calls Tryd.prog 22 #[.string s, .slice a 0 c] w fun e w' => e = .returned (.string s) ∧ Below w.heap.size w w' := by
  have hcv := conv_bytes w s
  have hbuf := madeRow_buf w s
  have hbk := back_string hbuf
  have hb := madeRow_below w s
  rw [ba_self] at hbk
  obtain ⟨W, hW⟩ : ∃ W, madeRow w s = W := ⟨_, rfl⟩
  rw [hW] at hcv hbuf hbk hb
  have hl : s.data.toList.length = s.size := ba_len s
  rw [hl] at hbk
  obtain ⟨C, hC⟩ : ∃ C, grownCap w s.size 0 5 = C := ⟨_, rfl⟩
  rw [hC] at hbk hcv
  clear hbuf hW hl hC
  go_enter Tryd.func22, Tryd.ntmps22
  go_wp2_with fail
  go_loop [5, 12] (fun v i => i = .int .i64 0 ∧ v = .slice (some ⟨w.heap.size, 0, none⟩) s.size C) (fun _ _ => 0)
  case atStart => exact ⟨rfl, rfl⟩
  case round =>
    obtain ⟨rfl, rfl⟩ := hrel
    go_wp2_with fail
    go_ret
    exact ⟨rfl, hb⟩

theorem putAll_list (s : ByteArray) (zs : List Int) (k : Nat) (h : k < zs.length) : (putAll s (zs.take (k + 1))).data.toList = (putAll s (zs.take k)).data.toList ++ Lib.encodeRune (zs.getD k 0) := by
  have e : zs.take (k + 1) = zs.take k ++ [zs.getD k 0] := by
    rw [List.take_succ_eq_append_getElem h]
    simp [List.getD_eq_getElem?_getD, h]
  rw [e, putAll_snoc, app_list]
  congr 1
theorem okR_at {zs : List Int} (h : okR zs) (k : Nat) (hk : k < zs.length) : -2147483648 ≤ zs.getD k 0 ∧ zs.getD k 0 ≤ 2147483647 := by
  rw [List.getD_eq_getElem?_getD, List.getElem?_eq_getElem hk]
  exact h _ (List.getElem_mem hk)

set_option maxHeartbeats 1000000 in
theorem put_some (s : ByteArray) (zs : List Int) (b off c : Nat) (w : World) (hs : s.size ≤ 2000) (hz : zs.length ≤ 500) (hok : okR zs) (hb : b < w.heap.size)
    (hc : ∀ i, i < zs.length → w.cell? ⟨b, off + i, none⟩ = some (.int .i32 (zs.getD i 0))) :
    Calls Tryd.prog 22 #[.string s, .slice (some ⟨b, off, none⟩) zs.length c] w fun e w' => e = .returned (.string (putAll s zs)) ∧ Below w.heap.size w w' := by
  have hcv := conv_bytes w s
  have hbuf := madeRow_buf w s
  have hbw := madeRow_below w s
  obtain ⟨W, hW⟩ : ∃ W, madeRow w s = W := ⟨_, rfl⟩
  obtain ⟨C, hC⟩ : ∃ C, grownCap w s.size 0 5 = C := ⟨_, rfl⟩
  rw [hW] at hcv hbuf hbw
  rw [hC] at hcv hbuf
  have Hc := Lib.hid hc
  have Hok := Lib.hid hok
  have Hbuf := Lib.hid hbuf
  clear hW hc hok hbuf hC
  have hsl : (s.data.toList).length = s.size := ba_len s
  have Hsl := Lib.hid hsl
  clear hsl
  go_enter Tryd.func22, Tryd.ntmps22
  go_wp2_with fail
  go_loopw [5, 12] (fun v i wr => ∃ (k g cap n : Nat), k ≤ zs.length ∧ i = .int .i64 k ∧ v = .slice (some ⟨g, 0, none⟩) n cap ∧ n ≤ 2000 + 4 * k ∧ Hid (Buf wr w.heap.size g cap (putAll s (zs.take k)).data.toList ∧ (putAll s (zs.take k)).data.toList.length = n) ∧ Below w.heap.size w wr) (fun _ i _ => zs.length - (intOf i).toNat)
  case atStart => exact ⟨0, _, _, _, Nat.zero_le _, rfl, rfl, by omega, ⟨Hbuf.out, Hsl.out⟩, hbw⟩
  case round =>
    obtain ⟨k, g, cap, n, hk, rfl, rfl, hn, hB, hbr⟩ := hrel
    have hsz : w.heap.size ≤ wr.heap.size := hbr.size
    by_cases hlt : k < zs.length
    · have hcell : wr.cell? ⟨b, off + k, none⟩ = some (.int .i32 (zs.getD k 0)) := (hbr.cell (p := ⟨b, off + k, none⟩) hb).trans (Hc.out k hlt)
      obtain ⟨z, hz⟩ : ∃ z, zs.getD k 0 = z := ⟨_, rfl⟩
      have hzz := okR_at Hok.out k hlt
      have happ := Lib.hid (putAll_list s zs k hlt)
      rw [hz] at hcell hzz happ
      have hca : Hid (Calls Tryd.prog 31 #[.slice (some ⟨g, 0, none⟩) n cap, .int .i32 z] wr (AppPost wr w.heap.size (putAll s (zs.take (k + 1))).data.toList)) := by
        have := app_walk wr w.heap.size g cap _ z hsz (by rw [hB.out.2]; omega) hB.out.1 hzz.1 hzz.2
        rw [hB.out.2, ← happ.out] at this
        exact this
      have hlen : Hid ((putAll s (zs.take (k + 1))).data.toList.length ≤ n + 4) := by
        show _ ≤ _
        rw [happ.out, List.length_append, hB.out.2]
        have h1 := Lib.encodeRuneZ_length z
        have : (Lib.encodeRune z).length = (Lib.encodeRuneZ z).length := by simp [Lib.encodeRune]
        omega
      clear hz hzz happ hB
      go_wp2_with fail
      refine hca.out.mono ?_
      rintro e w2 ⟨g2, cap2, rfl, hb2, hbe2⟩
      obtain ⟨n2, hn2⟩ : ∃ n2, (putAll s (zs.take (k + 1))).data.toList.length = n2 := ⟨_, rfl⟩
      have hlen2 := hlen.out
      rw [hn2] at hlen2 ⊢
      have hB2 := Lib.hid (And.intro hb2 hn2)
      clear hb2 hn2 hlen
      go_wp2_with fail
      go_roundw
      case rel => exact ⟨k + 1, g2, cap2, n2, by omega, by go_num, rfl, by omega, hB2, hbr.trans hbe2⟩
      case measure => simp [intOf]; omega
    · have e : zs.take k = zs := List.take_of_length_le (by omega)
      rw [e] at hB
      have hbk := back_string hB.out.1
      rw [hB.out.2, ba_self] at hbk
      clear hB e
      go_wp2_with fail
      go_ret
      exact ⟨rfl, hbr⟩

theorem put_walk (s : ByteArray) (v : Value) (zs : List Int) (w : World) (hs : s.size ≤ 2000) (hz : zs.length ≤ 500) (hok : okR zs) (hv : HoldsR w v zs) :
    Calls Tryd.prog 22 #[.string s, v] w fun e w' => e = .returned (.string (putAll s zs)) ∧ Below w.heap.size w w' := by
  rcases hv with ⟨rfl, a, c, rfl⟩ | ⟨b, off, c, rfl, hb, hc⟩
  · exact put_empty s a c w hs
  · exact put_some s zs b off c w hs hz hok hb hc
end Go.Proofs.YtbdgheiilmmcnaaDoor.R
