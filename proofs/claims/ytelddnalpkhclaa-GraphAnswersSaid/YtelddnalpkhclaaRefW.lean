/- The document's answer walked: Find, Parts. -/
import Derived.Test.YtelddnalpkhclaaRefP
namespace Go.Proofs.Ytelddnalpkhclaa
open Go.RowKit Go.Maps G

/-- a slice of strings that is nobody else's -/
def StrAt (w : World) (v : Value) (xs : List K) : Prop := w.ownsRow 0 9 1 v xs.length (xs.map .string)
theorem StrAt.form {w : World} {v : Value} {xs : List K} (h : StrAt w v xs) : ∃ (a : Option Addr) (c : Nat), v = .slice a xs.length c ∧ ∀ (i : Nat) (x : K), xs[i]? = some x → ∃ g, a = some ⟨g, 0, none⟩ ∧ v.ownBlock = some g ∧
    w.cell? ⟨g, i, none⟩ = some (.string x) := by
  have h' := h.2
  rcases h' with ⟨rfl, h0⟩ | ⟨g, cap, cur, rfl, _⟩
  · exact ⟨none, 0, by rw [h0], fun i p hi => by
      have e : xs = [] := List.eq_nil_of_length_eq_zero h0
      rw [e] at hi
      cases hi⟩
  · refine ⟨_, _, rfl, fun i x hi => ⟨g, rfl, rfl, ?_⟩⟩
    have := h.cells (g := g) rfl i (.string x) (by rw [List.getElem?_map, hi]; rfl)
    have e : (⟨g, 0, none⟩ : Addr).add i = ⟨g, i, none⟩ := by unfold Addr.add; split <;> simp_all
    rwa [e] at this
theorem StrAt.fr {w w' : World} {may : Nat → Prop} {v : Value} {xs : List K} (h : StrAt w v xs) (hf : Fr w w' may) (hn : ∀ g, v.ownBlock = some g → ¬ may g) : StrAt w' v xs := ownsRow_fr h hf hn
theorem StrAt.same {w w' : World} {v : Value} {xs : List K} (h : StrAt w v xs) (hf : Fr w w' (fun _ => False)) : StrAt w' v xs := h.fr hf (fun _ _ => id)

theorem look_drop {l : List (K × K)} {i : Nat} {p : K × K} {k : K} (h : l[i]? = some p) : lookL (l.drop i) k = if p.1 = k then some p.2 else lookL (l.drop (i + 1)) k := by
  have h1 := (List.getElem?_eq_some_iff.1 h).1
  rw [List.drop_eq_getElem_cons h1, (List.getElem?_eq_some_iff.1 h).2]
  rfl

def FindAt (l : List (K × K)) (k : K) (r : Int) : Prop := (r = -1 ∧ lookL l k = none) ∨ ∃ (i : Nat) (v : K), r = i ∧ l[i]? = some (k, v) ∧ lookL l k = some v
set_option maxRecDepth 100000 in
set_option maxHeartbeats 2000000 in
theorem find_ok (v : Value) (l : List (K × K)) (k : K) (w : World) (h : InsAt w v l) (hlen : l.length ≤ 1000) : Calls Try.prog 19 #[v, .string k] w fun e w' => ∃ r : Int, e = .returned (.int .i64 r) ∧ FindAt l k r ∧ w' = w := by
  obtain ⟨a, c, rfl, hcell⟩ := h.form
  clear h
  generalize hN : l.length = N at hlen ⊢
  have HN := Lib.hid hN
  clear hN
  go_enter Try.func19, Try.ntmps19
  go_wp2_with fail
  go_loop [5] (fun i => ∃ n : Nat, i = .int .i64 n ∧ n ≤ N ∧ Hid (lookL l k = lookL (l.drop n) k)) (fun i => N - (intOf i).toNat)
  case atStart => exact ⟨0, rfl, Nat.zero_le _, rfl⟩
  case round =>
    obtain ⟨n, rfl, hn, hL⟩ := hrel
    by_cases hlt : n < N
    · have hi : ∃ p, l[n]? = some p := ⟨_, List.getElem?_eq_getElem (by rw [HN.out]; exact hlt)⟩
      obtain ⟨p, hp⟩ := hi
      obtain ⟨g, rfl, _, c0, c1⟩ := hcell n p hp
      have hd := look_drop (k := k) hp
      by_cases hq : p.1 = k
      · have hq' : (p.1.toList == k.toList) = true := by rw [hq]; simp
        have hfin : Hid (FindAt l k n) := Or.inr ⟨n, p.2, rfl, by rw [hp, ← hq], by rw [hL.out, hd, if_pos hq]⟩
        clear hd hq hp hL
        go_wp2
        go_ret
        exact ⟨_, rfl, hfin.out, rfl⟩
      · have hq' : (p.1.toList == k.toList) = false := by
          rw [beq_eq_false_iff_ne, ByteArray.toList_eq, ByteArray.toList_eq]
          intro e
          exact hq (ByteArray.ext (Array.toList_inj.1 e))
        have hnext : Hid (lookL l k = lookL (l.drop (n + 1)) k) := by show _ = _; rw [hL.out, hd, if_neg hq]
        clear hd hq hp hL
        go_wp2
        go_round
        case rel => exact ⟨n + 1, by go_num, by omega, hnext⟩
        case measure => simp [intOf]; omega
    · have hfin : Hid (FindAt l k (-1)) := Or.inl ⟨rfl, by rw [hL.out, List.drop_eq_nil_of_le (by rw [HN.out]; omega)]; rfl⟩
      clear hL
      go_wp2
      go_ret
      exact ⟨_, rfl, hfin.out, rfl⟩

def ones (t : K) : List K := t.data.toList.map fun b => ⟨#[b]⟩
theorem ones_length (t : K) : (ones t).length = t.size := by unfold ones; simp
theorem ones_at (t : K) (i : Nat) (h : i < t.size) : (ones t)[i]? = some ⟨#[t[i]]⟩ := by
  unfold ones
  rw [List.getElem?_map]
  have : t.data.toList[i]? = some t[i] := by
    rw [List.getElem?_eq_getElem (by simpa using h)]
    rfl
  rw [this]
  rfl
theorem infoStr' : (Try.prog.info? 9).map (fun i => (i.zero, i.size, i.bytes)) = some (some (.string ⟨#[]⟩), 1, 16) := by kernel_rfl
set_option maxRecDepth 100000 in
set_option maxHeartbeats 2000000 in
theorem parts_ok (t : K) (ht : t.size ≤ 100000) (w : World) : Calls Try.prog 24 #[.string t] w fun e w' => ∃ v, e = .returned v ∧ StrAt w' v (ones t) ∧ Fr w w' (fun _ => False) := by
  obtain ⟨i0, hinf, hzz, hzs, hzb⟩ := infoParts infoStr'
  go_enter Try.func24, Try.ntmps24
  go_wp2_with fail
  go_loopw [3, 4] (fun out i wr => ∃ n : Nat, i = .int .i64 n ∧ n ≤ t.size ∧ wr.ownsRow 0 9 1 out n (((ones t).take n).map .string) ∧ (∀ g, out.ownBlock = some g → w.heap.size ≤ g) ∧ Fr w wr (fun _ => False)) (fun _ i _ => t.size - (intOf i).toNat)
  case atStart => exact ⟨0, rfl, Nat.zero_le _, World.ownsRow_nil _ _ _ _, (fun g hg => by cases hg), Fr.refl _ _⟩
  case round =>
    obtain ⟨n, rfl, hn, hin, hown, hfr⟩ := hrel
    by_cases hlt : n < t.size
    · have htake : Hid (((ones t).take (n + 1)).map Value.string = ((ones t).take n).map .string ++ [.string (t.extract n (n + 1))]) := by
        show _ = _
        rw [List.take_add_one, ones_at t n hlt, cut_one t n hlt]
        simp
      have hin2 : (wr.alloc (.cells #[.string (t.extract n (n + 1))] 9)).ownsRow 0 9 1 u3 n (((ones t).take n).map .string) := World.ownsRow.alloc hin _
      go_wp2_with (first
        | (refine wpList_append_lies _ rfl _ _ 54 rfl 0 9 i0 (.string ⟨#[]⟩) 1 16 Try.underlying54 hinf hzz hzs hzb rfl (by decide) u3 n (((ones t).take n).map .string) (by rfl) hin2 _ 1 1 [.string (t.extract n (n + 1))] (by rfl) rfl (cell_one_new _ _ _) (by simp [Value.oneCell']) (by decide) (by unfold maxLen; omega) (by omega) (Nat.zero_le _) _ rfl ?_; intro g2 cap w3 r3 gr3 at3 lt3)
        | fail)
      have hfr3 : Fr w w3 (fun _ => False) := (hfr.alloc _).grown gr3 (fun i hi => Or.inr (hown i hi))
      have hsz := hfr.size
      go_roundw
      case rel => exact ⟨n + 1, by go_num, by omega, by rw [htake.out]; exact r3, (fun i hi => by
        have e : g2 = i := by simpa [Value.ownBlock] using hi
        subst e
        rcases at3 with e | e
        · exact hown _ e
        · rw [e, sizeA]; omega), hfr3⟩
      case measure => simp [intOf]; omega
    · have hend : StrAt wr u3 (ones t) := by
        have e : (ones t).take n = ones t := List.take_of_length_le (by rw [ones_length]; omega)
        rw [e] at hin
        unfold StrAt
        rw [ones_length, show t.size = n by omega]
        exact hin
      clear hin
      go_wp2
      go_ret
      exact ⟨_, rfl, hend, hfr⟩
end Go.Proofs.Ytelddnalpkhclaa
