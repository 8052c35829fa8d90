/- keep: an answer is kept; while there is no room, another one goes. -/
import Derived.Test.YtelddnalpkhclaaRel
import Derived.Test.YtelddnalpkhclaaAwake
import Derived.Maps.RangeWalk
import Derived.Deep.QuietTactic
import Derived.BigQuiet
namespace Go.Proofs.Ytelddnalpkhclaa
open Go.RowKit Go.Maps G

theorem keyed9 : Keyed Try.prog 9 := string_keyed Try.underlying9
theorem key_inv (key : Value) (kl : Lit) (h : keyOf Try.prog 9 key = some kl) : ∃ x : ByteArray, key = .string x ∧ kl = klit x ∧ x.size ≤ maxLen := by
  cases key <;> simp [keyOf, Try.underlying9, mapKey] at h
  rename_i s
  refine ⟨s, rfl, ?_⟩
  unfold klit
  obtain ⟨h1, h2⟩ := h
  refine ⟨h2.symm, ?_⟩
  simpa [Lit.wf] using h1

/-- how many entries stand in a map's block -/
def mapN (w : World) (b : Nat) : Nat := match w.heap[b]? with
  | some (.map es _) => es.size
  | _ => 0
theorem MapAt.count {P : Program} {kt : TypeId} {w : World} {b n : Nat} {f : ByteArray → Option Value} (h : MapAt P kt w b n f) : mapN w b = n := by
  obtain ⟨D, ⟨es, clock, hb, F, _, rfl⟩, hs, _⟩ := h
  unfold mapN
  rw [hb]
  simpa [Maps.size, length_sorted] using hs

def ptrs (f : K → Option Nat) : ByteArray → Option Value := fun k => (f k).map ptr
theorem ptrs_ins (f : K → Option Nat) (k : K) (b : Nat) : insF (ptrs f) k (ptr b) = ptrs (ins f k b) := by
  funext j
  unfold insF ptrs ins
  by_cases e : j = k
  · rw [if_pos e, if_pos e]; rfl
  · rw [if_neg e, if_neg e]
theorem ptrs_del (f : K → Option Nat) (k : K) : delF (ptrs f) k = ptrs (del f k) := by
  funext j
  unfold delF ptrs del
  by_cases e : j = k
  · rw [if_pos e, if_pos e]; rfl
  · rw [if_neg e, if_neg e]
theorem ptrs_some (f : K → Option Nat) (k : K) : (ptrs f k).isSome = (f k).isSome := by unfold ptrs; simp
theorem insN_ptrs (f : K → Option Nat) (k : K) (n : Nat) : insN (ptrs f) k n = insC f k n := by unfold insN insC; rw [ptrs_some]
theorem delN_ptrs (f : K → Option Nat) (k : K) (n : Nat) : delN (ptrs f) k n = delC f k n := by unfold delN delC; rw [ptrs_some]

/-- a memo's block, whatever it holds -/
def IsMemo (w : World) (b : Nat) : Prop := ∃ a nv lo ch us, w.heap[b]? = some (.cells (memoCells a nv lo ch us) 68 (0, 0))

theorem range_val {D : DataW Value} {f : K → Option Nat} (hh : Holds D (ptrs f)) {x : ByteArray} {c : Value} {y : DataW Value × List MemPlace} (hy : held c = some y) (hat : ∀ zd, D.atKey (klit x) zd = y.1) : ∃ b, f x = some b ∧ c = ptr b := by
  have e : y = (.held c, []) := by
    simp only [held, Option.some.injEq] at hy
    exact hy.symm
  subst e
  have h := hh x
  cases hf : f x with
  | none =>
    have e : ptrs f x = none := by unfold ptrs; rw [hf]; rfl
    rw [e] at h
    have h' : Maps.has D (klit x) = false := h
    rw [Maps.has_true_of_atKey hat] at h'
    cases h'
  | some b =>
    have e : ptrs f x = some (ptr b) := by unfold ptrs; rw [hf]; rfl
    rw [e] at h
    have h' : ∀ z, D.atKey (klit x) z = .held (ptr b) := h
    refine ⟨b, rfl, ?_⟩
    have := (hat .nil).symm.trans (h' .nil)
    injection this
theorem ranges_drewN {w : World} {b r n : Nat} {D : DataW Value} {left : Lit → Bool} {cnt : Nat} (h : w.ranges Try.prog 9 held b r n D left cnt) (q : Nat) : (w.drewN q).ranges Try.prog 9 held b r n D left cnt := h
theorem fr_drewN {a w : World} {may : Nat → Prop} (h : Fr a w may) (q : Nat) : Fr a (w.drewN q) may := ⟨h.os, h.tape, h.output, h.size, h.block⟩
theorem ptrs_eq {f : K → Option Nat} {k : K} {b : Nat} (h : f k = some b) : ptrs f k = some (.pointer (some ⟨b, 0, none⟩)) := by unfold ptrs; rw [h]; rfl
theorem ptrs_none {f : K → Option Nat} {k : K} (h : f k = none) : ptrs f k = none := by unfold ptrs; rw [h]; rfl

set_option maxRecDepth 100000 in
set_option maxHeartbeats 4000000 in
theorem keep_ok (gb bi bm n0 : Nat) (A : K → Option Nat) (rule : Value) (room now clock runs : Int) (stack : Value) (key : ByteArray) (mb : Nat) (w : World)
    (hg : w.heap[gb]? = some (.cells (graphCells rule bi bm room now clock runs stack) 56 (0, 0))) (hm : MapAt Try.prog 9 w bm n0 (ptrs A))
    (hA : ∀ k b, ins A key mb k = some b → IsMemo w b) (hkey : key.size ≤ maxLen) (hn : n0 < maxLen) (hroom : 1 ≤ room) :
    Calls Try.prog 31 #[.pointer (some ⟨gb, 0, none⟩), .string key, .pointer (some ⟨mb, 0, none⟩)] w fun e w' => e = .returned (.tuple #[]) ∧
      ∃ f n, Ev (ins A key mb) (insC A key n0) f n ∧ (n : Int) ≤ room ∧ ((insC A key n0 : Int) ≤ room → f = ins A key mb ∧ n = insC A key n0) ∧
        MapAt Try.prog 9 w' bm n (ptrs f) ∧ Fr w w' (fun b => b = bm) := by
  have n2 : gb ≠ bm := fun e => by
    obtain ⟨D, ⟨es, clock, hb, _⟩, _⟩ := hm
    rw [← e, hg] at hb
    cases hb
  have c2 : w.cell? ⟨gb, 2, none⟩ = some (.map (some bm)) := cellB hg rfl
  go_enter Try.func31, Try.ntmps31
  go_wp2_with (first
    | (at_mapUpdate; refine wp_store _ rfl _ _ _ 53 rfl 9 62 Try.underlying9 Try.underlying53 bm n0 (ptrs A) rfl hm hn key _ rfl rfl hkey ?_; intro w2 hm2 ht2)
    | go_in)
  have hm3 : MapAt Try.prog 9 w2 bm (insC A key n0) (ptrs (ins A key mb)) := by
    rw [← insN_ptrs, ← ptrs_ins]
    exact hm2
  have fr2 : Fr w w2 (fun b => b = bm) := (Fr.refl w _).grown ht2.grown (by simp)
  clear hm2 ht2
  go_frame
  go_loopw [6] (fun _ wr => ∃ (f : K → Option Nat) (n : Nat), Hid (Ev (ins A key mb) (insC A key n0) f n) ∧ Hid ((insC A key n0 : Int) ≤ room → f = ins A key mb ∧ n = insC A key n0) ∧ MapAt Try.prog 9 wr bm n (ptrs f) ∧ Fr w wr (fun b => b = bm)) (fun _ wr => mapN wr bm)
  case atStart => exact ⟨_, _, Ev.refl, fun _ => ⟨rfl, rfl⟩, hm3, fr2⟩
  case round =>
    obtain ⟨f, n, hev, hex, hmr, frr⟩ := hrel
    clear hm3 fr2
    obtain ⟨wo, hwo⟩ : ∃ wo : World, wo = wr := ⟨_, rfl⟩
    rw [← hwo] at hmr frr ⊢
    clear hwo
    have hgr : wo.heap[gb]? = some (.cells (graphCells rule bi bm room now clock runs stack) 56 (0, 0)) := frr.block' hg n2
    have d2 : wo.cell? ⟨gb, 2, none⟩ = some (.map (some bm)) := cellB hgr rfl
    have d3 : wo.cell? ⟨gb, 3, none⟩ = some (.int .i64 room) := cellB hgr rfl
    have hcnt := hmr.count
    obtain ⟨D, hown, hsz, hh⟩ := hmr
    by_cases hgt : room < (n : Int)
    · have hd : decide ((n : Int) > room) = true := by simpa using hgt
      go_wp2
      go_region_law (refine step_len rfl _ 53 rfl 9 62 Try.underlying53 bm _ _ rfl (show MapAt Try.prog 9 wo.drew bm n (ptrs f) from ⟨D, hown, hsz, hh⟩) ?_)
      all_goals
        go_wp2_with (first
          | (at_range; refine wpList_range_own _ rfl _ 53 rfl 9 62 keyed9 Try.underlying53 held bm n D rfl hown ?_; intro w4 hrg0 hg0 hs0)
          | go_in)
        go_frame
        have hs : wo.heap.size < w4.heap.size := by simp only [World.drew] at hs0; omega
        have fr4 : Fr wo w4 (fun _ => False) := ((Fr.refl wo (fun _ => False)).drew).grown hg0 (by simp)
        generalize hr0 : (World.heap _).size = r at hrg0
        have hrr : wo.heap.size ≤ r := by rw [← hr0]; simp only [World.drew]; omega
        clear hr0 hg0 hs0 hd
        have Hcnt := Lib.hid hcnt
        clear hcnt
        go_loopw [6] (fun o wi => ∃ (left : Lit → Bool) (cnt : Nat) (ok : ByteArray), o = .string ok ∧ ok.size ≤ maxLen ∧ wi.ranges Try.prog 9 held bm r n D left cnt ∧ ((f ok).isSome = true ∨ cnt = n) ∧ Fr wo wi (fun _ => False)) (fun _ wi => wi.rangeLeft bm r)
        case atStart => exact ⟨_, _, ⟨#[]⟩, rfl, by decide, hrg0, Or.inr hsz, fr4⟩
        case round =>
          clear hrg0 fr4
          obtain ⟨left, cnt, ok, rfl, hok, hrg, hor, fri⟩ := hrel
          go_wp2_with (first
            | (at_next; refine wpList_next_ranges _ rfl _ rfl 9 keyed9 held Value.string (fun v : Value => v) (fun key kl h => by obtain ⟨x, h, _⟩ := key_inv key kl h; exact ⟨x, h⟩) (fun v _ _ => ⟨v, rfl⟩) bm r n D left cnt rfl hrg ?_ ?_)
            | go_in)
          · intro hc0 _
            have hsome : (f ok).isSome = true := by
              rcases hor with h | h
              · exact h
              · omega
            have hmi : MapAt Try.prog 9 wr bm n (ptrs f) := ⟨D, hrg.owns, hsz, hh⟩
            have gi := fri.block' hgr id
            have i2 : wr.cell? ⟨gb, 2, none⟩ = some (.map (some bm)) := cellB gi rfl
            clear hor
            go_wp2_with (first
              | (at_delete; refine wp_drop _ rfl _ _ 53 9 rfl 62 Try.underlying9 Try.underlying53 bm n (ptrs f) rfl hmi ok rfl hok ?_; intro w6 hm6 ht6)
              | go_in)
            go_frame
            have hm7 : MapAt Try.prog 9 w6 bm (n - 1) (ptrs (del f ok)) := by
              rw [← ptrs_del]
              have e : delN (ptrs f) ok n = n - 1 := by rw [delN_ptrs]; unfold delC; rw [if_pos hsome]
              rw [← e]
              exact hm6
            go_roundw
            case rel =>
              refine ⟨_, _, hev.drop ok hsome, fun h => ?_, hm7, (frr.trans (fri.mono (fun _ h => h.elim))).grown ht6.grown (by simp)⟩
              have := (hex h).2
              omega
            case measure => rw [hm7.count, Hcnt.out]; omega
          · intro x c kl y1 y2 w5 cnt1 hkx hlx hyx hat hrg1 hlt1 hg5 hs5 hen
            obtain ⟨x', ex, hkl, hxs⟩ := key_inv (.string x) kl hkx
            injection ex with ex
            subst ex
            subst hkl
            obtain ⟨b, hfb, rfl⟩ := range_val hh hyx hat
            have fr5 : Fr wo w5 (fun _ => False) := fri.grown hg5 (by intro i hi; cases hi; exact Or.inr hrr)
            have hm5 : MapAt Try.prog 9 w5 bm n (ptrs f) := ⟨D, hrg1.owns, hsz, hh⟩
            have g5 := fr5.block' hgr id
            have i2 : w5.cell? ⟨gb, 2, none⟩ = some (.map (some bm)) := cellB g5 rfl
            have memo : ∀ {k b}, f k = some b → ∃ us : Int, w5.cell? ⟨b, 4, none⟩ = some (.int .i64 us) := by
              intro k b hk
              have h0 : ins A key mb k = some b := by
                rcases Ev.sub hev k with e | e
                · rw [hk] at e; cases e
                · exact e.symm.trans hk
              obtain ⟨a, nv, lo, ch, us, hb⟩ := hA k b h0
              have hne : b ≠ bm := fun e => by
                obtain ⟨D', ⟨es, clock', hb', _⟩, _⟩ := hm
                rw [← e, hb] at hb'
                cases hb'
              exact ⟨us, cellB (fr5.block' (frr.block' hb hne) id) rfl⟩
            obtain ⟨ux, hux⟩ := memo hfb
            unfold ptr at hen
            cases hy : f ok with
            | none =>
              clear hor
              go_wp2_with (first
                | (at_lookup; refine wp_look_none _ rfl _ _ 53 false rfl 9 62 Try.underlying9 Try.underlying53 _ (zero62 _) bm n (ptrs f) rfl hm5 ok rfl hok (ptrs_none hy) ?_)
                | go_in)
              go_quiet (fail)
              go_wp2
              go_roundw
              case rel => exact ⟨_, cnt1, x, rfl, hxs, ranges_drewN hrg1 _, Or.inl (by rw [hfb]; rfl), fr_drewN fr5 _⟩
              case measure =>
                have e : World.rangeLeft w5 bm r = cnt1 := hrg1.left_eq
                have e' : World.rangeLeft wr bm r = cnt := hrg.left_eq
                show World.rangeLeft w5 bm r < World.rangeLeft wr bm r
                omega
            | some b2 =>
              obtain ⟨uy, huy⟩ := memo hy
              clear hor memo
              by_cases h1 : ux < uy
              · go_wp2_with (first
                  | (at_lookup; refine wp_look_some _ rfl _ _ 53 false rfl 9 62 Try.underlying9 Try.underlying53 _ (zero62 _) bm n (ptrs f) rfl hm5 ok rfl hok _ (ptrs_eq hy) ?_)
                  | go_in)
                go_quiet (fail)
                go_wp2
                go_roundw
                case rel => exact ⟨_, cnt1, x, rfl, hxs, ranges_drewN hrg1 _, Or.inl (by rw [hfb]; rfl), fr_drewN fr5 _⟩
                case measure =>
                  have e : World.rangeLeft w5 bm r = cnt1 := hrg1.left_eq
                  have e' : World.rangeLeft wr bm r = cnt := hrg.left_eq
                  show World.rangeLeft w5 bm r < World.rangeLeft wr bm r
                  omega
              · have d1 : decide (ux < uy) = false := by simpa using h1
                by_cases h2 : ux = uy
                · have d2 : (ux == uy) = true := by simpa using h2
                  clear h2
                  go_wp2_with (first
                    | (at_lookup; refine wp_look_some _ rfl _ _ 53 false rfl 9 62 Try.underlying9 Try.underlying53 _ (zero62 _) bm n (ptrs f) rfl hm5 ok rfl hok _ (ptrs_eq hy) ?_)
                    | go_in)
                  go_quiet (fail)
                  go_wp2
                  · go_roundw
                    case rel => exact ⟨_, cnt1, x, rfl, hxs, ranges_drewN hrg1 _, Or.inl (by rw [hfb]; rfl), fr_drewN fr5 _⟩
                    case measure =>
                      have e : World.rangeLeft w5 bm r = cnt1 := hrg1.left_eq
                      have e' : World.rangeLeft wr bm r = cnt := hrg.left_eq
                      show World.rangeLeft w5 bm r < World.rangeLeft wr bm r
                      omega
                  · go_roundw
                    case rel => exact ⟨_, cnt1, ok, rfl, hok, ranges_drewN hrg1 _, Or.inl (by rw [hy]; rfl), fr_drewN fr5 _⟩
                    case measure =>
                      have e : World.rangeLeft w5 bm r = cnt1 := hrg1.left_eq
                      have e' : World.rangeLeft wr bm r = cnt := hrg.left_eq
                      show World.rangeLeft w5 bm r < World.rangeLeft wr bm r
                      omega
                · have d2 : (ux == uy) = false := by simpa using h2
                  clear h2
                  go_wp2_with (first
                    | (at_lookup; refine wp_look_some _ rfl _ _ 53 false rfl 9 62 Try.underlying9 Try.underlying53 _ (zero62 _) bm n (ptrs f) rfl hm5 ok rfl hok _ (ptrs_eq hy) ?_)
                    | go_in)
                  go_quiet (fail)
                  go_wp2
                  go_roundw
                  case rel => exact ⟨_, cnt1, ok, rfl, hok, ranges_drewN hrg1 _, Or.inl (by rw [hy]; rfl), fr_drewN fr5 _⟩
                  case measure =>
                    have e : World.rangeLeft w5 bm r = cnt1 := hrg1.left_eq
                    have e' : World.rangeLeft wr bm r = cnt := hrg.left_eq
                    show World.rangeLeft w5 bm r < World.rangeLeft wr bm r
                    omega
    · have hd : decide ((n : Int) > room) = false := by simpa using hgt
      go_wp2
      go_region_law (refine step_len rfl _ 53 rfl 9 62 Try.underlying53 bm _ _ rfl (show MapAt Try.prog 9 wo.drew bm n (ptrs f) from ⟨D, hown, hsz, hh⟩) ?_)
      all_goals
        go_wp2
        go_end0
        exact ⟨rfl, f, n, hev, by omega, hex, ⟨D, hown, hsz, hh⟩, frr.drew⟩
end Go.Proofs.Ytelddnalpkhclaa
