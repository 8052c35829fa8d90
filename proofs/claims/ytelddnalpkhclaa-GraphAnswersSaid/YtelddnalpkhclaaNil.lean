/- awake; GraphNil. -/
import Derived.Test.YtelddnalpkhclaaAwake
namespace Go.Proofs.Ytelddnalpkhclaa
open Go.RowKit Go.Maps

set_option maxHeartbeats 2000000 in
theorem awake_ok (w : World) : Calls Try.prog 9 #[] w fun e w' => e = .returned (.bool true) ∧ Below w.heap.size w w' := by
  go_enter Try.func9, Try.ntmps9
  go_wp2_with fail
  refine (new_ok 22 5 (by decide) w).mono ?_
  rintro e w1 ⟨rfl, g1, mi1, mm1, b1, s1⟩
  obtain ⟨N, hN⟩ : ∃ N, w.heap.size = N := ⟨_, rfl⟩
  rw [hN] at g1 mi1 mm1 b1
  have z1 : N ≤ w1.heap.size := by omega
  clear s1
  have hN2 : w.heap.size ≤ N := by omega
  simp only [hN]
  clear hN
  go_wp2_with fail
  refine (set_fresh (N + 2) N (N + 1) 0 0 _ _ _ 5 1 0 0 _ ⟨#[98]⟩ ⟨#[49]⟩ w1 g1 mi1 mm1 (by omega) (by omega) (by omega) (by decide) rfl (by decide)).mono ?_
  rintro e w2 ⟨rfl, g2, mi2, mm2, fr2⟩
  have b2 : Below N w w2 := b1.trans (fr2.below z1 (fun i h => by omega))
  have mm3 : MapAt Try.prog 9 w2 (N + 1) 0 (fun _ => none) := by
    have e : delF (fun _ => none) ⟨#[98]⟩ = fun _ => none := by funext j; simp [delF]
    rw [e] at mm2
    exact mm2
  go_wp2_with fail
  refine (awake_ask (N + 2) N (N + 1) _ _ _ 0 0 _ (wrap64 (1 + 1)) w2 g2 mi2 mm3 (by omega) (by omega) (by omega) rfl rfl).mono ?_
  rintro e w3 ⟨rfl, fr3⟩
  have b3 : Below N w w3 := b2.trans (fr3.below (Nat.le_trans z1 fr2.size) (fun i h => by omega))
  go_wp2_with fail
  refine (new_small 11 w3).mono ?_
  rintro e w4 ⟨rfl, rfl⟩
  go_wp2
  go_ret
  exact ⟨rfl, b3.mono hN2⟩

set_option maxHeartbeats 2000000 in
theorem nil_walk (key : ByteArray) (w : World) : Calls Try.prog 7 #[.string key] w fun e w' => e = .returned (.bool true) ∧ Below w.heap.size w w' := by
  go_enter Try.func7, Try.ntmps7
  go_wp2_with fail
  refine (set_nil key key w).mono ?_
  rintro e w1 ⟨rfl, rfl⟩
  go_wp2_with fail
  refine (ask_nil key _).mono ?_
  rintro e w2 ⟨rfl, rfl⟩
  go_wp2_with fail
  refine (new_bad _ rfl _).mono ?_
  rintro e w3 ⟨rfl, rfl⟩
  go_wp2_with fail
  refine (awake_ok _).mono ?_
  rintro e w4 ⟨rfl, hb⟩
  go_wp2_with fail
  refine (drop_nil key _).mono ?_
  rintro e w5 ⟨rfl, rfl⟩
  go_wp2_with fail
  refine (evict_nil key _).mono ?_
  rintro e w6 ⟨rfl, rfl⟩
  go_wp2_with fail
  refine (runs_nil _).mono ?_
  rintro e w7 ⟨rfl, rfl⟩
  go_wp2_with fail
  refine (known_nil _).mono ?_
  rintro e w8 ⟨rfl, rfl⟩
  go_wp2
  go_ret
  exact ⟨rfl, hb⟩
end Go.Proofs.Ytelddnalpkhclaa
