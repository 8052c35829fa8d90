/- Plain: what the law's rule asks for, and how long its answers are. -/
import Derived.Test.YtelddnalpkhclaaRule
namespace Go.Proofs.Ytelddnalpkhclaa
open G

def lowers : List K := (List.range 26).map fun i => ⟨#[UInt8.ofNat (97 + i)]⟩
def uppers : List K := (List.range 26).map fun i => ⟨#[UInt8.ofNat (65 + i)]⟩
def U : List K := lowers ++ uppers
theorem U_length : U.length = 52 := by decide
theorem lowers_length : lowers.length = 26 := by decide
theorem mem_lower {b : UInt8} (h : 97 ≤ b ∧ b ≤ 122) : (⟨#[b]⟩ : K) ∈ lowers := by
  have h1 : 97 ≤ b.toNat := UInt8.le_iff_toNat_le.1 h.1
  have h2 : b.toNat ≤ 122 := UInt8.le_iff_toNat_le.1 h.2
  refine List.mem_map.2 ⟨b.toNat - 97, by simp; omega, ?_⟩
  have e : UInt8.ofNat (97 + (b.toNat - 97)) = b := by
    rw [show 97 + (b.toNat - 97) = b.toNat by omega]
    simp
  rw [e]
theorem mem_upper {b : UInt8} (h : 97 ≤ b ∧ b ≤ 122) : (⟨#[b - 32]⟩ : K) ∈ uppers := by
  have h1 : 97 ≤ b.toNat := UInt8.le_iff_toNat_le.1 h.1
  have h2 : b.toNat ≤ 122 := UInt8.le_iff_toNat_le.1 h.2
  have e0 : (b - 32).toNat = b.toNat - 32 := UInt8.toNat_sub_of_le b 32 (UInt8.le_iff_toNat_le.2 (Nat.le_trans (by decide) h1))
  refine List.mem_map.2 ⟨b.toNat - 97, by simp; omega, ?_⟩
  have e : UInt8.ofNat (65 + (b.toNat - 97)) = b - 32 := by
    rw [show 65 + (b.toNat - 97) = (b - 32).toNat by omega]
    simp
  rw [e]
theorem U_size : ∀ k ∈ U, k.size = 1 := by
  intro k hk
  rcases List.mem_append.1 hk with h | h
  · obtain ⟨i, _, rfl⟩ := List.mem_map.1 h; rfl
  · obtain ⟨i, _, rfl⟩ := List.mem_map.1 h; rfl

def LoopOk (n len M : Nat) : Tree → Prop
  | .ask j _ => j ∈ lowers ∧ n < len
  | .ret (.ok s) => s.size ≤ 200 + M
  | .ret (.err e) => e = 3
theorem LoopOk.more {n len M : Nat} {t : Tree} (h : LoopOk n len M t) : LoopOk n (len + 1) M t := by
  cases t with
  | ask j c => exact ⟨h.1, Nat.lt_succ_of_lt h.2⟩
  | ret r => cases r <;> exact h
theorem LoopOk.more2 {n len M : Nat} {t : Tree} (h : LoopOk n len M t) : LoopOk (n + 1) (len + 1) M t := by
  cases t with
  | ask j c => exact ⟨h.1, Nat.succ_lt_succ h.2⟩
  | ret r => cases r <;> exact h
/-- what a run of the rule's text can come to -/
theorem loop_run : ∀ (l : List UInt8) (out : K) (vs : List (K × K)) (t : Tree) (M : Nat), goT (loopT l out) vs = some t → out.size ≤ 200 + M → (∀ p ∈ vs, p.2.size ≤ M) →
    vs.length ≤ l.length ∧ (∀ p ∈ vs, p.1 ∈ lowers) ∧ LoopOk vs.length l.length M t
  | [], out, vs, t, M, h, ho, _ => by
    cases vs with
    | nil =>
      simp only [loopT, goT, Option.some.injEq] at h
      subst h
      exact ⟨Nat.le_refl _, by simp, ho⟩
    | cons p vs => obtain ⟨j, v⟩ := p; simp [loopT, goT] at h
  | b :: bs, out, vs, t, M, h, ho, hv => by
    have fin : ∀ r : Res, loopT (b :: bs) out = .ret r → LoopOk 0 0 M (.ret r) → vs.length ≤ (b :: bs).length ∧ (∀ p ∈ vs, p.1 ∈ lowers) ∧ LoopOk vs.length (b :: bs).length M t := by
      intro r hr hr2
      rw [hr] at h
      cases vs with
      | nil =>
        simp only [goT, Option.some.injEq] at h
        subst h
        refine ⟨by simp, by simp, ?_⟩
        cases r <;> exact hr2
      | cons p vs => obtain ⟨j, v⟩ := p; simp [goT] at h
    have go : ∀ out', loopT (b :: bs) out = loopT bs out' → out'.size ≤ 200 + M → vs.length ≤ (b :: bs).length ∧ (∀ p ∈ vs, p.1 ∈ lowers) ∧ LoopOk vs.length (b :: bs).length M t := by
      intro out' hr ho'
      rw [hr] at h
      obtain ⟨a1, a2, a3⟩ := loop_run bs out' vs t M h ho' hv
      exact ⟨by simp only [List.length_cons]; omega, a2, a3.more⟩
    by_cases hbig : 200 ≤ out.size
    · exact fin (.ok out) (by rw [loopT, if_pos hbig]) ho
    · by_cases hL : 97 ≤ b ∧ b ≤ 122
      · rw [loopT, if_neg hbig, if_pos hL] at h
        cases vs with
        | nil =>
          simp only [goT, Option.some.injEq] at h
          subst h
          exact ⟨by simp, by simp, mem_lower hL, by simp⟩
        | cons p vs =>
          obtain ⟨j, v⟩ := p
          simp only [goT] at h
          split at h
          · rename_i e
            subst e
            have hv1 := hv (⟨#[b]⟩, v) (List.mem_cons_self ..)
            obtain ⟨a1, a2, a3⟩ := loop_run bs (out ++ v) vs t M h (by rw [ByteArray.size_append]; simp only at hv1; omega) (fun p hp => hv p (List.mem_cons_of_mem _ hp))
            refine ⟨by simp only [List.length_cons]; omega, fun p hp => ?_, ?_⟩
            · rcases List.mem_cons.1 hp with rfl | hp
              · exact mem_lower hL
              · exact a2 p hp
            · exact a3.more2
          · cases h
      · by_cases h33 : b = 33
        · exact fin (.err 3) (by rw [loopT, if_neg hbig, if_neg hL, if_pos h33]) rfl
        · by_cases h63 : b = 63
          · by_cases h0 : out = ⟨#[]⟩
            · exact fin (.ok ⟨#[]⟩) (by rw [loopT, if_neg hbig, if_neg hL, if_neg h33, if_pos h63, if_pos h0]) (Nat.zero_le _)
            · exact go out (by rw [loopT, if_neg hbig, if_neg hL, if_neg h33, if_pos h63, if_neg h0]) ho
          · by_cases h37 : b = 37
            · refine go _ (by rw [loopT, if_neg hbig, if_neg hL, if_neg h33, if_neg h63, if_pos h37]) ?_
              split
              · simp; omega
              · exact ho
            · refine go _ (by rw [loopT, if_neg hbig, if_neg hL, if_neg h33, if_neg h63, if_neg h37]) ?_
              rw [ByteArray.size_append]
              show out.size + 1 ≤ 200 + M
              omega

def RtOk (key : K) (M : Nat) : Tree → Prop
  | .ask j _ => j ∈ U ∧ key ∈ lowers
  | .ret (.ok s) => s.size ≤ 200 + M ∧ key ∈ lowers
  | .ret (.err e) => e = 3
theorem rt_run {key : K} {vs : List (K × K)} {t : Tree} {M : Nat} (h : goT (rt key) vs = some t) (hv : ∀ p ∈ vs, p.2.size ≤ M) :
    vs.length ≤ M + 1 ∧ (∀ p ∈ vs, p.1 ∈ U) ∧ RtOk key M t := by
  by_cases hk : ∃ hs : key.size = 1, (97 : UInt8) ≤ key[0] ∧ key[0] ≤ (122 : UInt8)
  · obtain ⟨hs, hb⟩ := hk
    have hkl : key ∈ lowers := by
      have e : key = ⟨#[key[0]]⟩ := by
        obtain ⟨⟨l⟩⟩ := key
        match l, hs with
        | [b], _ => rfl
      rw [e]
      exact mem_lower hb
    rw [rt_letter hs hb] at h
    cases vs with
    | nil =>
      simp only [goT, Option.some.injEq] at h
      subst h
      exact ⟨by simp, by simp, List.mem_append_right _ (mem_upper hb), hkl⟩
    | cons p vs =>
      obtain ⟨j, v⟩ := p
      simp only [goT] at h
      split at h
      · rename_i e
        subst e
        have hv1 := hv (⟨#[key[0] - 32]⟩, v) (List.mem_cons_self ..)
        obtain ⟨a1, a2, a3⟩ := loop_run v.data.toList ⟨#[]⟩ vs t M h (Nat.zero_le _) (fun p hp => hv p (List.mem_cons_of_mem _ hp))
        have hlen : v.data.toList.length = v.size := by simp
        refine ⟨by simp only [List.length_cons]; simp only at hv1; omega, fun p hp => ?_, ?_⟩
        · rcases List.mem_cons.1 hp with rfl | hp
          · exact List.mem_append_right _ (mem_upper hb)
          · exact List.mem_append_left _ (a2 p hp)
        · cases t with
          | ask j c => exact ⟨List.mem_append_left _ a3.1, hkl⟩
          | ret r =>
            cases r with
            | ok s => exact ⟨a3, hkl⟩
            | err e => exact a3
      · cases h
  · rw [rt_other (fun hs hb => hk ⟨hs, hb⟩)] at h
    cases vs with
    | nil =>
      simp only [goT, Option.some.injEq] at h
      subst h
      exact ⟨by simp, by simp, rfl⟩
    | cons p vs => obtain ⟨j, v⟩ := p; simp [goT] at h
theorem max_size (vs : List (K × K)) : ∃ M, ∀ p ∈ vs, p.2.size ≤ M := by
  induction vs with
  | nil => exact ⟨0, by simp⟩
  | cons p vs ih =>
    obtain ⟨M, hM⟩ := ih
    refine ⟨max p.2.size M, fun q hq => ?_⟩
    rcases List.mem_cons.1 hq with rfl | hq
    · omega
    · have := hM q hq; omega
theorem asksIn : AsksIn rt U := by
  intro k vs j c h
  obtain ⟨M, hM⟩ := max_size vs
  exact (rt_run h hM).2.2.1
theorem inLowers : ∀ k vs s, goT (rt k) vs = some (.ret (.ok s)) → k ∈ lowers := by
  intro k vs s h
  obtain ⟨M, hM⟩ := max_size vs
  exact (rt_run h hM).2.2.2
theorem errThree {k : K} {vs : List (K × K)} {e : Int} (h : goT (rt k) vs = some (.ret (.err e))) : e = 3 := by
  obtain ⟨M, hM⟩ := max_size vs
  exact (rt_run h hM).2.2

theorem of_goodH {rt : K → Tree} {I : K → Option K} : ∀ (f : Nat) {ab : List K} {k s : K}, ofF rt I f k ab = .ok s → GoodH rt I f k s := by
  intro f
  induction f with
  | zero => intro ab k s h; simp [ofF] at h
  | succ f ih =>
    intro ab k s h
    rw [ofF] at h
    cases hi : I k with
    | some v => rw [hi] at h; simp only [Res.ok.injEq] at h; subst h; exact Or.inl hi
    | none =>
      rw [hi] at h
      simp only at h
      split at h
      · cases h
      · obtain ⟨vs, h1, h2⟩ := evalT_ok h
        exact Or.inr ⟨hi, vs, h1, fun p hp => ih (h2 p hp)⟩
theorem goodH_size {I : K → Option K} (hI : ∀ j v, I j = some v → v.size ≤ 200) : ∀ (n : Nat) {k s : K}, GoodH rt I n k s → s.size ≤ 200 * (n + 1)
  | 0, k, s, h => by have := hI k s h; omega
  | n + 1, k, s, h => by
    rcases h with h | ⟨_, vs, h1, h2⟩
    · have := hI k s h; omega
    · have := (rt_run h1 (fun p hp => goodH_size hI n (h2 p hp))).2.2.1
      omega
theorem stack_nil : StackOk U [] := ⟨List.nodup_nil, by simp⟩
theorem good_size {I : K → Option K} (hI : ∀ j v, I j = some v → v.size ≤ 200) {k s : K} (h : G.Good rt I k s) : s.size ≤ 100000 := by
  obtain ⟨n, hn⟩ := h
  have h1 := good_of asksIn n hn stack_nil (fun h => absurd rfl h) (.nil k)
  have h2 := goodH_size hI _ (of_goodH _ h1)
  unfold fuel at h2
  rw [U_length] at h2
  simp only [List.length_nil] at h2
  omega
end Go.Proofs.Ytelddnalpkhclaa
