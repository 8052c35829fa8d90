/- Maps keyed by strings, whatever their elements: what they hold as a function, and how many; the operations on them. -/
import Derived.Test.YtelddnalpkhclaaTree
import Derived.Maps.OwnSet
import Derived.Maps.RangeWalk
import Derived.WalkKit
namespace Go.Proofs.Ytelddnalpkhclaa
open Go.RowKit Go.Maps Go.WideMaps

def held : Value → Option (DataW Value × List MemPlace) := fun v => some (.held v, [])
def klit (k : ByteArray) : Lit := .string k.data.toList
theorem klit_inj {k j : ByteArray} (h : klit k = klit j) : k = j := by
  unfold klit at h
  injection h with h
  cases k; cases j
  simpa using h
theorem klit_ne {k j : ByteArray} (h : k ≠ j) : klit k ≠ klit j := fun e => h (klit_inj e)
theorem klit_key (k : ByteArray) : WideAt.IsKeyLit (klit k) := by simp [klit, WideAt.IsKeyLit]

/-- what a map holds -/
def Holds (D : DataW Value) (f : ByteArray → Option Value) : Prop := ∀ k, match f k with
  | none => Maps.has D (klit k) = false
  | some v => ∀ z, D.atKey (klit k) z = .held v
def MapAt (P : Program) (kt : TypeId) (w : World) (b n : Nat) (f : ByteArray → Option Value) : Prop :=
  ∃ D, w.ownsMap P kt held b n D ∧ Maps.size D = n ∧ Holds D f

def insF (f : ByteArray → Option Value) (k : ByteArray) (v : Value) : ByteArray → Option Value := fun j => if j = k then some v else f j
def delF (f : ByteArray → Option Value) (k : ByteArray) : ByteArray → Option Value := fun j => if j = k then none else f j
def insN (f : ByteArray → Option Value) (k : ByteArray) (n : Nat) : Nat := if (f k).isSome then n else n + 1
def delN (f : ByteArray → Option Value) (k : ByteArray) (n : Nat) : Nat := if (f k).isSome then n - 1 else n

theorem Holds.none {D : DataW Value} {f : ByteArray → Option Value} (h : Holds D f) {k : ByteArray} (hk : f k = none) : Maps.has D (klit k) = false := by
  have := h k; rw [hk] at this; exact this
theorem Holds.some {D : DataW Value} {f : ByteArray → Option Value} (h : Holds D f) {k : ByteArray} {v : Value} (hk : f k = some v) (z : DataW Value) : D.atKey (klit k) z = .held v := by
  have := h k; rw [hk] at this; exact this z
theorem Holds.has {D : DataW Value} {f : ByteArray → Option Value} (h : Holds D f) (k : ByteArray) : Maps.has D (klit k) = (f k).isSome := by
  cases hk : f k with
  | none => simpa using h.none hk
  | some v => simpa using Maps.has_true_of_atKey (h.some hk)
theorem Holds.ins {D : DataW Value} {f : ByteArray → Option Value} (h : Holds D f) (hD : IsMap D) (k : ByteArray) (v : Value) : Holds (D.put (klit k) (.held v)) (insF f k v) := by
  intro j
  unfold insF
  by_cases e : j = k
  · subst e
    simp only [if_true]
    exact fun z => atKey_put_same hD (klit_key j) _ z
  · simp only [e, if_false]
    have := h j
    cases hj : f j with
    | none => rw [hj] at this; simp only; rw [has_put_other (klit_ne e)]; exact this
    | some u => rw [hj] at this; simp only; intro z; rw [atKey_put_other (klit_ne e)]; exact this z
theorem Holds.del {D : DataW Value} {f : ByteArray → Option Value} (h : Holds D f) (k : ByteArray) : Holds (D.del (klit k)) (delF f k) := by
  intro j
  unfold delF
  by_cases e : j = k
  · subst e
    simp only [if_true]
    exact has_del_same
  · simp only [e, if_false]
    have := h j
    cases hj : f j with
    | none => rw [hj] at this; simp only; rw [has_del_other (klit_ne e)]; exact this
    | some u => rw [hj] at this; simp only; intro z; rw [atKey_del_other (klit_ne e)]; exact this z

section
variable {P : Program} {kt : TypeId} {w : World} {b n : Nat} {f : ByteArray → Option Value}

theorem ownsMap_exact {D : DataW Value} {R : Value → Option (DataW Value × List MemPlace)} {m : Nat} (h : w.ownsMap P kt R b m D) : w.ownsMap P kt R b (Maps.size D) D := by
  obtain ⟨es, clock, hb, F, _, rfl⟩ := h
  refine ⟨es, clock, hb, F, ?_, rfl⟩
  simp [Maps.size, length_sorted]
theorem mapAt_made (w : World) (P : Program) (kt : TypeId) : MapAt P kt (w.alloc (.map #[] 0)) w.heap.size 0 (fun _ => none) :=
  ⟨_, World.ownsMap_made w P kt held, rfl, fun _ => rfl⟩
theorem MapAt.lt (h : MapAt P kt w b n f) : b < w.heap.size := by obtain ⟨D, h, _⟩ := h; exact h.lt
theorem MapAt.kept {w' : World} {row : Option Nat} (h : MapAt P kt w b n f) (hg : w.grownBy w' row) (hne : some b ≠ row) : MapAt P kt w' b n f := by
  obtain ⟨D, h, r⟩ := h; exact ⟨D, h.kept hg hne, r⟩
theorem MapAt.alloc (h : MapAt P kt w b n f) (o : Obj) : MapAt P kt (w.alloc o) b n f := by
  obtain ⟨D, h, r⟩ := h; exact ⟨D, h.alloc o, r⟩
theorem MapAt.setCell (h : MapAt P kt w b n f) {a : Addr} (ha : b ≠ a.block) (u : Value) : MapAt P kt (w.setCell a u) b n f := by
  obtain ⟨D, h, r⟩ := h; exact ⟨D, h.setCell ha u, r⟩
theorem MapAt.block {w' : World} (h : MapAt P kt w b n f) (hb : w'.heap[b]? = w.heap[b]?) : MapAt P kt w' b n f := by
  obtain ⟨D, ⟨es, clock, h1, r1⟩, r⟩ := h; exact ⟨D, ⟨es, clock, hb.trans h1, r1⟩, r⟩
theorem MapAt.drew (h : MapAt P kt w b n f) : MapAt P kt w.drew b n f := h

theorem MapAt.look (h : MapAt P kt w b n f) (hk : P.underlying kt = some .string) {t e : TypeId} (ht : P.underlying t = some (.map kt e)) {z : Value} (hz : (zeroValue e).run P w = .ok z w) (c : Bool) {key : ByteArray} (hkey : key.size ≤ maxLen) :
    (Instr.lookup t (.map (some b)) (.string key) c).run P w = .ok (if c then .tuple #[(f key).getD z, .bool (f key).isSome] else (f key).getD z) w := by
  obtain ⟨D, ⟨es, clock, hb, F, _, rfl⟩, _, hf⟩ := h
  have hkl := keyOf_string_mk hk hkey
  rcases Maps.fit_look c (string_keyed hk) ht hz hb F hkl with ⟨hrun, _, hat⟩ | ⟨e0, y, _, _, hrun, hRv, hat, _⟩
  · have hno : f key = none := by
      cases hj : f key with
      | none => rfl
      | some v =>
        have h1 := hf.some hj .nil
        rw [show klit key = .string key.data.toList from rfl, hat .nil] at h1
        cases h1
    rw [hrun, hno]
    cases c <;> rfl
  · have hy : y = (.held e0.val, []) := by
      simp only [held, Option.some.injEq] at hRv
      exact hRv.symm
    subst hy
    have hyes : f key = some e0.val := by
      cases hj : f key with
      | none =>
        have h1 := hf.none hj
        rw [show klit key = .string key.data.toList from rfl, Maps.has_true_of_atKey hat] at h1
        cases h1
      | some v =>
        have h1 := hf.some hj .nil
        rw [show klit key = .string key.data.toList from rfl, hat .nil] at h1
        injection h1 with h1
        rw [h1]
    rw [hrun, hyes]
    cases c <;> rfl
theorem MapAt.store (h : MapAt P kt w b n f) (hk : P.underlying kt = some .string) {t e : TypeId} (ht : P.underlying t = some (.map kt e)) (hn : n < maxLen) {key : ByteArray} (hkey : key.size ≤ maxLen) (v : Value) :
    ∃ w', (Instr.mapUpdate t (.map (some b)) (.string key) v).run P w = .ok () w' ∧ MapAt P kt w' b (insN f key n) (insF f key v) ∧ w.mapTurned w' b := by
  obtain ⟨D, ho, hs, hf⟩ := h
  have hkl := keyOf_string_mk hk hkey
  obtain ⟨w', h1, h2, h3⟩ := ho.store (string_keyed hk) ht hn (val := v) (d := .held v) (ps := []) hkl rfl
  refine ⟨w', h1, ⟨_, ?_, ?_, hf.ins ho.isMap key v⟩, h3⟩
  · have := ownsMap_exact h2
    rw [size_put (ho.tidy (string_keyed hk)) _, show Lit.string key.data.toList = klit key from rfl, hf.has key, hs] at this
    exact this
  · rw [size_put (ho.tidy (string_keyed hk)) _, hf.has key, hs]; rfl
theorem MapAt.drop (h : MapAt P kt w b n f) (hk : P.underlying kt = some .string) {t e : TypeId} (ht : P.underlying t = some (.map kt e)) {key : ByteArray} (hkey : key.size ≤ maxLen) (ty : TypeId) :
    ∃ w', (Builtin.delete_ #[t, kt] ty #[.map (some b), .string key]).run P w = .ok (.tuple #[]) w' ∧ MapAt P kt w' b (delN f key n) (delF f key) ∧ w.mapTurned w' b := by
  obtain ⟨D, ho, hs, hf⟩ := h
  have hkl := keyOf_string_mk hk hkey
  obtain ⟨w', h1, h2, h3⟩ := ho.drop (string_keyed hk) ht hkl ty
  have hsz : Maps.size (D.del (klit key)) = delN f key n := by
    have := size_del (k := klit key) (ho.tidy (string_keyed hk))
    rw [hf.has key, hs] at this
    unfold delN
    split at this <;> simp_all <;> omega
  refine ⟨w', h1, ⟨_, ?_, hsz, hf.del key⟩, h3⟩
  have := ownsMap_exact h2
  rw [show Lit.string key.data.toList = klit key from rfl, hsz] at this
  exact this
theorem MapAt.len (h : MapAt P kt w b n f) {t e : TypeId} (ht : P.underlying t = some (.map kt e)) (ty : TypeId) : (Builtin.len_ #[t] ty #[.map (some b)]).run P w = .ok (.int .i64 n) w := by
  obtain ⟨D, ho, hs, _⟩ := h
  rw [ho.len ht ty, hs]
end

/-! ### at the operations -/
section
variable {P : Program} (w : World) {ops : Array Oper} {rest : List Oper} {o : Oper} {a : Act} {Q : Exit → Act → World → Prop}

theorem wp_look_some (hg : o.guard = none) (m x : Operand) (t : TypeId) (c : Bool) (hop : o.op = Op.lookup t m x c) (k e : TypeId) (hk : P.underlying k = some .string) (ht : P.underlying t = some (.map k e)) (z : Value) (hz : (zeroValue e).run P w = .ok z w)
    (b n : Nat) (f : ByteArray → Option Value) (hm : a.eval m = .map (some b)) (h : MapAt P k w b n f) (key : ByteArray) (hx : a.eval x = .string key) (hkey : key.size ≤ maxLen) (v : Value) (hv : f key = some v)
    (hK : wpList P ops Q rest (a.put o.dst (if c then .tuple #[v, .bool true] else v)) w) : wpList P ops Q (o :: rest) a w := by
  refine wpList_plain hg fun K' hK' => ?_
  have hrun := h.look hk ht hz c hkey
  rw [hv] at hrun
  unfold Oper.wp
  simp [execOp, hop, hm, hx, hrun, Result.andThen]
  exact hK' _ _ hK
theorem wp_look_none (hg : o.guard = none) (m x : Operand) (t : TypeId) (c : Bool) (hop : o.op = Op.lookup t m x c) (k e : TypeId) (hk : P.underlying k = some .string) (ht : P.underlying t = some (.map k e)) (z : Value) (hz : (zeroValue e).run P w = .ok z w)
    (b n : Nat) (f : ByteArray → Option Value) (hm : a.eval m = .map (some b)) (h : MapAt P k w b n f) (key : ByteArray) (hx : a.eval x = .string key) (hkey : key.size ≤ maxLen) (hv : f key = none)
    (hK : wpList P ops Q rest (a.put o.dst (if c then .tuple #[z, .bool false] else z)) w) : wpList P ops Q (o :: rest) a w := by
  refine wpList_plain hg fun K' hK' => ?_
  have hrun := h.look hk ht hz c hkey
  rw [hv] at hrun
  unfold Oper.wp
  simp [execOp, hop, hm, hx, hrun, Result.andThen]
  exact hK' _ _ hK
theorem wp_store (hg : o.guard = none) (m x v : Operand) (t : TypeId) (hop : o.op = Op.mapUpdate t m x v) (k e : TypeId) (hk : P.underlying k = some .string) (ht : P.underlying t = some (.map k e))
    (b n : Nat) (f : ByteArray → Option Value) (hm : a.eval m = .map (some b)) (h : MapAt P k w b n f) (hn : n < maxLen) (key : ByteArray) (val : Value) (hx : a.eval x = .string key) (hv : a.eval v = val) (hkey : key.size ≤ maxLen)
    (hK : ∀ w', MapAt P k w' b (insN f key n) (insF f key val) → w.mapTurned w' b → wpList P ops Q rest (a.put o.dst undef) w') : wpList P ops Q (o :: rest) a w := by
  refine wpList_plain hg fun K' hK' => ?_
  obtain ⟨w', hrun, r1, r2⟩ := h.store hk ht hn hkey val
  unfold Oper.wp
  simp [execOp, hop, hm, hx, hv, hrun, Result.andThen]
  exact hK' _ _ (hK w' r1 r2)
theorem wp_drop (hg : o.guard = none) (m x : Operand) (t k : TypeId) (hop : o.op = Op.call { callee := Callee.builtin Builtin.delete, args := #[m, x], argTypes := #[t, k] }) (e : TypeId) (hk : P.underlying k = some .string) (ht : P.underlying t = some (.map k e))
    (b n : Nat) (f : ByteArray → Option Value) (hm : a.eval m = .map (some b)) (h : MapAt P k w b n f) (key : ByteArray) (hx : a.eval x = .string key) (hkey : key.size ≤ maxLen)
    (hK : ∀ w', MapAt P k w' b (delN f key n) (delF f key) → w.mapTurned w' b → wpList P ops Q rest (a.put o.dst (.tuple #[])) w') : wpList P ops Q (o :: rest) a w := by
  refine wpList_plain hg fun K' hK' => ?_
  obtain ⟨w', hrun, r1, r2⟩ := h.drop hk ht hkey o.type
  unfold Oper.wp
  simp [execOp, hop, resolve, invoke, builtin, hm, hx, hrun, Result.andThen]
  exact hK' _ _ (hK w' r1 r2)
theorem wp_len (hg : o.guard = none) (m : Operand) (t : TypeId) (hop : o.op = Op.call { callee := Callee.builtin Builtin.len, args := #[m], argTypes := #[t] }) (k e : TypeId) (ht : P.underlying t = some (.map k e))
    (b n : Nat) (f : ByteArray → Option Value) (hm : a.eval m = .map (some b)) (h : MapAt P k w b n f) (hK : wpList P ops Q rest (a.put o.dst (.int .i64 n)) w) : wpList P ops Q (o :: rest) a w := by
  refine wpList_plain hg fun K' hK' => ?_
  unfold Oper.wp
  simp [execOp, hop, resolve, invoke, builtin, hm, h.len ht o.type, Result.andThen]
  exact hK' _ _ hK
end
end Go.Proofs.Ytelddnalpkhclaa
