/- Maps from keys of one kind to int, as lists of pairs: what is looked up, stored, deleted and counted. -/
import Derived.Test.YtcofpmmoijnfiaaB
import Derived.Maps.Own
import Derived.Maps.OwnOps
import Derived.Maps.OwnSet
import Derived.Maps.Views
import Derived.StringKeys
namespace Go.Proofs.Ytcofpmmoijnfiaa
open Go.RowKit Go.Maps

/-- How a type's keys stand: as values, as literals. -/
structure KeyT (P : Program) (t kty : TypeId) (κ : Type) (enc : κ → Value) (kl : κ → Lit) (Wf : κ → Prop) : Prop where
  keyed : Keyed P kty
  ht : P.underlying t = some (.map kty 3)
  h3 : P.underlying 3 = some (.int .i64)
  zero : ∀ w, (zeroValue 3).run P w = .ok (.int .i64 0) w
  key : ∀ k, Wf k → keyOf P kty (enc k) = some (kl k)
  inj : ∀ a b, Wf a → Wf b → kl a = kl b → a = b
  lit : ∀ k, WideAt.IsKeyLit (kl k)
  whole : ∀ v l, keyOf P kty v = some l → ∃ k, Wf k ∧ v = enc k ∧ l = kl k

section
variable {κ : Type} [DecidableEq κ]

def cnt (L : List (κ × Int)) (s : κ) : Int := match L.find? (fun p => decide (p.1 = s)) with | some p => p.2 | none => 0
def hasK (L : List (κ × Int)) (s : κ) : Bool := L.any (fun p => decide (p.1 = s))

theorem cnt_of_not_has {L : List (κ × Int)} {s : κ} (h : hasK L s = false) : cnt L s = 0 := by
  unfold cnt
  rw [List.find?_eq_none.2]
  intro x hx
  unfold hasK at h
  rw [List.any_eq_false] at h
  exact h x hx

/-- The datum D reads as the list L, as far as keys that are well formed go. -/
structure MRel (kl : κ → Lit) (Wf : κ → Prop) (D : DataW Unit) (L : List (κ × Int)) : Prop where
  at_ : ∀ s, Wf s → D.atKey (kl s) (.lit (.int .i64 0)) = .lit (.int .i64 (cnt L s))
  has : ∀ s, Wf s → Maps.has D (kl s) = hasK L s
  size : Maps.size D = L.length
  wf : ∀ p ∈ L, Wf p.1

/-- L' is L with n at k. -/
structure PutL (L : List (κ × Int)) (k : κ) (n : Int) (L' : List (κ × Int)) : Prop where
  same : cnt L' k = n
  hasS : hasK L' k = true
  other : ∀ s, s ≠ k → cnt L' s = cnt L s
  hasO : ∀ s, s ≠ k → hasK L' s = hasK L s
  size : L'.length = if hasK L k then L.length else L.length + 1
  mem : ∀ p ∈ L', p.1 = k ∨ p ∈ L

/-- L' is L without k. -/
structure DelL (L : List (κ × Int)) (k : κ) (L' : List (κ × Int)) : Prop where
  hasS : hasK L' k = false
  other : ∀ s, s ≠ k → cnt L' s = cnt L s
  hasO : ∀ s, s ≠ k → hasK L' s = hasK L s
  size : L'.length + (if hasK L k then 1 else 0) = L.length
  mem : ∀ p ∈ L', p ∈ L

variable {P : Program} {t kty : TypeId} {enc : κ → Value} {kl : κ → Lit} {Wf : κ → Prop}

theorem MRel.nil (kl : κ → Lit) (Wf : κ → Prop) : MRel kl Wf (.map []) ([] : List (κ × Int)) := ⟨fun _ _ => rfl, fun _ _ => rfl, rfl, by simp⟩

theorem MRel.put (T : KeyT P t kty κ enc kl Wf) {D : DataW Unit} {L L' : List (κ × Int)} {k : κ} {n : Int} (h : MRel kl Wf D L) (hD : Tidy D) (hk : Wf k) (hp : PutL L k n L') : MRel kl Wf (D.put (kl k) (.lit (.int .i64 n))) L' where
  at_ s hs := by
    by_cases e : s = k
    · subst e; rw [Maps.atKey_put_same hD.isMap (T.lit _), hp.same]
    · rw [Maps.atKey_put_other (fun h => e (T.inj _ _ hs hk h)), h.at_ s hs, hp.other s e]
  has s hs := by
    by_cases e : s = k
    · subst e; rw [Maps.has_put_same hD.isMap (T.lit _), hp.hasS]
    · rw [Maps.has_put_other (fun h => e (T.inj _ _ hs hk h)), h.has s hs, hp.hasO s e]
  size := by rw [Maps.size_put hD, h.has k hk, h.size, hp.size]
  wf p hm := by
    rcases hp.mem p hm with e | hm
    · rw [e]; exact hk
    · exact h.wf p hm

theorem MRel.del (T : KeyT P t kty κ enc kl Wf) {D : DataW Unit} {L L' : List (κ × Int)} {k : κ} (h : MRel kl Wf D L) (hD : Tidy D) (hk : Wf k) (hp : DelL L k L') : MRel kl Wf (D.del (kl k)) L' where
  at_ s hs := by
    by_cases e : s = k
    · subst e; rw [Maps.atKey_del_same, cnt_of_not_has hp.hasS]
    · rw [Maps.atKey_del_other (fun h => e (T.inj _ _ hs hk h)), h.at_ s hs, hp.other s e]
  has s hs := by
    by_cases e : s = k
    · subst e; rw [Maps.has_del_same, hp.hasS]
    · rw [Maps.has_del_other (fun h => e (T.inj _ _ hs hk h)), h.has s hs, hp.hasO s e]
  size := by
    have h1 := Maps.size_del hD (k := kl k)
    rw [h.has k hk, h.size] at h1
    have h2 := hp.size
    omega
  wf p hm := h.wf p (hp.mem p hm)

/-- Block b is a map that holds L. -/
def MapAt (P : Program) (kty : TypeId) (kl : κ → Lit) (Wf : κ → Prop) (w : World) (b : Nat) (L : List (κ × Int)) : Prop :=
  ∃ D : DataW Unit, w.ownsMap P kty (plainElem P 3) b (Maps.size D) D ∧ MRel kl Wf D L

/-- The map value v, nil or a block, holds L. -/
def MapV (P : Program) (kty : TypeId) (kl : κ → Lit) (Wf : κ → Prop) (w : World) (v : Value) (L : List (κ × Int)) : Prop :=
  (v = .map none ∧ L = []) ∨ ∃ b, v = .map (some b) ∧ MapAt P kty kl Wf w b L

theorem ownsMap_exact {R : Value → Option (DataW Unit × List MemPlace)} {w : World} {b n : Nat} {D : DataW Unit} (h : w.ownsMap P kty R b n D) : w.ownsMap P kty R b (Maps.size D) D := by
  obtain ⟨es, clock, hb, F, hn, rfl⟩ := h
  exact ⟨es, clock, hb, F, by rw [Maps.size_eq, length_read]; exact Nat.le_refl _, rfl⟩

theorem MapAt.lt {w : World} {b : Nat} {L : List (κ × Int)} (h : MapAt P kty kl Wf w b L) : b < w.heap.size := by
  obtain ⟨D, h, _⟩ := h
  exact h.lt

theorem MapAt.keep {w w' : World} {b : Nat} {L : List (κ × Int)} {S : Nat → Prop} (h : MapAt P kty kl Wf w b L) (hk : Keep S w w') (hs : ¬ S b) : MapAt P kty kl Wf w' b L := by
  obtain ⟨D, h, hr⟩ := h
  exact ⟨D, hk.ownsMap hs h, hr⟩

theorem MapAt.drewN {w : World} {b : Nat} {L : List (κ × Int)} (h : MapAt P kty kl Wf w b L) (q : Nat) : MapAt P kty kl Wf (w.drewN q) b L := h

theorem MapAt.made (T : KeyT P t kty κ enc kl Wf) (w : World) : MapAt P kty kl Wf (w.alloc (.map #[] 0)) w.heap.size ([] : List (κ × Int)) :=
  ⟨.map [], World.ownsMap_made w P kty _, MRel.nil _ _⟩

theorem MapV.keep {w w' : World} {v : Value} {L : List (κ × Int)} {S : Nat → Prop} (h : MapV P kty kl Wf w v L) (hk : Keep S w w') (hs : ∀ b, v = .map (some b) → ¬ S b) : MapV P kty kl Wf w' v L := by
  rcases h with h | ⟨b, rfl, h⟩
  · exact .inl h
  · exact .inr ⟨b, rfl, h.keep hk (hs b rfl)⟩

/-- 'm[k]'. -/
theorem MapV.look (T : KeyT P t kty κ enc kl Wf) {w : World} {v : Value} {L : List (κ × Int)} (h : MapV P kty kl Wf w v L) {k : κ} (hk : Wf k) : (Instr.lookup t v (enc k) false).run P w = .ok (.int .i64 (cnt L k)) w := by
  rcases h with ⟨rfl, rfl⟩ | ⟨b, rfl, D, h, hr⟩
  · rw [Maps.look_nil false T.keyed T.ht (T.zero w) (T.key k hk)]; rfl
  · obtain ⟨c, hrun, hat, _⟩ := h.lookup_int T.keyed T.ht T.h3 (T.zero w) (T.key k hk)
    rw [hrun]
    rw [hr.at_ k hk] at hat
    cases hat
    rfl

/-- 'v, ok := m[k]'. -/
theorem MapV.lookOk (T : KeyT P t kty κ enc kl Wf) {w : World} {v : Value} {L : List (κ × Int)} (h : MapV P kty kl Wf w v L) {k : κ} (hk : Wf k) : (Instr.lookup t v (enc k) true).run P w = .ok (.tuple #[.int .i64 (cnt L k), .bool (hasK L k)]) w := by
  rcases h with ⟨rfl, rfl⟩ | ⟨b, rfl, D, h, hr⟩
  · rw [Maps.look_nil true T.keyed T.ht (T.zero w) (T.key k hk)]; rfl
  · obtain ⟨v, ps, hrun, hv⟩ := h.look_ok T.keyed T.ht (T.zero w) (zd := .lit (.int .i64 0)) (zp := []) (plainElem_int T.h3 (by decide)) (T.key k hk)
    obtain ⟨c, rfl, hc, _⟩ := plainElem_int_inv T.h3 hv
    rw [hrun, hr.has k hk]
    have hc := congrArg Prod.fst hc
    simp only [hr.at_ k hk] at hc
    cases hc
    rfl

/-- 'len(m)'. -/
theorem MapV.len (T : KeyT P t kty κ enc kl Wf) {w : World} {v : Value} {L : List (κ × Int)} (h : MapV P kty kl Wf w v L) (ty : TypeId) : (Builtin.len_ #[t] ty #[v]).run P w = .ok (.int .i64 L.length) w := by
  rcases h with ⟨rfl, rfl⟩ | ⟨b, rfl, D, h, hr⟩
  · exact Maps.len_nil T.ht ty
  · rw [h.len T.ht ty, hr.size]

/-- 'm[k] = n'. -/
theorem MapAt.store (T : KeyT P t kty κ enc kl Wf) {w : World} {b : Nat} {L L' : List (κ × Int)} (h : MapAt P kty kl Wf w b L) {k : κ} (hk : Wf k) {n : Int} (hn : (Lit.int .i64 n).wf = true) (hL : L.length < maxLen) (hp : PutL L k n L') :
    ∃ w', (Instr.mapUpdate t (.map (some b)) (enc k) (.int .i64 n)).run P w = .ok () w' ∧ MapAt P kty kl Wf w' b L' ∧ Keep (fun j => j = b) w w' := by
  obtain ⟨D, h, hr⟩ := h
  obtain ⟨w', hrun, hown, hg⟩ := h.update T.keyed T.ht (by rw [hr.size]; exact hL) (T.key k hk) (plainElem_int T.h3 hn)
  exact ⟨w', hrun, ⟨_, ownsMap_exact hown, hr.put T (h.tidy T.keyed) hk hp⟩, (Keep.refl _ w).grown hg fun j e _ => by cases e; rfl⟩

/-- 'delete(m, k)'. -/
theorem MapV.drop (T : KeyT P t kty κ enc kl Wf) {w : World} {v : Value} {L L' : List (κ × Int)} (h : MapV P kty kl Wf w v L) {k : κ} (hk : Wf k) (hp : DelL L k L') (ty : TypeId) :
    ∃ w', (Builtin.delete_ #[t, kty] ty #[v, enc k]).run P w = .ok (.tuple #[]) w' ∧ MapV P kty kl Wf w' v L' ∧ Keep (fun j => v = .map (some j)) w w' := by
  rcases h with ⟨rfl, rfl⟩ | ⟨b, rfl, D, h, hr⟩
  · refine ⟨w, Maps.drop_nil T.keyed T.ht (T.key k hk) ty, .inl ⟨rfl, ?_⟩, Keep.refl _ _⟩
    have := hp.size
    rw [show hasK ([] : List (κ × Int)) k = false from rfl] at this
    exact List.length_eq_zero_iff.1 (by simpa using this)
  · obtain ⟨w', hrun, hown, hg⟩ := h.drop T.keyed T.ht (T.key k hk) ty
    exact ⟨w', hrun, .inr ⟨b, rfl, _, ownsMap_exact hown, hr.del T (h.tidy T.keyed) hk hp⟩, (Keep.refl _ w).grown hg.grown fun j e _ => by cases e; rfl⟩

/-! ### at the operation -/
variable {ops : Array Oper} {rest : List Oper} {o : Oper} {a : Act} {Q : Exit → Act → World → Prop} {w : World}
theorem wpList_lookM (hg : o.guard = none) (m x : Operand) (hop : o.op = Op.lookup t m x false) (T : KeyT P t kty κ enc kl Wf) {L : List (κ × Int)} {k : κ} (h : MapV P kty kl Wf w (a.eval m) L) (hk : Wf k) (hx : a.eval x = enc k)
    (hK : wpList P ops Q rest (a.put o.dst (.int .i64 (cnt L k))) w) : wpList P ops Q (o :: rest) a w := by
  refine wpList_plain hg fun K' hK' => ?_
  have hrun := h.look T hk
  unfold Oper.wp
  simp [execOp, hop, hx, hrun, Result.andThen]
  exact hK' _ _ hK

theorem wpList_lookOkM (hg : o.guard = none) (m x : Operand) (hop : o.op = Op.lookup t m x true) (T : KeyT P t kty κ enc kl Wf) {L : List (κ × Int)} {k : κ} (h : MapV P kty kl Wf w (a.eval m) L) (hk : Wf k) (hx : a.eval x = enc k)
    (hK : wpList P ops Q rest (a.put o.dst (.tuple #[.int .i64 (cnt L k), .bool (hasK L k)])) w) : wpList P ops Q (o :: rest) a w := by
  refine wpList_plain hg fun K' hK' => ?_
  have hrun := h.lookOk T hk
  unfold Oper.wp
  simp [execOp, hop, hx, hrun, Result.andThen]
  exact hK' _ _ hK

theorem wpList_lenM (hg : o.guard = none) (m : Operand) (hop : o.op = Op.call { callee := Callee.builtin Builtin.len, args := #[m], argTypes := #[t] }) (T : KeyT P t kty κ enc kl Wf) {L : List (κ × Int)} (h : MapV P kty kl Wf w (a.eval m) L)
    (hK : wpList P ops Q rest (a.put o.dst (.int .i64 L.length)) w) : wpList P ops Q (o :: rest) a w := by
  refine wpList_plain hg fun K' hK' => ?_
  have hrun := h.len T o.type
  unfold Oper.wp
  simp [execOp, hop, resolve, invoke, builtin, hrun, Result.andThen]
  exact hK' _ _ hK

theorem wpList_storeM (hg : o.guard = none) (m x v : Operand) (hop : o.op = Op.mapUpdate t m x v) (T : KeyT P t kty κ enc kl Wf) {L L' : List (κ × Int)} {k : κ} {n : Int} {b : Nat} (hm : a.eval m = .map (some b)) (h : MapAt P kty kl Wf w b L) (hk : Wf k) (hx : a.eval x = enc k) (hv : a.eval v = .int .i64 n)
    (hn : (Lit.int .i64 n).wf = true) (hL : L.length < maxLen) (hp : PutL L k n L')
    (hK : ∀ w', MapAt P kty kl Wf w' b L' → Keep (fun j => j = b) w w' → wpList P ops Q rest (a.put o.dst undef) w') : wpList P ops Q (o :: rest) a w := by
  refine wpList_plain hg fun K' hK' => ?_
  obtain ⟨w', hrun, r1, r2⟩ := h.store T hk hn hL hp
  unfold Oper.wp
  simp [execOp, hop, hm, hx, hv, hrun, Result.andThen]
  exact hK' _ _ (hK w' r1 r2)

theorem wpList_dropM (hg : o.guard = none) (m x : Operand) (hop : o.op = Op.call { callee := Callee.builtin Builtin.delete, args := #[m, x], argTypes := #[t, kty] }) (T : KeyT P t kty κ enc kl Wf) {L L' : List (κ × Int)} {k : κ} (h : MapV P kty kl Wf w (a.eval m) L) (hk : Wf k) (hx : a.eval x = enc k) (hp : DelL L k L')
    (hK : ∀ w', MapV P kty kl Wf w' (a.eval m) L' → Keep (fun j => a.eval m = .map (some j)) w w' → wpList P ops Q rest (a.put o.dst (.tuple #[])) w') : wpList P ops Q (o :: rest) a w := by
  refine wpList_plain hg fun K' hK' => ?_
  obtain ⟨w', hrun, r1, r2⟩ := h.drop T hk hp o.type
  unfold Oper.wp
  simp [execOp, hop, resolve, invoke, builtin, hx, hrun, Result.andThen]
  exact hK' _ _ (hK w' r1 r2)
end

/-! ### string keys -/
def klS (s : ByteArray) : Lit := .string s.data.toList
def WfS (s : ByteArray) : Prop := s.size ≤ maxLen
theorem string_whole {P : Program} {k : TypeId} (hk : P.underlying k = some .string) {v : Value} {l : Lit} (h : keyOf P k v = some l) : ∃ s : ByteArray, s.size ≤ maxLen ∧ v = .string s ∧ l = .string s.data.toList := by
  unfold keyOf mapKey at h
  rw [hk] at h
  cases v <;> simp at h
  obtain ⟨h1, rfl⟩ := h
  exact ⟨_, h1, rfl, rfl⟩
theorem keyS : KeyT Try.prog 70 9 ByteArray Value.string klS WfS where
  keyed := Maps.string_keyed Try.underlying9
  ht := Try.underlying70
  h3 := Try.underlying3
  zero _ := by kernel_rfl
  key k hk := WideMaps.keyOf_string_mk Try.underlying9 hk
  inj a b _ _ h := by
    unfold klS at h
    injection h with h
    cases a; cases b; simp at h; rw [h]
  lit k := trivial
  whole v l h := by
    obtain ⟨s, h1, h2, h3⟩ := string_whole Try.underlying9 h
    exact ⟨s, h1, h2, h3⟩
end Go.Proofs.Ytcofpmmoijnfiaa
