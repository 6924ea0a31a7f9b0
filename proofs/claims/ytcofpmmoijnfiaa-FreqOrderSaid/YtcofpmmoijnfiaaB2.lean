/- Base words, more: appending a slice, writing into a row, rows that may be written. -/
import Derived.Test.YtcofpmmoijnfiaaB
import Derived.Laws.AppendOwnNone
import Derived.Lib.AppendZeros
namespace Go.Proofs.Ytcofpmmoijnfiaa
open Go.RowKit
variable {α : Type}

/-- append(out, y...): the whole of another slice. -/
theorem wpList_appS {P : Program} {ops : Array Oper} {rest : List Oper} {o : Oper} {a : Act} {Q : Exit → Act → World → Prop} {w : World} (hgd : o.guard = none) (s x : Operand) (t : TypeId)
    (ho : o.op = .call { callee := .builtin .append, args := #[s, x], argTypes := #[t, t] }) {e : TypeId} {k : Nat} (T : ArrT P t e k) {enc : α → List Value} (hk : ∀ x, (enc x).length = k) (h1 : ∀ x, ∀ u ∈ enc x, u.oneCell' = true)
    (base : Nat) (v : Value) (out : List α) (Y : List α) (p : Option Addr) (c : Nat) (hs : a.eval s = v) (hx : a.eval x = .slice p Y.length c) (hY : SlAt enc k w p Y) (hpc : p = none → c = 0)
    (hown : w.ownsRow base e k v out.length (out.flatMap enc)) (hlen : out.length + Y.length ≤ 1000000000000) (hbase : base ≤ w.heap.size)
    (h : ∀ v' w', w'.ownsRow base e k v' (out ++ Y).length ((out ++ Y).flatMap enc) → Keep (fun j => v.ownBlock = some j) w w' → wpList P ops Q rest (a.put o.dst v') w') : wpList P ops Q (o :: rest) a w := by
  obtain ⟨i, z, hi, hz, hsz, hby, hzc⟩ := T.ex
  cases p with
  | none =>
    obtain rfl : Y = [] := by
      rcases hY with h | ⟨b, o, h, _⟩
      · exact h
      · cases h
    obtain rfl := hpc rfl
    refine wpList_append_own_none hgd s x t ho base e i k T.ht hi v out.length (out.flatMap enc) hs hown hx ?_
    exact h v w (by simpa using hown) (Keep.refl _ _)
  | some ad =>
    refine wpList_append_own w hgd s x t ho base e i z k i.bytes T.ht hi hz hsz rfl hzc T.pos v out.length (out.flatMap enc) hs hown ad Y.length c (Y.flatMap enc) hx (flat_length hk Y) ?_ ?_ (by unfold maxLen; omega) ?_ hbase ?_
    · intro j u hj
      rcases hY with rfl | ⟨b, o, e, _, hc⟩
      · simp at hj
      · cases e
        have hjl := (List.getElem?_eq_some_iff.1 hj).1
        rw [flat_length hk] at hjl
        have hq : j / k < Y.length := Nat.div_lt_of_lt_mul (by rw [Nat.mul_comm]; exact hjl)
        have hr : j % k < k := Nat.mod_lt _ T.pos
        have hx := List.getElem?_eq_getElem hq
        have hv : (enc Y[j / k])[j % k]? = some ((enc Y[j / k])[j % k]'(by rw [hk]; exact hr)) := List.getElem?_eq_getElem _
        have hf := flat_get hk Y (j / k) (j % k) _ _ hx hv
        have hdm : j / k * k + j % k = j := Nat.div_add_mod' j k
        rw [hdm, hj] at hf
        cases hf
        have := hc (j / k) _ hx (j % k) _ hv
        rw [Addr.add_lit]
        rw [Nat.add_assoc, hdm] at this
        exact this
    · intro u hu
      obtain ⟨x, _, hx⟩ := List.mem_flatMap.1 hu
      exact h1 x u hx
    · have : (out.length + Y.length) * i.bytes ≤ 1000000000000 * 100 := Nat.mul_le_mul hlen hby
      omega
    · intro v' w' hown' hg _
      refine h v' w' ?_ ((Keep.refl _ w).grown hg fun j hj _ => hj)
      rw [List.flatMap_append, List.length_append]
      exact hown'

/-- The cells of a slice's block may be written. -/
def Thaw (w : World) (v : Value) : Prop := ∀ g, v.ownBlock = some g → ∀ o, w.frozen? ⟨g, o, none⟩ = false
theorem Thaw.of_own {w : World} {base : Nat} {e : TypeId} {size n : Nat} {v : Value} {xs : List Value} (h : w.ownsRow base e size v n xs) : Thaw w v := by
  intro g hg o
  obtain ⟨_, ⟨rfl, _⟩ | ⟨g', cap, cur, rfl, _, hh, _⟩⟩ := h
  · cases hg
  · cases hg
    simp [World.frozen?, hh]
theorem Thaw.keep {w w' : World} {v : Value} {S : Nat → Prop} (h : Thaw w v) (hk : Keep S w w') (hs : Off v S) (hlt : ∀ g, v.ownBlock = some g → g < w.heap.size) : Thaw w' v := by
  intro g hg o
  rw [hk.frozen (hs g hg) (hlt g hg)]
  exact h g hg o

/-- One element written: its cell j. -/
theorem SlAt.set {enc : α → List Value} {k : Nat} (hk : ∀ x, (enc x).length = k) {w : World} {b o : Nat} {L : List α} (h : SlAt enc k w (some ⟨b, o, none⟩) L) {i j : Nat} {x y : α} {u : Value} (hx : L[i]? = some x) (hj : j < k)
    (hy : enc y = (enc x).set j u) : SlAt enc k (w.setCell ⟨b, o + i * k + j, none⟩ u) (some ⟨b, o, none⟩) (L.set i y) := by
  rcases h with rfl | ⟨b', o', e, hb, hc⟩
  · simp at hx
  · cases e
    refine .inr ⟨b, o, rfl, by simpa [World.setCell] using hb, fun i' x' hx' j' v' hv' => ?_⟩
    have hj' : j' < k := by have := (List.getElem?_eq_some_iff.1 hv').1; rw [hk] at this; exact this
    have hold := hc i x hx j ((enc x)[j]'(by rw [hk]; exact hj)) (List.getElem?_eq_getElem _)
    by_cases hi : i = i'
    · subst hi
      rw [List.getElem?_set_self (List.getElem?_eq_some_iff.1 hx).1] at hx'
      cases hx'
      rw [hy] at hv'
      by_cases hjj : j = j'
      · subst hjj
        rw [List.getElem?_set_self (by rw [hk]; exact hj)] at hv'
        cases hv'
        exact World.cell?_setCell_same' _ _ _ (by rw [hold]; rfl)
      · rw [List.getElem?_set_ne hjj] at hv'
        rw [World.cell?_setCell_other]
        · exact hc i x hx j' v' hv'
        · intro e
          have e : o + i * k + j = o + i * k + j' := congrArg Addr.off e
          omega
    · rw [List.getElem?_set_ne hi] at hx'
      rw [World.cell?_setCell_other]
      · exact hc i' x' hx' j' v' hv'
      · intro e
        have e : o + i * k + j = o + i' * k + j' := congrArg Addr.off e
        rcases Nat.lt_or_gt_of_ne hi with h | h
        · have : (i + 1) * k ≤ i' * k := Nat.mul_le_mul_right k h
          rw [Nat.add_mul] at this; omega
        · have : (i' + 1) * k ≤ i * k := Nat.mul_le_mul_right k h
          rw [Nat.add_mul] at this; omega
end Go.Proofs.Ytcofpmmoijnfiaa
