/- Base words of this seat: frames between worlds, rows of elements in memory, slices. No Go function in it. -/
import Derived.Test.YtcofpmmoijnfiaaProg
import Derived.WalkKit
import Derived.WalkSpells
import Derived.WalkLawsBesides
import Derived.Lib.Hide
namespace Go.Proofs.Ytcofpmmoijnfiaa
open Go.RowKit

theorem ret_int {k : IntKind} {a b : Int} (h : a = b) : Ending.returned (.int k a) = .returned (.int k b) := by rw [h]
theorem ret_bool {a b : Bool} (h : a = b) : Ending.returned (.bool a) = .returned (.bool b) := by rw [h]
theorem ret_val {a b : Value} (h : a = b) : Ending.returned a = .returned b := by rw [h]

theorem toList_beq (a b : ByteArray) : (a.toList == b.toList) = decide (a = b) := by
  rw [ByteArray.toList_eq, ByteArray.toList_eq, Bool.eq_iff_iff]
  simp only [beq_iff_eq, decide_eq_true_eq]
  constructor
  · intro h; cases a; cases b; simp at h; rw [h]
  · intro h; rw [h]
theorem toList_bne (a b : ByteArray) : (a.toList != b.toList) = !decide (a = b) := by rw [bne, toList_beq]

/-! ### frames -/
/-- Outside the blocks of S the world w' is as w was. -/
structure Keep (S : Nat → Prop) (w w' : World) : Prop where
  os : w'.os = w.os
  tape : w'.tape = w.tape
  output : w'.output = w.output
  size : w.heap.size ≤ w'.heap.size
  block : ∀ k, k < w.heap.size → ¬ S k → w'.heap[k]? = w.heap[k]?

def No : Nat → Prop := fun _ => False

theorem Keep.refl (S : Nat → Prop) (w : World) : Keep S w w := ⟨rfl, rfl, rfl, Nat.le_refl _, fun _ _ _ => rfl⟩
theorem Keep.trans {S T : Nat → Prop} {a b c : World} (h : Keep S a b) (k : Keep T b c) (hT : ∀ j, j < a.heap.size → T j → S j) : Keep S a c :=
  ⟨k.os.trans h.os, k.tape.trans h.tape, k.output.trans h.output, Nat.le_trans h.size k.size,
    fun i hi hs => (k.block i (Nat.lt_of_lt_of_le hi h.size) (fun ht => hs (hT i hi ht))).trans (h.block i hi hs)⟩
theorem Keep.trans' {S : Nat → Prop} {a b c : World} (h : Keep S a b) (k : Keep S b c) : Keep S a c := h.trans k fun _ _ hs => hs
theorem Keep.transNo {S : Nat → Prop} {a b c : World} (h : Keep S a b) (k : Keep No b c) : Keep S a c := h.trans k fun _ _ hs => hs.elim
theorem Keep.mono {S T : Nat → Prop} {a b : World} (h : Keep S a b) (hT : ∀ j, S j → T j) : Keep T a b := ⟨h.os, h.tape, h.output, h.size, fun i hi hs => h.block i hi fun ht => hs (hT i ht)⟩
theorem Keep.ofNo {S : Nat → Prop} {a b : World} (h : Keep No a b) : Keep S a b := h.mono fun _ hs => hs.elim
theorem Keep.drew {S : Nat → Prop} {a w : World} (h : Keep S a w) : Keep S a w.drew := ⟨h.os, h.tape, h.output, h.size, h.block⟩
theorem Keep.alloc {S : Nat → Prop} {a w : World} (h : Keep S a w) (o : Obj) : Keep S a (w.alloc o) :=
  h.trans (T := No) ⟨rfl, rfl, rfl, by simp, fun k hk _ => Below.heap_alloc _ _ _ hk⟩ fun _ _ hs => hs.elim
theorem Keep.setCell {S : Nat → Prop} {a w : World} (h : Keep S a w) {p : Addr} (hp : p.block < a.heap.size → S p.block) (u : Value) : Keep S a (w.setCell p u) :=
  h.trans (T := fun k => k = p.block) ⟨rfl, rfl, rfl, by simp [World.setCell], fun k _ hs => Below.heap_setCell _ _ _ _ hs⟩ fun j hj e => by subst e; exact hp hj
theorem Keep.grown {S : Nat → Prop} {a w w' : World} {row : Option Nat} (h : Keep S a w) (hg : w.grownBy w' row) (hr : ∀ k, row = some k → k < a.heap.size → S k) : Keep S a w' :=
  h.trans (T := fun k => row = some k) ⟨hg.os, hg.tape, hg.output, hg.size, fun k hk hs => hg.block k hk fun e => hs e.symm⟩ fun j hj e => hr j e hj
theorem Keep.below {S : Nat → Prop} {a w w' : World} {B : Nat} (h : Keep S a w) (hb : Below B w w') (hB : a.heap.size ≤ B) : Keep S a w' :=
  ⟨hb.os.trans h.os, hb.tape.trans h.tape, hb.output.trans h.output, Nat.le_trans h.size hb.size, fun k hk hs => (hb.block k (by omega)).trans (h.block k hk hs)⟩
theorem Keep.toBelow {w w' : World} (h : Keep No w w') : Below w.heap.size w w' := ⟨h.os, h.tape, h.output, h.size, fun k hk => h.block k hk fun e => e⟩
theorem Keep.ofBelow {w w' : World} {B : Nat} (h : Below B w w') (hB : w.heap.size ≤ B) : Keep No w w' := (Keep.refl No w).below h hB
theorem Keep.cell {S : Nat → Prop} {w w' : World} (h : Keep S w w') {b o : Nat} {v : Value} (hs : ¬ S b) (hc : w.cell? ⟨b, o, none⟩ = some v) : w'.cell? ⟨b, o, none⟩ = some v := by
  have hb : b < w.heap.size := by
    rcases Nat.lt_or_ge b w.heap.size with hb | hb
    · exact hb
    · rw [World.cell?] at hc; simp [Array.getElem?_eq_none hb] at hc
  rw [← hc]; exact World.cell?_of_block (w := w) (h.block b hb hs)
theorem Keep.frozen {S : Nat → Prop} {w w' : World} (h : Keep S w w') {b o : Nat} (hs : ¬ S b) (hb : b < w.heap.size) : w'.frozen? ⟨b, o, none⟩ = w.frozen? ⟨b, o, none⟩ :=
  World.frozen?_of_block (w := w) (h.block b hb hs)
theorem Keep.ownsMap {H : Type} {P : Program} {k : TypeId} {R : Value → Option (DataW H × List MemPlace)} {b n : Nat} {D : DataW H} {S : Nat → Prop} {w w' : World} (h : Keep S w w') (hs : ¬ S b) (hm : w.ownsMap P k R b n D) : w'.ownsMap P k R b n D := by
  have hlt := hm.lt
  obtain ⟨es, clock, hb, F, hn, hD⟩ := hm
  exact ⟨es, clock, (h.block b hlt hs).trans hb, F, hn, hD⟩
theorem lt_of_cell {w : World} {b o : Nat} {v : Value} (hc : w.cell? ⟨b, o, none⟩ = some v) : b < w.heap.size := by
  rcases Nat.lt_or_ge b w.heap.size with hb | hb
  · exact hb
  · rw [World.cell?] at hc; simp [Array.getElem?_eq_none hb] at hc

/-! ### elements in a row -/
variable {α : Type}
/-- The elements of L, k cells each, lie in a row from p on. -/
def SlAt (enc : α → List Value) (k : Nat) (w : World) (p : Option Addr) (L : List α) : Prop :=
  L = [] ∨ ∃ b o, p = some ⟨b, o, none⟩ ∧ b < w.heap.size ∧ ∀ i x, L[i]? = some x → ∀ j v, (enc x)[j]? = some v → w.cell? ⟨b, o + i * k + j, none⟩ = some v

theorem SlAt.nil (enc : α → List Value) (k : Nat) (w : World) (p : Option Addr) : SlAt enc k w p [] := .inl rfl

theorem SlAt.get {enc : α → List Value} {k : Nat} {w : World} {p : Option Addr} {L : List α} (h : SlAt enc k w p L) {i : Nat} (hi : i < L.length) :
    ∃ b o x, p = some ⟨b, o, none⟩ ∧ b < w.heap.size ∧ L[i]? = some x ∧ ∀ j v, (enc x)[j]? = some v → w.cell? ⟨b, o + i * k + j, none⟩ = some v := by
  rcases h with rfl | ⟨b, o, hp, hb, hc⟩
  · simp at hi
  · exact ⟨b, o, L[i], hp, hb, List.getElem?_eq_getElem hi, hc i _ (List.getElem?_eq_getElem hi)⟩

theorem SlAt.block {enc : α → List Value} {k : Nat} {w : World} {p : Option Addr} {L : List α} (h : SlAt enc k w p L) (hne : L ≠ []) : ∀ a, p = some a → a.block < w.heap.size := by
  rcases h with h | ⟨b, o, rfl, hb, _⟩
  · exact absurd h hne
  · intro a ha; cases ha; exact hb

theorem SlAt.keep {enc : α → List Value} {k : Nat} {w w' : World} {p : Option Addr} {L : List α} {S : Nat → Prop} (h : SlAt enc k w p L) (hk : Keep S w w') (hs : L ≠ [] → ∀ a, p = some a → ¬ S a.block) : SlAt enc k w' p L := by
  by_cases hne : L = []
  · exact .inl hne
  · rcases h with h | ⟨b, o, hp, hb, hc⟩
    · exact .inl h
    · exact .inr ⟨b, o, hp, Nat.lt_of_lt_of_le hb hk.size, fun i x hx j v hv => hk.cell (hs hne _ hp) (hc i x hx j v hv)⟩

theorem SlAt.keepNo {enc : α → List Value} {k : Nat} {w w' : World} {p : Option Addr} {L : List α} (h : SlAt enc k w p L) (hk : Keep No w w') : SlAt enc k w' p L := h.keep hk fun _ _ _ e => e
theorem SlAt.take {enc : α → List Value} {k : Nat} {w : World} {p : Option Addr} {L : List α} (h : SlAt enc k w p L) (n : Nat) : SlAt enc k w p (L.take n) := by
  rcases h with rfl | ⟨b, o, hp, hb, hc⟩
  · exact .inl (by simp)
  · refine .inr ⟨b, o, hp, hb, fun i x hx => hc i x ?_⟩
    rw [List.getElem?_take] at hx
    split at hx
    · exact hx
    · cases hx
theorem SlAt.drewN {enc : α → List Value} {k : Nat} {w : World} {p : Option Addr} {L : List α} (h : SlAt enc k w p L) (q : Nat) : SlAt enc k (w.drewN q) p L := h

/-- The slice v holds the elements of L. -/
def SliceV (enc : α → List Value) (k : Nat) (w : World) (v : Value) (L : List α) : Prop :=
  ∃ p cap, v = .slice p L.length cap ∧ L.length ≤ cap ∧ SlAt enc k w p L

/-- The block of a slice, if it has one, is not of S. -/
def Off (v : Value) (S : Nat → Prop) : Prop := ∀ g, v.ownBlock = some g → ¬ S g

theorem SliceV.nil (enc : α → List Value) (k : Nat) (w : World) : SliceV enc k w (.slice none 0 0) [] := ⟨none, 0, rfl, Nat.le_refl _, .inl rfl⟩

theorem SliceV.keep {enc : α → List Value} {k : Nat} {w w' : World} {v : Value} {L : List α} {S : Nat → Prop} (h : SliceV enc k w v L) (hk : Keep S w w') (hs : Off v S) : SliceV enc k w' v L := by
  obtain ⟨p, cap, rfl, hc, h⟩ := h
  exact ⟨p, cap, rfl, hc, h.keep hk fun _ a ha => hs a.block (by rw [ha]; rfl)⟩
theorem SliceV.keepNo {enc : α → List Value} {k : Nat} {w w' : World} {v : Value} {L : List α} (h : SliceV enc k w v L) (hk : Keep No w w') : SliceV enc k w' v L := h.keep hk fun _ _ e => e
theorem flat_get {enc : α → List Value} {k : Nat} (hk : ∀ x, (enc x).length = k) : ∀ (L : List α) (i j : Nat) (x : α) (v : Value), L[i]? = some x → (enc x)[j]? = some v → (L.flatMap enc)[i * k + j]? = some v
  | [], i, j, x, v, h, _ => by simp at h
  | a :: L, 0, j, x, v, h, hv => by
    simp at h; subst h
    rw [List.flatMap_cons, List.getElem?_append_left]
    · simpa using hv
    · have := (List.getElem?_eq_some_iff.1 hv).1; omega
  | a :: L, i + 1, j, x, v, h, hv => by
    rw [List.flatMap_cons, List.getElem?_append_right (by rw [hk, Nat.add_mul]; omega), hk, show (i + 1) * k + j - k = i * k + j by rw [Nat.add_mul]; omega]
    exact flat_get hk L i j x v (by simpa using h) hv

theorem flat_length {enc : α → List Value} {k : Nat} (hk : ∀ x, (enc x).length = k) (L : List α) : (L.flatMap enc).length = L.length * k := by
  induction L with
  | nil => simp
  | cons a L ih => rw [List.flatMap_cons, List.length_append, ih, hk, List.length_cons, Nat.add_mul]; omega

theorem SliceV.of_own {enc : α → List Value} {k : Nat} (hk : ∀ x, (enc x).length = k) {w : World} {base : Nat} {e : TypeId} {v : Value} {L : List α} (h : w.ownsRow base e k v L.length (L.flatMap enc)) : SliceV enc k w v L := by
  have hc : ∀ g, v.ownBlock = some g → _ := fun g hg => h.cells (g := g) hg
  have hlt := h.lt
  obtain ⟨_, ⟨rfl, hn⟩ | ⟨g, cap, cur, rfl, hg, hh, hcap, _⟩⟩ := h
  · obtain rfl : L = [] := List.length_eq_zero_iff.1 hn
    exact SliceV.nil _ _ _
  · refine ⟨_, cap, rfl, hcap, .inr ⟨g, 0, rfl, (hlt g rfl).2, fun i x hx j v hv => ?_⟩⟩
    have := hc g rfl (i * k + j) v (flat_get hk L i j x v hx hv)
    rw [Addr.add_lit, ← Nat.add_assoc] at this
    exact this

theorem own_off {w : World} {base : Nat} {e : TypeId} {size n : Nat} {v : Value} {xs : List Value} (h : w.ownsRow base e size v n xs) {S : Nat → Prop} (hS : ∀ j, base ≤ j → ¬ S j) : Off v S := fun g hg => hS g (h.lt g hg).1

/-! ### append of one element -/
/-- t is a slice type over e, whose elements are of k cells. -/
structure ArrT (P : Program) (t e : TypeId) (k : Nat) : Prop where
  ht : P.underlying t = some (.slice e)
  ex : ∃ i z, P.info? e = some i ∧ i.zero = some z ∧ i.size = k ∧ i.bytes ≤ 100 ∧ z.cells.size = k
  pos : 0 < k
theorem ArrT.mk' {P : Program} {t e : TypeId} {k bytes : Nat} {z : Value} (ht : P.underlying t = some (.slice e)) (hi : (P.info? e).map (fun i => (i.zero, i.size, i.bytes)) = some (some z, k, bytes)) (hb : bytes ≤ 100) (hz : z.cells.size = k) (hk : 0 < k) : ArrT P t e k := by
  obtain ⟨i0, hi, hz0, hz1, hz2⟩ := info_parts hi
  exact ⟨ht, ⟨i0, z, hi, hz0, hz1, by omega, hz⟩, hk⟩

theorem flat_snoc {enc : α → List Value} (L : List α) (y : α) : (L ++ [y]).flatMap enc = L.flatMap enc ++ enc y := by simp

theorem cells_new {w : World} {xs : List Value} {t : TypeId} : ∀ j u, xs[j]? = some u → (w.alloc (.cells xs.toArray t)).cell? ((⟨w.heap.size, 0, none⟩ : Addr).add j) = some u := by
  intro j u hj
  rw [Addr.add_lit]
  show World.cell? { w with heap := w.heap.push (.cells xs.toArray t) } _ = _
  simp [World.cell?, hj]

theorem cell_new {w : World} {xs : List Value} {t : TypeId} {i : Nat} {v : Value} (h : xs[i]? = some v) : (w.alloc (.cells xs.toArray t)).cell? ⟨w.heap.size, i, none⟩ = some v := by
  have := cells_new (w := w) (t := t) i v h
  rw [Addr.add_lit, Nat.zero_add] at this
  exact this
theorem frozen_new {w : World} {xs : Array Value} {t : TypeId} {i : Nat} : (w.alloc (.cells xs t)).frozen? ⟨w.heap.size, i, none⟩ = false := by
  show World.frozen? { w with heap := w.heap.push (.cells xs t) } _ = _
  simp [World.frozen?]
theorem wpList_app1 {P : Program} {ops : Array Oper} {rest : List Oper} {o : Oper} {a : Act} {Q : Exit → Act → World → Prop} {w : World} (hgd : o.guard = none) (s x : Operand) (t : TypeId)
    (ho : o.op = .call { callee := .builtin .append, args := #[s, x], argTypes := #[t, t] }) {e : TypeId} {k : Nat} (T : ArrT P t e k) {enc : α → List Value} (hk : ∀ x, (enc x).length = k) (h1 : ∀ x, ∀ u ∈ enc x, u.oneCell' = true)
    (base : Nat) (v : Value) (out : List α) (y : α) (hs : a.eval s = v) (W : World) (hw : w = W.alloc (.cells (enc y).toArray e)) {c : Nat} (hx : a.eval x = .slice (some ⟨W.heap.size, 0, none⟩) 1 c)
    (hown : W.ownsRow base e k v out.length (out.flatMap enc)) (hlen : out.length + 1 ≤ 1000000000000) (hbase : base ≤ W.heap.size)
    (h : ∀ v' w', w'.ownsRow base e k v' (out ++ [y]).length ((out ++ [y]).flatMap enc) → Keep (fun j => v.ownBlock = some j) W w' → wpList P ops Q rest (a.put o.dst v') w') : wpList P ops Q (o :: rest) a w := by
  obtain ⟨i, z, hi, hz, hsz, hby, hzc⟩ := T.ex
  subst hw
  refine wpList_append_own _ hgd s x t ho base e i z k i.bytes T.ht hi hz hsz rfl hzc T.pos v out.length (out.flatMap enc) hs (hown.alloc _) ⟨W.heap.size, 0, none⟩ 1 c (enc y) hx (by rw [hk]; omega) cells_new (h1 y) (by unfold maxLen; omega) ?_ (by rw [World.size_alloc]; omega) ?_
  · have : (out.length + 1) * i.bytes ≤ 1000000000000 * 100 := Nat.mul_le_mul hlen hby
    omega
  · intro v' w' hown' hg _
    refine h v' w' ?_ (((Keep.refl _ W).alloc _).grown hg fun j hj _ => hj)
    rw [flat_snoc, List.length_append]
    exact hown'

theorem own_drewN {w : World} {base : Nat} {e : TypeId} {size n : Nat} {v : Value} {xs : List Value} (q : Nat) (h : w.ownsRow base e size v n xs) : (w.drewN q).ownsRow base e size v n xs := h
theorem Keep.drewN {S : Nat → Prop} {a w : World} (h : Keep S a w) (q : Nat) : Keep S a (w.drewN q) := ⟨h.os, h.tape, h.output, h.size, h.block⟩
/-- A row of the call's own, and a frame that leaves what lay before the call. -/
theorem Keep.app {a w w' : World} {base : Nat} {e : TypeId} {size n : Nat} {v : Value} {xs : List Value} {S : Nat → Prop} (h : Keep S a w) (hown : w.ownsRow base e size v n xs) (hb : a.heap.size ≤ base) (hk : Keep (fun j => v.ownBlock = some j) w w') : Keep S a w' :=
  h.trans hk fun j hj e => absurd (hown.lt j e).1 (by omega)

/-! ### lists -/
theorem find_at {p : α → Bool} {L : List α} {k : Nat} {x : α} (h : L[k]? = some x) (hn : ∀ j y, j < k → L[j]? = some y → p y = false) (hx : p x = true) : L.find? p = some x := by
  induction L generalizing k with
  | nil => simp at h
  | cons a L ih =>
    cases k with
    | zero => simp at h; subst h; simp [hx]
    | succ k =>
      have := hn 0 a (by omega) (by simp)
      rw [List.find?_cons, this]
      exact ih (by simpa using h) (fun j y hj hy => hn (j + 1) y (by omega) (by simpa using hy))
theorem find_none_at {p : α → Bool} {L : List α} (hn : ∀ j y, j < L.length → L[j]? = some y → p y = false) : L.find? p = none := by
  rw [List.find?_eq_none]
  intro x hx
  obtain ⟨j, hj⟩ := List.getElem?_of_mem hx
  have := hn j x (List.getElem?_eq_some_iff.1 hj).1 hj
  simp [this]
theorem drop_cons {L : List α} {k : Nat} {x : α} (h : L[k]? = some x) : L.drop k = x :: L.drop (k + 1) := by
  obtain ⟨hk, rfl⟩ := List.getElem?_eq_some_iff.1 h
  exact List.drop_eq_getElem_cons hk
theorem take_snoc {L : List α} {k : Nat} {x : α} (h : L[k]? = some x) : L.take (k + 1) = L.take k ++ [x] := by
  rw [List.take_add_one, h]; rfl

/-! ### elements -/
abbrev W2 := ByteArray × Int
def encW (x : W2) : List Value := [.string x.1, .int .i64 x.2]
theorem encW_length (x : W2) : (encW x).length = 2 := rfl
theorem encW_one (x : W2) : ∀ u ∈ encW x, u.oneCell' = true := by simp [encW, Value.oneCell']
def encS (x : ByteArray) : List Value := [.string x]
def encN (x : Int) : List Value := [.int .i64 x]
theorem encS_length (x : ByteArray) : (encS x).length = 1 := rfl
theorem encS_one (x : ByteArray) : ∀ u ∈ encS x, u.oneCell' = true := by simp [encS, Value.oneCell']
theorem encN_length (x : Int) : (encN x).length = 1 := rfl
theorem encN_one (x : Int) : ∀ u ∈ encN x, u.oneCell' = true := by simp [encN, Value.oneCell']
abbrev P2 := Int × Int
def encP (x : P2) : List Value := [.int .i64 x.1, .int .i64 x.2]
theorem encP_one (x : P2) : ∀ u ∈ encP x, u.oneCell' = true := by simp [encP, Value.oneCell']
theorem encP_length (x : P2) : (encP x).length = 2 := rfl
theorem arrW : ArrT Try.prog 76 92 2 := ArrT.mk' (z := .agg #[.string ByteArray.empty, .int .i64 0]) (bytes := 24) Try.underlying76 (by kernel_rfl) (by decide) rfl (by decide)
theorem SlAt.getW {w : World} {p : Option Addr} {L : List W2} (h : SlAt encW 2 w p L) {i : Nat} (hi : i < L.length) :
    ∃ b o t n, p = some ⟨b, o, none⟩ ∧ b < w.heap.size ∧ L[i]? = some (t, n) ∧ w.cell? ⟨b, o + i * 2, none⟩ = some (.string t) ∧ w.cell? ⟨b, o + i * 2 + 1, none⟩ = some (.int .i64 n) := by
  obtain ⟨b, o, ⟨t, n⟩, hp, hb, hx, hc⟩ := h.get hi
  exact ⟨b, o, t, n, hp, hb, hx, hc 0 _ rfl, hc 1 _ rfl⟩
theorem SlAt.getP {w : World} {p : Option Addr} {L : List P2} (h : SlAt encP 2 w p L) {i : Nat} (hi : i < L.length) :
    ∃ b o t n, p = some ⟨b, o, none⟩ ∧ b < w.heap.size ∧ L[i]? = some (t, n) ∧ w.cell? ⟨b, o + i * 2, none⟩ = some (.int .i64 t) ∧ w.cell? ⟨b, o + i * 2 + 1, none⟩ = some (.int .i64 n) := by
  obtain ⟨b, o, ⟨t, n⟩, hp, hb, hx, hc⟩ := h.get hi
  exact ⟨b, o, t, n, hp, hb, hx, hc 0 _ rfl, hc 1 _ rfl⟩
theorem SlAt.getS {w : World} {p : Option Addr} {L : List ByteArray} (h : SlAt encS 1 w p L) {i : Nat} (hi : i < L.length) :
    ∃ b o t, p = some ⟨b, o, none⟩ ∧ b < w.heap.size ∧ L[i]? = some t ∧ w.cell? ⟨b, o + i, none⟩ = some (.string t) := by
  obtain ⟨b, o, t, hp, hb, hx, hc⟩ := h.get hi
  exact ⟨b, o, t, hp, hb, hx, by have := hc 0 _ rfl; simpa using this⟩
theorem SlAt.getN {w : World} {p : Option Addr} {L : List Int} (h : SlAt encN 1 w p L) {i : Nat} (hi : i < L.length) :
    ∃ b o n, p = some ⟨b, o, none⟩ ∧ b < w.heap.size ∧ L[i]? = some n ∧ w.cell? ⟨b, o + i, none⟩ = some (.int .i64 n) := by
  obtain ⟨b, o, t, hp, hb, hx, hc⟩ := h.get hi
  exact ⟨b, o, t, hp, hb, hx, by have := hc 0 _ rfl; simpa using this⟩
end Go.Proofs.Ytcofpmmoijnfiaa
