/- How arguments of this seat's laws read: slices of structs and strings, structs by value. -/
import Derived.Test.YtcofpmmoijnfiaaB
import Derived.ProofKit
import Derived.Deep.Slices
namespace Go.Proofs.Ytcofpmmoijnfiaa
open Go.RowKit Go.ChangeShapes Go.WideShapes Go.Deep

/-- Cells of type e that read at all are an element. -/
def ElemR {α : Type} (P : Program) (e : TypeId) (enc : α → List Value) (Ok : α → Prop) : Prop :=
  ∀ (H : Type) (encH : TypeId × Value → H) (w : World) (base : Nat) (spare : Nat → Bool) (held : Bool) (fuel : Nat) (cs : List Value) (y : DataW H × List MemPlace), DataW.trod encH P w base spare held fuel e cs = some y → ∃ x, Ok x ∧ cs = enc x

theorem elemS {P : Program} {e : TypeId} (h : P.underlying e = some .string) : ElemR P e encS fun s => s.size ≤ maxLen := by
  intro H encH w base spare held fuel cs y hy
  obtain ⟨s, rfl, _, hs⟩ := DataW.trod_string h hy
  exact ⟨s, hs, rfl⟩
def encK (q : IntKind) (n : Int) : List Value := [.int q n]
theorem elemK {P : Program} {e : TypeId} {q : IntKind} (h : P.underlying e = some (.int q)) : ElemR P e (encK q) fun n => (Lit.int q n).wf = true := by
  intro H encH w base spare held fuel cs y hy
  obtain ⟨n, rfl, _, hs⟩ := DataW.trod_int h hy
  exact ⟨n, hs, rfl⟩
theorem elemN {P : Program} {e : TypeId} (h : P.underlying e = some (.int .i64)) : ElemR P e encN fun n => -9223372036854775808 ≤ n ∧ n ≤ 9223372036854775807 := by
  intro H encH w base spare held fuel cs y hy
  obtain ⟨n, rfl, _, hs⟩ := DataW.trod_int h hy
  refine ⟨n, ?_, rfl⟩
  simp [Lit.wf, IntKind.min, IntKind.max, IntKind.signed, IntKind.bits] at hs
  omega
theorem elem2 {α β : Type} {P : Program} {e : TypeId} {f0 f1 : Field} {e0 : α → List Value} {e1 : β → List Value} {O0 : α → Prop} {O1 : β → Prop} (h : P.underlying e = some (.struct #[f0, f1])) (h0 : ElemR P f0.type e0 O0) (h1 : ElemR P f1.type e1 O1)
    (c0 : f0.offset = 0) (c1 : f1.offset = P.cellsOf f0.type) (c2 : P.cellsOf e = P.cellsOf f0.type + P.cellsOf f1.type) : ElemR P e (fun x : α × β => e0 x.1 ++ e1 x.2) fun x => O0 x.1 ∧ O1 x.2 := by
  intro H encH w base spare held fuel cs y hy
  obtain ⟨xs, n, _, _, hl, hx, hf⟩ := DataW.trod_struct h hy
  match xs, hx with
  | [y0, y1], _ =>
    have g0 := hf 0 f0 rfl
    have g1 := hf 1 f1 rfl
    rw [c0, List.drop_zero] at g0
    rw [c1] at g1
    obtain ⟨x0, o0, i0⟩ := h0 _ _ _ _ _ _ _ _ _ g0
    obtain ⟨x1, o1, i1⟩ := h1 _ _ _ _ _ _ _ _ _ g1
    refine ⟨(x0, x1), ⟨o0, o1⟩, ?_⟩
    show cs = e0 x0 ++ e1 x1
    rw [← i0, ← i1, List.take_of_length_le (l := cs.drop _) (by rw [List.length_drop]; omega), List.take_append_drop]
theorem elem3 {α β γ : Type} {P : Program} {e : TypeId} {f0 f1 f2 : Field} {e0 : α → List Value} {e1 : β → List Value} {e2 : γ → List Value} {O0 : α → Prop} {O1 : β → Prop} {O2 : γ → Prop} (h : P.underlying e = some (.struct #[f0, f1, f2])) (h0 : ElemR P f0.type e0 O0) (h1 : ElemR P f1.type e1 O1) (h2 : ElemR P f2.type e2 O2)
    (c0 : f0.offset = 0) (c1 : f1.offset = P.cellsOf f0.type) (c2 : f2.offset = P.cellsOf f0.type + P.cellsOf f1.type) (c3 : P.cellsOf e = P.cellsOf f0.type + P.cellsOf f1.type + P.cellsOf f2.type) : ElemR P e (fun x : α × β × γ => e0 x.1 ++ (e1 x.2.1 ++ e2 x.2.2)) fun x => O0 x.1 ∧ O1 x.2.1 ∧ O2 x.2.2 := by
  intro H encH w base spare held fuel cs y hy
  obtain ⟨xs, n, _, _, hl, hx, hf⟩ := DataW.trod_struct h hy
  match xs, hx with
  | [y0, y1, y2], _ =>
    have g0 := hf 0 f0 rfl
    have g1 := hf 1 f1 rfl
    have g2 := hf 2 f2 rfl
    rw [c0, List.drop_zero] at g0
    rw [c1] at g1
    rw [c2] at g2
    obtain ⟨x0, o0, i0⟩ := h0 _ _ _ _ _ _ _ _ _ g0
    obtain ⟨x1, o1, i1⟩ := h1 _ _ _ _ _ _ _ _ _ g1
    obtain ⟨x2, o2, i2⟩ := h2 _ _ _ _ _ _ _ _ _ g2
    refine ⟨(x0, x1, x2), ⟨o0, o1, o2⟩, ?_⟩
    show cs = e0 x0 ++ (e1 x1 ++ e2 x2)
    rw [← i0, ← i1, ← i2, List.take_of_length_le (l := cs.drop (_ + _)) (by rw [List.length_drop]; omega), ← List.drop_drop, List.take_append_drop, List.take_append_drop]

/-- A slice argument: its elements. -/
theorem read_slice {α : Type} [Inhabited α] {P : Program} {t e : TypeId} {enc : α → List Value} {Ok : α → Prop} {k : Nat} (ht : P.underlying t = some (.slice e)) (hR : ElemR P e enc Ok) (hk : P.cellsOf e = k) (hk0 : 0 < k)
    {H : Type} {encH : TypeId × Value → H} {W : World} {v : Value} {d : DataW H} {ps : List MemPlace} (hv : Value.okWide P W .any 0 t v) (h : DataW.Trod encH P W 0 (fun _ => true) true t v d ps) :
    ∃ p cap L, v = .slice p L.length cap ∧ L.length ≤ cap ∧ cap ≤ maxLen ∧ (p = none → cap = 0) ∧ SlAt enc k W p L ∧ ∀ x ∈ L, Ok x := by
  obtain ⟨a0, len, cap, rfl⟩ := okWide_slice ht hv
  obtain ⟨fuel, hf⟩ := h
  rcases open_slice ht hf with ⟨hcs, _⟩ | ⟨a, len', cap', m, n, D, Pl, hcs, _, hl, hm, hmm, _, hi⟩
  · simp [Value.cells] at hcs
    obtain ⟨rfl, rfl, rfl⟩ := hcs
    exact ⟨none, 0, [], rfl, Nat.le_refl _, by unfold maxLen; omega, fun _ => rfl, .inl rfl, by simp⟩
  · simp [Value.cells] at hcs
    obtain ⟨rfl, rfl, rfl⟩ := hcs
    simp only [if_true] at hmm
    subst hmm
    have each : ∀ i, i < len → ∃ x, Ok x ∧ W.cells? 0 (a.add (i * k)) k = some (enc x) := by
      intro i hil
      obtain ⟨cs', h1, h2⟩ := hi i (by omega)
      obtain ⟨x, ho, rfl⟩ := hR _ _ _ _ _ _ _ _ _ h2
      rw [hk] at h1
      exact ⟨x, ho, h1⟩
    obtain ⟨f, hf⟩ := choose_lt each
    refine ⟨some a, m, (List.range len).map f, by simp, by simpa using hl, hm, (fun e => by cases e), ?_, fun x hx => ?_⟩
    · by_cases h0 : len = 0
      · subst h0; exact .inl rfl
      · obtain ⟨_, hlen, hc⟩ := World.cells?_some (hf 0 (by omega)).2
        have hc0 := hc 0 hk0
        rw [List.getElem?_eq_getElem (by omega)] at hc0
        obtain ⟨b, o, sp⟩ := a
        have hsp : sp = none := by
          cases sp with
          | none => rfl
          | some z =>
            simp [Addr.add, World.cell?] at hc0
            split at hc0 <;> simp at hc0
        subst hsp
        rw [Addr.add_lit, Addr.add_lit] at hc0
        refine .inr ⟨b, o, rfl, lt_of_cell hc0, fun i x hx j v hv => ?_⟩
        rw [List.getElem?_map] at hx
        obtain ⟨i', hi', rfl⟩ := Option.map_eq_some_iff.1 hx
        obtain ⟨hil, rfl⟩ : i < len ∧ i = i' := by
          obtain ⟨h1, h2⟩ := List.getElem?_eq_some_iff.1 hi'
          simp at h1 h2
          exact ⟨h1, h2⟩
        obtain ⟨_, hlen, hc⟩ := World.cells?_some (hf i hil).2
        have := hc j (by have := (List.getElem?_eq_some_iff.1 hv).1; omega)
        rw [Addr.add_lit, Addr.add_lit, hv] at this
        exact this
    · obtain ⟨i, hi, rfl⟩ := List.mem_map.1 hx
      exact (hf i (by simpa using hi)).1

/-- A struct argument by value: an element. -/
theorem read_agg {α : Type} {P : Program} {t : TypeId} {fs : Array Field} {enc : α → List Value} {Ok : α → Prop} (ht : P.underlying t = some (.struct fs)) (hR : ElemR P t enc Ok)
    {H : Type} {encH : TypeId × Value → H} {W : World} {v : Value} {d : DataW H} {ps : List MemPlace} (hv : Value.okWide P W .any 0 t v) (h : DataW.Trod encH P W 0 (fun _ => true) true t v d ps) :
    ∃ x, v = .agg (enc x).toArray ∧ Ok x := by
  obtain ⟨cs, rfl, hsz⟩ := okWide_struct ht hv
  obtain ⟨fuel, hf⟩ := h
  obtain ⟨x, ho, hx⟩ := hR _ _ _ _ _ _ _ _ _ hf
  refine ⟨x, ?_, ho⟩
  rw [← hx]
  rfl

theorem trod_blocks {H : Type} {encH : TypeId × Value → H} {P : Program} {W : World} {t : TypeId} {v : Value} {d : DataW H} {ps : List MemPlace} (h : DataW.Trod encH P W 0 (fun _ => true) true t v d ps) : ∀ x ∈ ps, x.block < W.heap.size := by
  obtain ⟨m, hm⟩ := h
  exact DataW.trod_lt m _ _ _ hm
end Go.Proofs.Ytcofpmmoijnfiaa
