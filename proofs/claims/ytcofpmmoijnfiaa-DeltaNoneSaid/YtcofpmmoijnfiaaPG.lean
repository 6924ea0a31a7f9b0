/- Plain laws, whatever the keys' order: lists of keys with numbers that rise, and what a set does to them. -/
import Derived.Test.YtcofpmmoijnfiaaP1
namespace Go.Proofs.Ytcofpmmoijnfiaa
section
variable {κ : Type} [DecidableEq κ]

structure Ord (lt : κ → κ → Bool) : Prop where
  irrefl : ∀ a, lt a a = false
  trans : ∀ {a b c}, lt a b = true → lt b c = true → lt a c = true
  total : ∀ {a b}, a ≠ b → lt a b = true ∨ lt b a = true
variable {lt : κ → κ → Bool}
omit [DecidableEq κ] in
theorem Ord.ne (O : Ord lt) {a b : κ} (h : lt a b = true) : a ≠ b := fun e => by rw [e, O.irrefl] at h; cases h

def RisingG (lt : κ → κ → Bool) (L : List (κ × Int)) : Prop := L.Pairwise fun a b => lt a.1 b.1 = true

def insG (lt : κ → κ → Bool) (k : κ) (n : Int) : Bool → List (κ × Int) → List (κ × Int)
  | done, [] => if done then [] else [(k, n)]
  | done, x :: L => (if !done && !lt x.1 k then [(k, n)] else []) ++ ((if x.1 = k then [] else [x]) ++ insG lt k n (done || !lt x.1 k) L)

theorem insG_cons (k : κ) (n : Int) (dn : Bool) (t : κ) (cn : Int) (L : List (κ × Int)) : insG lt k n dn ((t, cn) :: L) = (if (!dn && !lt t k) = true then [(k, n)] else []) ++ ((if t = k then [] else [(t, cn)]) ++ insG lt k n (dn || !lt t k) L) := rfl
theorem insG_true (k : κ) (n : Int) (L : List (κ × Int)) : insG lt k n true L = L.filter fun p => !decide (p.1 = k) := by
  induction L with
  | nil => rfl
  | cons x L ih =>
    obtain ⟨t, m⟩ := x
    rw [insG_cons]
    simp only [Bool.not_true, Bool.false_and, Bool.false_eq_true, if_false, List.nil_append, Bool.true_or, ih, List.filter_cons]
    by_cases h : t = k <;> simp [h]
theorem insG_lt (O : Ord lt) {k : κ} (n : Int) {x : κ × Int} (L : List (κ × Int)) (h : lt x.1 k = true) : insG lt k n false (x :: L) = x :: insG lt k n false L := by
  obtain ⟨t, m⟩ := x
  rw [insG_cons]
  have := O.ne h
  simp at h this
  simp [h, this]
theorem insG_ge {k : κ} (n : Int) {x : κ × Int} (L : List (κ × Int)) (h : lt x.1 k = false) : insG lt k n false (x :: L) = (k, n) :: (x :: L).filter fun p => !decide (p.1 = k) := by
  obtain ⟨t, m⟩ := x
  rw [insG_cons]
  simp at h
  simp only [Bool.not_false, Bool.true_and, h, Bool.false_or, insG_true, if_true, List.filter_cons]
  by_cases h : t = k <;> simp [h]

theorem insG_mem (O : Ord lt) {k : κ} {n : Int} {L : List (κ × Int)} {p : κ × Int} (h : p ∈ insG lt k n false L) : p = (k, n) ∨ p ∈ L := by
  induction L with
  | nil => simp [insG] at h; exact .inl h
  | cons x L ih =>
    cases hx : lt x.1 k
    · rw [insG_ge n L hx] at h
      rcases List.mem_cons.1 h with h | h
      · exact .inl h
      · exact .inr (List.mem_filter.1 h).1
    · rw [insG_lt O n L hx] at h
      rcases List.mem_cons.1 h with h | h
      · exact .inr (by simp [h])
      · rcases ih h with h | h
        · exact .inl h
        · exact .inr (by simp [h])

theorem risingG_ge (O : Ord lt) {k : κ} {x : κ × Int} {L : List (κ × Int)} (h : RisingG lt (x :: L)) (hx : lt x.1 k = false) : ∀ y ∈ x :: L, y.1 ≠ k → lt k y.1 = true := by
  intro y hy hne
  obtain ⟨h1, _⟩ := List.pairwise_cons.1 h
  rcases List.mem_cons.1 hy with rfl | hy
  · rcases O.total hne with h2 | h2
    · rw [hx] at h2; cases h2
    · exact h2
  · by_cases e : x.1 = k
    · rw [← e]; exact h1 y hy
    · rcases O.total e with h2 | h2
      · rw [hx] at h2; cases h2
      · exact O.trans h2 (h1 y hy)

theorem insG_rising (O : Ord lt) {k : κ} {n : Int} {L : List (κ × Int)} (h : RisingG lt L) : RisingG lt (insG lt k n false L) := by
  induction L with
  | nil => simp [insG, RisingG]
  | cons x L ih =>
    obtain ⟨h1, h2⟩ := List.pairwise_cons.1 h
    cases hx : lt x.1 k
    · rw [insG_ge n L hx]
      refine List.pairwise_cons.2 ⟨fun y hy => ?_, h.filter _⟩
      obtain ⟨hy, hne⟩ := List.mem_filter.1 hy
      exact risingG_ge O h hx y hy (by simpa using hne)
    · rw [insG_lt O n L hx]
      refine List.pairwise_cons.2 ⟨fun y hy => ?_, ih h2⟩
      rcases insG_mem O hy with rfl | hy
      · exact hx
      · exact h1 y hy

/-- A key stands once: without it the list is that much shorter. -/
theorem filter_size (O : Ord lt) {L : List (κ × Int)} (h : RisingG lt L) (k : κ) : (L.filter fun p => !decide (p.1 = k)).length + (if hasK L k then 1 else 0) = L.length := by
  induction L with
  | nil => simp [hasK]
  | cons x L ih =>
    obtain ⟨h1, h2⟩ := List.pairwise_cons.1 h
    have I := ih h2
    rw [hasK_cons, List.filter_cons]
    by_cases e : x.1 = k
    · have hn : hasK L k = false := hasK_false_iff.2 fun p hp e' => by
        have := h1 p hp
        rw [e', e, O.irrefl] at this; cases this
      rw [hn] at I
      simp only [e, decide_true, Bool.not_true, Bool.false_eq_true, if_false, Bool.true_or, if_true, List.length_cons] at I ⊢
      omega
    · simp only [e, decide_false, Bool.not_false, if_true, Bool.false_or, List.length_cons]
      omega

theorem insG_put (O : Ord lt) {k : κ} {n : Int} {L : List (κ × Int)} (h : RisingG lt L) : PutL L k n (insG lt k n false L) := by
  induction L with
  | nil => exact ⟨by simp [insG, cnt], by simp [insG, hasK], fun s hs => by simp [insG, cnt, Ne.symm hs], fun s hs => by simp [insG, hasK, Ne.symm hs], by simp [insG, hasK], by simp [insG]⟩
  | cons x L ih =>
    obtain ⟨h1, h2⟩ := List.pairwise_cons.1 h
    cases hx : lt x.1 k
    · have hs := filter_size O h k
      rw [insG_ge n L hx]
      refine ⟨by simp [cnt_cons], by simp [hasK_cons], fun s hs => by rw [cnt_cons, if_neg (Ne.symm hs), cnt_filter _ _ _ hs], fun s hs => by rw [hasK_cons, hasK_filter _ _ _ hs]; simp [Ne.symm hs], ?_, fun p hp => ?_⟩
      · rw [List.length_cons]
        split <;> simp_all
      · rcases List.mem_cons.1 hp with rfl | hp
        · exact .inl rfl
        · exact .inr (List.mem_filter.1 hp).1
    · rw [insG_lt O n L hx]
      have hne := O.ne hx
      have I := ih h2
      refine ⟨by rw [cnt_cons, if_neg hne, I.same], by rw [hasK_cons, I.hasS]; simp, fun s hs => by rw [cnt_cons, cnt_cons, I.other s hs], fun s hs => by rw [hasK_cons, hasK_cons, I.hasO s hs], ?_, fun p hp => ?_⟩
      · rw [hasK_cons, List.length_cons, I.size]
        simp only [hne, decide_false, Bool.false_or, List.length_cons]
        split <;> rfl
      · rcases List.mem_cons.1 hp with rfl | hp
        · exact .inr (by simp)
        · rcases I.mem p hp with h | h
          · exact .inl h
          · exact .inr (by simp [h])

/-- The list with the count n at k: with none, where n is 0. -/
def setG (lt : κ → κ → Bool) (L : List (κ × Int)) (k : κ) (n : Int) : List (κ × Int) := insG lt k n (n == 0) L

theorem setG_rising (O : Ord lt) {L : List (κ × Int)} (h : RisingG lt L) (k : κ) (n : Int) : RisingG lt (setG lt L k n) := by
  unfold setG
  cases n == 0
  · exact insG_rising O h
  · rw [insG_true]; exact h.filter _
/-- Stored at 0 and taken away again. -/
theorem set_zero (O : Ord lt) {L : List (κ × Int)} (h : RisingG lt L) (k : κ) : DelL (insG lt k 0 false L) k (setG lt L k 0) := by
  have P := insG_put O (n := 0) (k := k) h
  have S := filter_size O h k
  show DelL (insG lt k 0 false L) k (insG lt k 0 true L)
  rw [insG_true]
  refine ⟨hasK_filter_self _ _, fun s hs => by rw [cnt_filter _ _ _ hs, P.other s hs], fun s hs => by rw [hasK_filter _ _ _ hs, P.hasO s hs], ?_, fun p hp => ?_⟩
  · rw [P.hasS, P.size]
    cases hk : hasK L k <;> simp only [hk, if_true, Bool.false_eq_true, if_false] at S ⊢ <;> omega
  · obtain ⟨hp, hne⟩ := List.mem_filter.1 hp
    have h1 : ∀ M : List (κ × Int), p ∈ M → RisingG lt M → p ∈ insG lt k 0 false M := by
      intro M hM hRM
      induction M with
      | nil => cases hM
      | cons x M ih =>
        cases hx : lt x.1 k
        · rw [insG_ge 0 M hx]
          exact List.mem_cons_of_mem _ (List.mem_filter.2 ⟨hM, hne⟩)
        · rw [insG_lt O 0 M hx]
          rcases List.mem_cons.1 hM with rfl | hM
          · simp
          · exact List.mem_cons_of_mem _ (ih hM (List.pairwise_cons.1 hRM).2)
    exact h1 L hp h
theorem setG_mem (O : Ord lt) {L : List (κ × Int)} {k : κ} {n : Int} {p : κ × Int} (h : p ∈ setG lt L k n) : (p = (k, n) ∧ n ≠ 0) ∨ p ∈ L := by
  unfold setG at h
  cases hn : n == 0
  · rw [hn] at h
    rcases insG_mem O h with h | h
    · exact .inl ⟨h, by simpa using hn⟩
    · exact .inr h
  · rw [hn, insG_true] at h
    exact .inr (List.mem_filter.1 h).1
theorem setG_length (O : Ord lt) {L : List (κ × Int)} (h : RisingG lt L) (k : κ) (n : Int) : (setG lt L k n).length ≤ L.length + 1 := by
  unfold setG
  cases n == 0
  · have := (insG_put O (n := n) (k := k) h).size
    rw [this]; split <;> omega
  · rw [insG_true]
    have := List.length_filter_le (fun p : κ × Int => !decide (p.1 = k)) L
    omega
end
end Go.Proofs.Ytcofpmmoijnfiaa
