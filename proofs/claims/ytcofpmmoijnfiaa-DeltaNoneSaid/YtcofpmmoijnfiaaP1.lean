/- Plain laws: the order of bytes, lists of words that rise, and what Add does to them. -/
import Derived.Test.YtcofpmmoijnfiaaR7
namespace Go.Proofs.Ytcofpmmoijnfiaa

theorem bl_irrefl : ∀ x : List UInt8, Op.bytesLess x x = false
  | [] => rfl
  | a :: x => by simp [Op.bytesLess, bl_irrefl x]
theorem bl_trans : ∀ x y z : List UInt8, Op.bytesLess x y = true → Op.bytesLess y z = true → Op.bytesLess x z = true
  | _, [], _, h, _ => by simp [Op.bytesLess] at h
  | _, _ :: _, [], _, h => by simp [Op.bytesLess] at h
  | [], _ :: _, _ :: _, _, _ => rfl
  | a :: x, b :: y, c :: z, h1, h2 => by
    simp only [Op.bytesLess, Bool.or_eq_true, Bool.and_eq_true, decide_eq_true_eq, beq_iff_eq] at *
    rcases h1 with h1 | ⟨rfl, h1⟩
    · rcases h2 with h2 | ⟨rfl, h2⟩
      · exact .inl (UInt8.lt_trans h1 h2)
      · exact .inl h1
    · rcases h2 with h2 | ⟨rfl, h2⟩
      · exact .inl h2
      · exact .inr ⟨rfl, bl_trans x y z h1 h2⟩
theorem bl_total : ∀ x y : List UInt8, x ≠ y → Op.bytesLess x y = true ∨ Op.bytesLess y x = true
  | [], [], h => absurd rfl h
  | [], _ :: _, _ => .inl rfl
  | _ :: _, [], _ => .inr rfl
  | a :: x, b :: y, h => by
    simp only [Op.bytesLess, Bool.or_eq_true, Bool.and_eq_true, decide_eq_true_eq, beq_iff_eq]
    rcases UInt8.lt_or_lt_of_ne (a := a) (b := b) |> fun f => (Classical.em (a = b)).imp id f with rfl | h1 | h1
    · rcases bl_total x y (fun e => h (by rw [e])) with h2 | h2
      · exact .inl (.inr ⟨rfl, h2⟩)
      · exact .inr (.inr ⟨rfl, h2⟩)
    · exact .inl (.inl h1)
    · exact .inr (.inl h1)

theorem ba_ext {a b : ByteArray} (h : a.data.toList = b.data.toList) : a = b := by
  cases a; cases b; simp at h; rw [h]
theorem ltB_irrefl (a : ByteArray) : ltB a a = false := bl_irrefl _
theorem ltB_trans {a b c : ByteArray} (h : ltB a b = true) (k : ltB b c = true) : ltB a c = true := bl_trans _ _ _ h k
theorem ltB_total {a b : ByteArray} (h : a ≠ b) : ltB a b = true ∨ ltB b a = true := bl_total _ _ fun e => h (ba_ext e)
theorem ltB_ne_of {a b : ByteArray} (h : ltB a b = true) : a ≠ b := fun e => by rw [e, ltB_irrefl] at h; cases h
theorem ltB_asymm {a b : ByteArray} (h : ltB a b = true) : ltB b a = false := by
  cases hb : ltB b a
  · rfl
  · rw [← ltB_irrefl a]; exact (ltB_trans h hb).symm

def Rising (L : List W2) : Prop := L.Pairwise fun a b => ltB a.1 b.1 = true

theorem insW_true (word : ByteArray) (sum : Int) (L : List W2) : insW word sum true L = L.filter fun p => !decide (p.1 = word) := by
  induction L with
  | nil => rfl
  | cons x L ih =>
    obtain ⟨t, n⟩ := x
    rw [insW_cons]
    simp only [Bool.not_true, Bool.false_and, Bool.false_eq_true, if_false, List.nil_append, Bool.true_or, ih, List.filter_cons]
    by_cases h : t = word <;> simp [h]
theorem insW_lt {word : ByteArray} (sum : Int) {x : W2} (L : List W2) (h : ltB x.1 word = true) : insW word sum false (x :: L) = x :: insW word sum false L := by
  obtain ⟨t, n⟩ := x
  rw [insW_cons]
  have := ltB_ne_of h
  simp at h this
  simp [h, this]
theorem insW_ge {word : ByteArray} (sum : Int) {x : W2} (L : List W2) (h : ltB x.1 word = false) : insW word sum false (x :: L) = (word, sum) :: (x :: L).filter fun p => !decide (p.1 = word) := by
  obtain ⟨t, n⟩ := x
  rw [insW_cons]
  simp at h
  simp only [Bool.not_false, Bool.true_and, h, Bool.false_or, insW_true, if_true, List.filter_cons]
  by_cases h : t = word <;> simp [h]

theorem insW_mem {word : ByteArray} {sum : Int} {L : List W2} {p : W2} (h : p ∈ insW word sum false L) : p = (word, sum) ∨ p ∈ L := by
  induction L with
  | nil => simp [insW] at h; exact .inl h
  | cons x L ih =>
    cases hx : ltB x.1 word
    · rw [insW_ge sum L hx] at h
      rcases List.mem_cons.1 h with h | h
      · exact .inl h
      · exact .inr (List.mem_filter.1 h).1
    · rw [insW_lt sum L hx] at h
      rcases List.mem_cons.1 h with h | h
      · exact .inr (by simp [h])
      · rcases ih h with h | h
        · exact .inl h
        · exact .inr (by simp [h])

theorem rising_ge {word : ByteArray} {x : W2} {L : List W2} (h : Rising (x :: L)) (hx : ltB x.1 word = false) : ∀ y ∈ x :: L, y.1 ≠ word → ltB word y.1 = true := by
  intro y hy hne
  obtain ⟨h1, _⟩ := List.pairwise_cons.1 h
  rcases List.mem_cons.1 hy with rfl | hy
  · rcases ltB_total hne with h2 | h2
    · rw [hx] at h2; cases h2
    · exact h2
  · by_cases e : x.1 = word
    · rw [← e]; exact h1 y hy
    · rcases ltB_total e with h2 | h2
      · rw [hx] at h2; cases h2
      · exact ltB_trans h2 (h1 y hy)

theorem insW_rising {word : ByteArray} {sum : Int} {L : List W2} (h : Rising L) : Rising (insW word sum false L) := by
  induction L with
  | nil => simp [insW, Rising]
  | cons x L ih =>
    obtain ⟨h1, h2⟩ := List.pairwise_cons.1 h
    cases hx : ltB x.1 word
    · rw [insW_ge sum L hx]
      refine List.pairwise_cons.2 ⟨fun y hy => ?_, h.filter _⟩
      obtain ⟨hy, hne⟩ := List.mem_filter.1 hy
      exact rising_ge h hx y hy (by simpa using hne)
    · rw [insW_lt sum L hx]
      refine List.pairwise_cons.2 ⟨fun y hy => ?_, ih h2⟩
      rcases insW_mem hy with rfl | hy
      · exact hx
      · exact h1 y hy

theorem hasK_false_iff {κ : Type} [DecidableEq κ] {L : List (κ × Int)} {s : κ} : hasK L s = false ↔ ∀ p ∈ L, p.1 ≠ s := by
  unfold hasK
  rw [List.any_eq_false]
  simp
theorem hasK_true_iff {κ : Type} [DecidableEq κ] {L : List (κ × Int)} {s : κ} : hasK L s = true ↔ ∃ p ∈ L, p.1 = s := by
  unfold hasK
  rw [List.any_eq_true]
  simp
theorem cnt_cons {κ : Type} [DecidableEq κ] (x : κ × Int) (L : List (κ × Int)) (s : κ) : cnt (x :: L) s = if x.1 = s then x.2 else cnt L s := by
  unfold cnt
  rw [List.find?_cons]
  by_cases h : x.1 = s <;> simp [h]
theorem hasK_cons {κ : Type} [DecidableEq κ] (x : κ × Int) (L : List (κ × Int)) (s : κ) : hasK (x :: L) s = (decide (x.1 = s) || hasK L s) := by
  simp [hasK]
theorem cnt_filter {κ : Type} [DecidableEq κ] (L : List (κ × Int)) (k s : κ) (h : s ≠ k) : cnt (L.filter fun p => !decide (p.1 = k)) s = cnt L s := by
  induction L with
  | nil => rfl
  | cons x L ih =>
    rw [List.filter_cons]
    by_cases hx : x.1 = k
    · have hs : x.1 ≠ s := fun e => h (e.symm.trans hx)
      have e2 := cnt_cons x L s
      rw [if_neg hs] at e2
      rw [e2]
      simp [hx, ih]
    · simp only [hx, decide_false, Bool.not_false, if_true, cnt_cons, ih]
theorem hasK_filter {κ : Type} [DecidableEq κ] (L : List (κ × Int)) (k s : κ) (h : s ≠ k) : hasK (L.filter fun p => !decide (p.1 = k)) s = hasK L s := by
  rw [Bool.eq_iff_iff, hasK_true_iff, hasK_true_iff]
  constructor
  · rintro ⟨p, hp, rfl⟩; exact ⟨p, (List.mem_filter.1 hp).1, rfl⟩
  · rintro ⟨p, hp, rfl⟩; exact ⟨p, List.mem_filter.2 ⟨hp, by simpa using h⟩, rfl⟩
theorem hasK_filter_self {κ : Type} [DecidableEq κ] (L : List (κ × Int)) (k : κ) : hasK (L.filter fun p => !decide (p.1 = k)) k = false := by
  rw [hasK_false_iff]
  intro p hp
  simpa using (List.mem_filter.1 hp).2

theorem insW_put {word : ByteArray} {sum : Int} {L : List W2} (h : Rising L) : PutL L word sum (insW word sum false L) := by
  induction L with
  | nil => exact ⟨by simp [insW, cnt], by simp [insW, hasK], fun s hs => by simp [insW, cnt, Ne.symm hs], fun s hs => by simp [insW, hasK, Ne.symm hs], by simp [insW, hasK], by simp [insW]⟩
  | cons x L ih =>
    obtain ⟨h1, h2⟩ := List.pairwise_cons.1 h
    cases hx : ltB x.1 word
    · rw [insW_ge sum L hx]
      refine ⟨by simp [cnt_cons], by simp [hasK_cons], fun s hs => by rw [cnt_cons, if_neg (Ne.symm hs), cnt_filter _ _ _ hs], fun s hs => by rw [hasK_cons, hasK_filter _ _ _ hs]; simp [Ne.symm hs], ?_, fun p hp => ?_⟩
      · have hL : L.filter (fun p => !decide (p.1 = word)) = L ∧ hasK L word = false := by
          have hne : ∀ y ∈ L, y.1 ≠ word := by
            intro y hy e
            have := h1 y hy
            rw [e, hx] at this; cases this
          exact ⟨List.filter_eq_self.2 fun y hy => by simpa using hne y hy, hasK_false_iff.2 hne⟩
        rw [hasK_cons, hL.2, List.filter_cons, hL.1]
        by_cases e : x.1 = word <;> simp [e]
      · rcases List.mem_cons.1 hp with rfl | hp
        · exact .inl rfl
        · exact .inr (List.mem_filter.1 hp).1
    · rw [insW_lt sum L hx]
      have hne := ltB_ne_of hx
      have I := ih h2
      refine ⟨by rw [cnt_cons, if_neg hne, I.same], by rw [hasK_cons, I.hasS]; simp, fun s hs => by rw [cnt_cons, cnt_cons, I.other s hs], fun s hs => by rw [hasK_cons, hasK_cons, I.hasO s hs], ?_, fun p hp => ?_⟩
      · rw [hasK_cons, List.length_cons, I.size]
        simp only [hne, decide_false, Bool.false_or, List.length_cons]
        split <;> rfl
      · rcases List.mem_cons.1 hp with rfl | hp
        · exact .inr (by simp)
        · rcases I.mem p hp with h | h
          · exact .inl h
          · exact .inr (by simp [h])

theorem addW_rising {L : List W2} (h : Rising L) (word : ByteArray) (n : Int) : Rising (addW L word n).1 := by
  unfold addW
  split
  · exact h
  · split
    · exact insW_rising h
    · exact h
end Go.Proofs.Ytcofpmmoijnfiaa
