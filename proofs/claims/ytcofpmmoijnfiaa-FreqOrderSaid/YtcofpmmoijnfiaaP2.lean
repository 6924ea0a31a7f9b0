/- Plain law: what mergeW gives depends on the words' sums alone, so not on their order. -/
import Derived.Test.YtcofpmmoijnfiaaR9
namespace Go.Proofs.Ytcofpmmoijnfiaa

/-- The sum of the counts told of s. -/
def tot : List W2 → ByteArray → Int
  | [], _ => 0
  | x :: r, s => (if x.1 = s then x.2 else 0) + tot r s
theorem tot_cons (x : W2) (r : List W2) (s : ByteArray) : tot (x :: r) s = (if x.1 = s then x.2 else 0) + tot r s := rfl
def goodW (x : W2) : Prop := x.1.size ≠ 0 ∧ 1 ≤ x.2
def OkM (L ws : List W2) : Prop := (∀ x ∈ ws, goodW x) ∧ ∀ s, cnt L s + tot ws s ≤ 9223372036854775807

theorem tot_nonneg {ws : List W2} (h : ∀ x ∈ ws, goodW x) (s : ByteArray) : 0 ≤ tot ws s := by
  induction ws with
  | nil => exact Int.le_refl _
  | cons x r ih =>
    have h1 := ih fun y hy => h y (by simp [hy])
    have h2 := (h x (by simp)).2
    rw [tot_cons]
    split <;> omega
theorem tot_perm {a b : List W2} (h : a.Perm b) (s : ByteArray) : tot a s = tot b s := by
  induction h with
  | nil => rfl
  | cons x _ ih => simp only [tot, ih]
  | swap x y l => simp only [tot]; omega
  | trans _ _ h1 h2 => exact h1.trans h2

theorem mergeW_ok {L ws : List W2} (hR : Rising L) (hI : Ints L) (h : OkM L ws) : ∃ F, mergeW L ws = (some F, 0) ∧ Rising F ∧ ∀ s, cnt F s = cnt L s + tot ws s ∧ hasK F s = (hasK L s || ws.any fun x => decide (x.1 = s)) := by
  induction ws generalizing L with
  | nil => exact ⟨L, rfl, hR, fun s => by simp [tot]⟩
  | cons x r ih =>
    obtain ⟨hg, hs⟩ := h
    obtain ⟨g1, g2⟩ := hg x (by simp)
    have hgr : ∀ y ∈ r, goodW y := fun y hy => hg y (by simp [hy])
    have hc := (hI.cnt x.1).1
    have ht := tot_nonneg hgr x.1
    have hsum : addC (cnt L x.1) x.2 = some (cnt L x.1 + x.2) := by
      have := hs x.1
      rw [tot_cons] at this
      rw [if_pos rfl] at this
      exact if_pos (by omega)
    have e : addW L x.1 x.2 = (insW x.1 (cnt L x.1 + x.2) false L, 0) := by
      unfold addW
      rw [if_neg (by omega), hsum]
    have hp := insW_put (word := x.1) (sum := cnt L x.1 + x.2) hR
    have hcs : ∀ s, cnt (insW x.1 (cnt L x.1 + x.2) false L) s = cnt L s + (if x.1 = s then x.2 else 0) := by
      intro s
      by_cases he : x.1 = s
      · subst he; rw [if_pos rfl, hp.same]
      · rw [if_neg he, hp.other s (Ne.symm he)]; omega
    have hR2 := addW_rising hR x.1 x.2
    have hI2 := addW_ints hI x.1 x.2
    rw [e] at hR2 hI2
    obtain ⟨F, h1, h2, h3⟩ := ih hR2 hI2 ⟨hgr, fun s => by
      have := hs s
      rw [tot_cons] at this
      rw [hcs]
      omega⟩
    refine ⟨F, ?_, h2, fun s => ?_⟩
    · unfold mergeW
      rw [e, if_pos rfl]
      exact h1
    · obtain ⟨h4, h5⟩ := h3 s
      refine ⟨by rw [h4, hcs, tot_cons]; omega, ?_⟩
      rw [h5, List.any_cons]
      by_cases he : x.1 = s
      · subst he; rw [hp.hasS]; simp
      · rw [hp.hasO s (Ne.symm he)]; simp [he]

theorem mergeW_bad {L ws : List W2} (hR : Rising L) (hI : Ints L) (hL : ∀ s, cnt L s ≤ 9223372036854775807) (h : ¬ OkM L ws) : (mergeW L ws).2 ≠ 0 ∧ (mergeW L ws).1 = none := by
  induction ws generalizing L with
  | nil => exact absurd ⟨fun x hx => (nomatch hx), fun s => by simpa [tot] using hL s⟩ h
  | cons x r ih =>
    unfold mergeW
    split
    · rename_i h0
      have hg : goodW x := by
        unfold addW at h0
        split at h0
        · cases h0
        · rename_i hb
          exact ⟨fun e => hb (.inl e), by omega⟩
      have hsum : addC (cnt L x.1) x.2 = some (cnt L x.1 + x.2) := by
        unfold addW at h0
        rw [if_neg (by have := hg.1; have := hg.2; omega)] at h0
        unfold addC at h0 ⊢
        split at h0
        · rename_i heq
          split at heq
          · rw [if_pos (by assumption)]
          · cases heq
        · cases h0
      have e : addW L x.1 x.2 = (insW x.1 (cnt L x.1 + x.2) false L, 0) := by
        unfold addW
        rw [if_neg (by have := hg.1; have := hg.2; omega), hsum]
      have hp := insW_put (word := x.1) (sum := cnt L x.1 + x.2) hR
      have hcs : ∀ s, cnt (insW x.1 (cnt L x.1 + x.2) false L) s = cnt L s + (if x.1 = s then x.2 else 0) := by
        intro s
        by_cases he : x.1 = s
        · subst he; rw [if_pos rfl, hp.same]
        · rw [if_neg he, hp.other s (Ne.symm he)]; omega
      have hR2 := addW_rising hR x.1 x.2
      have hI2 := addW_ints hI x.1 x.2
      rw [e] at hR2 hI2 ⊢
      refine ih hR2 hI2 (fun s => (hI2.cnt s).2) fun hok => h ⟨fun y hy => ?_, fun s => ?_⟩
      · rcases List.mem_cons.1 hy with rfl | hy
        · exact hg
        · exact hok.1 y hy
      · have := hok.2 s
        rw [hcs] at this
        rw [tot_cons]
        omega
    · rename_i h0
      exact ⟨h0, rfl⟩

theorem rising_ext : ∀ {F G : List W2}, Rising F → Rising G → (∀ s, cnt F s = cnt G s) → (∀ s, hasK F s = hasK G s) → F = G
  | [], [], _, _, _, _ => rfl
  | [], b :: G, _, _, _, h => by have := h b.1; simp [hasK] at this
  | a :: F, [], _, _, _, h => by have := h a.1; simp [hasK] at this
  | a :: F, b :: G, hF, hG, hc, hh => by
    obtain ⟨f1, f2⟩ := List.pairwise_cons.1 hF
    obtain ⟨g1, g2⟩ := List.pairwise_cons.1 hG
    have nF : hasK F a.1 = false := hasK_false_iff.2 fun p hp e => by have := f1 p hp; rw [e, ltB_irrefl] at this; cases this
    have nG : hasK G b.1 = false := hasK_false_iff.2 fun p hp e => by have := g1 p hp; rw [e, ltB_irrefl] at this; cases this
    have hab : a.1 = b.1 := by
      refine Classical.byContradiction fun hne => ?_
      rcases ltB_total hne with h | h
      · have := hh a.1
        rw [hasK_cons, hasK_cons] at this
        simp only [decide_true, Bool.true_or, Ne.symm hne, decide_false, Bool.false_or] at this
        obtain ⟨p, hp, e⟩ := hasK_true_iff.1 this.symm
        have h2 := ltB_trans h (g1 p hp)
        rw [e, ltB_irrefl] at h2; cases h2
      · have := hh b.1
        rw [hasK_cons, hasK_cons] at this
        simp only [decide_true, Bool.true_or, hne, decide_false, Bool.false_or] at this
        obtain ⟨p, hp, e⟩ := hasK_true_iff.1 this
        have h2 := ltB_trans h (f1 p hp)
        rw [e, ltB_irrefl] at h2; cases h2
    have hn : a.2 = b.2 := by
      have := hc a.1
      rw [cnt_cons, cnt_cons, if_pos rfl, if_pos hab.symm] at this
      exact this
    have e : a = b := Prod.ext hab hn
    subst e
    congr 1
    refine rising_ext f2 g2 (fun s => ?_) fun s => ?_
    · by_cases es : a.1 = s
      · subst es; rw [cnt_of_not_has nF, cnt_of_not_has nG]
      · have := hc s
        rw [cnt_cons, cnt_cons, if_neg es, if_neg es] at this
        exact this
    · by_cases es : a.1 = s
      · subst es; rw [nF, nG]
      · have := hh s
        rw [hasK_cons, hasK_cons] at this
        simpa [es] using this

/-- The order of the words plays no part. -/
theorem mergeW_perm {a b : List W2} (h : a.Perm b) : ((mergeW [] a).2 = 0 ↔ (mergeW [] b).2 = 0) ∧ (mergeW [] a).1 = (mergeW [] b).1 := by
  have hR : Rising ([] : List W2) := List.Pairwise.nil
  have hI : Ints ([] : List W2) := fun p hp => nomatch hp
  have hL : ∀ s, cnt ([] : List W2) s ≤ 9223372036854775807 := fun s => by simp [cnt]
  by_cases ha : OkM [] a
  · have hb : OkM [] b := ⟨fun x hx => ha.1 x (h.mem_iff.2 hx), fun s => by rw [← tot_perm h]; exact ha.2 s⟩
    obtain ⟨F, h1, h2, h3⟩ := mergeW_ok hR hI ha
    obtain ⟨G, k1, k2, k3⟩ := mergeW_ok hR hI hb
    have e : F = G := rising_ext h2 k2 (fun s => by rw [(h3 s).1, (k3 s).1, tot_perm h]) fun s => by
      rw [(h3 s).2, (k3 s).2, h.any_eq]
    subst e
    rw [h1, k1]
    exact ⟨Iff.rfl, rfl⟩
  · have hb : ¬ OkM [] b := fun hb => ha ⟨fun x hx => hb.1 x (h.mem_iff.1 hx), fun s => by rw [tot_perm h]; exact hb.2 s⟩
    obtain ⟨h1, h2⟩ := mergeW_bad hR hI hL ha
    obtain ⟨k1, k2⟩ := mergeW_bad hR hI hL hb
    exact ⟨⟨fun e => absurd e h1, fun e => absurd e k1⟩, by rw [h2, k2]⟩
end Go.Proofs.Ytcofpmmoijnfiaa
