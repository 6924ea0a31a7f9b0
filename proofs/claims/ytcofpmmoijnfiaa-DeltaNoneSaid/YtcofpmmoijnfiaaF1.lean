/- The counter of words (package freq): New, Count, Len, Add, by what its map holds. -/
import Derived.Test.YtcofpmmoijnfiaaR7
namespace Go.Proofs.Ytcofpmmoijnfiaa
open Go.RowKit

abbrev MapS := MapV (κ := ByteArray) Try.prog 9 klS WfS
/-- The counter in block c holds L. -/
def IsC (w : World) (c : Nat) (L : List W2) : Prop :=
  ∃ mv, w.cell? ⟨c, 0, none⟩ = some mv ∧ w.frozen? ⟨c, 0, none⟩ = false ∧ MapS w mv L ∧ ∀ b, mv = .map (some b) → b ≠ c
/-- The blocks of the counter. -/
def footC (w : World) (c : Nat) : Nat → Prop := fun k => k = c ∨ w.cell? ⟨c, 0, none⟩ = some (.map (some k))

theorem IsC.lt {w : World} {c : Nat} {L : List W2} (h : IsC w c L) : c < w.heap.size := by
  obtain ⟨mv, hc, _⟩ := h
  exact lt_of_cell hc
theorem IsC.foot_lt {w : World} {c : Nat} {L : List W2} (h : IsC w c L) : ∀ k, footC w c k → k < w.heap.size := by
  rintro k (rfl | hk)
  · exact h.lt
  · obtain ⟨mv, hc, _, hm, _⟩ := h
    rw [hc] at hk
    rcases hm with ⟨rfl, _⟩ | ⟨b, rfl, hm⟩
    · cases hk
    · cases hk; exact hm.lt
theorem IsC.keep {w w' : World} {c : Nat} {L : List W2} {S : Nat → Prop} (h : IsC w c L) (hk : Keep S w w') (hs : ∀ k, footC w c k → ¬ S k) : IsC w' c L ∧ ∀ k, footC w' c k → footC w c k := by
  have hl := h.lt
  obtain ⟨mv, hc, hf, hm, hne⟩ := h
  have hc' := hk.cell (hs c (.inl rfl)) hc
  refine ⟨⟨mv, hc', (hk.frozen (hs c (.inl rfl)) hl).trans hf, hm.keep hk fun b e => hs b (.inr (by rw [hc, e])), hne⟩, ?_⟩
  rintro k (rfl | h)
  · exact .inl rfl
  · rw [hc'] at h; exact .inr (hc.trans h)

theorem New_any (w : World) : Calls Try.prog 53 #[] w fun e w' => e = .returned (.pointer (some ⟨w.heap.size, 0, none⟩)) ∧ IsC w' w.heap.size [] ∧ Keep No w w' ∧ ∀ k, footC w' w.heap.size k → w.heap.size ≤ k := by
  go_enter Try.func53, Try.ntmps53
  go_wp2
  go_ret
  refine ⟨rfl, ⟨.map none, ?_, ?_, .inl ⟨rfl, rfl⟩, fun b e => by cases e⟩, (Keep.refl _ _).alloc _, ?_⟩
  · exact cell_new (xs := [.map none]) rfl
  · exact frozen_new
  · rintro k (rfl | hk)
    · exact Nat.le_refl _
    · rw [show (w.alloc (.cells #[.map none] 72)).cell? ⟨w.heap.size, 0, none⟩ = some (.map none) from cell_new (xs := [.map none]) rfl] at hk; cases hk

theorem CCount_any (c : Nat) (L : List W2) (s : ByteArray) (w : World) (h : IsC w c L) (hs : s.size ≤ maxLen) :
    Calls Try.prog 41 #[.pointer (some ⟨c, 0, none⟩), .string s] w fun e w' => e = .returned (.int .i64 (cnt L s)) ∧ w = w' := by
  obtain ⟨mv, hc, hf, hm, hne⟩ := h
  have hl := hm.look keyS (k := s) hs
  go_enter Try.func41, Try.ntmps41
  go_wp2
  go_ret
  exact ⟨rfl, rfl⟩

theorem CLen_any (c : Nat) (L : List W2) (w : World) (h : IsC w c L) :
    Calls Try.prog 42 #[.pointer (some ⟨c, 0, none⟩)] w fun e w' => e = .returned (.int .i64 L.length) ∧ w = w' := by
  obtain ⟨mv, hc, hf, hm, hne⟩ := h
  have hl := hm.len keyS 3
  go_enter Try.func42, Try.ntmps42
  go_wp2
  go_ret
  exact ⟨rfl, rfl⟩

theorem within_any (n : Int) (w : World) :
    Calls Try.prog 125 #[.int .i64 n] w fun e w' => e = .returned (.bool (decide (0 ≤ n))) ∧ w = w' := by
  go_enter Try.func125, Try.ntmps125
  go_wp2
  go_ret
  exact ⟨rfl, rfl⟩

theorem checkedAdd_any (a b : Int) (w : World) (ha : -9223372036854775808 ≤ a) (hb : -9223372036854775808 ≤ b) (ha' : a ≤ 9223372036854775807) (hb' : b ≤ 9223372036854775807) :
    Calls Try.prog 93 #[.int .i64 a, .int .i64 b] w fun e w' => e = .returned (.tuple #[.int .i64 ((addC a b).getD 0), .bool (addC a b).isSome]) ∧ w = w' := by
  by_cases h1 : 0 ≤ a
  · by_cases h2 : 0 ≤ b
    · have d1 : decide (0 ≤ a) = true := by simpa
      have d2 : decide (0 ≤ b) = true := by simpa
      by_cases h3 : a + b ≤ 9223372036854775807
      · have e : addC a b = some (a + b) := if_pos ⟨h1, h2, h3⟩
        rw [e]
        clear e
        go_enter Try.func93, Try.ntmps93
        go_wp2_with (go_at_call 125; refine (within_any _ _).mono ?_; rintro e w' ⟨rfl, rfl⟩)
        go_ret2
        exact ⟨rfl, rfl⟩
      · have e : addC a b = none := if_neg (by omega)
        rw [e]
        clear e
        go_enter Try.func93, Try.ntmps93
        go_wp2_with (go_at_call 125; refine (within_any _ _).mono ?_; rintro e w' ⟨rfl, rfl⟩)
        go_ret2
        exact ⟨rfl, rfl⟩
    · have e : addC a b = none := if_neg (by omega)
      rw [e]
      clear e
      have d1 : decide (0 ≤ a) = true := by simpa
      have d2 : decide (0 ≤ b) = false := by simpa using h2
      go_enter Try.func93, Try.ntmps93
      go_wp2_with (go_at_call 125; refine (within_any _ _).mono ?_; rintro e w' ⟨rfl, rfl⟩)
      go_ret2
      exact ⟨rfl, rfl⟩
  · have e : addC a b = none := if_neg (by omega)
    rw [e]
    clear e
    have d1 : decide (0 ≤ a) = false := by simpa using h1
    go_enter Try.func93, Try.ntmps93
    go_wp2_with (go_at_call 125; refine (within_any _ _).mono ?_; rintro e w' ⟨rfl, rfl⟩)
    go_ret2
    exact ⟨rfl, rfl⟩
end Go.Proofs.Ytcofpmmoijnfiaa
