/- The counts of pairs (package delta): New, Get, Len. -/
import Derived.Test.YtcofpmmoijnfiaaD3
import Derived.Test.YtcofpmmoijnfiaaPG
namespace Go.Proofs.Ytcofpmmoijnfiaa
open Go.RowKit

abbrev PL := List (P2 × Int)
abbrev MapP := MapV (κ := P2) Try.prog 41 klP WfP
theorem keyD : KeyT Try.prog 128 41 P2 encPv klP WfP := keyP 128 Try.underlying128
/-- The counts in block c are L. -/
def IsD (w : World) (c : Nat) (L : PL) : Prop :=
  ∃ mv, w.cell? ⟨c, 0, none⟩ = some mv ∧ w.frozen? ⟨c, 0, none⟩ = false ∧ MapP w mv L ∧ ∀ b, mv = .map (some b) → b ≠ c
theorem IsD.lt {w : World} {c : Nat} {L : PL} (h : IsD w c L) : c < w.heap.size := by
  obtain ⟨mv, hc, _⟩ := h
  exact lt_of_cell hc
theorem IsD.foot_lt {w : World} {c : Nat} {L : PL} (h : IsD w c L) : ∀ k, footC w c k → k < w.heap.size := by
  rintro k (rfl | hk)
  · exact h.lt
  · obtain ⟨mv, hc, _, hm, _⟩ := h
    rw [hc] at hk
    rcases hm with ⟨rfl, _⟩ | ⟨b, rfl, hm⟩
    · cases hk
    · cases hk; exact hm.lt
theorem IsD.keep {w w' : World} {c : Nat} {L : PL} {S : Nat → Prop} (h : IsD w c L) (hk : Keep S w w') (hs : ∀ k, footC w c k → ¬ S k) : IsD w' c L ∧ ∀ k, footC w' c k → footC w c k := by
  have hl := h.lt
  obtain ⟨mv, hc, hf, hm, hne⟩ := h
  have hc' := hk.cell (hs c (.inl rfl)) hc
  refine ⟨⟨mv, hc', (hk.frozen (hs c (.inl rfl)) hl).trans hf, hm.keep hk fun b e => hs b (.inr (by rw [hc, e])), hne⟩, ?_⟩
  rintro k (rfl | h)
  · exact .inl rfl
  · rw [hc'] at h; exact .inr (hc.trans h)
theorem IsD.keepNo {w w' : World} {c : Nat} {L : PL} (h : IsD w c L) (hk : Keep No w w') : IsD w' c L := (h.keep hk fun _ _ e => e).1

theorem isD_new (w : World) : IsD (w.alloc (.cells #[.map none] 130)) w.heap.size [] ∧ ∀ k, footC (w.alloc (.cells #[.map none] 130)) w.heap.size k → w.heap.size ≤ k := by
  refine ⟨⟨.map none, cell_new (xs := [.map none]) rfl, frozen_new, .inl ⟨rfl, rfl⟩, fun b e => by cases e⟩, ?_⟩
  rintro k (rfl | hk)
  · exact Nat.le_refl _
  · rw [show (w.alloc (.cells #[.map none] 130)).cell? ⟨w.heap.size, 0, none⟩ = some (.map none) from cell_new (xs := [.map none]) rfl] at hk; cases hk

theorem DNew_any (w : World) : Calls Try.prog 64 #[] w fun e w' => e = .returned (.pointer (some ⟨w.heap.size, 0, none⟩)) ∧ IsD w' w.heap.size [] ∧ Keep No w w' ∧ ∀ k, footC w' w.heap.size k → w.heap.size ≤ k := by
  have hz := isD_new w
  go_enter Try.func64, Try.ntmps64
  go_wp2
  go_ret
  exact ⟨rfl, hz.1, (Keep.refl _ _).alloc _, hz.2⟩

theorem DGet_nil (p : P2) (w : World) :
    Calls Try.prog 66 #[.pointer none, encPv p] w fun e w' => e = .returned (.int .i64 0) ∧ Keep No w w' := by
  unfold encPv
  go_enter Try.func66, Try.ntmps66
  go_wp2
  go_ret
  exact ⟨rfl, (Keep.refl _ _).alloc _⟩
theorem DLen_nil (w : World) :
    Calls Try.prog 67 #[.pointer none] w fun e w' => e = .returned (.int .i64 0) ∧ w = w' := by
  go_enter Try.func67, Try.ntmps67
  go_wp2
  go_ret
  exact ⟨rfl, rfl⟩
theorem DAll_nil (w : World) :
    Calls Try.prog 69 #[.pointer none] w fun e w' => e = .returned (.slice none 0 0) ∧ w = w' := by
  go_enter Try.func69, Try.ntmps69
  go_wp2
  go_ret
  exact ⟨rfl, rfl⟩
set_option maxRecDepth 100000 in
theorem DAdd_nil (p : P2) (by_ t : Int) (w : World) :
    Calls Try.prog 65 #[.pointer none, encPv p, .int .i64 by_, .int .i64 t] w fun e w' => e = .returned (.int .i64 1) ∧ Keep No w w' := by
  unfold encPv
  go_enter Try.func65, Try.ntmps65
  go_wp2
  go_ret
  exact ⟨rfl, (Keep.refl _ _).alloc _⟩

theorem DLen_any (c : Nat) (L : PL) (w : World) (h : IsD w c L) :
    Calls Try.prog 67 #[.pointer (some ⟨c, 0, none⟩)] w fun e w' => e = .returned (.int .i64 L.length) ∧ w = w' := by
  obtain ⟨mv, hc, hf, hm, hne⟩ := h
  have hl := hm.len keyD 3
  go_enter Try.func67, Try.ntmps67
  go_wp2
  go_ret
  exact ⟨rfl, rfl⟩

theorem DGet_any (c : Nat) (L : PL) (p : P2) (w : World) (h : IsD w c L) (hp : WfP p) :
    Calls Try.prog 66 #[.pointer (some ⟨c, 0, none⟩), encPv p] w fun e w' => e = .returned (.int .i64 (cnt L p)) ∧ Keep No w w' := by
  obtain ⟨W, hW⟩ : ∃ W, W = w.alloc (.cells #[.int .i64 p.1, .int .i64 p.2] 41) := ⟨_, rfl⟩
  have hk : Keep No w W := by rw [hW]; exact (Keep.refl No _).alloc _
  have c1 : W.cell? ⟨w.heap.size, 0, none⟩ = some (.int .i64 p.1) := by rw [hW]; exact cell_new (xs := [.int .i64 p.1, .int .i64 p.2]) rfl
  have c2 : W.cell? ⟨w.heap.size, 1, none⟩ = some (.int .i64 p.2) := by rw [hW]; exact cell_new (xs := [.int .i64 p.1, .int .i64 p.2]) rfl
  obtain ⟨mv, hc, hf, hm, hne⟩ := h.keepNo hk
  obtain ⟨mb, rfl⟩ : ∃ mb, mv = .map mb := by rcases hm with ⟨rfl, _⟩ | ⟨b, rfl, _⟩ <;> exact ⟨_, rfl⟩
  have hl : ∀ q, (Instr.lookup 128 (.map mb) (.agg #[.int .i64 p.1, .int .i64 p.2]) false).run Try.prog (W.drewN q) = .ok (.int .i64 (cnt L p)) (W.drewN q) := fun q => (hm.keep ((Keep.refl No W).drewN q) (fun _ _ e => e)).look keyD hp
  unfold encPv
  go_enter Try.func66, Try.ntmps66
  go_wp2
  rw [← hW]
  generalize w.heap.size = n at *
  clear hW h
  go_quiet (fail)
  go_wp2
  go_ret
  exact ⟨rfl, hk.drewN _⟩
end Go.Proofs.Ytcofpmmoijnfiaa
