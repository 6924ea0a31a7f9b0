/- The counts of pairs: the document's example; Apply at nil. -/
import Derived.Test.YtcofpmmoijnfiaaD6
namespace Go.Proofs.Ytcofpmmoijnfiaa
open Go.RowKit

theorem wfP_of {a b : Int} (h : -9223372036854775808 ≤ a ∧ a ≤ 9223372036854775807) (k : -9223372036854775808 ≤ b ∧ b ≤ 9223372036854775807) : WfP (a, b) := ⟨WalkArith.wf_i64 (by omega), WalkArith.wf_i64 (by omega)⟩
theorem wf_i64 {n : Int} (h : (Lit.int .i64 n).wf = true) : -9223372036854775808 ≤ n ∧ n ≤ 9223372036854775807 := by
  simp [Lit.wf, IntKind.min, IntKind.max, IntKind.signed, IntKind.bits] at h
  omega

theorem awake12_any (w : World) : Calls Try.prog 63 #[] w fun e w' => e = .returned (.bool true) ∧ Keep No w w' := by
  have hwp : WfP (97, 98) := wfP_of (by omega) (by omega)
  have a1 : addD [] (97, 98) 2 3 = ([((97, 98), 6)], 0) := by decide
  have a2 : addD [((97, 98), 6)] (97, 98) (-2) 3 = ([], 0) := by decide
  have a3 : cnt [(((97, 98) : P2), (6 : Int))] (97, 98) = 6 := by decide
  go_enter Try.func63, Try.ntmps63
  go_wp2_with (first | (go_at_call 64; refine (DNew_any _).mono ?_; rintro e w1 ⟨rfl, hd, hk1, hB⟩) | (go_at_call 65; skip; fail))
  obtain ⟨W, hW⟩ : ∃ W, W = w1.alloc (.cells #[.int .i64 97, .int .i64 98] 41) := ⟨_, rfl⟩
  have hk : Keep No w1 W := by rw [hW]; exact (Keep.refl No _).alloc _
  have c1 : W.cell? ⟨w1.heap.size, 0, none⟩ = some (.int .i64 97) := by rw [hW]; exact cell_new (xs := [.int .i64 97, .int .i64 98]) rfl
  have c2 : W.cell? ⟨w1.heap.size, 1, none⟩ = some (.int .i64 98) := by rw [hW]; exact cell_new (xs := [.int .i64 97, .int .i64 98]) rfl
  obtain ⟨hd2, hf2⟩ := hd.keep hk (fun _ _ e => e)
  have hflt := hd.foot_lt
  have hB2 : ∀ k, footC W w.heap.size k → w.heap.size ≤ k := fun k hk => hB k (hf2 k hk)
  have hkW := hk1.trans' hk
  rw [← hW]
  clear hW hk hd
  have hA := DAdd_any w.heap.size [] (97, 98) 2 3 W hd2 hwp List.Pairwise.nil (fun _ h => nomatch h) (by simp) (by omega) (by omega)
  rw [a1] at hA
  refine hA.mono ?_
  rintro e W3 ⟨rfl, hA3⟩
  obtain ⟨hk3, hB3⟩ := hA3.own hkW hB2
  have hoff : ¬ footC W w.heap.size w1.heap.size := fun e => absurd (hflt _ (hf2 _ e)) (by omega)
  have d1 := hA3.keep.cell hoff c1
  have d2 := hA3.keep.cell hoff c2
  have hlt3 : w1.heap.size < W3.heap.size := lt_of_cell d1
  have hoff3 : ¬ footC W3 w.heap.size w1.heap.size := fun e => by
    rcases hA3.foot _ e with h | h
    · exact hoff h
    · have := lt_of_cell c1; omega
  have hget := DGet_any w.heap.size _ (97, 98) W3 hA3.is hwp
  rw [a3] at hget
  go_wp2_with (first | (go_at_call 66; refine hget.mono ?_; rintro e W4 ⟨rfl, hk4⟩; have e1 := hk4.cell (fun e => e) d1; have e2 := hk4.cell (fun e => e) d2) | (go_at_call 65; skip; fail))
  obtain ⟨hd4, hf4⟩ := hA3.is.keep hk4 (fun _ _ e => e)
  have hA' := DAdd_any w.heap.size _ (97, 98) (-2) 3 W4 hd4 hwp (by unfold RisingG; decide) (by intro q hq; simp at hq; subst hq; simp) (by simp) (by omega) (by omega)
  rw [a2] at hA'
  refine hA'.mono ?_
  rintro e W5 ⟨rfl, hA5⟩
  obtain ⟨hk5, hB5⟩ := hA5.own (hk3.trans' hk4) (fun k hk => hB3 k (hf4 k hk))
  go_wp2_with (first | (go_at_call 67; refine (DLen_any w.heap.size [] _ hA5.is).mono ?_; rintro e w' ⟨rfl, rfl⟩))
  go_ret
  exact ⟨by simp, hk5⟩
end Go.Proofs.Ytcofpmmoijnfiaa
