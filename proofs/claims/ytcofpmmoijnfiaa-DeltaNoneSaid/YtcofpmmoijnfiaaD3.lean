/- delta.rising: the order that the sort goes by; the keys of a map, sorted. -/
import Derived.Test.YtcofpmmoijnfiaaD2
import Derived.Test.YtcofpmmoijnfiaaF5
import Derived.Deep.RegionHeld3
import Derived.Shelf.SlSortCmp.NoneTotal
namespace Go.Proofs.Ytcofpmmoijnfiaa
open Go.RowKit Go.Sort

def Gr (w w' : World) : Prop := ∃ q os, w' = grow (w.drewN q) os
theorem Gr.alloc (w : World) (o : Obj) : Gr w (w.alloc o) := ⟨0, #[o], by rw [alloc_eq_grow]; rfl⟩
theorem Gr.trans {a b c : World} (h : Gr a b) (k : Gr b c) : Gr a c := by
  obtain ⟨q, os, rfl⟩ := h
  obtain ⟨q', os', rfl⟩ := k
  refine ⟨q + q', os ++ os', ?_⟩
  show grow (grow ((a.drewN q).drewN q') os) os' = _
  rw [grow_grow, drewN_drewN]
theorem Gr.drewN (w : World) (q : Nat) : Gr w (w.drewN q) := ⟨q, #[], by rw [grow_empty]⟩

theorem risingP_any (a b : P2) (w : World) : Calls Try.prog 106 #[encPv a, encPv b] w fun e w' => e = .returned (.int .i64 (cmpP a b)) ∧ Gr w w' := by
  obtain ⟨a1, a2⟩ := a
  obtain ⟨b1, b2⟩ := b
  show Calls Try.prog 106 #[.agg #[.int .i64 a1, .int .i64 a2], .agg #[.int .i64 b1, .int .i64 b2]] w fun e w' => e = .returned (.int .i64 (orN (cmpN a1 b1) (cmpN a2 b2))) ∧ Gr w w'
  go_enter Try.func106, Try.ntmps106
  go_wp2
  obtain ⟨W, hW⟩ : ∃ W, W = (w.alloc (.cells #[.int .i64 a1, .int .i64 a2] 41)).alloc (.cells #[.int .i64 b1, .int .i64 b2] 41) := ⟨_, rfl⟩
  have hg : Gr w W := by rw [hW]; exact (Gr.alloc _ _).trans (Gr.alloc _ _)
  have hk : Keep No (w.alloc (.cells #[.int .i64 a1, .int .i64 a2] 41)) W := by rw [hW]; exact (Keep.refl No _).alloc _
  have c1 : W.cell? ⟨w.heap.size, 0, none⟩ = some (.int .i64 a1) := hk.cell (fun e => e) (cell_new (xs := [.int .i64 a1, .int .i64 a2]) rfl)
  have c2 : W.cell? ⟨w.heap.size, 1, none⟩ = some (.int .i64 a2) := hk.cell (fun e => e) (cell_new (xs := [.int .i64 a1, .int .i64 a2]) rfl)
  have hs1 : (w.alloc (.cells #[.int .i64 a1, .int .i64 a2] 41)).heap.size = w.heap.size + 1 := by simp
  have d1 : W.cell? ⟨w.heap.size + 1, 0, none⟩ = some (.int .i64 b1) := by
    rw [hW, ← hs1]; exact cell_new (xs := [.int .i64 b1, .int .i64 b2]) rfl
  have d2 : W.cell? ⟨w.heap.size + 1, 1, none⟩ = some (.int .i64 b2) := by
    rw [hW, ← hs1]; exact cell_new (xs := [.int .i64 b1, .int .i64 b2]) rfl
  rw [← hW]
  generalize w.heap.size = n at *
  clear hW hk hs1
  have hor := or2_any (some ⟨W.heap.size, 0, none⟩) 2 (cmpN a1 b1) (cmpN a2 b2) ((W.alloc (.cells #[.int .i64 (cmpN a1 b1), .int .i64 (cmpN a2 b2)] 3)).drew) (slAt_new encN_length W [cmpN a1 b1, cmpN a2 b2] 3 #[.int .i64 (cmpN a1 b1), .int .i64 (cmpN a2 b2)] rfl)
  go_region_held3 (fun w' => w'.cell? ⟨n, 0, none⟩ = some (.int .i64 a1) ∧ w'.cell? ⟨n, 1, none⟩ = some (.int .i64 a2) ∧ w'.cell? ⟨n + 1, 0, none⟩ = some (.int .i64 b1) ∧ w'.cell? ⟨n + 1, 1, none⟩ = some (.int .i64 b2)) (first | go_keep) (first | (go_at_call 121; refine (cmpInt_any _ _ _).mono ?_; rintro e w' ⟨rfl, rfl⟩) | (go_at_call 120; refine hor.mono ?_; rintro e w' ⟨rfl, rfl⟩))
  go_wp2
  go_ret
  exact ⟨rfl, hg.trans ((Gr.drewN _ _).trans (Gr.alloc _ _))⟩
end Go.Proofs.Ytcofpmmoijnfiaa
