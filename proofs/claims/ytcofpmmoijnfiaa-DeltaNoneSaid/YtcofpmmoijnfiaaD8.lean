/- The counts of pairs: Apply at nil. -/
import Derived.Test.YtcofpmmoijnfiaaD7
namespace Go.Proofs.Ytcofpmmoijnfiaa
open Go.RowKit

def encX (x : P2 × Int) : List Value := [.int .i64 x.1.1, .int .i64 x.1.2, .int .i64 x.2]
theorem encX_length (x : P2 × Int) : (encX x).length = 3 := rfl
theorem SlAt.getX {w : World} {p : Option Addr} {L : PL} (h : SlAt encX 3 w p L) {i : Nat} (hi : i < L.length) :
    ∃ b o x, p = some ⟨b, o, none⟩ ∧ b < w.heap.size ∧ L[i]? = some x ∧ w.cell? ⟨b, o + i * 3, none⟩ = some (.int .i64 x.1.1) ∧ w.cell? ⟨b, o + i * 3 + 1, none⟩ = some (.int .i64 x.1.2) ∧ w.cell? ⟨b, o + i * 3 + 2, none⟩ = some (.int .i64 x.2) := by
  obtain ⟨b, o, t, hp, hb, hx, hc⟩ := h.get hi
  exact ⟨b, o, t, hp, hb, hx, hc 0 _ rfl, hc 1 _ rfl, hc 2 _ rfl⟩

set_option maxRecDepth 100000 in
theorem DApply_nil (b o : Nat) (cap : Nat) (x : P2 × Int) (t : Int) (w : World) (h : SlAt encX 3 w (some ⟨b, o, none⟩) [x]) (hx : WfP x.1) :
    Calls Try.prog 70 #[.pointer none, .slice (some ⟨b, o, none⟩) 1 cap, .int .i64 t] w fun e w' => e = .returned (.tuple #[.slice none 0 0, .int .i64 1]) ∧ Keep No w w' := by
  obtain ⟨b', o', x', e, hb, hx', c0, c1, c2⟩ := h.getX (i := 0) (by simp)
  cases e
  simp at hx'
  subst hx'
  obtain ⟨⟨pa, pb⟩, by_⟩ := x
  rw [Nat.zero_mul, Nat.add_zero] at c0 c1 c2
  obtain ⟨W, hW⟩ : ∃ W, W = (w.alloc (.cells #[.pointer none] 117)).alloc (.map #[] 0) := ⟨_, rfl⟩
  have hk1 : Keep No (w.alloc (.cells #[.pointer none] 117)) W := by rw [hW]; exact (Keep.refl No _).alloc _
  have hk : Keep No w W := ((Keep.refl No _).alloc _).trans' hk1
  have d0 : W.cell? ⟨w.heap.size, 0, none⟩ = some (.pointer none) := hk1.cell (fun e => e) (cell_new (xs := [.pointer none]) rfl)
  have hm : MapAt Try.prog 41 klP WfP W (w.heap.size + 1) [] := by
    have := MapAt.made keyD (w.alloc (.cells #[.pointer none] 117))
    rw [hW]
    simpa using this
  have e0 := hk.cell (fun e => e) c0
  have e1 := hk.cell (fun e => e) c1
  have e2 := hk.cell (fun e => e) c2
  have HW := Lib.hid hW
  have hmm := @run_makeMap Try.prog
  clear hW c0 c1 c2 hk1
  go_enter Try.func70, Try.ntmps70
  go_wp2
  rw [← HW.out]
  go_loopw [17] (fun i wr => i = .int .i64 0 ∧ wr = W) (fun _ _ => 0)
  case atStart => exact ⟨rfl, rfl⟩
  case round =>
    obtain ⟨rfl, rfl⟩ := hrel
    clear HW hmm h
    obtain ⟨W2, hW2⟩ : ∃ W2, W2 = wr.alloc (.cells #[.int .i64 pa, .int .i64 pb, .int .i64 by_] 115) := ⟨_, rfl⟩
    have hk2 : Keep No wr W2 := by rw [hW2]; exact (Keep.refl No _).alloc _
    have f0 : W2.cell? ⟨wr.heap.size, 0, none⟩ = some (.int .i64 pa) := by rw [hW2]; exact cell_new (xs := [.int .i64 pa, .int .i64 pb, .int .i64 by_]) rfl
    have f1 : W2.cell? ⟨wr.heap.size, 1, none⟩ = some (.int .i64 pb) := by rw [hW2]; exact cell_new (xs := [.int .i64 pa, .int .i64 pb, .int .i64 by_]) rfl
    have f2 : W2.cell? ⟨wr.heap.size, 2, none⟩ = some (.int .i64 by_) := by rw [hW2]; exact cell_new (xs := [.int .i64 pa, .int .i64 pb, .int .i64 by_]) rfl
    have hm2 := hm.keep hk2 (fun e => e)
    have hl := MapV.lookOk (L := []) keyD (.inr ⟨_, rfl, hm2⟩ : MapV Try.prog 41 klP WfP W2 (.map (some (w.heap.size + 1))) []) hx
    rw [hW2] at hl
    have d2 := hk2.cell (fun e => e) d0
    have hkw2 := hk.trans' hk2
    unfold encPv at hl
    rw [show cnt ([] : PL) (pa, pb) = 0 from rfl, show hasK ([] : PL) (pa, pb) = false from rfl] at hl
    have HW2 := Lib.hid hW2
    clear hW2
    go_wp2
    rw [← HW2.out]
    have hmn := hm.lt
    have hstep : ∀ A B : World, Keep No w A → Keep (fun j => j = w.heap.size + 1) A B → Keep No w B := fun A B h k => h.trans k fun j hj e => by omega
    generalize wr.heap.size = n at *
    generalize w.heap.size = m at *
    clear e0 e1 e2 hl d0
    go_region_held3 (fun w' => w'.cell? ⟨m, 0, none⟩ = some (.pointer none) ∧ w'.cell? ⟨n, 0, none⟩ = some (.int .i64 pa) ∧ w'.cell? ⟨n, 1, none⟩ = some (.int .i64 pb)) (first | go_keep) (first | (go_at_call 66; refine (DGet_nil (pa, pb) _).mono ?_; rintro e W3 ⟨rfl, hk3⟩; have d3 := hk3.cell (fun e => e) d2; have g0 := hk3.cell (fun e => e) f0; have g1 := hk3.cell (fun e => e) f1; have hm3 := (hm2.drewN 1).keep hk3 (fun e => e); obtain ⟨W4, hrun, hm4, hk4⟩ := hm3.store keyD hx (n := 0) (WalkArith.wf_i64 (by omega)) (by simp [maxLen]) (insG_put ordP (k := (pa, pb)) (n := 0) (L := []) List.Pairwise.nil); unfold encPv at hrun; have d4 := hk4.cell (fun e => by omega) d3; have h0 := hk4.cell (fun e => by omega) g0; have h1 := hk4.cell (fun e => by omega) g1; have h2 := hk4.cell (fun e => by omega) (hk3.cell (fun e => e) f2)))
    have hk4w := hstep _ _ (hkw2.drew.trans' hk3) hk4
    go_wp2_with (first | (go_at_call 65; refine (DAdd_nil (pa, pb) by_ t _).mono ?_; rintro e W5 ⟨rfl, hk5⟩))
    go_ret2
    exact ⟨rfl, hk4w.trans' hk5⟩
end Go.Proofs.Ytcofpmmoijnfiaa
