/- The law DeltaNone: what its call does. -/
import Derived.Test.YtcofpmmoijnfiaaD8
namespace Go.Proofs.Ytcofpmmoijnfiaa
open Go.RowKit

def oneD (p : P2) (n : Int) : PL := if n = 0 then [] else [(p, n)]
theorem none_facts (p : P2) (b t : Int) (hb : 0 ≤ b ∧ b ≤ 65535) (ht : 0 ≤ t ∧ t ≤ 65535) : 0 ≤ b * t ∧ b * t ≤ 4294836225 ∧ addD [] p b t = (oneD p (b * t), 0) ∧ cnt (oneD p (b * t)) p = b * t ∧ addD (oneD p (b * t)) p (-b) t = ([], 0) := by
  have h0 : 0 ≤ b * t := Int.mul_nonneg hb.1 ht.1
  have h1 : b * t ≤ 4294836225 := by
    have := Int.mul_le_mul hb.2 ht.2 ht.1 (by omega : (0 : Int) ≤ 65535)
    omega
  have hc : cnt (oneD p (b * t)) p = b * t := by
    unfold oneD
    split
    · rename_i e; rw [e]; rfl
    · simp [cnt]
  have hm : mulC b t = some (b * t) := if_pos ⟨hb.1, ht.1, by omega⟩
  refine ⟨h0, h1, ?_, hc, ?_⟩
  · unfold addD
    rw [if_neg (by omega)]
    have : sumC (cnt ([] : PL) p) b t = some (b * t) := by
      rw [show cnt ([] : PL) p = 0 from rfl]
      unfold sumC
      rw [if_neg (by omega), if_neg (by omega), hm]
      dsimp only
      rw [if_neg (by omega)]
      unfold addC
      rw [if_pos (by omega), Int.zero_add]
    rw [this]
    dsimp only
    unfold setG oneD
    by_cases e : b * t = 0
    · rw [e]; rfl
    · rw [if_neg e, show (b * t == 0) = false by simpa using e]; rfl
  · unfold addD
    rw [if_neg (by omega), hc]
    have : sumC (b * t) (-b) t = some 0 := by
      unfold sumC
      rw [if_neg (by omega)]
      by_cases hb0 : b = 0
      · subst hb0
        rw [if_neg (by omega)]
        rw [show mulC (-0) t = some 0 by unfold mulC; rw [if_pos (by simp; omega)]; simp]
        dsimp only
        rw [if_neg (by omega)]
        unfold addC
        rw [if_pos (by simp)]
        simp
      · rw [if_pos (by omega), Int.neg_neg, hm]
        dsimp only
        rw [if_pos (by omega), if_pos (by omega), Int.sub_self]
    rw [this]
    dsimp only
    show (insG ltP p 0 true (oneD p (b * t)), (0 : Int)) = ([], 0)
    rw [insG_true]
    unfold oneD
    split <;> simp
theorem oneD_rising (p : P2) (n : Int) : RisingG ltP (oneD p n) := by
  unfold oneD RisingG; split <;> simp
theorem oneD_ints (p : P2) (n : Int) (h : 0 ≤ n ∧ n ≤ 4294836225) : IntsD (oneD p n) := by
  unfold oneD
  split
  · exact fun q hq => nomatch hq
  · intro q hq; simp at hq; subst hq; dsimp only; omega
theorem oneD_length (p : P2) (n : Int) : (oneD p n).length ≤ 1 := by
  unfold oneD; split <;> simp

set_option maxHeartbeats 1000000 in
set_option maxRecDepth 100000 in
theorem DeltaNone_any (p : P2) (b t : Int) (w : World) (hp : WfP p) (hb : 0 ≤ b ∧ b ≤ 65535) (ht : 0 ≤ t ∧ t ≤ 65535) :
    Calls Try.prog 15 #[encPv p, .int .u16 b, .int .u16 t] w fun e w' => e = .returned (.bool true) ∧ Keep No w w' := by
  obtain ⟨m0, m1, a1, a2, a3⟩ := none_facts p b t hb ht
  obtain ⟨pa, pb⟩ := p
  obtain ⟨W, hW⟩ : ∃ W, W = w.alloc (.cells #[.int .i64 pa, .int .i64 pb] 41) := ⟨_, rfl⟩
  have hk : Keep No w W := by rw [hW]; exact (Keep.refl No _).alloc _
  have c1 : W.cell? ⟨w.heap.size, 0, none⟩ = some (.int .i64 pa) := by rw [hW]; exact cell_new (xs := [.int .i64 pa, .int .i64 pb]) rfl
  have c2 : W.cell? ⟨w.heap.size, 1, none⟩ = some (.int .i64 pb) := by rw [hW]; exact cell_new (xs := [.int .i64 pa, .int .i64 pb]) rfl
  have HW := Lib.hid hW
  clear hW
  show Calls Try.prog 15 #[.agg #[.int .i64 pa, .int .i64 pb], .int .u16 b, .int .u16 t] w _
  go_enter Try.func15, Try.ntmps15
  go_wp2_with (first | (go_at_call 63; rw [← HW.out]; refine (awake12_any _).mono ?_; rintro e w1 ⟨rfl, hk1⟩; have d1 := hk1.cell (fun e => e) c1; have d2 := hk1.cell (fun e => e) c2) | (go_at_call 70; skip; fail))
  generalize w.heap.size = m at *
  have hs := slAt_new encX_length w1 [((pa, pb), 1)] 115 #[.int .i64 pa, .int .i64 pb, .int .i64 1] rfl
  have hk2 : Keep No w1 (w1.alloc (.cells #[.int .i64 pa, .int .i64 pb, .int .i64 1] 115)) := (Keep.refl No _).alloc _
  have e1 := hk2.cell (fun e => e) d1
  have e2 := hk2.cell (fun e => e) d2
  generalize hq : w1.alloc (.cells #[.int .i64 pa, .int .i64 pb, .int .i64 1] 115) = w2 at *
  clear hq c1 c2 d1 d2 HW
  refine (DApply_nil w1.heap.size 0 1 ((pa, pb), 1) 1 w2 hs hp).mono ?_
  rintro e w3 ⟨rfl, hk3⟩
  have f1 := hk3.cell (fun e => e) e1
  have f2 := hk3.cell (fun e => e) e2
  go_wp2_with (first | (go_at_call 65; skip; fail))
  refine (DAdd_nil (pa, pb) 1 1 _).mono ?_
  rintro e w4 ⟨rfl, hk4⟩
  have g1 := hk4.cell (fun e => e) f1
  have g2 := hk4.cell (fun e => e) f2
  go_wp2_with (first | (go_at_call 66; refine (DGet_nil (pa, pb) _).mono ?_; rintro e w5 ⟨rfl, hk5⟩; have h1 := hk5.cell (fun e => e) g1; have h2 := hk5.cell (fun e => e) g2; have hk6 : Keep No w5 (w5.alloc (.cells #[.map none] 130)) := (Keep.refl No _).alloc _; have i1 := hk6.cell (fun e => e) h1; have i2 := hk6.cell (fun e => e) h2; have hz := isD_new w5; have hml := lt_of_cell h1) | (go_at_call 67; refine (DLen_nil _).mono ?_; rintro e w6 ⟨rfl, rfl⟩) | (go_at_call 69; refine (DAll_nil _).mono ?_; rintro e w7 ⟨rfl, rfl⟩))
  obtain ⟨hz1, hz2⟩ := hz
  have hkw6 := (((hk.trans' hk1).trans' hk2).trans' hk3).trans' ((hk4.trans' hk5).trans' hk6)
  generalize w5.alloc (.cells #[.map none] 130) = w6 at *
  obtain ⟨c, hc⟩ : ∃ c, c = w5.heap.size := ⟨_, rfl⟩
  rw [← hc] at hz1 hz2 ⊢
  have hcm : m < c := by omega
  have hcw : w.heap.size ≤ c := by rw [hc]; exact ((((hk.trans' hk1).trans' hk2).trans' hk3).trans' (hk4.trans' hk5)).size
  clear hc h1 h2 g1 g2 f1 f2 e1 e2
  have hA := DAdd_any c [] (pa, pb) b t w6 hz1 hp List.Pairwise.nil (fun _ h => nomatch h) (by simp) (by omega) (by omega)
  rw [a1] at hA
  refine hA.mono ?_
  rintro e w7 ⟨rfl, hA7⟩
  have hoff6 : ¬ footC w6 c m := fun e => absurd (hz2 _ e) (by omega)
  have j1 := hA7.keep.cell hoff6 i1
  have j2 := hA7.keep.cell hoff6 i2
  have hoff7 : ¬ footC w7 c m := fun e => by
    rcases hA7.foot _ e with h | h
    · exact hoff6 h
    · have := lt_of_cell i1; omega
  have hget := DGet_any c _ (pa, pb) w7 hA7.is hp
  rw [a2] at hget
  obtain ⟨hk7, hB7⟩ := hA7.own hkw6 (fun k hf => Nat.le_trans hcw (hz2 k hf))
  go_wp2_with (first | (go_at_call 66; refine hget.mono ?_; rintro e w8 ⟨rfl, hk8⟩; have l1 := hk8.cell (fun e => e) j1; have l2 := hk8.cell (fun e => e) j2) | (go_at_call 65; skip; fail))
  obtain ⟨hd8, hf8⟩ := hA7.is.keep hk8 (fun _ _ e => e)
  have hA' := DAdd_any c _ (pa, pb) (-b) t w8 hd8 hp (oneD_rising _ _) (oneD_ints _ _ ⟨m0, m1⟩) (by have := oneD_length (pa, pb) (b * t); omega) (by omega) (by omega)
  rw [a3] at hA'
  refine hA'.mono ?_
  rintro e w9 ⟨rfl, hA9⟩
  obtain ⟨hk9, hB9⟩ := hA9.own (hk7.trans' hk8) (fun k hf => hB7 k (hf8 k hf))
  have hoff8 : ¬ footC w8 c m := fun e => hoff7 (hf8 _ e)
  have n1 := hA9.keep.cell hoff8 l1
  have n2 := hA9.keep.cell hoff8 l2
  have hget9 := DGet_any c _ (pa, pb) w9 hA9.is hp
  rw [show cnt ([] : PL) (pa, pb) = 0 from rfl] at hget9
  go_wp2_with (first | (go_at_call 66; refine hget9.mono ?_; rintro e w10 ⟨rfl, hk10⟩; have hd10 := hA9.is.keepNo hk10) | (go_at_call 67; refine (DLen_any c [] _ hd10).mono ?_; rintro e w' ⟨rfl, rfl⟩))
  go_ret
  exact ⟨by simp, hk9.trans' hk10⟩
theorem wf_u16' {n : Int} (h : (Lit.int .u16 n).wf = true) : 0 ≤ n ∧ n ≤ 65535 := by
  simp [Lit.wf, IntKind.min, IntKind.max, IntKind.signed, IntKind.bits] at h
  omega
theorem DeltaNone_row (p : P2) (b t : Int) (w : World) (hp : (-9223372036854775808 ≤ p.1 ∧ p.1 ≤ 9223372036854775807) ∧ -9223372036854775808 ≤ p.2 ∧ p.2 ≤ 9223372036854775807) (hb : (Lit.int .u16 b).wf = true) (ht : (Lit.int .u16 t).wf = true) :
    Calls Try.prog 15 #[.agg #[.int .i64 p.1, .int .i64 p.2], .int .u16 b, .int .u16 t] w fun e w' => e = .returned (.bool true) ∧ Keep No w w' :=
  DeltaNone_any p b t w (wfP_of hp.1 hp.2) (wf_u16' hb) (wf_u16' ht)
end Go.Proofs.Ytcofpmmoijnfiaa
