/- delta.sum; the orders of pairs. -/
import Derived.Test.YtcofpmmoijnfiaaD1
namespace Go.Proofs.Ytcofpmmoijnfiaa
open Go.RowKit

theorem mulC_some {a b d : Int} (h : mulC a b = some d) : d = a * b ∧ 0 ≤ d ∧ d ≤ 9223372036854775807 := by
  unfold mulC at h
  split at h
  · rename_i hc
    cases h
    exact ⟨rfl, Int.mul_nonneg hc.1 hc.2.1, hc.2.2⟩
  · cases h

/-- What delta.sum hands back beside its word. -/
def sumV (n b t : Int) : Int :=
  if b = -9223372036854775808 then 0 else
  match mulC (if b < 0 then -b else b) t with
  | none => 0
  | some d => if b < 0 then n - d else (addC n d).getD 0
theorem sumV_some {n b t s : Int} (h : sumC n b t = some s) : sumV n b t = s := by
  unfold sumC at h
  unfold sumV
  split
  · rename_i e; rw [if_pos e] at h; cases h
  · rename_i e
    rw [if_neg e] at h
    split
    · rename_i e2; rw [e2] at h; cases h
    · rename_i d e2
      rw [e2] at h
      dsimp only at h
      split
      · rename_i e3
        rw [if_pos e3] at h
        split at h
        · cases h; rfl
        · cases h
      · rename_i e3
        rw [if_neg e3] at h
        rw [h]; rfl
set_option maxRecDepth 100000 in
theorem sum_any (n b t : Int) (w : World) (hn : 0 ≤ n) (hn' : n ≤ 9223372036854775807) (hb : -9223372036854775808 ≤ b) (hb' : b ≤ 9223372036854775807) (ht : -9223372036854775808 ≤ t) (ht' : t ≤ 9223372036854775807) :
    Calls Try.prog 103 #[.int .i64 n, .int .i64 b, .int .i64 t] w fun e w' => e = .returned (.tuple #[.int .i64 (sumV n b t), .bool (sumC n b t).isSome]) ∧ w = w' := by
  have hmul := fun (a : Int) W h1 h2 => checkedMul_any a t W h1 ht h2 ht'
  have hadd := fun (d : Int) W h1 h2 => checkedAdd_any n d W (by omega) h1 hn' h2
  unfold sumC sumV
  by_cases h1 : b = -9223372036854775808
  · simp only [if_pos h1]
    have hm := fun W => hmul b W (by omega) (by omega)
    have e : mulC b t = none := if_neg (by omega)
    rw [e] at hm
    simp only [Option.getD_none, Option.isSome_none] at hm ⊢
    have hM : max b (wrap64 (-b)) = b := by unfold wrap64; omega
    have h1' : b ≤ -9223372036854775808 := by omega
    clear hadd hmul h1 e
    go_enter Try.func103, Try.ntmps103
    go_wp2_with (first | (go_at_call 134; refine (hm _).mono ?_; rintro e w' ⟨rfl, rfl⟩))
    go_ret2
    exact ⟨rfl, rfl⟩
  · simp only [if_neg h1]
    by_cases h2 : b < 0
    · have hm := fun W => hmul (-b) W (by omega) (by omega)
      simp only [if_pos h2]
      have hM : max b (-b) = -b := by omega
      cases hd : mulC (-b) t with
      | none =>
        rw [hd] at hm
        simp only [Option.getD_none, Option.isSome_none] at hm ⊢
        clear hadd hmul hd
        go_enter Try.func103, Try.ntmps103
        go_wp2_with (first | (go_at_call 134; refine (hm _).mono ?_; rintro e w' ⟨rfl, rfl⟩))
        go_ret2
        exact ⟨rfl, rfl⟩
      | some d =>
        obtain ⟨-, hd0, hd1⟩ := mulC_some hd
        rw [hd] at hm
        simp only [Option.getD_some, Option.isSome_some] at hm
        clear hadd hmul hd
        by_cases h3 : d ≤ n
        · simp only [if_pos h3, Option.isSome_some]
          go_enter Try.func103, Try.ntmps103
          go_wp2_with (first | (go_at_call 134; refine (hm _).mono ?_; rintro e w' ⟨rfl, rfl⟩))
          go_ret2
          exact ⟨rfl, rfl⟩
        · simp only [if_neg h3, Option.isSome_none]
          have d3 : decide (d ≤ n) = false := by simpa using h3
          go_enter Try.func103, Try.ntmps103
          go_wp2_with (first | (go_at_call 134; refine (hm _).mono ?_; rintro e w' ⟨rfl, rfl⟩))
          go_ret2
          exact ⟨rfl, rfl⟩
    · have hm := fun W => hmul b W (by omega) (by omega)
      simp only [if_neg h2]
      have hM : max b (-b) = b := by omega
      cases hd : mulC b t with
      | none =>
        rw [hd] at hm
        simp only [Option.getD_none, Option.isSome_none] at hm ⊢
        clear hadd hmul hd
        go_enter Try.func103, Try.ntmps103
        go_wp2_with (first | (go_at_call 134; refine (hm _).mono ?_; rintro e w' ⟨rfl, rfl⟩))
        go_ret2
        exact ⟨rfl, rfl⟩
      | some d =>
        obtain ⟨-, hd0, hd1⟩ := mulC_some hd
        rw [hd] at hm
        simp only [Option.getD_some, Option.isSome_some] at hm
        have ha := fun W => hadd d W (by omega) hd1
        clear hadd hmul hd
        dsimp only
        go_enter Try.func103, Try.ntmps103
        go_wp2_with (first | (go_at_call 134; refine (hm _).mono ?_; rintro e w' ⟨rfl, rfl⟩) | (go_at_call 93; refine (ha _).mono ?_; rintro e w' ⟨rfl, rfl⟩))
        go_ret2
        exact ⟨rfl, rfl⟩

/-! ### orders of pairs -/
def ltP (a b : P2) : Bool := decide (a.1 < b.1) || (decide (a.1 = b.1) && decide (a.2 < b.2))
def cmpN (a b : Int) : Int := if a < b then -1 else if b < a then 1 else 0
def orN (a b : Int) : Int := if a = 0 then b else a
theorem orN_z {a b : Int} (h : a = 0) : b = orN a b := (if_pos h).symm
theorem orN_n {a b : Int} (h : ¬ a = 0) : a = orN a b := (if_neg h).symm
def cmpP (a b : P2) : Int := orN (cmpN a.1 b.1) (cmpN a.2 b.2)

theorem isNaN_any (n : Int) (w : World) : Calls Try.prog 140 #[.int .i64 n] w fun e w' => e = .returned (.bool false) ∧ w = w' := by
  go_enter Try.func140, Try.ntmps140
  go_wp2
  go_ret
  exact ⟨by simp, rfl⟩
theorem cmpInt_any (a b : Int) (w : World) : Calls Try.prog 121 #[.int .i64 a, .int .i64 b] w fun e w' => e = .returned (.int .i64 (cmpN a b)) ∧ w = w' := by
  unfold cmpN
  by_cases h1 : a < b
  · rw [if_pos h1]
    go_enter Try.func121, Try.ntmps121
    go_wp2_with (first | (go_at_call 140; refine (isNaN_any _ _).mono ?_; rintro e w' ⟨rfl, rfl⟩))
    go_ret
    exact ⟨rfl, rfl⟩
  · by_cases h2 : b < a
    · rw [if_neg h1, if_pos h2]
      go_enter Try.func121, Try.ntmps121
      go_wp2_with (first | (go_at_call 140; refine (isNaN_any _ _).mono ?_; rintro e w' ⟨rfl, rfl⟩))
      go_ret
      exact ⟨rfl, rfl⟩
    · rw [if_neg h1, if_neg h2]
      go_enter Try.func121, Try.ntmps121
      go_wp2_with (first | (go_at_call 140; refine (isNaN_any _ _).mono ?_; rintro e w' ⟨rfl, rfl⟩))
      go_ret
      exact ⟨rfl, rfl⟩
/-- cmp.Or of two. -/
theorem or2_any (p : Option Addr) (cap : Nat) (a b : Int) (w : World) (h : SlAt encN 1 w p [a, b]) : Calls Try.prog 120 #[.slice p 2 cap] w fun e w' => e = .returned (.int .i64 (orN a b)) ∧ w = w' := by
  obtain ⟨bk, o, n0, rfl, hb, hx, c0⟩ := h.getN (i := 0) (by simp)
  obtain ⟨bk', o', n1, e1, hb', hx', c1⟩ := h.getN (i := 1) (by simp)
  cases e1
  simp at hx hx'
  subst hx; subst hx'
  rw [Nat.add_zero] at c0
  go_enter Try.func120, Try.ntmps120
  go_wp2
  go_loop [8] (fun i => ∃ k : Nat, k ≤ 2 ∧ i = .int .i64 k ∧ (0 < k → a = 0) ∧ (1 < k → b = 0)) (fun i => 2 - (intOf i).toNat)
  case atStart => exact ⟨0, by omega, rfl, by omega, by omega⟩
  case round =>
    obtain ⟨k, hk, rfl, ha, hb⟩ := hrel
    have hcases : k = 0 ∨ k = 1 ∨ k = 2 := by omega
    rcases hcases with rfl | rfl | rfl
    · cases h0 : (a == 0)
      · have h0' : ¬ a = 0 := by simpa using h0
        go_wp2
        go_ret
        exact ⟨ret_int (orN_n h0'), rfl⟩
      · have h0' : a = 0 := by simpa using h0
        have H0 := Lib.hid h0'
        clear h0'
        go_wp2
        go_round
        case rel => exact ⟨1, by omega, by go_num, fun _ => H0.out, by omega⟩
        case measure => simp [intOf]
    · have H0 := Lib.hid (ha (by omega))
      clear ha hb
      cases h0 : (b == 0)
      · have h0' : ¬ b = 0 := by simpa using h0
        go_wp2
        go_ret
        exact ⟨ret_int (orN_z H0.out), rfl⟩
      · have H1 := Lib.hid (show b = 0 by simpa using h0)
        go_wp2
        go_round
        case rel => exact ⟨2, by omega, by go_num, fun _ => H0.out, fun _ => H1.out⟩
        case measure => simp [intOf]
    · have H0 := Lib.hid (ha (by omega))
      have H1 := Lib.hid (hb (by omega))
      clear ha hb
      go_wp2
      go_ret
      exact ⟨ret_int (H1.out.symm.trans (orN_z H0.out)), rfl⟩
end Go.Proofs.Ytcofpmmoijnfiaa
