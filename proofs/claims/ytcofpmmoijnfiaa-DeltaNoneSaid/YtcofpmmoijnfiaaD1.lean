/- Products that fit; delta.sum; orders of pairs. -/
import Derived.Test.YtcofpmmoijnfiaaF1
import Derived.Test.YtcofpmmoijnfiaaLays
import Derived.Test.YtcofpmmoijnfiaaKP
import Derived.Shelf.Bits.Mul64
import Derived.Deep.QuietTactic
import Derived.BigQuiet
namespace Go.Proofs.Ytcofpmmoijnfiaa
open Go.RowKit

def mulC (a b : Int) : Option Int := if 0 ≤ a ∧ 0 ≤ b ∧ a * b ≤ 9223372036854775807 then some (a * b) else none

theorem ref06Mul_any (a b : Int) (w : World) (ha : -9223372036854775808 ≤ a) (hb : -9223372036854775808 ≤ b) (ha' : a ≤ 9223372036854775807) (hb' : b ≤ 9223372036854775807) :
    Calls Try.prog 78 #[.int .i64 a, .int .i64 b] w fun e w' => e = .returned (.tuple #[.int .i64 ((mulC a b).getD 0), .bool (mulC a b).isSome]) ∧ w = w' := by
  by_cases h1 : a < 0
  · have e : mulC a b = none := if_neg (by omega)
    rw [e]; clear e
    go_enter Try.func78, Try.ntmps78
    go_wp2
    go_ret2
    exact ⟨rfl, rfl⟩
  · by_cases h2 : b < 0
    · have e : mulC a b = none := if_neg (by omega)
      rw [e]; clear e
      go_enter Try.func78, Try.ntmps78
      go_wp2
      go_ret2
      exact ⟨rfl, rfl⟩
    · by_cases h3 : 0 < b
      · by_cases h4 : a * b ≤ 9223372036854775807
        · have e : mulC a b = some (a * b) := if_pos ⟨by omega, by omega, h4⟩
          have h5 : a ≤ 9223372036854775807 / b := (Int.le_ediv_iff_mul_le h3).2 h4
          have h6 : 0 ≤ a * b := Int.mul_nonneg (by omega) (by omega)
          rw [e]; clear e
          go_enter Try.func78, Try.ntmps78
          go_wp2
          go_ret2
          exact ⟨rfl, rfl⟩
        · have e : mulC a b = none := if_neg (by omega)
          have h5 : 9223372036854775807 / b < a := Int.not_le.1 fun h => h4 ((Int.le_ediv_iff_mul_le h3).1 h)
          rw [e]; clear e
          go_enter Try.func78, Try.ntmps78
          go_wp2
          go_ret2
          exact ⟨rfl, rfl⟩
      · obtain rfl : b = 0 := by omega
        have e : mulC a 0 = some 0 := by unfold mulC; rw [if_pos (by omega)]; simp
        rw [e]; clear e
        go_enter Try.func78, Try.ntmps78
        go_wp2
        go_ret2
        exact ⟨rfl, rfl⟩
theorem checkedMul_any (a b : Int) (w : World) (ha : -9223372036854775808 ≤ a) (hb : -9223372036854775808 ≤ b) (ha' : a ≤ 9223372036854775807) (hb' : b ≤ 9223372036854775807) :
    Calls Try.prog 134 #[.int .i64 a, .int .i64 b] w fun e w' => e = .returned (.tuple #[.int .i64 ((mulC a b).getD 0), .bool (mulC a b).isSome]) ∧ w = w' := by
  by_cases h1 : 0 ≤ a
  · by_cases h2 : 0 ≤ b
    · have d1 : decide (0 ≤ a) = true := by simpa
      have d2 : decide (0 ≤ b) = true := by simpa
      obtain ⟨x, rfl⟩ := Int.eq_ofNat_of_zero_le h1
      obtain ⟨y, rfl⟩ := Int.eq_ofNat_of_zero_le h2
      have hm := fun W => Any.bits_Mul64 Try.lays264 x y (by omega) (by omega) W
      by_cases h3 : x * y ≤ 9223372036854775807
      · have e : mulC (x : Int) (y : Int) = some ((x * y : Nat) : Int) := by
          unfold mulC
          rw [if_pos ⟨h1, h2, by rw [← Int.natCast_mul]; omega⟩, Int.natCast_mul]
        have e1 : x * y / 18446744073709551616 = 0 := by omega
        have e2 : x * y % 18446744073709551616 = x * y := by omega
        rw [e1, e2] at hm
        rw [e]; clear e e1 e2
        generalize x * y = z at *
        go_enter Try.func134, Try.ntmps134
        go_wp2_with (first | (go_at_call 125; refine (within_any _ _).mono ?_; rintro e w' ⟨rfl, rfl⟩) | (go_at_call 148; refine (hm _).mono ?_; rintro e w' ⟨rfl, rfl⟩))
        go_ret2
        exact ⟨rfl, rfl⟩
      · have e : mulC (x : Int) (y : Int) = none := by
          unfold mulC
          rw [if_neg]
          rintro ⟨_, _, h⟩
          rw [← Int.natCast_mul] at h
          omega
        rw [e]; clear e
        by_cases h4 : x * y / 18446744073709551616 = 0
        · have e2 : x * y % 18446744073709551616 = x * y := by omega
          have h5 : x * y < 18446744073709551616 := by omega
          rw [h4, e2] at hm
          clear h4 e2
          generalize x * y = z at *
          go_enter Try.func134, Try.ntmps134
          go_wp2_with (first | (go_at_call 125; refine (within_any _ _).mono ?_; rintro e w' ⟨rfl, rfl⟩) | (go_at_call 148; refine (hm _).mono ?_; rintro e w' ⟨rfl, rfl⟩))
          go_ret2
          exact ⟨rfl, rfl⟩
        · have h5 : (0 : Int) < ((x * y / 18446744073709551616 : Nat) : Int) := by omega
          generalize x * y / 18446744073709551616 = q at *
          generalize x * y % 18446744073709551616 = r at *
          clear h4 h3
          go_enter Try.func134, Try.ntmps134
          go_wp2_with (first | (go_at_call 125; refine (within_any _ _).mono ?_; rintro e w' ⟨rfl, rfl⟩) | (go_at_call 148; refine (hm _).mono ?_; rintro e w' ⟨rfl, rfl⟩))
          go_ret2
          exact ⟨rfl, rfl⟩
    · have e : mulC a b = none := if_neg (by omega)
      rw [e]
      clear e
      have d1 : decide (0 ≤ a) = true := by simpa
      have d2 : decide (0 ≤ b) = false := by simpa using h2
      go_enter Try.func134, Try.ntmps134
      go_wp2_with (go_at_call 125; refine (within_any _ _).mono ?_; rintro e w' ⟨rfl, rfl⟩)
      go_ret2
      exact ⟨rfl, rfl⟩
  · have e : mulC a b = none := if_neg (by omega)
    rw [e]
    clear e
    have d1 : decide (0 ≤ a) = false := by simpa using h1
    go_enter Try.func134, Try.ntmps134
    go_wp2_with (go_at_call 125; refine (within_any _ _).mono ?_; rintro e w' ⟨rfl, rfl⟩)
    go_ret2
    exact ⟨rfl, rfl⟩

/-- What a change of 'by', so many times, leaves of a count; none: an error. -/
def sumC (n b t : Int) : Option Int :=
  if b = -9223372036854775808 then none else
  match mulC (if b < 0 then -b else b) t with
  | none => none
  | some d => if b < 0 then (if d ≤ n then some (n - d) else none) else addC n d
end Go.Proofs.Ytcofpmmoijnfiaa
