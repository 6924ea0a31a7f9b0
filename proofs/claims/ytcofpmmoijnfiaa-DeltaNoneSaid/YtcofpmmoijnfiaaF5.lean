/- The counter of words: at nil; the document's example. -/
import Derived.Test.YtcofpmmoijnfiaaR9
namespace Go.Proofs.Ytcofpmmoijnfiaa
open Go.RowKit

theorem CCount_nil (s : ByteArray) (w : World) :
    Calls Try.prog 41 #[.pointer none, .string s] w fun e w' => e = .returned (.int .i64 0) ∧ w = w' := by
  go_enter Try.func41, Try.ntmps41
  go_wp2
  go_ret
  exact ⟨rfl, rfl⟩
theorem CLen_nil (w : World) :
    Calls Try.prog 42 #[.pointer none] w fun e w' => e = .returned (.int .i64 0) ∧ w = w' := by
  go_enter Try.func42, Try.ntmps42
  go_wp2
  go_ret
  exact ⟨rfl, rfl⟩
theorem CFreeze_nil (w : World) :
    Calls Try.prog 43 #[.pointer none] w fun e w' => e = .returned (.slice none 0 0) ∧ w = w' := by
  go_enter Try.func43, Try.ntmps43
  go_wp2
  go_ret
  exact ⟨rfl, rfl⟩

theorem slAt_new {α : Type} {enc : α → List Value} {k : Nat} (hk : ∀ x, (enc x).length = k) (w : World) (L : List α) (t : TypeId) (cs : Array Value) (hcs : cs = (L.flatMap enc).toArray) : SlAt enc k (w.alloc (.cells cs t)) (some ⟨w.heap.size, 0, none⟩) L := by
  subst hcs
  refine .inr ⟨w.heap.size, 0, rfl, by simp, fun i x hx j v hv => ?_⟩
  rw [Nat.zero_add]
  exact cell_new (flat_get hk L i j x v hx hv)

theorem awake07_sums : addAllW [] [⟨#[98]⟩, ⟨#[97]⟩, ⟨#[98]⟩] = ([(⟨#[97]⟩, 1), (⟨#[98]⟩, 2)], 0) := by decide

theorem rising_nil : Rising [] := List.Pairwise.nil
theorem ints_nil : Ints [] := fun p hp => nomatch hp

theorem addAllW_rising {L : List W2} (h : Rising L) : ∀ ws, Rising (addAllW L ws).1 := by
  intro ws
  induction ws generalizing L with
  | nil => exact h
  | cons s r ih =>
    unfold addAllW
    split
    · exact ih (addW_rising h s 1)
    · exact addW_rising h s 1

theorem awake07_any (w : World) : Calls Try.prog 39 #[] w fun e w' => e = .returned (.bool true) ∧ Keep No w w' := by
  go_enter Try.func39, Try.ntmps39
  go_wp2_with (first | (go_at_call 53; refine (New_any _).mono ?_; rintro e w1 ⟨rfl, hc, hk1, hB⟩) | (go_at_call 44; skip; fail))
  have hc1 := hc.keep ((Keep.refl No w1).alloc (.cells #[.string ⟨#[98]⟩, .string ⟨#[97]⟩, .string ⟨#[98]⟩] 9)) (fun _ _ e => e)
  have hsl := slAt_new encS_length w1 [⟨#[98]⟩, ⟨#[97]⟩, ⟨#[98]⟩] 9 #[.string ⟨#[98]⟩, .string ⟨#[97]⟩, .string ⟨#[98]⟩] rfl
  have hclt := hc.foot_lt
  have hadd := CAddAll_any w.heap.size [] _ 3 _ _ hc1.1 rising_nil ints_nil (by simp) hsl (by decide) (fun _ a ha hf => by
    cases ha
    exact absurd (hclt _ (hc1.2 _ hf)) (by simp))
  rw [awake07_sums] at hadd
  simp only [List.length_cons, List.length_nil, Nat.zero_add, Nat.reduceAdd] at hadd
  have hk2 : Keep No w (w1.alloc (.cells #[.string ⟨#[98]⟩, .string ⟨#[97]⟩, .string ⟨#[98]⟩] 9)) := hk1.alloc _
  generalize w1.alloc (.cells #[.string ⟨#[98]⟩, .string ⟨#[97]⟩, .string ⟨#[98]⟩] 9) = w2 at *
  refine hadd.mono ?_
  rintro e w3 ⟨rfl, hA⟩
  have hfr := CFreeze_any w.heap.size _ w3 hA.is (by unfold Rising; decide) (by simp)
  obtain ⟨hk3, hB3⟩ := hA.own hk2 (fun k hf => hB k (hc1.2 k hf))
  go_wp2_with (first | (go_at_call 43; refine hfr.mono ?_; rintro e w4 ⟨v, rfl, ⟨p, cap, rfl, hcap, hv⟩, hk4, hn4⟩) | (go_at_call 45; skip; fail))
  have hsame := Same_any p (some ⟨w4.heap.size, 0, none⟩) cap 2 _ [(⟨#[97]⟩, 1), (⟨#[98]⟩, 2)] _ (hv.keepNo ((Keep.refl No w4).alloc (.cells #[.string ⟨#[97]⟩, .int .i64 1, .string ⟨#[98]⟩, .int .i64 2] 92))) (slAt_new encW_length w4 [(⟨#[97]⟩, 1), (⟨#[98]⟩, 2)] 92 #[.string ⟨#[97]⟩, .int .i64 1, .string ⟨#[98]⟩, .int .i64 2] rfl) (by simp) (by simp)
  simp only [List.length_cons, List.length_nil, Nat.zero_add, Nat.reduceAdd] at hsame ⊢
  refine hsame.mono ?_
  rintro e w5 ⟨rfl, n, rfl⟩
  go_wp2
  go_ret
  exact ⟨by simp, ((hk3.trans' hk4).alloc _).drewN n⟩
end Go.Proofs.Ytcofpmmoijnfiaa
