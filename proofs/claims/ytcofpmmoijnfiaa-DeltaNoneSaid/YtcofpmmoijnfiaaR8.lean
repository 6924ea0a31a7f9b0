/- ref07: Add whole, Same, Great, Of, Merge. -/
import Derived.Test.YtcofpmmoijnfiaaF4
import Derived.Test.YtcofpmmoijnfiaaE
namespace Go.Proofs.Ytcofpmmoijnfiaa
open Go.RowKit
attribute [local go_sem high] eqA92

theorem decide_pair {a b : W2} : decide (a = b) = (decide (a.1 = b.1) && (a.2 == b.2)) := by
  rw [Bool.eq_iff_iff]
  simp [Prod.ext_iff]

theorem Same_any (p q : Option Addr) (cp cq : Nat) (A B : List W2) (w : World) (hA : SlAt encW 2 w p A) (hB : SlAt encW 2 w q B) (hlA : A.length ≤ 1000000000000) (hlB : B.length ≤ 1000000000000) :
    Calls Try.prog 45 #[.slice p A.length cp, .slice q B.length cq] w fun e w' => e = .returned (.bool (decide (A = B))) ∧ ∃ n, w' = w.drewN n := by
  by_cases hl : A.length = B.length
  · have hlb : ((A.length : Int) == (B.length : Int)) = true := by simp [hl]
    have hlb' : (A.length == B.length) = true := by simp [hl]
    have hle : A.length ≤ B.length := by omega
    have Hl := Lib.hid hl
    clear hl
    go_enter Try.func45, Try.ntmps45
    go_wp2
    go_loopw [5] (fun i wr => ∃ k : Nat, k ≤ A.length ∧ i = .int .i64 k ∧ (∃ n, wr = w.drewN n) ∧ ∀ j, j < k → A[j]? = B[j]?) (fun i _ => A.length - (intOf i).toNat)
    case atStart => exact ⟨0, by omega, rfl, ⟨0, rfl⟩, by omega⟩
    case round =>
      obtain ⟨k, hk, rfl, ⟨m, hm⟩, heq⟩ := hrel
      have Heq := Lib.hid heq
      have hAr : SlAt encW 2 wr p A := by rw [hm]; exact hA
      have hBr : SlAt encW 2 wr q B := by rw [hm]; exact hB
      have Hm := Lib.hid hm
      clear heq hm
      by_cases hlt : k < A.length
      · obtain ⟨b1, o1, t1, n1, rfl, hb1, hx1, c0, c1⟩ := hAr.getW hlt
        obtain ⟨b2, o2, t2, n2, rfl, hb2, hx2, d0, d1⟩ := hBr.getW (i := k) (by omega)
        have hlt2 : k < B.length := by omega
        have Hx1 := Lib.hid hx1
        have Hx2 := Lib.hid hx2
        clear hx1 hx2
        cases he : (t1.toList == t2.toList && (n1 == n2))
        · have He := Lib.hid (show ¬ (t1, n1) = (t2, n2) by rw [toList_beq] at he; intro e; cases e; simp at he)
          go_wp2
          go_quiet (fail)
          go_wp2
          go_ret
          have hne : ¬ A = B := by
            intro e
            have h1 := Hx1.out
            rw [e, Hx2.out] at h1
            exact He.out (by cases h1; rfl)
          exact ⟨ret_bool (by simp [hne]), _, by rw [Hm.out]; simp only [drewN_drewN]; rfl⟩
        · have He := Lib.hid (show (t1, n1) = (t2, n2) by rw [toList_beq] at he; simp at he; rw [he.1, he.2])
          go_wp2
          go_quiet (fail)
          go_wp2
          go_roundw
          case rel =>
            refine ⟨k + 1, by omega, by go_num, ⟨_, by rw [Hm.out]; simp only [drewN_drewN]; rfl⟩, fun j hj => ?_⟩
            by_cases e : j = k
            · subst e; rw [Hx1.out, Hx2.out, He.out]
            · exact Heq.out j (by omega)
          case measure => simp [intOf]; omega
      · obtain rfl : k = A.length := by omega
        go_wp2
        go_ret
        have he : A = B := by
          apply List.ext_getElem?
          intro j
          by_cases hj : j < A.length
          · exact Heq.out j hj
          · rw [List.getElem?_eq_none (by omega), List.getElem?_eq_none (by rw [← Hl.out]; omega)]
        exact ⟨ret_bool (by simp [he]), m, Hm.out⟩
  · have hlb : ((A.length : Int) == (B.length : Int)) = false := by simp; omega
    have hlb' : (A.length == B.length) = false := by simp [hl]
    have hne : ¬ A = B := fun e => hl (by rw [e])
    have Hne := Lib.hid hne
    clear hne hl
    go_enter Try.func45, Try.ntmps45
    go_wp2
    go_ret
    exact ⟨ret_bool (by simp [Hne.out]), 0, rfl⟩

def greatW (L : List W2) (most : Int) : Bool := L.any (fun p => decide (100 < p.1.size)) || decide (most < L.length)

theorem Great_any (p : Option Addr) (cap : Nat) (L : List W2) (most : Int) (w : World) (h : SlAt encW 2 w p L) (hl : L.length ≤ 9223372036854775807) :
    Calls Try.prog 51 #[.slice p L.length cap, .int .i64 most] w fun e w' => e = .returned (.bool (greatW L most)) ∧ w = w' := by
  go_enter Try.func51, Try.ntmps51
  go_wp2
  go_loop [5] (fun i => ∃ k : Nat, k ≤ L.length ∧ i = .int .i64 k ∧ ∀ j x, j < k → L[j]? = some x → ¬ 100 < x.1.size) (fun i => L.length - (intOf i).toNat)
  case atStart => exact ⟨0, by omega, rfl, by omega⟩
  case round =>
    obtain ⟨k, hk, rfl, hno⟩ := hrel
    have Hno := Lib.hid hno; clear hno
    by_cases hlt : k < L.length
    · obtain ⟨b, o, t, n, rfl, hb, hx, c0, c1⟩ := h.getW hlt
      have Hx := Lib.hid hx; clear hx
      by_cases hts : 100 < t.size
      · go_wp2
        go_ret
        refine ⟨ret_bool ?_, rfl⟩
        have : L.any (fun p => decide (100 < p.1.size)) = true := List.any_eq_true.2 ⟨(t, n), List.mem_of_getElem? Hx.out, by simpa using hts⟩
        simp [greatW, this]
      · go_wp2
        go_round
        case rel =>
          refine ⟨k + 1, by omega, by go_num, fun j x hj hx => ?_⟩
          by_cases hjk : j = k
          · subst hjk; rw [Hx.out] at hx; cases hx; exact hts
          · exact Hno.out j x (by omega) hx
        case measure => simp [intOf]; omega
    · obtain rfl : k = L.length := by omega
      go_wp2
      go_ret
      refine ⟨ret_bool ?_, rfl⟩
      have : L.any (fun p => decide (100 < p.1.size)) = false := by
        rw [List.any_eq_false]
        intro x hx
        obtain ⟨j, hj⟩ := List.getElem?_of_mem hx
        simpa using Hno.out j x (List.getElem?_eq_some_iff.1 hj).1 hj
      simp [greatW, this]

set_option maxRecDepth 100000 in
theorem R7Add_bad (v : Value) (word : ByteArray) (n : Int) (w : World) (hn' : n ≤ 9223372036854775807) (hw : word.toList.isEmpty = true ∨ n < 1) :
    Calls Try.prog 54 #[v, .string word, .int .i64 n] w fun e w' => e = .returned (.tuple #[v, .int .i64 1]) ∧ w = w' := by
  cases he : word.toList.isEmpty
  · have hn : n < 1 := by simpa [he] using hw
    clear hw
    go_enter Try.func54, Try.ntmps54
    go_wp2
    go_ret2
    exact ⟨rfl, rfl⟩
  · clear hw
    go_enter Try.func54, Try.ntmps54
    go_wp2
    go_ret2
    exact ⟨rfl, rfl⟩

set_option maxRecDepth 100000 in
theorem R7Add_over (p : Option Addr) (cap : Nat) (L : List W2) (word : ByteArray) (n : Int) (w : World) (h : SlAt encW 2 w p L) (hl : L.length ≤ 400000000000)
    (hw : word.toList.isEmpty = false) (hn : 1 ≤ n) (hn' : n ≤ 9223372036854775807) (hc : -9223372036854775808 ≤ cnt L word) (hc' : cnt L word ≤ 9223372036854775807) (hs : addC (cnt L word) n = none) :
    Calls Try.prog 54 #[.slice p L.length cap, .string word, .int .i64 n] w fun e w' => e = .returned (.tuple #[.slice p L.length cap, .int .i64 5]) ∧ w = w' := by
  have h79 := ref06Add_any (cnt L word) n w hc (by omega) hc' hn'
  rw [hs] at h79
  simp only [Option.getD_none, Option.isSome_none] at h79
  clear hs
  go_enter Try.func54, Try.ntmps54
  go_wp2_with (first | (go_at_call 55; refine (Count_any _ _ _ _ _ h (by omega)).mono ?_; rintro e w' ⟨rfl, rfl⟩) | (go_at_call 79; refine h79.mono ?_; rintro e w' ⟨rfl, rfl⟩))
  go_ret2
  exact ⟨rfl, rfl⟩

/-- ref07.Add, whole. -/
theorem R7Add_any (v : Value) (L : List W2) (word : ByteArray) (n : Int) (w : World) (h : SliceV encW 2 w v L) (hI : Ints L) (hl : L.length ≤ 400000000000) (hws : word.size ≤ 9223372036854775807)
    (hLs : ∀ x ∈ L, x.1.size ≤ 9223372036854775807) (hn' : n ≤ 9223372036854775807) :
    Calls Try.prog 54 #[v, .string word, .int .i64 n] w fun e w' => ∃ v', e = .returned (.tuple #[v', .int .i64 (addW L word n).2]) ∧ SliceV encW 2 w' v' (addW L word n).1 ∧ Keep No w w' ∧ NewOr w w' v v' := by
  have hc := hI.cnt word
  unfold addW
  by_cases hb : word.size = 0 ∨ n < 1
  · rw [if_pos hb]
    refine (R7Add_bad v word n w hn' (by rw [isEmpty_size]; simpa using hb)).mono ?_
    rintro e w' ⟨rfl, rfl⟩
    exact ⟨_, rfl, h, Keep.refl _ _, fun g hg => .inl hg⟩
  · rw [if_neg hb]
    have hw : word.toList.isEmpty = false := by rw [isEmpty_size]; simpa using fun e => hb (.inl e)
    have hn : 1 ≤ n := by omega
    obtain ⟨p, cap, rfl, hcap, hs⟩ := h
    cases hsum : addC (cnt L word) n with
    | none =>
      refine (R7Add_over p cap L word n w hs hl hw hn hn' (by omega) hc.2 hsum).mono ?_
      rintro e w' ⟨rfl, rfl⟩
      exact ⟨_, rfl, ⟨p, cap, rfl, hcap, hs⟩, Keep.refl _ _, fun g hg => .inl hg⟩
    | some sum => exact Add_ok p cap L word n w hs hl hws hLs sum hw hn hn' (by omega) hc.2 hsum
end Go.Proofs.Ytcofpmmoijnfiaa
