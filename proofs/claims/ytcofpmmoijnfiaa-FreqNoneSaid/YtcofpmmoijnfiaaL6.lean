/- The law FreqNone: what its call does. -/
import Derived.Test.YtcofpmmoijnfiaaF5
namespace Go.Proofs.Ytcofpmmoijnfiaa
open Go.RowKit

def SmallC (L : List W2) (n : Int) : Prop := ∀ p ∈ L, 0 ≤ p.2 ∧ p.2 ≤ n
theorem SmallC.cnt {L : List W2} {n : Int} (h : SmallC L n) (hn : 0 ≤ n) (s : ByteArray) : 0 ≤ cnt L s ∧ cnt L s ≤ n := by
  unfold Ytcofpmmoijnfiaa.cnt
  split
  · rename_i p hp; exact h p (List.mem_of_find?_eq_some hp)
  · omega

theorem addW_one {L : List W2} {n : Int} (h : SmallC L n) (hn : 0 ≤ n) (hn' : n < 9223372036854775807) {s : ByteArray} (hs : s.size ≠ 0) : (addW L s 1).2 = 0 ∧ SmallC (addW L s 1).1 (n + 1) := by
  have hc := h.cnt hn s
  unfold addW
  rw [if_neg (by omega)]
  have : addC (cnt L s) 1 = some (cnt L s + 1) := if_pos (by omega)
  rw [this]
  refine ⟨rfl, fun p hp => ?_⟩
  rcases insW_mem hp with rfl | hp
  · dsimp only; omega
  · have := h p hp; omega

theorem addAll_upto {L : List W2} {n : Int} (ws : List ByteArray) (h : SmallC L n) (hn : 0 ≤ n) (hn' : n + ws.length < 9223372036854775807) (k : Nat) (hk : k ≤ ws.length) (hne : ∀ j s, j < k → ws[j]? = some s → s.size ≠ 0) (he : ∀ s, ws[k]? = some s → s.size = 0) :
    addAllW L ws = (ofW L (ws.take k), if k < ws.length then 1 else 0) := by
  induction ws generalizing L n k with
  | nil => simp [addAllW, ofW]
  | cons s r ih =>
    cases k with
    | zero =>
      have hs := he s rfl
      have e : addW L s 1 = (L, 1) := by unfold addW; rw [if_pos (.inl hs)]
      unfold addAllW
      rw [e]
      simp [ofW]
    | succ k =>
      have hs := hne 0 s (by omega) rfl
      obtain ⟨h1, h2⟩ := addW_one h hn (by simp at hn'; omega) hs
      unfold addAllW
      rw [if_pos h1, ih h2 (by omega) (by simp at hn'; omega) k (by simpa using hk) (fun j s hj hs => hne (j + 1) s (by omega) (by simpa using hs)) (fun s hs => he s (by simpa using hs))]
      simp [ofW]

theorem ofW_rising {L : List W2} (h : Rising L) : ∀ ws, Rising (ofW L ws) := by
  intro ws
  induction ws generalizing L with
  | nil => exact h
  | cons s r ih => exact ih (addW_rising h s 1)
theorem ofW_length (L : List W2) (ws : List ByteArray) : (ofW L ws).length ≤ L.length + ws.length := by
  induction ws generalizing L with
  | nil => simp [ofW]
  | cons s r ih =>
    have h1 := ih (L := (addW L s 1).1)
    have h2 := addW_length L s 1
    simp only [ofW, List.length_cons]
    omega

set_option maxRecDepth 100000 in
theorem FreqNone_any (p : Option Addr) (cap : Nat) (ws : List ByteArray) (w : World) (h : SlAt encS 1 w p ws) (hl : ws.length ≤ cap) (hcap' : cap ≤ maxLen) (hws : ∀ x ∈ ws, x.size ≤ maxLen) :
    Calls Try.prog 6 #[.slice p ws.length cap] w fun e w' => e = .returned (.bool true) ∧ Keep No w w' := by
  have hcap : cap ≤ 9223372036854775807 := by unfold maxLen at hcap'; omega
  by_cases h50 : 50 < ws.length
  · go_enter Try.func6, Try.ntmps6
    go_wp2_with (first | (go_at_call 39; refine (awake07_any _).mono ?_; rintro e w1 ⟨rfl, hk1⟩))
    go_ret
    exact ⟨rfl, hk1⟩
  · go_enter Try.func6, Try.ntmps6
    go_wp2_with (first | (go_at_call 39; refine (awake07_any _).mono ?_; rintro e w1 ⟨rfl, hk1⟩))
    have hz : IsC (w1.alloc (.cells #[.map none] 72)) w1.heap.size [] := ⟨.map none, cell_new (xs := [.map none]) rfl, frozen_new, .inl ⟨rfl, rfl⟩, fun b e => nomatch e⟩
    have hzf : ∀ k, footC (w1.alloc (.cells #[.map none] 72)) w1.heap.size k → w.heap.size ≤ k := by
      have := hk1.size
      rintro k (rfl | hk)
      · exact this
      · rw [show (w1.alloc (.cells #[.map none] 72)).cell? ⟨w1.heap.size, 0, none⟩ = some (.map none) from cell_new (xs := [.map none]) rfl] at hk; cases hk
    have hk2 : Keep No w (w1.alloc (.cells #[.map none] 72)) := hk1.alloc _
    generalize w1.alloc (.cells #[.map none] 72) = w2 at *
    have h2 := h.keepNo hk2
    go_loop [5] (fun i => ∃ k : Nat, k ≤ ws.length ∧ i = .int .i64 k ∧ ∀ j s, j < k → ws[j]? = some s → s.size ≠ 0) (fun i => ws.length - (intOf i).toNat)
    case atStart => exact ⟨0, Nat.zero_le _, rfl, fun j s hj => by omega⟩
    case round =>
      obtain ⟨k, hk, rfl, hno⟩ := hrel
      have Hno := Lib.hid hno
      clear hno
      by_cases hgo : ∃ s, ws[k]? = some s ∧ s.size ≠ 0
      · obtain ⟨t, hx, hne⟩ := hgo
        have hlt : k < ws.length := (List.getElem?_eq_some_iff.1 hx).1
        obtain ⟨b, o, t', rfl, hb, hx', c0⟩ := h2.getS hlt
        rw [hx] at hx'
        cases hx'
        have Hx := Lib.hid hx
        clear hx
        have hts : t.toList.isEmpty = false := by rw [isEmpty_size]; simpa using hne
        by_cases h100 : 100 < t.size
        · go_wp2
          go_ret
          exact ⟨rfl, hk2⟩
        · go_wp2
          go_round
          case rel =>
            refine ⟨k + 1, by omega, by go_num, fun j s hj hs => ?_⟩
            by_cases e : j = k
            · subst e; rw [Hx.out] at hs; cases hs; exact hne
            · exact Hno.out j s (by omega) hs
          case measure => simp [intOf]; omega
      · have hz0 : ∀ s, ws[k]? = some s → s.size = 0 := by
          intro s hs
          by_cases e : s.size = 0
          · exact e
          · exact absurd ⟨s, hs, e⟩ hgo
        have hsum := addAll_upto ws (L := []) (n := 0) (fun p hp => nomatch hp) (by omega) (by omega) k hk Hno.out hz0
        have hadd := CAddAll_any w1.heap.size [] p cap ws (w2.drewN 1) hz rising_nil ints_nil (by simp; omega) h2 hws (fun hne a ha hf => absurd (hzf _ hf) (Nat.not_le.2 (h.block hne a ha)))
        rw [hsum] at hadd
        clear hsum
        have hof := fun W hW => Of_any p cap (ws.take k) W (h.keepNo hW |>.take k) (by simp; omega) (fun x hx => hws x (List.mem_of_mem_take hx))
        rw [List.length_take, Nat.min_eq_left hk] at hof
        have hris : Rising (ofW [] (ws.take k)) := ofW_rising rising_nil _
        have hFl : (ofW [] (ws.take k)).length ≤ 100 := by
          have := ofW_length [] (ws.take k)
          simp at this
          omega
        generalize ofW [] (ws.take k) = F at *
        have hq0 : (0 : Int) ≤ (k : Int) := by omega
        have hq1 : (k : Int) ≤ (cap : Int) := by omega
        have hq2 : k ≤ cap := by omega
        by_cases hlt : k < ws.length
        · obtain ⟨b, o, t, rfl, hb, hx, c0⟩ := h2.getS hlt
          have hts : t.toList.isEmpty = true := by rw [isEmpty_size]; simpa using hz0 t hx
          rw [if_pos hlt] at hadd
          clear hx hz0 hgo
          go_wp2_with (first | (go_at_call 40; refine (CAdd_nil _ _ _).mono ?_; rintro e w' ⟨rfl, rfl⟩) | (go_at_call 41; refine (CCount_nil _ _).mono ?_; rintro e w' ⟨rfl, rfl⟩) | (go_at_call 42; refine (CLen_nil _).mono ?_; rintro e w' ⟨rfl, rfl⟩) | (go_at_call 43; refine (CFreeze_nil _).mono ?_; rintro e w' ⟨rfl, rfl⟩))
          go_region_held3 (fun _ => True) (trivial) (first | (go_at_call 44; refine hadd.mono ?_; rintro e w3 ⟨rfl, hA⟩; obtain ⟨hk3, hB3⟩ := hA.own (hk2.drewN 1) hzf) | (go_at_call 43; refine (CFreeze_any w1.heap.size _ _ hA.is hris (by omega)).mono ?_; rintro e w4 ⟨v4, rfl, ⟨p4, cap4, rfl, hc4, hv4⟩, hk4, hn4⟩) | (go_at_call 46; refine (hof _ (hk3.trans' hk4)).mono ?_; rintro e w5 ⟨v5, rfl, ⟨p5, cap5, rfl, hc5, hv5⟩, hk5, hn5⟩) | (go_at_call 45; refine (Same_any p4 p5 cap4 cap5 _ _ _ (hv4.keepNo hk5) hv5 (by omega) (by omega)).mono ?_; rintro e w6 ⟨rfl, n, rfl⟩))
          go_wp2
          go_ret
          exact ⟨by simp, ((hk3.trans' hk4).trans' hk5).drewN _⟩
        · rw [if_neg hlt] at hadd
          obtain rfl : k = ws.length := by omega
          clear hz0 hgo
          cases p
          · go_wp2_with (first | (go_at_call 40; refine (CAdd_nil _ _ _).mono ?_; rintro e w' ⟨rfl, rfl⟩) | (go_at_call 41; refine (CCount_nil _ _).mono ?_; rintro e w' ⟨rfl, rfl⟩) | (go_at_call 42; refine (CLen_nil _).mono ?_; rintro e w' ⟨rfl, rfl⟩) | (go_at_call 43; refine (CFreeze_nil _).mono ?_; rintro e w' ⟨rfl, rfl⟩))
            go_region_held3 (fun _ => True) (trivial) (first | (go_at_call 44; refine hadd.mono ?_; rintro e w3 ⟨rfl, hA⟩; obtain ⟨hk3, hB3⟩ := hA.own (hk2.drewN 1) hzf) | (go_at_call 43; refine (CFreeze_any w1.heap.size _ _ hA.is hris (by omega)).mono ?_; rintro e w4 ⟨v4, rfl, ⟨p4, cap4, rfl, hc4, hv4⟩, hk4, hn4⟩) | (go_at_call 46; refine (hof _ (hk3.trans' hk4)).mono ?_; rintro e w5 ⟨v5, rfl, ⟨p5, cap5, rfl, hc5, hv5⟩, hk5, hn5⟩) | (go_at_call 45; refine (Same_any p4 p5 cap4 cap5 _ _ _ (hv4.keepNo hk5) hv5 (by omega) (by omega)).mono ?_; rintro e w6 ⟨rfl, n, rfl⟩))
            go_wp2
            go_ret
            exact ⟨by simp, ((hk3.trans' hk4).trans' hk5).drewN _⟩
          · go_wp2_with (first | (go_at_call 40; refine (CAdd_nil _ _ _).mono ?_; rintro e w' ⟨rfl, rfl⟩) | (go_at_call 41; refine (CCount_nil _ _).mono ?_; rintro e w' ⟨rfl, rfl⟩) | (go_at_call 42; refine (CLen_nil _).mono ?_; rintro e w' ⟨rfl, rfl⟩) | (go_at_call 43; refine (CFreeze_nil _).mono ?_; rintro e w' ⟨rfl, rfl⟩))
            go_region_held3 (fun _ => True) (trivial) (first | (go_at_call 44; refine hadd.mono ?_; rintro e w3 ⟨rfl, hA⟩; obtain ⟨hk3, hB3⟩ := hA.own (hk2.drewN 1) hzf) | (go_at_call 43; refine (CFreeze_any w1.heap.size _ _ hA.is hris (by omega)).mono ?_; rintro e w4 ⟨v4, rfl, ⟨p4, cap4, rfl, hc4, hv4⟩, hk4, hn4⟩) | (go_at_call 46; refine (hof _ (hk3.trans' hk4)).mono ?_; rintro e w5 ⟨v5, rfl, ⟨p5, cap5, rfl, hc5, hv5⟩, hk5, hn5⟩) | (go_at_call 45; refine (Same_any p4 p5 cap4 cap5 _ _ _ (hv4.keepNo hk5) hv5 (by omega) (by omega)).mono ?_; rintro e w6 ⟨rfl, n, rfl⟩))
            go_wp2
            go_ret
            exact ⟨by simp, ((hk3.trans' hk4).trans' hk5).drewN _⟩
end Go.Proofs.Ytcofpmmoijnfiaa
