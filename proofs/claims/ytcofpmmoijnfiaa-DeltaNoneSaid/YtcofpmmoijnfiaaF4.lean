/- The counter of words: AddAll. -/
import Derived.Test.YtcofpmmoijnfiaaF3
namespace Go.Proofs.Ytcofpmmoijnfiaa
open Go.RowKit

theorem CAfter.trans {a b c' : World} {c : Nat} {L L' : List W2} (h : CAfter a b c L) (k : CAfter b c' c L') : CAfter a c' c L' where
  is := k.is
  foot j hj := by
    rcases k.foot j hj with h1 | h1
    · exact h.foot j h1
    · exact .inr (Nat.le_trans h.keep.size h1)
  keep := h.keep.trans k.keep fun j hj hf => by
    rcases h.foot j hf with h1 | h1
    · exact h1
    · omega

theorem CAfter.no {a b b' : World} {c : Nat} {L : List W2} (h : CAfter a b c L) (k : Keep No b b') : CAfter a b' c L := by
  have h2 := h.is.keep k fun _ _ e => e
  exact ⟨h2.1, fun j hj => h.foot j (h2.2 j hj), h.keep.transNo k⟩

/-- Seen from a world in which the counter was not: nothing that lay there has turned. -/
theorem CAfter.own {w0 a b : World} {c : Nat} {L : List W2} (h : CAfter a b c L) (hk : Keep No w0 a) (hB : ∀ k, footC a c k → w0.heap.size ≤ k) : Keep No w0 b ∧ ∀ k, footC b c k → w0.heap.size ≤ k := by
  refine ⟨hk.trans h.keep fun j hj hf => ?_, fun k hf => ?_⟩
  · have := hB j hf; omega
  · rcases h.foot k hf with h1 | h1
    · exact hB k h1
    · exact Nat.le_trans hk.size h1

theorem addC_some {a b s : Int} (h : addC a b = some s) : s = a + b ∧ 0 ≤ a ∧ 0 ≤ b ∧ s ≤ 9223372036854775807 := by
  unfold addC at h
  split at h
  · cases h; omega
  · cases h

theorem addW_ints {L : List W2} (h : Ints L) (word : ByteArray) (n : Int) : Ints (addW L word n).1 := by
  unfold addW
  split
  · exact h
  · split
    · rename_i s hs
      have := addC_some hs
      intro p hp
      rcases insW_mem hp with rfl | hp
      · dsimp only; omega
      · exact h p hp
    · exact h

theorem insW_length (word : ByteArray) (sum : Int) : ∀ L : List W2, (insW word sum false L).length ≤ L.length + 1
  | [] => by simp [insW]
  | x :: L => by
    cases hx : ltB x.1 word
    · rw [insW_ge sum L hx, List.length_cons]
      exact Nat.succ_le_succ (List.length_filter_le _ _)
    · rw [insW_lt sum L hx, List.length_cons, List.length_cons]
      have := insW_length word sum L
      omega
theorem addW_length (L : List W2) (word : ByteArray) (n : Int) : (addW L word n).1.length ≤ L.length + 1 := by
  unfold addW
  split
  · simp
  · split
    · exact insW_length _ _ _
    · simp

def addAllW (L : List W2) : List ByteArray → List W2 × Int
  | [] => (L, 0)
  | s :: r => if (addW L s 1).2 = 0 then addAllW (addW L s 1).1 r else addW L s 1

theorem addW_code (L : List W2) (s : ByteArray) (n : Int) : (addW L s n).2 = 0 ∨ (addW L s n).2 = 1 ∨ (addW L s n).2 = 5 := by
  unfold addW
  split
  · simp
  · split <;> simp

theorem CAddAll_any (c : Nat) (L : List W2) (p : Option Addr) (cap : Nat) (ws : List ByteArray) (w : World) (h : IsC w c L) (hR : Rising L) (hI : Ints L) (hlen : L.length + ws.length ≤ 100000000) (hs : SlAt encS 1 w p ws) (hws : ∀ s ∈ ws, s.size ≤ maxLen) (hoff : ws ≠ [] → ∀ a, p = some a → ¬ footC w c a.block) :
    Calls Try.prog 44 #[.pointer (some ⟨c, 0, none⟩), .slice p ws.length cap] w fun e w' => e = .returned (.int .i64 (addAllW L ws).2) ∧ CAfter w w' c (addAllW L ws).1 := by
  go_enter Try.func44, Try.ntmps44
  go_wp2
  go_loopw [10] (fun i wr => ∃ (k : Nat) (L' : List W2), k ≤ ws.length ∧ i = .int .i64 k ∧ CAfter w wr c L' ∧ Rising L' ∧ Ints L' ∧ L'.length ≤ L.length + k ∧ addAllW L' (ws.drop k) = addAllW L ws) (fun i _ => ws.length - (intOf i).toNat)
  case atStart => exact ⟨0, L, by omega, rfl, CAfter.refl h, hR, hI, by omega, rfl⟩
  case round =>
    obtain ⟨k, L', hk, rfl, hA, hR', hI', hl', heq⟩ := hrel
    have Heq := Lib.hid heq
    clear heq
    by_cases hlt : k < ws.length
    · obtain ⟨b, o, t, rfl, hb, hx, c0⟩ := (hs.keep hA.keep hoff).getS hlt
      have hts := hws _ (List.mem_of_getElem? hx)
      have Hd := Lib.hid (drop_cons hx)
      clear hx
      have hadd := CAdd_any c L' t 1 wr hA.is hR' hI' (by omega) hts (by omega)
      have hR2 := addW_rising hR' t 1
      have hI2 := addW_ints hI' t 1
      have hl2 := addW_length L' t 1
      have Hst := Lib.hid (show addAllW L ws = if (addW L' t 1).2 = 0 then addAllW (addW L' t 1).1 (ws.drop (k + 1)) else addW L' t 1 by rw [← Heq.out, Hd.out]; rfl)
      generalize addW L' t 1 = r at *
      cases he : (r.2 == 0)
      · go_wp2_with (first | (go_at_call 40; refine hadd.mono ?_; rintro e w' ⟨rfl, hA2⟩))
        go_ret
        have hne : ¬ r.2 = 0 := by simpa using he
        rw [Hst.out, if_neg hne]
        exact ⟨rfl, hA.trans hA2⟩
      · go_wp2_with (first | (go_at_call 40; refine hadd.mono ?_; rintro e w' ⟨rfl, hA2⟩))
        go_roundw
        case rel => exact ⟨k + 1, r.1, by omega, by go_num, hA.trans hA2, hR2, hI2, by omega, by rw [Hst.out, if_pos (by simpa using he)]⟩
        case measure => simp [intOf]; omega
    · obtain rfl : k = ws.length := by omega
      have hfin : addAllW L ws = (L', 0) := by rw [← Heq.out]; simp [addAllW]
      have Hfin := Lib.hid hfin
      clear hfin
      go_wp2
      go_ret
      rw [Hfin.out]
      exact ⟨rfl, hA⟩
end Go.Proofs.Ytcofpmmoijnfiaa
