/- ref07: Of, Merge. -/
import Derived.Test.YtcofpmmoijnfiaaR8
import Derived.Deep.RegionHeld3
namespace Go.Proofs.Ytcofpmmoijnfiaa
open Go.RowKit

/-- The fold of Add up to the first error. -/
def mergeW (L : List W2) : List W2 → Option (List W2) × Int
  | [] => (some L, 0)
  | x :: r => if (addW L x.1 x.2).2 = 0 then mergeW (addW L x.1 x.2).1 r else (none, (addW L x.1 x.2).2)

theorem addW_sizes {L : List W2} {word : ByteArray} (h : ∀ x ∈ L, x.1.size ≤ maxLen) (hw : word.size ≤ maxLen) (n : Int) : ∀ x ∈ (addW L word n).1, x.1.size ≤ maxLen := by
  unfold addW
  split
  · exact h
  · split
    · intro x hx
      rcases insW_mem hx with rfl | hx
      · exact hw
      · exact h x hx
    · exact h

set_option maxRecDepth 100000 in
theorem R7Merge_any (p : Option Addr) (cap : Nat) (ws : List W2) (w : World) (h : SlAt encW 2 w p ws) (hl : ws.length ≤ 1000000000) (hws : ∀ x ∈ ws, x.1.size ≤ maxLen ∧ x.2 ≤ 9223372036854775807) :
    Calls Try.prog 56 #[.slice p ws.length cap] w fun e w' => ∃ v, e = .returned (.tuple #[v, .int .i64 (mergeW [] ws).2]) ∧ SliceV encW 2 w' v ((mergeW [] ws).1.getD []) ∧ Keep No w w' ∧ ∀ g, v.ownBlock = some g → w.heap.size ≤ g := by
  go_enter Try.func56, Try.ntmps56
  go_wp2
  go_loopw [4, 5] (fun v i wr => ∃ (k : Nat) (L : List W2), k ≤ ws.length ∧ i = .int .i64 k ∧ SliceV encW 2 wr v L ∧ Keep No w wr ∧ (∀ g, v.ownBlock = some g → w.heap.size ≤ g) ∧ Ints L ∧ L.length ≤ k ∧ (∀ x ∈ L, x.1.size ≤ maxLen) ∧ mergeW L (ws.drop k) = mergeW [] ws) (fun _ i _ => ws.length - (intOf i).toNat)
  case atStart => exact ⟨0, [], Nat.zero_le _, rfl, SliceV.nil _ _ _, Keep.refl _ _, (fun g e => nomatch e), (fun p hp => nomatch hp), Nat.le_refl _, (fun p hp => nomatch hp), rfl⟩
  case round =>
    obtain ⟨k, L, hk, rfl, hv, hkeep, hnew, hI, hLl, hLs, heq⟩ := hrel
    have Heq := Lib.hid heq
    clear heq
    by_cases hlt : k < ws.length
    · obtain ⟨b, o, t, n, rfl, hb, hx, c0, c1⟩ := (h.keepNo hkeep).getW hlt
      have hxs := hws _ (List.mem_of_getElem? hx)
      have Hd := Lib.hid (drop_cons hx)
      clear hx
      have hadd := fun q => R7Add_any u4 L t n (wr.drewN q) hv hI (by omega) (by have := hxs.1; unfold maxLen at this; omega) (fun x hx => by have := hLs x hx; unfold maxLen at this; omega) hxs.2
      go_wp2
      go_region_held3 (fun w' => w'.cell? ⟨b, o + k * 2, none⟩ = some (.string t) ∧ w'.cell? ⟨b, o + k * 2 + 1, none⟩ = some (.int .i64 n)) (first | go_keep) (first | (go_at_call 54; refine (hadd 1).mono ?_; rintro e w2 ⟨v2, rfl, hv2, hk2, hn2⟩; have e0 := hk2.cell (fun e => e) c0; have e1 := hk2.cell (fun e => e) c1))
      have hst := Lib.hid (show mergeW [] ws = if (addW L t n).2 = 0 then mergeW (addW L t n).1 (ws.drop (k + 1)) else (none, (addW L t n).2) by rw [← Heq.out, Hd.out]; rfl)
      have hI2 := addW_ints hI t n
      have hl2 := addW_length L t n
      have hs2 := addW_sizes hLs hxs.1 n
      have hkw : Keep No w w2 := (hkeep.drewN 1).trans' hk2
      have hnw : ∀ g, v2.ownBlock = some g → w.heap.size ≤ g := by
        intro g hg
        rcases hn2 g hg with h1 | h1
        · exact hnew g h1
        · have h3 := hkeep.size
          have h4 : wr.heap.size ≤ g := h1.1
          omega
      clear hadd
      generalize addW L t n = r at *
      cases he : (r.2 == 0)
      · have hne : ¬ r.2 = 0 := by simpa using he
        go_wp2
        go_ret2
        rw [hst.out, if_neg hne]
        exact ⟨_, rfl, SliceV.nil _ _ _, hkw, (fun g e => nomatch e)⟩
      · have hp : r.2 = 0 := by simpa using he
        have Hp := Lib.hid hp
        clear hp
        go_wp2
        go_roundw
        case rel => exact ⟨k + 1, r.1, by omega, by go_num, hv2, hkw, hnw, hI2, by omega, hs2, by rw [hst.out, if_pos Hp.out]⟩
        case measure => simp [intOf]; omega
    · obtain rfl : k = ws.length := by omega
      have hfin : mergeW [] ws = (some L, 0) := by rw [← Heq.out]; simp [mergeW]
      have Hfin := Lib.hid hfin
      clear hfin
      go_wp2
      go_ret2
      rw [Hfin.out]
      exact ⟨_, rfl, hv, hkeep, hnew⟩

def ofW (L : List W2) : List ByteArray → List W2
  | [] => L
  | s :: r => ofW (addW L s 1).1 r

theorem Of_any (p : Option Addr) (cap : Nat) (ws : List ByteArray) (w : World) (h : SlAt encS 1 w p ws) (hl : ws.length ≤ 1000000000) (hws : ∀ x ∈ ws, x.size ≤ maxLen) :
    Calls Try.prog 46 #[.slice p ws.length cap] w fun e w' => ∃ v, e = .returned v ∧ SliceV encW 2 w' v (ofW [] ws) ∧ Keep No w w' ∧ ∀ g, v.ownBlock = some g → w.heap.size ≤ g := by
  go_enter Try.func46, Try.ntmps46
  go_wp2
  go_loopw [3, 4] (fun v i wr => ∃ (k : Nat) (L : List W2), k ≤ ws.length ∧ i = .int .i64 k ∧ SliceV encW 2 wr v L ∧ Keep No w wr ∧ (∀ g, v.ownBlock = some g → w.heap.size ≤ g) ∧ Ints L ∧ L.length ≤ k ∧ (∀ x ∈ L, x.1.size ≤ maxLen) ∧ ofW L (ws.drop k) = ofW [] ws) (fun _ i _ => ws.length - (intOf i).toNat)
  case atStart => exact ⟨0, [], Nat.zero_le _, rfl, SliceV.nil _ _ _, Keep.refl _ _, (fun g e => nomatch e), (fun p hp => nomatch hp), Nat.le_refl _, (fun p hp => nomatch hp), rfl⟩
  case round =>
    obtain ⟨k, L, hk, rfl, hv, hkeep, hnew, hI, hLl, hLs, heq⟩ := hrel
    have Heq := Lib.hid heq
    clear heq
    by_cases hlt : k < ws.length
    · obtain ⟨b, o, t, rfl, hb, hx, c0⟩ := (h.keepNo hkeep).getS hlt
      have hxs := hws _ (List.mem_of_getElem? hx)
      have Hd := Lib.hid (drop_cons hx)
      clear hx
      have hadd := R7Add_any u3 L t 1 wr hv hI (by omega) (by have := hxs; unfold maxLen at this; omega) (fun x hx => by have := hLs x hx; unfold maxLen at this; omega) (by omega)
      have hI2 := addW_ints hI t 1
      have hl2 := addW_length L t 1
      have hs2 := addW_sizes hLs hxs 1
      go_wp2_with (first | (go_at_call 54; refine hadd.mono ?_; rintro e w2 ⟨v2, rfl, hv2, hk2, hn2⟩))
      go_roundw
      case rel =>
        refine ⟨k + 1, _, by omega, by go_num, hv2, hkeep.trans' hk2, fun g hg => ?_, hI2, by omega, hs2, by rw [← Heq.out, Hd.out]; rfl⟩
        rcases hn2 g hg with h1 | h1
        · exact hnew g h1
        · have := hkeep.size; have := h1.1; omega
      case measure => simp [intOf]; omega
    · obtain rfl : k = ws.length := by omega
      have Hfin := Lib.hid (show ofW [] ws = L by rw [← Heq.out]; simp [ofW])
      go_wp2
      go_ret
      rw [Hfin.out]
      exact ⟨_, rfl, hv, hkeep, hnew⟩
end Go.Proofs.Ytcofpmmoijnfiaa
