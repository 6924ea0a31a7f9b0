/- The counter of words: Freeze, AddAll, Merge. -/
import Derived.Test.YtcofpmmoijnfiaaK1
namespace Go.Proofs.Ytcofpmmoijnfiaa
open Go.RowKit

theorem cnt_rising {L : List W2} (h : Rising L) {k : Nat} {x : W2} (hx : L[k]? = some x) : cnt L x.1 = x.2 := by
  induction L generalizing k with
  | nil => simp at hx
  | cons a L ih =>
    obtain ⟨h1, h2⟩ := List.pairwise_cons.1 h
    rw [cnt_cons]
    cases k with
    | zero => simp at hx; subst hx; simp
    | succ k =>
      have hx' : L[k]? = some x := by simpa using hx
      rw [if_neg (ltB_ne_of (h1 x (List.mem_of_getElem? hx'))), ih h2 hx']

theorem CFreeze_own (c : Nat) (L : List W2) (w : World) (h : IsC w c L) (hR : Rising L) (hlen : L.length ≤ 100000000) :
    Calls Try.prog 43 #[.pointer (some ⟨c, 0, none⟩)] w fun e w' => ∃ v, e = .returned v ∧ (∃ B, w.heap.size ≤ B ∧ w'.ownsRow B 92 2 v L.length (L.flatMap encW)) ∧ Keep No w w' := by
  have hlt := h.lt
  obtain ⟨mv, hcell, hf, hm, hne⟩ := h
  have hmb : ∃ mb, mv = .map mb := by rcases hm with ⟨rfl, _⟩ | ⟨b, rfl, _⟩ <;> exact ⟨_, rfl⟩
  obtain ⟨mb, rfl⟩ := hmb
  have hsk := SortedKeys mb L w hm hR (by omega)
  have hwf : ∀ (k : Nat) (x : W2), L[k]? = some x → WfS x.1 := by
    intro k x hx
    rcases hm with ⟨_, rfl⟩ | ⟨b, _, D, _, hr⟩
    · simp at hx
    · exact hr.wf _ (List.mem_of_getElem? hx)
  go_enter Try.func43, Try.ntmps43
  go_wp2_with (first | (go_at_call 95; refine (callsIn_wide.1 (Try.maps_Keys_95 _ _)).mono ?_; rintro e w' ⟨rfl, rfl⟩) | (go_at_call 94; refine hsk.mono ?_; rintro e w1 ⟨p, cap, rfl, hs, hk, hp⟩))
  go_loopw [3, 15] (fun v i wr => ∃ k : Nat, k ≤ L.length ∧ i = .int .i64 k ∧ wr.ownsRow w1.heap.size 92 2 v (L.take k).length ((L.take k).flatMap encW) ∧ Keep No w1 wr) (fun _ i _ => L.length - (intOf i).toNat)
  case atStart => exact ⟨0, by omega, rfl, by simpa using World.ownsRow_nil _ _ _ _, Keep.refl _ _⟩
  case round =>
    obtain ⟨k, hkl, rfl, hown, hkr⟩ := hrel
    have hsz := hkr.size
    have hsz1 := hk.size
    have hkw := hk.trans' hkr
    by_cases hlt2 : k < L.length
    · obtain ⟨b, o, t, rfl, hb, hx, c0⟩ := (hs.keepNo hkr).getS (i := k) (by rw [List.length_map]; exact hlt2)
      obtain ⟨⟨t', n⟩, hx'⟩ : ∃ x, L[k]? = some x := ⟨_, List.getElem?_eq_getElem hlt2⟩
      have ht : t' = t := by rw [List.getElem?_map, hx'] at hx; simpa using hx
      subst ht
      have Hx := Lib.hid hx'
      have hwt := hwf k _ hx'
      have hcn := Lib.hid (cnt_rising hR hx')
      have hsn := Lib.hid (take_snoc hx')
      clear hx hx'
      have hc2 := hkw.cell (fun e => e) hcell
      have hl := (hm.keep hkw (fun _ _ e => e)).look keyS (k := t') hwt
      rw [hcn.out] at hl
      have htl : (L.take k).length + 1 ≤ 1000000000000 := by have := List.length_take_le k L; omega
      go_wp2_with (first | (at_builtin; go_must (refine wpList_app1 rfl (.tmp 19) (.tmp 28) 76 rfl arrW encW_length encW_one w1.heap.size _ (L.take k) (t', n) rfl _ rfl rfl hown htl (by omega) ?_; intro v2 w2 hown2 hk2)))
      go_roundw
      case rel => exact ⟨k + 1, by omega, by go_num, by rw [hsn.out]; exact hown2, hkr.app hown (Nat.le_refl _) hk2⟩
      case measure => simp [intOf]; omega
    · obtain rfl : k = L.length := by omega
      rw [List.take_length] at hown
      go_wp2
      go_ret
      exact ⟨_, rfl, ⟨_, hsz1, hown⟩, hkw⟩

theorem CFreeze_any (c : Nat) (L : List W2) (w : World) (h : IsC w c L) (hR : Rising L) (hlen : L.length ≤ 100000000) :
    Calls Try.prog 43 #[.pointer (some ⟨c, 0, none⟩)] w fun e w' => ∃ v, e = .returned v ∧ SliceV encW 2 w' v L ∧ Keep No w w' ∧ ∀ g, v.ownBlock = some g → w.heap.size ≤ g := by
  refine (CFreeze_own c L w h hR hlen).mono ?_
  rintro e w' ⟨v, rfl, ⟨B, hB, hown⟩, hk⟩
  exact ⟨v, rfl, SliceV.of_own encW_length hown, hk, fun g hg => Nat.le_trans hB (hown.lt g hg).1⟩
end Go.Proofs.Ytcofpmmoijnfiaa
