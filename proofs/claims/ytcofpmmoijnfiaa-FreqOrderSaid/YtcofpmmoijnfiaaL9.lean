/- The law FreqPlays: what its call does. -/
import Derived.Test.YtcofpmmoijnfiaaF6
namespace Go.Proofs.Ytcofpmmoijnfiaa
open Go.RowKit

theorem greatW_false {L : List W2} {m : Int} (h : greatW L m = false) : (L.length : Int) ≤ m ∧ ∀ x ∈ L, x.1.size ≤ 100 := by
  simp only [greatW, Bool.or_eq_false_iff, decide_eq_false_iff_not, Int.not_lt, List.any_eq_false] at h
  exact ⟨h.2, fun x hx => by have := h.1 x hx; simpa using this⟩

theorem mergeW_length (L ws : List W2) : ((mergeW L ws).1.getD []).length ≤ L.length + ws.length := by
  induction ws generalizing L with
  | nil => simp [mergeW]
  | cons x r ih =>
    unfold mergeW
    split
    · have h1 := ih (addW L x.1 x.2).1
      have h2 := addW_length L x.1 x.2
      simp only [List.length_cons]
      omega
    · simp

set_option maxHeartbeats 1000000 in
set_option maxRecDepth 100000 in
theorem FreqPlays_any (p : Option Addr) (cap : Nat) (L0 : List W2) (s : ByteArray) (w : World) (h : SlAt encW 2 w p L0) (hl : L0.length ≤ cap) (hcap' : cap ≤ maxLen) (hnil : p = none → cap = 0)
    (hws : ∀ x ∈ L0, x.1.size ≤ maxLen ∧ -9223372036854775808 ≤ x.2 ∧ x.2 ≤ 9223372036854775807) (hss : s.size ≤ maxLen) :
    Calls Try.prog 9 #[.slice p L0.length cap, .string s] w fun e w' => e = .returned (.bool true) ∧ Keep No w w' := by
  have hcap : cap ≤ 9223372036854775807 := by unfold maxLen at hcap'; omega
  cases hg : greatW L0 100
  · by_cases h100 : 100 < s.size
    · go_enter Try.func9, Try.ntmps9
      go_wp2_with (first | (go_at_call 39; refine (awake07_any _).mono ?_; rintro e w1 ⟨rfl, hk1⟩) | (go_at_call 51; refine (Great_any p cap L0 100 _ (h.keepNo hk1) (by omega)).mono ?_; rintro e w1' ⟨rfl, rfl⟩; rw [hg]))

      go_ret
      exact ⟨rfl, hk1⟩
    · go_enter Try.func9, Try.ntmps9
      go_wp2_with (first | (go_at_call 39; refine (awake07_any _).mono ?_; rintro e w1 ⟨rfl, hk1⟩) | (go_at_call 51; refine (Great_any p cap L0 100 _ (h.keepNo hk1) (by omega)).mono ?_; rintro e w1' ⟨rfl, rfl⟩; rw [hg]) | (go_at_call 53; refine (New_any _).mono ?_; rintro e w2 ⟨rfl, hc, hk2, hB⟩))
      obtain ⟨hlen, hsz⟩ := greatW_false hg
      have hkw := hk1.trans' hk2
      have hB' : ∀ j, footC w2 w1.heap.size j → w.heap.size ≤ j := fun j hj => Nat.le_trans hk1.size (hB j hj)
      have h2 := h.keepNo hkw
      generalize hc0 : w1.heap.size = c at *
      clear hc0
      go_loopw [6, 7] (fun x i wr => ∃ (k : Nat) (L : List W2), k ≤ L0.length ∧ i = .int .i64 k ∧ IsC wr c L ∧ (∀ j, footC wr c j → w.heap.size ≤ j) ∧ SliceV encW 2 wr x L ∧ (∀ g, x.ownBlock = some g → g < wr.heap.size ∧ ¬ footC wr c g) ∧ Keep No w wr ∧ Rising L ∧ Ints L ∧ L.length ≤ k ∧ ∀ y ∈ L, y.1.size ≤ maxLen) (fun _ i _ => L0.length - (intOf i).toNat)
      case atStart => exact ⟨0, [], Nat.zero_le _, rfl, hc, hB', SliceV.nil _ _ _, (fun g e => nomatch e), hkw, rising_nil, ints_nil, Nat.le_refl _, fun y hy => nomatch hy⟩
      case round =>
        obtain ⟨k, L, hk, rfl, hC, hF, hx, hxo, hkr, hR, hI, hLl, hLs⟩ := hrel
        by_cases hlt : k < L0.length
        · obtain ⟨b, o, t, n, rfl, hb, hx0, c0, c1⟩ := h.getW hlt
          have hxs := hws _ (List.mem_of_getElem? hx0)
          clear hx0
          have d0 := hkr.cell (fun e => e) c0
          have d1 := hkr.cell (fun e => e) c1
          have hoff : ¬ footC wr c b := fun e => absurd (hF b e) (by omega)
          have hadd := fun q => CAdd_any c L t n (wr.drewN q) hC hR hI (by omega) hxs.1 hxs.2.2
          have hadd7 := fun W (hv : SliceV encW 2 W u6 L) => R7Add_any u6 L t n W hv hI (by omega) (by have := hxs.1; unfold maxLen at this; omega) (fun y hy => by have := hLs y hy; unfold maxLen at this; omega) hxs.2.2
          have hI2 := addW_ints hI t n
          have hR2 := addW_rising hR t n
          have hl2 := addW_length L t n
          have hs2 := addW_sizes hLs hxs.1 n
          generalize addW L t n = r at *
          go_wp2
          go_region_held3 (fun w' => w'.cell? ⟨b, o + k * 2, none⟩ = some (.string t) ∧ w'.cell? ⟨b, o + k * 2 + 1, none⟩ = some (.int .i64 n)) (first | go_keep) (first | (go_at_call 40; refine (hadd 1).mono ?_; rintro e w3 ⟨rfl, hA⟩; have e0 := hA.keep.cell hoff d0; have e1 := hA.keep.cell hoff d1))
          have hx3 := (show SliceV encW 2 (wr.drewN 1) u6 L from hx).keep hA.keep fun g hg => (hxo g hg).2
          obtain ⟨hk3, hF3⟩ := hA.own (hkr.drewN 1) hF
          have hsz3 : wr.heap.size ≤ w3.heap.size := hA.keep.size
          have hft3 : ∀ j, footC w3 c j → footC wr c j ∨ wr.heap.size ≤ j := hA.foot
          have hC3 := hA.is
          go_wp2
          go_region_held3 (fun w' => w'.cell? ⟨b, o + k * 2, none⟩ = some (.string t) ∧ w'.cell? ⟨b, o + k * 2 + 1, none⟩ = some (.int .i64 n)) (first | go_keep) (first | (go_at_call 54; refine (hadd7 _ (hx3.keepNo ((Keep.refl No _).drewN _))).mono ?_; rintro e w4 ⟨v4, rfl, hv4, hk4, hn4⟩; have f0 := hk4.cell (fun e => e) e0; have f1 := hk4.cell (fun e => e) e1))
          have hk4' : Keep No w3 w4 := ((Keep.refl No w3).drewN 1).trans' hk4
          obtain ⟨hC4, hF4⟩ := hC3.keep hk4' (fun _ _ e => e)
          have hn4' : NewOr w3 w4 u6 v4 := hn4
          obtain ⟨p4, cap4, rfl, hcap4, hs4⟩ := hv4
          have hkw4 : Keep No w w4 := hk3.trans' hk4'
          have hfl3 := hC3.foot_lt
          have hvo : ∀ g, (Value.slice p4 r.1.length cap4).ownBlock = some g → g < w4.heap.size ∧ ¬ footC w4 c g := by
            intro g hg
            have hs43 := hk4'.size
            rcases hn4' g hg with h1 | h1
            · obtain ⟨h2, h3⟩ := hxo g h1
              refine ⟨by omega, fun hf => ?_⟩
              rcases hft3 g (hF4 g hf) with h4 | h4
              · exact h3 h4
              · omega
            · exact ⟨h1.2, fun hf => absurd (hfl3 g (hF4 g hf)) (by omega)⟩
          have hll : r.1.length ≤ 9223372036854775807 := by omega
          clear hadd hadd7
          go_wp2_with (first | (go_at_call 41; refine (CCount_any c r.1 s _ hC4 hss).mono ?_; rintro e w5 ⟨rfl, rfl⟩) | (go_at_call 55; refine (Count_any p4 cap4 r.1 s _ hs4 hll).mono ?_; rintro e w5 ⟨rfl, rfl⟩) | (go_at_call 42; refine (CLen_any c r.1 _ hC4).mono ?_; rintro e w5 ⟨rfl, rfl⟩))
          go_roundw
          case rel => exact ⟨k + 1, r.1, by omega, by go_num, hC4, fun j hj => hF3 j (hF4 j hj), ⟨p4, cap4, rfl, hcap4, hs4⟩, hvo, hkw4, hR2, hI2, by omega, hs2⟩
          case measure => simp [intOf]; omega
        · obtain rfl : k = L0.length := by omega
          obtain ⟨p3, cap3, rfl, hcap3, hs3⟩ := hx
          have hLl' : L.length ≤ 100 := by omega
          have hflt := hC.foot_lt
          go_wp2_with (first | (go_at_call 43; refine (CFreeze_own c L wr hC hR (by omega)).mono ?_; rintro e w4 ⟨v4, rfl, ⟨B4, hB4, hown4⟩, hk4⟩; have ht4 := Thaw.of_own hown4; have hlt4 := hown4.lt; obtain ⟨p4, cap4, rfl, hcap4, hs4⟩ := SliceV.of_own encW_length hown4; clear hown4; have hs34 := hs3.keepNo hk4; have h4 := h.keepNo (hkr.trans' hk4)) | (go_at_call 45; refine (Same_any p4 p3 cap4 cap3 L L _ hs4 hs34 (by omega) (by omega)).mono ?_; rintro e w5 ⟨rfl, q, rfl⟩; rw [show decide (L = L) = true by simp]))
          obtain ⟨hC4, hF4⟩ := hC.keep hk4 (fun _ _ e => e)
          have hsz4 := hk4.size
          have hsz0 := hkr.size
          have hq4 : Keep No w4 (w4.drewN q) := (Keep.refl No w4).drewN q
          have hC5 : IsC (w4.drewN q) c L := hC4
          have hk5 : Keep No w (w4.drewN q) := (hkr.trans' hk4).drewN q
          have ht5 : Thaw (w4.drewN q) (.slice p4 L.length cap4) := ht4
          have hs5 : SlAt encW 2 (w4.drewN q) p4 L := hs4
          have hs35 : SlAt encW 2 (w4.drewN q) p3 L := hs34
          have hlt5 : ∀ g, (Value.slice p4 L.length cap4).ownBlock = some g → B4 ≤ g ∧ g < (w4.drewN q).heap.size := hlt4
          have hF5 : ∀ j, footC (w4.drewN q) c j → j < wr.heap.size := fun j hj => hflt j (hF4 j hj)
          generalize w4.drewN q = w5 at *
          go_loopw [11] (fun i wz => ∃ (k : Nat) (M : List W2), k ≤ L.length ∧ i = .int .i64 k ∧ SlAt encW 2 wz p4 M ∧ M.length = L.length ∧ Keep (fun j => (Value.slice p4 L.length cap4).ownBlock = some j) w5 wz ∧ Thaw wz (.slice p4 L.length cap4)) (fun i _ => L.length - (intOf i).toNat)
          case atStart => exact ⟨0, L, Nat.zero_le _, rfl, hs5, rfl, Keep.refl _ _, ht5⟩
          case round =>
            obtain ⟨k, M, hk, rfl, hsM, hML, hkz, htz⟩ := hrel
            have HML := Lib.hid hML
            by_cases hlt : k < L.length
            · obtain ⟨b, o, t, n, rfl, hb, hx0, c0, c1⟩ := hsM.getW (i := k) (by omega)
              have hfz := htz b rfl (o + k * 2)
              have hset := hsM.set encW_length (i := k) (j := 0) (x := (t, n)) (y := (⟨#[122, 122]⟩, n)) (u := .string ⟨#[122, 122]⟩) hx0 (by omega) rfl
              have hkz' := hkz.setCell (p := ⟨b, o + k * 2, none⟩) (fun _ => rfl) (.string ⟨#[122, 122]⟩)
              clear hx0 hML
              go_wp2
              go_roundw
              case rel => exact ⟨k + 1, M.set k (⟨#[122, 122]⟩, n), by omega, by go_num, hset, by rw [List.length_set]; exact HML.out, hkz', fun g hg o' => by rw [World.frozen?_setCell]; exact htz g hg o'⟩
              case measure => simp [intOf]; omega
            · obtain rfl : k = L.length := by omega
              have hkwz : Keep No w wr := hk5.trans hkz fun j hj e => by have := (hlt5 j e).1; omega
              have hCz : IsC wr c L ∧ ∀ j, footC wr c j → footC w5 c j := hC5.keep hkz fun j hj e => by
                have h1 := hF5 j hj
                have h2 := (hlt5 j e).1
                omega
              have hs3z := hs35.keep hkz fun hne a ha e => by
                have h1 := (hxo a.block (by rw [ha]; rfl)).1
                have h2 := (hlt5 _ e).1
                omega
              have hz := h.keepNo hkwz
              clear hC5 hC4 hC hs35 hs34 hs3 hsM hs4 hs5 h4 h2 htz ht5 ht4 hkz
              obtain ⟨W, hW⟩ : ∃ W, W = wr.alloc (.cells #[.slice p L0.length cap] 76) := ⟨_, rfl⟩
              have hkW : Keep No wr W := by rw [hW]; exact (Keep.refl No wr).alloc _
              have hsl := slAt_new (enc := encV) (k := 1) (fun _ => rfl) wr [.slice p L0.length cap] 76 #[.slice p L0.length cap] rfl
              rw [← hW] at hsl
              have hmg := CMerge_any (some ⟨wr.heap.size, 0, none⟩) 1 [.slice p L0.length cap] [L0] W hsl ⟨rfl, fun i v M h1 h2 => by
                cases i with
                | zero =>
                  simp at h1 h2
                  subst h1; subst h2
                  exact ⟨⟨p, cap, rfl, hl, hz.keepNo hkW⟩, fun n' c' e => by cases e; exact hnil rfl⟩
                | succ i => simp at h1⟩ (by simp) (by simp; omega) (fun y hy => by have := hws y (by simpa using hy); exact ⟨this.1, this.2.2⟩)
              rw [show [L0].flatten = L0 by simp] at hmg
              simp only [List.length_cons, List.length_nil, Nat.zero_add] at hmg
              have hm7 := fun W' (hW' : Keep No wr W') => R7Merge_any p cap L0 W' (hz.keepNo hW') (by omega) (fun y hy => by have := hws y hy; exact ⟨this.1, this.2.2⟩)
              have HW := Lib.hid hW
              clear hW
              have hmL := mergeW_length [] L0
              simp only [List.length_nil, Nat.zero_add] at hmL
              generalize mergeW [] L0 = m at *
              have hmL : (m.1.getD []).length ≤ 1000000000000 := by omega
              go_wp2_with (first | (go_at_call 52; rw [← HW.out]; refine hmg.mono ?_; rintro e w6 ⟨v6, rfl, ⟨p6, cap6, rfl, hcap6, hs6⟩, hk6, hn6⟩; have hkw6 := hkW.trans' hk6) | (go_at_call 56; refine (hm7 _ hkw6).mono ?_; rintro e w7 ⟨v7, rfl, ⟨p7, cap7, rfl, hcap7, hs7⟩, hk7, hn7⟩; have hkw7 := hkw6.trans' hk7; have hC7 := (hCz.1.keep hkw7 (fun _ _ e => e)).1) | (go_at_call 43; refine (CFreeze_any c L _ hC7 hR (by omega)).mono ?_; rintro e w8 ⟨v8, rfl, ⟨p8, cap8, rfl, hcap8, hs8⟩, hk8, hn8⟩; have hkw8 := hkw7.trans' hk8; have hs38 := hs3z.keepNo hkw8; have hs68 := hs6.keepNo (hk7.trans' hk8); have hs78 := hs7.keepNo hk8) | (go_at_call 45; refine (Same_any p6 p7 cap6 cap7 _ _ _ (hs68.drewN q1) (hs78.drewN q1) hmL hmL).mono ?_; rintro e w10 ⟨rfl, q2, rfl⟩; rw [show ∀ z : List W2, decide (z = z) = true from fun z => by simp]) | (go_at_call 45; refine (Same_any p8 p3 cap8 cap3 L L _ hs8 hs38 (by omega) (by omega)).mono ?_; rintro e w9 ⟨rfl, q1, rfl⟩; rw [show decide (L = L) = true by simp]))
              go_ret
              exact ⟨by simp, (hkwz.trans' hkw8).drewN _⟩
  · go_enter Try.func9, Try.ntmps9
    go_wp2_with (first | (go_at_call 39; refine (awake07_any _).mono ?_; rintro e w1 ⟨rfl, hk1⟩) | (go_at_call 51; refine (Great_any p cap L0 100 _ (h.keepNo hk1) (by omega)).mono ?_; rintro e w1' ⟨rfl, rfl⟩; rw [hg]))
    go_ret
    exact ⟨rfl, hk1⟩
end Go.Proofs.Ytcofpmmoijnfiaa
