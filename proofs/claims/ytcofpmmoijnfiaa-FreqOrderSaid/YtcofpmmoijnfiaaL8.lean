/- The law FreqOrder: what its call does. -/
import Derived.Test.YtcofpmmoijnfiaaL9
import Derived.Test.YtcofpmmoijnfiaaP2
import Derived.RegionTactic
import Derived.BigRegion
import Derived.Deep.QuietTactic
import Derived.Deep.RegionHeld3
import Derived.BigQuiet
namespace Go.Proofs.Ytcofpmmoijnfiaa
open Go.RowKit

def encU (n : Int) : List Value := [.int .u16 n]
theorem SlAt.getU {w : World} {p : Option Addr} {L : List Int} (h : SlAt encU 1 w p L) {i : Nat} (hi : i < L.length) :
    ∃ b o n, p = some ⟨b, o, none⟩ ∧ b < w.heap.size ∧ L[i]? = some n ∧ w.cell? ⟨b, o + i, none⟩ = some (.int .u16 n) := by
  obtain ⟨b, o, t, hp, hb, hx, hc⟩ := h.get hi
  exact ⟨b, o, t, hp, hb, hx, by have := hc 0 _ rfl; simpa using this⟩

theorem SlAt.drop {α : Type} {enc : α → List Value} {k : Nat} {w : World} {b o : Nat} {L : List α} (h : SlAt enc k w (some ⟨b, o, none⟩) L) (z : Nat) : SlAt enc k w (some ⟨b, o + z * k, none⟩) (L.drop z) := by
  rcases h with rfl | ⟨b', o', e, hb, hc⟩
  · exact .inl (by simp)
  · cases e
    refine .inr ⟨b, o + z * k, rfl, hb, fun i x hx j v hv => ?_⟩
    rw [List.getElem?_drop] at hx
    have := hc (z + i) x hx j v hv
    rw [Nat.add_mul, ← Nat.add_assoc] at this
    exact this
theorem slice_tail {w : World} {a : Addr} {M : List W2} {n z cap : Nat} (h : SlAt encW 2 w (some a) M) (hM : M.length = n) (hz : z ≤ n) (hc : n ≤ cap) : SliceV encW 2 w (.slice (if cap = z then some a else some (a.add (z * 2))) (n - z) (cap - z)) (M.drop z) := by
  refine ⟨_, cap - z, by rw [List.length_drop, hM], by rw [List.length_drop, hM]; omega, ?_⟩
  by_cases e : cap = z
  · exact .inl (List.drop_eq_nil_of_le (by omega))
  · rw [if_neg e]
    by_cases hM0 : M = []
    · subst hM0; exact .inl (by simp)
    · rcases h with h | ⟨b, o, e, hb, hc⟩
      · exact absurd h hM0
      · cases e
        rw [Addr.add_lit]
        exact SlAt.drop (.inr ⟨b, o, rfl, hb, hc⟩) z
theorem groups3 {w : World} {a b c : Value} {A B C : List W2} (ha : SliceV encW 2 w a A) (hb : SliceV encW 2 w b B) (hc : SliceV encW 2 w c C) (na : NilOk a) (nb : NilOk b) (nc : NilOk c) :
    ∀ (i : Nat) (v : Value) (L : List W2), [a, b, c][i]? = some v → [A, B, C][i]? = some L → SliceV encW 2 w v L ∧ NilOk v
  | 0, _, _, h1, h2 => by cases h1; cases h2; exact ⟨ha, na⟩
  | 1, _, _, h1, h2 => by cases h1; cases h2; exact ⟨hb, nb⟩
  | 2, _, _, h1, h2 => by cases h1; cases h2; exact ⟨hc, nc⟩
  | n + 3, _, _, h1, _ => by simp at h1
theorem own_slice {w : World} {base : Nat} {e : TypeId} {size n : Nat} {v : Value} {xs : List Value} (h : w.ownsRow base e size v n xs) : ∀ p len cap, v = .slice p len cap → cap ≤ maxLen ∧ (p = none → cap = 0) := by
  obtain ⟨_, ⟨rfl, hn⟩ | ⟨g, cap, cur, rfl, hg, hh, hcap, hm, _⟩⟩ := h
  · intro p len cap e; cases e; exact ⟨by unfold maxLen; omega, fun _ => rfl⟩
  · intro p len cap' e; cases e; exact ⟨hm, fun e => nomatch e⟩

/-- One element written, both its cells. -/
theorem SlAt.setW {w : World} {b o : Nat} {L : List W2} (h : SlAt encW 2 w (some ⟨b, o, none⟩) L) {i : Nat} {x y : W2} (hx : L[i]? = some x) :
    SlAt encW 2 ((w.setCell ⟨b, o + i * 2, none⟩ (.string y.1)).setCell ⟨b, o + i * 2 + 1, none⟩ (.int .i64 y.2)) (some ⟨b, o, none⟩) (L.set i y) := by
  have h1 := h.set encW_length (j := 0) (y := (y.1, x.2)) (u := .string y.1) hx (by omega) rfl
  have h2 := h1.set encW_length (i := i) (j := 1) (x := (y.1, x.2)) (y := y) (u := .int .i64 y.2) (by rw [List.getElem?_set_self (List.getElem?_eq_some_iff.1 hx).1]) (by omega) rfl
  rw [List.set_set] at h2
  exact h2

set_option maxHeartbeats 1000000 in
set_option maxRecDepth 100000 in
theorem FreqOrder_any (p : Option Addr) (cap : Nat) (L0 : List W2) (q : Option Addr) (cq : Nat) (sw : List Int) (cut : Int) (w : World) (h : SlAt encW 2 w p L0) (hl : L0.length ≤ cap) (hcap' : cap ≤ maxLen) (hnil : p = none → cap = 0)
    (hws : ∀ x ∈ L0, x.1.size ≤ maxLen ∧ -9223372036854775808 ≤ x.2 ∧ x.2 ≤ 9223372036854775807)
    (hq : SlAt encU 1 w q sw) (hql : sw.length ≤ cq) (hcq : cq ≤ maxLen) (hsw : ∀ x ∈ sw, 0 ≤ x ∧ x ≤ 65535) (hcut : 0 ≤ cut ∧ cut ≤ 65535) :
    Calls Try.prog 8 #[.slice p L0.length cap, .slice q sw.length cq, .int .u16 cut] w fun e w' => e = .returned (.bool true) ∧ Keep No w w' := by
  have hcap : cap ≤ 9223372036854775807 := by unfold maxLen at hcap'; omega
  have hcq' : cq ≤ 9223372036854775807 := by unfold maxLen at hcq; omega
  cases hg : greatW L0 100
  · by_cases h200 : 200 < sw.length
    · go_enter Try.func8, Try.ntmps8
      go_wp2_with (first | (go_at_call 39; refine (awake07_any _).mono ?_; rintro e w1 ⟨rfl, hk1⟩) | (go_at_call 51; refine (Great_any p cap L0 100 _ (h.keepNo hk1) (by omega)).mono ?_; rintro e w1' ⟨rfl, rfl⟩; rw [hg]))
      go_ret
      exact ⟨rfl, hk1⟩
    · obtain ⟨hlen, hsz⟩ := greatW_false hg
      go_enter Try.func8, Try.ntmps8
      go_wp2_with (first | (go_at_call 39; refine (awake07_any _).mono ?_; rintro e w1 ⟨rfl, hk1⟩) | (go_at_call 51; refine (Great_any p cap L0 100 _ (h.keepNo hk1) (by omega)).mono ?_; rintro e w1' ⟨rfl, rfl⟩; rw [hg]) | (at_builtin; refine wpList_appS rfl (.tmp 27) (.tmp 28) 76 rfl arrW encW_length encW_one w1.heap.size _ [] L0 p cap rfl rfl ((h.keepNo hk1).keepNo ((Keep.refl No w1).alloc _)) hnil (World.ownsRow_made (e := 92) (size := 2) (base := w1.heap.size) w1 #[] 0 (Nat.le_refl _) (by unfold maxLen; omega) rfl) (by simp; omega) (by simp) ?_; intro v2 w2 hown2 hk2))
      rw [List.nil_append] at hown2
      have hk12 : Keep No w1 w2 := ((Keep.refl No w1).alloc _).trans hk2 fun j hj e => by cases e; simp at hj
      have ht2 := Thaw.of_own hown2
      have hlt2 := hown2.lt
      have hos2 := own_slice hown2
      obtain ⟨p2, cap2, rfl, hcap2, hs2⟩ := SliceV.of_own encW_length hown2
      obtain ⟨hmc2, hnil2⟩ := hos2 _ _ _ rfl
      have hmc2' : cap2 ≤ 9223372036854775807 := by unfold maxLen at hmc2; omega
      clear hos2
      clear hown2 hk2
      have hkw2 := hk1.trans' hk12
      go_loopw [8] (fun i wr => ∃ (k : Nat) (M : List W2), k ≤ sw.length ∧ i = .int .i64 k ∧ SlAt encW 2 wr p2 M ∧ M.length = L0.length ∧ M.Perm L0 ∧ Keep (fun j => (Value.slice p2 L0.length cap2).ownBlock = some j) w2 wr ∧ Thaw wr (.slice p2 L0.length cap2)) (fun i _ => sw.length - (intOf i).toNat)
      case atStart => exact ⟨0, L0, Nat.zero_le _, rfl, hs2, rfl, List.Perm.refl _, Keep.refl _ _, ht2⟩
      case round =>
        obtain ⟨k, M, hk, rfl, hsM, hML, hMp, hkr, htr⟩ := hrel
        have hkw : Keep No w wr := hkw2.trans hkr fun j hj e => by have h1 := (hlt2 j e).1; have h2 := hk1.size; omega
        have HML := Lib.hid hML
        have HMp := Lib.hid hMp
        by_cases hgo : k < sw.length ∧ 0 < L0.length
        · obtain ⟨hlt, hpos⟩ := hgo
          have hneg : ∀ j, (Value.slice p2 L0.length cap2).ownBlock = some j → ¬ j < w.heap.size := fun j e hj => by have h1 := (hlt2 j e).1; have h2 := hk1.size; omega
          obtain ⟨b, o, n, rfl, hb, hx, c0⟩ := (hq.keepNo hkw).getU hlt
          have hn := hsw n (List.mem_of_getElem? hx)
          clear hx
          obtain ⟨m, rfl⟩ := Int.eq_ofNat_of_zero_le hn.1
          have hm1 : k % L0.length < L0.length := Nat.mod_lt _ hpos
          have hm2 : m % L0.length < L0.length := Nat.mod_lt _ hpos
          have e1 : (k : Int).tmod (L0.length : Int) = ((k % L0.length : Nat) : Int) := rfl
          have e2 : (m : Int).tmod (L0.length : Int) = ((m % L0.length : Nat) : Int) := rfl
          generalize k % L0.length = a at *
          generalize m % L0.length = a' at *
          go_wp2
          go_quiet (fail)
          obtain ⟨b1, o1, t1, n1, rfl, hb1, hx1, c1, d1⟩ := hsM.getW (i := a) (by omega)
          obtain ⟨b2, o2, t2, n2, e3, hb2, hx2, c2, d2⟩ := hsM.getW (i := a') (by omega)
          cases e3
          have Hx1 := Lib.hid hx1
          have Hx2 := Lib.hid hx2
          have hsM' : SlAt encW 2 (wr.drewN nq) (some ⟨b1, o1, none⟩) M := hsM
          have hkr' := hkr.drewN nq
          have htr' : Thaw (wr.drewN nq) (.slice (some ⟨b1, o1, none⟩) L0.length cap2) := htr
          have c1' : (wr.drewN nq).cell? ⟨b1, o1 + a * 2, none⟩ = _ := c1
          have c2' : (wr.drewN nq).cell? ⟨b1, o1 + a' * 2, none⟩ = _ := c2
          have d1' : (wr.drewN nq).cell? ⟨b1, o1 + a * 2 + 1, none⟩ = _ := d1
          have d2' : (wr.drewN nq).cell? ⟨b1, o1 + a' * 2 + 1, none⟩ = _ := d2
          have hb1' : b1 < (wr.drewN nq).heap.size := hb1
          clear c1 c2 d1 d2 hsM hkr htr hb1 hb2 hkw c0 hx1 hx2 e1 e2
          generalize wr.drewN nq = wq at *
          have f1 := htr' b1 rfl (o1 + a * 2)
          have f2 := htr' b1 rfl (o1 + a' * 2)
          have f3 := htr' b1 rfl (o1 + a * 2 + 1)
          have f4 := htr' b1 rfl (o1 + a' * 2 + 1)
          have hS4 := (hsM'.setW (y := (t2, n2)) Hx1.out).setW (i := a') (x := (t2, n2)) (y := (t1, n1)) (by
            rw [List.getElem?_set]
            split
            · rename_i e; subst e; rw [if_pos (by omega)]
            · rw [Hx2.out])
          have hK4 := (((hkr'.setCell (p := ⟨b1, o1 + a * 2, none⟩) (fun _ => rfl) (.string t2)).setCell (p := ⟨b1, o1 + a * 2 + 1, none⟩) (fun _ => rfl) (.int .i64 n2)).setCell (p := ⟨b1, o1 + a' * 2, none⟩) (fun _ => rfl) (.string t1)).setCell (p := ⟨b1, o1 + a' * 2 + 1, none⟩) (fun _ => rfl) (.int .i64 n1)
          have hT4 : Thaw ((((wq.setCell ⟨b1, o1 + a * 2, none⟩ (.string t2)).setCell ⟨b1, o1 + a * 2 + 1, none⟩ (.int .i64 n2)).setCell ⟨b1, o1 + a' * 2, none⟩ (.string t1)).setCell ⟨b1, o1 + a' * 2 + 1, none⟩ (.int .i64 n1)) (.slice (some ⟨b1, o1, none⟩) L0.length cap2) := fun g hg o' => by
            rw [World.frozen?_setCell, World.frozen?_setCell, World.frozen?_setCell, World.frozen?_setCell]; exact htr' g hg o'
          have hZ4 : ∀ g, (Value.slice (some (⟨b1, o1, none⟩ : Addr)) L0.length cap2).ownBlock = some g → g < ((((wq.setCell ⟨b1, o1 + a * 2, none⟩ (.string t2)).setCell ⟨b1, o1 + a * 2 + 1, none⟩ (.int .i64 n2)).setCell ⟨b1, o1 + a' * 2, none⟩ (.string t1)).setCell ⟨b1, o1 + a' * 2 + 1, none⟩ (.int .i64 n1)).heap.size := fun g hg => by cases hg; simpa [World.setCell] using hb1'
          have hP4 : ((M.set a (t2, n2)).set a' (t1, n1)).Perm L0 := by
            obtain ⟨i1, j1⟩ := List.getElem?_eq_some_iff.1 Hx1.out
            obtain ⟨i2, j2⟩ := List.getElem?_eq_some_iff.1 Hx2.out
            have := List.set_set_perm i1 i2
            rw [j1, j2] at this
            exact this.trans HMp.out
          have hL4 : ((M.set a (t2, n2)).set a' (t1, n1)).length = L0.length := by rw [List.length_set, List.length_set]; exact HML.out
          generalize hM4 : (M.set a (t2, n2)).set a' (t1, n1) = M4 at *
          clear hM4 hkr' htr' hsM' hML hMp
          by_cases hab : a = a'
          · subst hab
            have e5 := Hx1.out.symm.trans Hx2.out
            cases e5
            clear c2' d2' f2 f4
            go_wp2
            go_region
            · go_wp2
              go_region
              go_wp2
              go_roundw
              case rel => exact ⟨k + 1, M4, by omega, by go_num, hS4.keepNo (((Keep.refl No _).alloc _).alloc _).drew.drew, hL4, hP4, ((hK4.alloc _).alloc _).drew.drew, hT4.keep (((Keep.refl No _).alloc _).alloc _).drew.drew (fun _ _ e => e) hZ4⟩
              case measure => simp [intOf]; omega
            · go_wp2
              go_region
              go_wp2
              go_roundw
              case rel => exact ⟨k + 1, M4, by omega, by go_num, hS4.keepNo (((Keep.refl No _).alloc _).alloc _).drew.drew, hL4, hP4, ((hK4.alloc _).alloc _).drew.drew, hT4.keep (((Keep.refl No _).alloc _).alloc _).drew.drew (fun _ _ e => e) hZ4⟩
              case measure => simp [intOf]; omega
          · go_wp2
            go_region
            · go_wp2
              go_region
              go_wp2
              go_roundw
              case rel => exact ⟨k + 1, M4, by omega, by go_num, hS4.keepNo (((Keep.refl No _).alloc _).alloc _).drew.drew, hL4, hP4, ((hK4.alloc _).alloc _).drew.drew, hT4.keep (((Keep.refl No _).alloc _).alloc _).drew.drew (fun _ _ e => e) hZ4⟩
              case measure => simp [intOf]; omega
            · go_wp2
              go_region
              go_wp2
              go_roundw
              case rel => exact ⟨k + 1, M4, by omega, by go_num, hS4.keepNo (((Keep.refl No _).alloc _).alloc _).drew.drew, hL4, hP4, ((hK4.alloc _).alloc _).drew.drew, hT4.keep (((Keep.refl No _).alloc _).alloc _).drew.drew (fun _ _ e => e) hZ4⟩
              case measure => simp [intOf]; omega
        · obtain ⟨c, rfl⟩ := Int.eq_ofNat_of_zero_le hcut.1
          have hz1 : c % (L0.length + 1) ≤ L0.length := by have := Nat.mod_lt c (show 0 < L0.length + 1 by omega); omega
          have e3 : (c : Int).tmod ((L0.length : Int) + 1) = ((c % (L0.length + 1) : Nat) : Int) := rfl
          generalize c % (L0.length + 1) = z at *
          have i1 : (0 : Int) ≤ (z : Int) := by omega
          have i2 : (z : Int) ≤ (L0.length : Int) := by omega
          have i3 : (z : Int) ≤ (cap2 : Int) := by omega
          have i4 : (L0.length : Int) ≤ (cap2 : Int) := by omega
          have i5 : z ≤ cap2 := by omega
          have hz := h.keepNo hkw
          obtain ⟨W, hW⟩ : ∃ W, W = wr.alloc (.cells #[.slice p L0.length cap] 76) := ⟨_, rfl⟩
          have hkW : Keep No wr W := by rw [hW]; exact (Keep.refl No wr).alloc _
          have hsl := slAt_new (enc := encV) (k := 1) (fun _ => rfl) wr [.slice p L0.length cap] 76 #[.slice p L0.length cap] rfl
          rw [← hW] at hsl
          have hmg := CMerge_any (some ⟨wr.heap.size, 0, none⟩) 1 [.slice p L0.length cap] [L0] W hsl ⟨rfl, fun i v M h1 h2 => by
            cases i with
            | zero =>
              simp at h1 h2
              subst h1; subst h2
              exact ⟨⟨p, cap, rfl, hl, hz.keepNo hkW⟩, fun n' c' e => by cases e; exact hnil rfl⟩
            | succ i => simp at h1⟩ (by simp) (by simp; omega) (fun y hy => by have := hws y (by simpa using hy); exact ⟨this.1, this.2.2⟩)
          rw [show [L0].flatten = L0 by simp] at hmg
          simp only [List.length_cons, List.length_nil, Nat.zero_add] at hmg
          have HW := Lib.hid hW
          clear hW hML hMp
          rcases (show k = sw.length ∨ (k < sw.length ∧ L0.length = 0) by omega) with rfl | ⟨hlt, h0⟩
          · go_wp2_with (first | (go_at_call 52; rw [← HW.out]; refine hmg.mono ?_; rintro e w6 ⟨v6, rfl, ⟨p6, cap6, rfl, hcap6, hs6⟩, hk6, hn6⟩; have hkw6 := hkW.trans' hk6))
            cases p2 with
            | none =>
              have hc20 := hnil2 rfl
              have hM0 : M = [] := by
                rcases hsM with h0 | ⟨_, _, e, _⟩
                · exact h0
                · cases e
              have hl0 : L0.length = 0 := by rw [← HML.out, hM0]; rfl
              have hz0 : z = 0 := by omega
              subst hz0
              have hsM6 := hsM.keepNo hkw6
              have hvb : SliceV encW 2 w6 (.slice none 0 0) (M.drop 0) := by rw [hM0]; exact SliceV.nil _ _ _
              have hva : SliceV encW 2 w6 (.slice none 0 0) (M.take 0) := by rw [hM0]; exact SliceV.nil _ _ _
              have hnb : NilOk (.slice none 0 0) := fun _ _ e => by cases e; rfl
              have hna : NilOk (.slice none 0 0) := fun _ _ e => by cases e; rfl
              have hgr := slAt_new (enc := encV) (k := 1) (fun _ => rfl) w6 [.slice none 0 0, .slice none 0 0, .slice none 0 0] 76 #[.slice none 0 0, .slice none 0 0, .slice none 0 0] rfl
              have hkg : Keep No w6 ((w6.alloc (.cells #[.slice none 0 0, .slice none 0 0, .slice none 0 0] 76)).drew) := ((Keep.refl No w6).alloc _).drew
              have hmg2 := CMerge_any (some ⟨w6.heap.size, 0, none⟩) 3 [.slice none 0 0, .slice none 0 0, .slice none 0 0] [M.take 0, [], M.drop 0] ((w6.alloc (.cells #[.slice none 0 0, .slice none 0 0, .slice none 0 0] 76)).drew) hgr ⟨rfl, groups3 (hva.keepNo hkg) (SliceV.nil _ _ _) (hvb.keepNo hkg) hna (fun _ _ e => by cases e; rfl) hnb⟩ (by simp) (by rw [show [M.take 0, [], M.drop 0].flatten = M by simp, HML.out]; omega) (fun y hy => by
                have hy' : y ∈ M := by simpa using hy
                have := hws y (HMp.out.mem_iff.1 hy'); exact ⟨this.1, this.2.2⟩)
              rw [show [M.take 0, [], M.drop 0].flatten = M by simp] at hmg2
              simp only [List.length_cons, List.length_nil, Nat.zero_add, Nat.reduceAdd] at hmg2
              obtain ⟨hcode, hres⟩ := mergeW_perm HMp.out
              have hml1 := mergeW_length [] L0
              have hml2 := mergeW_length [] M
              simp only [List.length_nil, Nat.zero_add] at hml1 hml2
              generalize mergeW [] L0 = m1 at *
              generalize mergeW [] M = m2 at *
              have hlm1 : (m1.1.getD []).length ≤ 1000000000000 := by omega
              rw [hres] at hmg2
              clear hgr hva hvb hna hnb hsM6 hsM htr hs2 ht2 hml1 hml2
              go_region_held3 (fun _ => True) (trivial) (first | (go_at_call 52; refine hmg2.mono ?_; rintro e w9 ⟨v9, rfl, ⟨p9, cap9, rfl, hcap9, hs9⟩, hk9, hn9⟩))
              have hkw9 := hkg.trans' hk9
              have hs69 := hs6.keepNo hkw9
              cases he : (m1.2 == 0)
              · have he2 : (m2.2 == 0) = false := by
                  have h0 : ¬ m1.2 = 0 := by simpa using he
                  have h1 : ¬ m2.2 = 0 := fun e => h0 (hcode.1 e)
                  simpa using h1
                clear hcode
                go_wp2_with (first | (go_at_call 45; refine (Same_any p6 p9 cap6 cap9 _ _ _ hs69 hs9 hlm1 hlm1).mono ?_; rintro e w10 ⟨rfl, q1, rfl⟩; rw [show ∀ z : List W2, decide (z = z) = true from fun z => by simp]))
                go_ret
                exact ⟨rfl, ((hkw.trans' hkw6).trans' hkw9).drewN _⟩
              · have he2 : (m2.2 == 0) = true := by
                  have h0 : m1.2 = 0 := by simpa using he
                  have h1 : m2.2 = 0 := hcode.2 h0
                  simpa using h1
                clear hcode
                go_wp2_with (first | (go_at_call 45; refine (Same_any p6 p9 cap6 cap9 _ _ _ hs69 hs9 hlm1 hlm1).mono ?_; rintro e w10 ⟨rfl, q1, rfl⟩; rw [show ∀ z : List W2, decide (z = z) = true from fun z => by simp]))
                go_ret
                exact ⟨rfl, ((hkw.trans' hkw6).trans' hkw9).drewN _⟩
            | some a2 =>
              obtain ⟨b2, o2, sp2⟩ := a2
              by_cases hcz : cap2 = z
              · have HCZ := Lib.hid hcz
                have hsM6 := hsM.keepNo hkw6
                have hvb : SliceV encW 2 w6 (.slice (some ⟨b2, o2, sp2⟩) (L0.length - z) 0) (M.drop z) := ⟨_, 0, by rw [List.length_drop, HML.out], by rw [List.length_drop, HML.out]; omega, .inl (List.drop_eq_nil_of_le (by rw [HML.out]; omega))⟩
                have hva : SliceV encW 2 w6 (.slice (some ⟨b2, o2, sp2⟩) z z) (M.take z) := ⟨_, z, by rw [List.length_take, HML.out, Nat.min_eq_left hz1], by rw [List.length_take, HML.out]; omega, hsM6.take z⟩
                have hnb : NilOk (.slice (some ⟨b2, o2, sp2⟩) (L0.length - z) 0) := fun _ _ e => by cases e
                have hna : NilOk (.slice (some ⟨b2, o2, sp2⟩) z z) := fun _ _ e => by cases e
                have hgr := slAt_new (enc := encV) (k := 1) (fun _ => rfl) w6 [.slice (some ⟨b2, o2, sp2⟩) z z, .slice none 0 0, .slice (some ⟨b2, o2, sp2⟩) (L0.length - z) 0] 76 #[.slice (some ⟨b2, o2, sp2⟩) z z, .slice none 0 0, .slice (some ⟨b2, o2, sp2⟩) (L0.length - z) 0] rfl
                have hkg : Keep No w6 ((w6.alloc (.cells #[.slice (some ⟨b2, o2, sp2⟩) z z, .slice none 0 0, .slice (some ⟨b2, o2, sp2⟩) (L0.length - z) 0] 76)).drew) := ((Keep.refl No w6).alloc _).drew
                have hmg2 := CMerge_any (some ⟨w6.heap.size, 0, none⟩) 3 [.slice (some ⟨b2, o2, sp2⟩) z z, .slice none 0 0, .slice (some ⟨b2, o2, sp2⟩) (L0.length - z) 0] [M.take z, [], M.drop z] ((w6.alloc (.cells #[.slice (some ⟨b2, o2, sp2⟩) z z, .slice none 0 0, .slice (some ⟨b2, o2, sp2⟩) (L0.length - z) 0] 76)).drew) hgr ⟨rfl, groups3 (hva.keepNo hkg) (SliceV.nil _ _ _) (hvb.keepNo hkg) hna (fun _ _ e => by cases e; rfl) hnb⟩ (by simp) (by rw [show [M.take z, [], M.drop z].flatten = M by simp, HML.out]; omega) (fun y hy => by
                  have hy' : y ∈ M := by simpa using hy
                  have := hws y (HMp.out.mem_iff.1 hy'); exact ⟨this.1, this.2.2⟩)
                rw [show [M.take z, [], M.drop z].flatten = M by simp] at hmg2
                simp only [List.length_cons, List.length_nil, Nat.zero_add, Nat.reduceAdd] at hmg2
                obtain ⟨hcode, hres⟩ := mergeW_perm HMp.out
                have hml1 := mergeW_length [] L0
                have hml2 := mergeW_length [] M
                simp only [List.length_nil, Nat.zero_add] at hml1 hml2
                generalize mergeW [] L0 = m1 at *
                generalize mergeW [] M = m2 at *
                have hlm1 : (m1.1.getD []).length ≤ 1000000000000 := by omega
                rw [hres] at hmg2
                clear hgr hva hvb hna hnb hsM6 hsM htr hs2 ht2 hml1 hml2
                go_region_held3 (fun _ => True) (trivial) (first | (go_at_call 52; refine hmg2.mono ?_; rintro e w9 ⟨v9, rfl, ⟨p9, cap9, rfl, hcap9, hs9⟩, hk9, hn9⟩))
                have hkw9 := hkg.trans' hk9
                have hs69 := hs6.keepNo hkw9
                cases he : (m1.2 == 0)
                · have he2 : (m2.2 == 0) = false := by
                    have h0 : ¬ m1.2 = 0 := by simpa using he
                    have h1 : ¬ m2.2 = 0 := fun e => h0 (hcode.1 e)
                    simpa using h1
                  clear hcode
                  go_wp2_with (first | (go_at_call 45; refine (Same_any p6 p9 cap6 cap9 _ _ _ hs69 hs9 hlm1 hlm1).mono ?_; rintro e w10 ⟨rfl, q1, rfl⟩; rw [show ∀ z : List W2, decide (z = z) = true from fun z => by simp]))
                  go_ret
                  exact ⟨rfl, ((hkw.trans' hkw6).trans' hkw9).drewN _⟩
                · have he2 : (m2.2 == 0) = true := by
                    have h0 : m1.2 = 0 := by simpa using he
                    have h1 : m2.2 = 0 := hcode.2 h0
                    simpa using h1
                  clear hcode
                  go_wp2_with (first | (go_at_call 45; refine (Same_any p6 p9 cap6 cap9 _ _ _ hs69 hs9 hlm1 hlm1).mono ?_; rintro e w10 ⟨rfl, q1, rfl⟩; rw [show ∀ z : List W2, decide (z = z) = true from fun z => by simp]))
                  go_ret
                  exact ⟨rfl, ((hkw.trans' hkw6).trans' hkw9).drewN _⟩
              · have HCZ := Lib.hid hcz
                have hsM6 := hsM.keepNo hkw6
                have hvb : SliceV encW 2 w6 (.slice (some ((⟨b2, o2, sp2⟩ : Addr).add (z * 2))) (L0.length - z) (cap2 - z)) (M.drop z) := by have := slice_tail hsM6 HML.out hz1 hcap2; rw [if_neg hcz] at this; exact this
                have hva : SliceV encW 2 w6 (.slice (some ⟨b2, o2, sp2⟩) z cap2) (M.take z) := ⟨_, cap2, by rw [List.length_take, HML.out, Nat.min_eq_left hz1], by rw [List.length_take, HML.out]; omega, hsM6.take z⟩
                have hnb : NilOk (.slice (some ((⟨b2, o2, sp2⟩ : Addr).add (z * 2))) (L0.length - z) (cap2 - z)) := fun _ _ e => by cases e
                have hna : NilOk (.slice (some ⟨b2, o2, sp2⟩) z cap2) := fun _ _ e => by cases e
                have hgr := slAt_new (enc := encV) (k := 1) (fun _ => rfl) w6 [.slice (some ⟨b2, o2, sp2⟩) z cap2, .slice none 0 0, .slice (some ((⟨b2, o2, sp2⟩ : Addr).add (z * 2))) (L0.length - z) (cap2 - z)] 76 #[.slice (some ⟨b2, o2, sp2⟩) z cap2, .slice none 0 0, .slice (some ((⟨b2, o2, sp2⟩ : Addr).add (z * 2))) (L0.length - z) (cap2 - z)] rfl
                have hkg : Keep No w6 ((w6.alloc (.cells #[.slice (some ⟨b2, o2, sp2⟩) z cap2, .slice none 0 0, .slice (some ((⟨b2, o2, sp2⟩ : Addr).add (z * 2))) (L0.length - z) (cap2 - z)] 76)).drew) := ((Keep.refl No w6).alloc _).drew
                have hmg2 := CMerge_any (some ⟨w6.heap.size, 0, none⟩) 3 [.slice (some ⟨b2, o2, sp2⟩) z cap2, .slice none 0 0, .slice (some ((⟨b2, o2, sp2⟩ : Addr).add (z * 2))) (L0.length - z) (cap2 - z)] [M.take z, [], M.drop z] ((w6.alloc (.cells #[.slice (some ⟨b2, o2, sp2⟩) z cap2, .slice none 0 0, .slice (some ((⟨b2, o2, sp2⟩ : Addr).add (z * 2))) (L0.length - z) (cap2 - z)] 76)).drew) hgr ⟨rfl, groups3 (hva.keepNo hkg) (SliceV.nil _ _ _) (hvb.keepNo hkg) hna (fun _ _ e => by cases e; rfl) hnb⟩ (by simp) (by rw [show [M.take z, [], M.drop z].flatten = M by simp, HML.out]; omega) (fun y hy => by
                  have hy' : y ∈ M := by simpa using hy
                  have := hws y (HMp.out.mem_iff.1 hy'); exact ⟨this.1, this.2.2⟩)
                rw [show [M.take z, [], M.drop z].flatten = M by simp] at hmg2
                simp only [List.length_cons, List.length_nil, Nat.zero_add, Nat.reduceAdd] at hmg2
                obtain ⟨hcode, hres⟩ := mergeW_perm HMp.out
                have hml1 := mergeW_length [] L0
                have hml2 := mergeW_length [] M
                simp only [List.length_nil, Nat.zero_add] at hml1 hml2
                generalize mergeW [] L0 = m1 at *
                generalize mergeW [] M = m2 at *
                have hlm1 : (m1.1.getD []).length ≤ 1000000000000 := by omega
                rw [hres] at hmg2
                clear hgr hva hvb hna hnb hsM6 hsM htr hs2 ht2 hml1 hml2
                go_region_held3 (fun _ => True) (trivial) (first | (go_at_call 52; refine hmg2.mono ?_; rintro e w9 ⟨v9, rfl, ⟨p9, cap9, rfl, hcap9, hs9⟩, hk9, hn9⟩))
                have hkw9 := hkg.trans' hk9
                have hs69 := hs6.keepNo hkw9
                cases he : (m1.2 == 0)
                · have he2 : (m2.2 == 0) = false := by
                    have h0 : ¬ m1.2 = 0 := by simpa using he
                    have h1 : ¬ m2.2 = 0 := fun e => h0 (hcode.1 e)
                    simpa using h1
                  clear hcode
                  go_wp2_with (first | (go_at_call 45; refine (Same_any p6 p9 cap6 cap9 _ _ _ hs69 hs9 hlm1 hlm1).mono ?_; rintro e w10 ⟨rfl, q1, rfl⟩; rw [show ∀ z : List W2, decide (z = z) = true from fun z => by simp]))
                  go_ret
                  exact ⟨rfl, ((hkw.trans' hkw6).trans' hkw9).drewN _⟩
                · have he2 : (m2.2 == 0) = true := by
                    have h0 : m1.2 = 0 := by simpa using he
                    have h1 : m2.2 = 0 := hcode.2 h0
                    simpa using h1
                  clear hcode
                  go_wp2_with (first | (go_at_call 45; refine (Same_any p6 p9 cap6 cap9 _ _ _ hs69 hs9 hlm1 hlm1).mono ?_; rintro e w10 ⟨rfl, q1, rfl⟩; rw [show ∀ z : List W2, decide (z = z) = true from fun z => by simp]))
                  go_ret
                  exact ⟨rfl, ((hkw.trans' hkw6).trans' hkw9).drewN _⟩
          · have hle : (L0.length : Int) ≤ 0 := by omega
            clear h0
            go_wp2_with (first | (go_at_call 52; rw [← HW.out]; refine hmg.mono ?_; rintro e w6 ⟨v6, rfl, ⟨p6, cap6, rfl, hcap6, hs6⟩, hk6, hn6⟩; have hkw6 := hkW.trans' hk6))
            cases p2 with
            | none =>
              have hc20 := hnil2 rfl
              have hM0 : M = [] := by
                rcases hsM with h0 | ⟨_, _, e, _⟩
                · exact h0
                · cases e
              have hl0 : L0.length = 0 := by rw [← HML.out, hM0]; rfl
              have hz0 : z = 0 := by omega
              subst hz0
              have hsM6 := hsM.keepNo hkw6
              have hvb : SliceV encW 2 w6 (.slice none 0 0) (M.drop 0) := by rw [hM0]; exact SliceV.nil _ _ _
              have hva : SliceV encW 2 w6 (.slice none 0 0) (M.take 0) := by rw [hM0]; exact SliceV.nil _ _ _
              have hnb : NilOk (.slice none 0 0) := fun _ _ e => by cases e; rfl
              have hna : NilOk (.slice none 0 0) := fun _ _ e => by cases e; rfl
              have hgr := slAt_new (enc := encV) (k := 1) (fun _ => rfl) w6 [.slice none 0 0, .slice none 0 0, .slice none 0 0] 76 #[.slice none 0 0, .slice none 0 0, .slice none 0 0] rfl
              have hkg : Keep No w6 ((w6.alloc (.cells #[.slice none 0 0, .slice none 0 0, .slice none 0 0] 76)).drew) := ((Keep.refl No w6).alloc _).drew
              have hmg2 := CMerge_any (some ⟨w6.heap.size, 0, none⟩) 3 [.slice none 0 0, .slice none 0 0, .slice none 0 0] [M.take 0, [], M.drop 0] ((w6.alloc (.cells #[.slice none 0 0, .slice none 0 0, .slice none 0 0] 76)).drew) hgr ⟨rfl, groups3 (hva.keepNo hkg) (SliceV.nil _ _ _) (hvb.keepNo hkg) hna (fun _ _ e => by cases e; rfl) hnb⟩ (by simp) (by rw [show [M.take 0, [], M.drop 0].flatten = M by simp, HML.out]; omega) (fun y hy => by
                have hy' : y ∈ M := by simpa using hy
                have := hws y (HMp.out.mem_iff.1 hy'); exact ⟨this.1, this.2.2⟩)
              rw [show [M.take 0, [], M.drop 0].flatten = M by simp] at hmg2
              simp only [List.length_cons, List.length_nil, Nat.zero_add, Nat.reduceAdd] at hmg2
              obtain ⟨hcode, hres⟩ := mergeW_perm HMp.out
              have hml1 := mergeW_length [] L0
              have hml2 := mergeW_length [] M
              simp only [List.length_nil, Nat.zero_add] at hml1 hml2
              generalize mergeW [] L0 = m1 at *
              generalize mergeW [] M = m2 at *
              have hlm1 : (m1.1.getD []).length ≤ 1000000000000 := by omega
              rw [hres] at hmg2
              clear hgr hva hvb hna hnb hsM6 hsM htr hs2 ht2 hml1 hml2
              go_region_held3 (fun _ => True) (trivial) (first | (go_at_call 52; refine hmg2.mono ?_; rintro e w9 ⟨v9, rfl, ⟨p9, cap9, rfl, hcap9, hs9⟩, hk9, hn9⟩))
              have hkw9 := hkg.trans' hk9
              have hs69 := hs6.keepNo hkw9
              cases he : (m1.2 == 0)
              · have he2 : (m2.2 == 0) = false := by
                  have h0 : ¬ m1.2 = 0 := by simpa using he
                  have h1 : ¬ m2.2 = 0 := fun e => h0 (hcode.1 e)
                  simpa using h1
                clear hcode
                go_wp2_with (first | (go_at_call 45; refine (Same_any p6 p9 cap6 cap9 _ _ _ hs69 hs9 hlm1 hlm1).mono ?_; rintro e w10 ⟨rfl, q1, rfl⟩; rw [show ∀ z : List W2, decide (z = z) = true from fun z => by simp]))
                go_ret
                exact ⟨rfl, ((hkw.trans' hkw6).trans' hkw9).drewN _⟩
              · have he2 : (m2.2 == 0) = true := by
                  have h0 : m1.2 = 0 := by simpa using he
                  have h1 : m2.2 = 0 := hcode.2 h0
                  simpa using h1
                clear hcode
                go_wp2_with (first | (go_at_call 45; refine (Same_any p6 p9 cap6 cap9 _ _ _ hs69 hs9 hlm1 hlm1).mono ?_; rintro e w10 ⟨rfl, q1, rfl⟩; rw [show ∀ z : List W2, decide (z = z) = true from fun z => by simp]))
                go_ret
                exact ⟨rfl, ((hkw.trans' hkw6).trans' hkw9).drewN _⟩
            | some a2 =>
              obtain ⟨b2, o2, sp2⟩ := a2
              by_cases hcz : cap2 = z
              · have HCZ := Lib.hid hcz
                have hsM6 := hsM.keepNo hkw6
                have hvb : SliceV encW 2 w6 (.slice (some ⟨b2, o2, sp2⟩) (L0.length - z) 0) (M.drop z) := ⟨_, 0, by rw [List.length_drop, HML.out], by rw [List.length_drop, HML.out]; omega, .inl (List.drop_eq_nil_of_le (by rw [HML.out]; omega))⟩
                have hva : SliceV encW 2 w6 (.slice (some ⟨b2, o2, sp2⟩) z z) (M.take z) := ⟨_, z, by rw [List.length_take, HML.out, Nat.min_eq_left hz1], by rw [List.length_take, HML.out]; omega, hsM6.take z⟩
                have hnb : NilOk (.slice (some ⟨b2, o2, sp2⟩) (L0.length - z) 0) := fun _ _ e => by cases e
                have hna : NilOk (.slice (some ⟨b2, o2, sp2⟩) z z) := fun _ _ e => by cases e
                have hgr := slAt_new (enc := encV) (k := 1) (fun _ => rfl) w6 [.slice (some ⟨b2, o2, sp2⟩) z z, .slice none 0 0, .slice (some ⟨b2, o2, sp2⟩) (L0.length - z) 0] 76 #[.slice (some ⟨b2, o2, sp2⟩) z z, .slice none 0 0, .slice (some ⟨b2, o2, sp2⟩) (L0.length - z) 0] rfl
                have hkg : Keep No w6 ((w6.alloc (.cells #[.slice (some ⟨b2, o2, sp2⟩) z z, .slice none 0 0, .slice (some ⟨b2, o2, sp2⟩) (L0.length - z) 0] 76)).drew) := ((Keep.refl No w6).alloc _).drew
                have hmg2 := CMerge_any (some ⟨w6.heap.size, 0, none⟩) 3 [.slice (some ⟨b2, o2, sp2⟩) z z, .slice none 0 0, .slice (some ⟨b2, o2, sp2⟩) (L0.length - z) 0] [M.take z, [], M.drop z] ((w6.alloc (.cells #[.slice (some ⟨b2, o2, sp2⟩) z z, .slice none 0 0, .slice (some ⟨b2, o2, sp2⟩) (L0.length - z) 0] 76)).drew) hgr ⟨rfl, groups3 (hva.keepNo hkg) (SliceV.nil _ _ _) (hvb.keepNo hkg) hna (fun _ _ e => by cases e; rfl) hnb⟩ (by simp) (by rw [show [M.take z, [], M.drop z].flatten = M by simp, HML.out]; omega) (fun y hy => by
                  have hy' : y ∈ M := by simpa using hy
                  have := hws y (HMp.out.mem_iff.1 hy'); exact ⟨this.1, this.2.2⟩)
                rw [show [M.take z, [], M.drop z].flatten = M by simp] at hmg2
                simp only [List.length_cons, List.length_nil, Nat.zero_add, Nat.reduceAdd] at hmg2
                obtain ⟨hcode, hres⟩ := mergeW_perm HMp.out
                have hml1 := mergeW_length [] L0
                have hml2 := mergeW_length [] M
                simp only [List.length_nil, Nat.zero_add] at hml1 hml2
                generalize mergeW [] L0 = m1 at *
                generalize mergeW [] M = m2 at *
                have hlm1 : (m1.1.getD []).length ≤ 1000000000000 := by omega
                rw [hres] at hmg2
                clear hgr hva hvb hna hnb hsM6 hsM htr hs2 ht2 hml1 hml2
                go_region_held3 (fun _ => True) (trivial) (first | (go_at_call 52; refine hmg2.mono ?_; rintro e w9 ⟨v9, rfl, ⟨p9, cap9, rfl, hcap9, hs9⟩, hk9, hn9⟩))
                have hkw9 := hkg.trans' hk9
                have hs69 := hs6.keepNo hkw9
                cases he : (m1.2 == 0)
                · have he2 : (m2.2 == 0) = false := by
                    have h0 : ¬ m1.2 = 0 := by simpa using he
                    have h1 : ¬ m2.2 = 0 := fun e => h0 (hcode.1 e)
                    simpa using h1
                  clear hcode
                  go_wp2_with (first | (go_at_call 45; refine (Same_any p6 p9 cap6 cap9 _ _ _ hs69 hs9 hlm1 hlm1).mono ?_; rintro e w10 ⟨rfl, q1, rfl⟩; rw [show ∀ z : List W2, decide (z = z) = true from fun z => by simp]))
                  go_ret
                  exact ⟨rfl, ((hkw.trans' hkw6).trans' hkw9).drewN _⟩
                · have he2 : (m2.2 == 0) = true := by
                    have h0 : m1.2 = 0 := by simpa using he
                    have h1 : m2.2 = 0 := hcode.2 h0
                    simpa using h1
                  clear hcode
                  go_wp2_with (first | (go_at_call 45; refine (Same_any p6 p9 cap6 cap9 _ _ _ hs69 hs9 hlm1 hlm1).mono ?_; rintro e w10 ⟨rfl, q1, rfl⟩; rw [show ∀ z : List W2, decide (z = z) = true from fun z => by simp]))
                  go_ret
                  exact ⟨rfl, ((hkw.trans' hkw6).trans' hkw9).drewN _⟩
              · have HCZ := Lib.hid hcz
                have hsM6 := hsM.keepNo hkw6
                have hvb : SliceV encW 2 w6 (.slice (some ((⟨b2, o2, sp2⟩ : Addr).add (z * 2))) (L0.length - z) (cap2 - z)) (M.drop z) := by have := slice_tail hsM6 HML.out hz1 hcap2; rw [if_neg hcz] at this; exact this
                have hva : SliceV encW 2 w6 (.slice (some ⟨b2, o2, sp2⟩) z cap2) (M.take z) := ⟨_, cap2, by rw [List.length_take, HML.out, Nat.min_eq_left hz1], by rw [List.length_take, HML.out]; omega, hsM6.take z⟩
                have hnb : NilOk (.slice (some ((⟨b2, o2, sp2⟩ : Addr).add (z * 2))) (L0.length - z) (cap2 - z)) := fun _ _ e => by cases e
                have hna : NilOk (.slice (some ⟨b2, o2, sp2⟩) z cap2) := fun _ _ e => by cases e
                have hgr := slAt_new (enc := encV) (k := 1) (fun _ => rfl) w6 [.slice (some ⟨b2, o2, sp2⟩) z cap2, .slice none 0 0, .slice (some ((⟨b2, o2, sp2⟩ : Addr).add (z * 2))) (L0.length - z) (cap2 - z)] 76 #[.slice (some ⟨b2, o2, sp2⟩) z cap2, .slice none 0 0, .slice (some ((⟨b2, o2, sp2⟩ : Addr).add (z * 2))) (L0.length - z) (cap2 - z)] rfl
                have hkg : Keep No w6 ((w6.alloc (.cells #[.slice (some ⟨b2, o2, sp2⟩) z cap2, .slice none 0 0, .slice (some ((⟨b2, o2, sp2⟩ : Addr).add (z * 2))) (L0.length - z) (cap2 - z)] 76)).drew) := ((Keep.refl No w6).alloc _).drew
                have hmg2 := CMerge_any (some ⟨w6.heap.size, 0, none⟩) 3 [.slice (some ⟨b2, o2, sp2⟩) z cap2, .slice none 0 0, .slice (some ((⟨b2, o2, sp2⟩ : Addr).add (z * 2))) (L0.length - z) (cap2 - z)] [M.take z, [], M.drop z] ((w6.alloc (.cells #[.slice (some ⟨b2, o2, sp2⟩) z cap2, .slice none 0 0, .slice (some ((⟨b2, o2, sp2⟩ : Addr).add (z * 2))) (L0.length - z) (cap2 - z)] 76)).drew) hgr ⟨rfl, groups3 (hva.keepNo hkg) (SliceV.nil _ _ _) (hvb.keepNo hkg) hna (fun _ _ e => by cases e; rfl) hnb⟩ (by simp) (by rw [show [M.take z, [], M.drop z].flatten = M by simp, HML.out]; omega) (fun y hy => by
                  have hy' : y ∈ M := by simpa using hy
                  have := hws y (HMp.out.mem_iff.1 hy'); exact ⟨this.1, this.2.2⟩)
                rw [show [M.take z, [], M.drop z].flatten = M by simp] at hmg2
                simp only [List.length_cons, List.length_nil, Nat.zero_add, Nat.reduceAdd] at hmg2
                obtain ⟨hcode, hres⟩ := mergeW_perm HMp.out
                have hml1 := mergeW_length [] L0
                have hml2 := mergeW_length [] M
                simp only [List.length_nil, Nat.zero_add] at hml1 hml2
                generalize mergeW [] L0 = m1 at *
                generalize mergeW [] M = m2 at *
                have hlm1 : (m1.1.getD []).length ≤ 1000000000000 := by omega
                rw [hres] at hmg2
                clear hgr hva hvb hna hnb hsM6 hsM htr hs2 ht2 hml1 hml2
                go_region_held3 (fun _ => True) (trivial) (first | (go_at_call 52; refine hmg2.mono ?_; rintro e w9 ⟨v9, rfl, ⟨p9, cap9, rfl, hcap9, hs9⟩, hk9, hn9⟩))
                have hkw9 := hkg.trans' hk9
                have hs69 := hs6.keepNo hkw9
                cases he : (m1.2 == 0)
                · have he2 : (m2.2 == 0) = false := by
                    have h0 : ¬ m1.2 = 0 := by simpa using he
                    have h1 : ¬ m2.2 = 0 := fun e => h0 (hcode.1 e)
                    simpa using h1
                  clear hcode
                  go_wp2_with (first | (go_at_call 45; refine (Same_any p6 p9 cap6 cap9 _ _ _ hs69 hs9 hlm1 hlm1).mono ?_; rintro e w10 ⟨rfl, q1, rfl⟩; rw [show ∀ z : List W2, decide (z = z) = true from fun z => by simp]))
                  go_ret
                  exact ⟨rfl, ((hkw.trans' hkw6).trans' hkw9).drewN _⟩
                · have he2 : (m2.2 == 0) = true := by
                    have h0 : m1.2 = 0 := by simpa using he
                    have h1 : m2.2 = 0 := hcode.2 h0
                    simpa using h1
                  clear hcode
                  go_wp2_with (first | (go_at_call 45; refine (Same_any p6 p9 cap6 cap9 _ _ _ hs69 hs9 hlm1 hlm1).mono ?_; rintro e w10 ⟨rfl, q1, rfl⟩; rw [show ∀ z : List W2, decide (z = z) = true from fun z => by simp]))
                  go_ret
                  exact ⟨rfl, ((hkw.trans' hkw6).trans' hkw9).drewN _⟩
  · go_enter Try.func8, Try.ntmps8
    go_wp2_with (first | (go_at_call 39; refine (awake07_any _).mono ?_; rintro e w1 ⟨rfl, hk1⟩) | (go_at_call 51; refine (Great_any p cap L0 100 _ (h.keepNo hk1) (by omega)).mono ?_; rintro e w1' ⟨rfl, rfl⟩; rw [hg]))
    go_ret
    exact ⟨rfl, hk1⟩
theorem wf_u16 {n : Int} (h : (Lit.int .u16 n).wf = true) : 0 ≤ n ∧ n ≤ 65535 := by
  simp [Lit.wf, IntKind.min, IntKind.max, IntKind.signed, IntKind.bits] at h
  omega
theorem FreqOrder_row (p : Option Addr) (cap : Nat) (L0 : List W2) (q : Option Addr) (cq : Nat) (sw : List Int) (cut : Int) (w : World) (h : SlAt encW 2 w p L0) (hl : L0.length ≤ cap) (hcap' : cap ≤ maxLen) (hnil : p = none → cap = 0)
    (hws : ∀ x ∈ L0, x.1.size ≤ maxLen ∧ -9223372036854775808 ≤ x.2 ∧ x.2 ≤ 9223372036854775807)
    (hq : SlAt (fun n => [.int .u16 n]) 1 w q sw) (hql : sw.length ≤ cq) (hcq : cq ≤ maxLen) (hsw : ∀ x ∈ sw, (Lit.int .u16 x).wf = true) (hcut : (Lit.int .u16 cut).wf = true) :
    Calls Try.prog 8 #[.slice p L0.length cap, .slice q sw.length cq, .int .u16 cut] w fun e w' => e = .returned (.bool true) ∧ Keep No w w' :=
  FreqOrder_any p cap L0 q cq sw cut w h hl hcap' hnil hws hq hql hcq (fun x hx => wf_u16 (hsw x hx)) (wf_u16 hcut)
end Go.Proofs.Ytcofpmmoijnfiaa
