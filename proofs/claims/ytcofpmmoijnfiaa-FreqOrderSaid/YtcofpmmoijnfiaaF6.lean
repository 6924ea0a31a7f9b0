/- slices.Grow and slices.Concat over slices of words; freq.Merge. -/
import Derived.Test.YtcofpmmoijnfiaaF5
import Derived.Test.YtcofpmmoijnfiaaB2
namespace Go.Proofs.Ytcofpmmoijnfiaa
open Go.RowKit

theorem grownCap_bd (w : World) (n old : Nat) (e : TypeId) (hn : n < 9223372036854775808) : n ≤ grownCap w n old e ∧ grownCap w n old e ≤ maxLen := by
  unfold grownCap Question.cut maxLen
  dsimp only
  have : w.tape w.drawn (.appendCap n old e) % (2 ^ 63 - n) < 2 ^ 63 - n := Nat.mod_lt _ (by omega)
  omega

set_option maxRecDepth 100000 in
theorem Grow_any (n : Nat) (w : World) (hn : n ≤ 1000000) :
    Calls Try.prog 131 #[.slice none 0 0, .int .i64 n] w fun e w' => ∃ v, e = .returned v ∧ w'.ownsRow w.heap.size 92 2 v 0 [] ∧ Keep No w w' := by
  obtain ⟨i0, hi, hz0, hz1, hz2⟩ := info_parts (show (Try.prog.info? 92).map (fun i => (i.zero, i.size, i.bytes)) = some (some (.agg #[.string ByteArray.empty, .int .i64 0]), 2, 24) by kernel_rfl)
  by_cases h0 : 0 < n
  · have hrun := Lib.run_append_nil_zeros (P := Try.prog) w 76 3 76 92 i0 _ .i64 .i64 Try.underlying76 Try.underlying3 hi hz0 n h0 (by omega) (by omega) (by rw [hz2]; omega)
    obtain ⟨hc1, hc2⟩ := grownCap_bd w n 0 92 (by omega)
    have hmade := World.ownsRow_made (e := 92) (size := 2) (base := w.heap.size) w.drew (Builtin.zeroCells (Value.agg #[.string ByteArray.empty, .int .i64 0]).cells n ++ Builtin.zeroCells (Value.agg #[.string ByteArray.empty, .int .i64 0]).cells (grownCap w n 0 92 - n)) (grownCap w n 0 92) (Nat.le_refl _) hc2 (by rw [Array.size_append, size_zeroCells, size_zeroCells]; show n * 2 + (grownCap w n 0 92 - n) * 2 = _; omega)
    generalize Builtin.zeroCells (Value.agg #[.string ByteArray.empty, .int .i64 0]).cells n ++ Builtin.zeroCells (Value.agg #[.string ByteArray.empty, .int .i64 0]).cells (grownCap w n 0 92 - n) = cur at *
    generalize grownCap w n 0 92 = cp at *
    go_enter Try.func131, Try.ntmps131
    go_wp2_with (first | (at_builtin; go_must (refine Lib.wpList_append_run _ rfl _ _ _ _ rfl _ _ rfl rfl _ _ hrun ?_)))
    go_ret
    exact ⟨_, rfl, hmade, (Keep.refl No w).drew.alloc _⟩
  · obtain rfl : n = 0 := by omega
    go_enter Try.func131, Try.ntmps131
    go_wp2
    go_ret
    exact ⟨_, rfl, World.ownsRow_nil _ _ _ _, Keep.refl _ _⟩

def encV (v : Value) : List Value := [v]
def NilOk (v : Value) : Prop := ∀ n c, v = .slice none n c → c = 0

theorem SlAt.getV {w : World} {p : Option Addr} {L : List Value} (h : SlAt encV 1 w p L) {i : Nat} (hi : i < L.length) :
    ∃ b o v, p = some ⟨b, o, none⟩ ∧ b < w.heap.size ∧ L[i]? = some v ∧ w.cell? ⟨b, o + i, none⟩ = some v := by
  obtain ⟨b, o, t, hp, hb, hx, hc⟩ := h.get hi
  exact ⟨b, o, t, hp, hb, hx, by have := hc 0 _ rfl; simpa using this⟩

/-- The values are slices that hold the lists. -/
def Groups (w : World) (vs : List Value) (Ls : List (List W2)) : Prop := vs.length = Ls.length ∧ ∀ (i : Nat) (v : Value) (L : List W2), vs[i]? = some v → Ls[i]? = some L → SliceV encW 2 w v L ∧ NilOk v

theorem flatten_take {Ls : List (List W2)} {k : Nat} {L : List W2} (h : Ls[k]? = some L) : (Ls.take (k + 1)).flatten = (Ls.take k).flatten ++ L := by
  rw [take_snoc h]; simp

theorem flatten_le (Ls : List (List W2)) (k : Nat) : (Ls.take k).flatten.length ≤ Ls.flatten.length := by
  have : Ls.flatten.length = (Ls.take k).flatten.length + (Ls.drop k).flatten.length := by
    rw [← List.length_append, ← List.flatten_append, List.take_append_drop]
  omega

def flen (Ls : List (List W2)) (k : Nat) : Nat := (Ls.take k).flatten.length
theorem flen_succ {Ls : List (List W2)} {k : Nat} {L : List W2} (h : Ls[k]? = some L) : flen Ls (k + 1) = flen Ls k + L.length := by
  unfold flen; rw [flatten_take h, List.length_append]
set_option maxRecDepth 100000 in
theorem Concat_any (q : Option Addr) (cq : Nat) (vs : List Value) (Ls : List (List W2)) (w : World) (hq : SlAt encV 1 w q vs) (hG : Groups w vs Ls) (hn : vs.length ≤ 1000000) (hsum : Ls.flatten.length ≤ 1000000) :
    Calls Try.prog 99 #[.slice q vs.length cq] w fun e w' => ∃ v, e = .returned v ∧ SliceV encW 2 w' v Ls.flatten ∧ Keep No w w' ∧ ∀ g, v.ownBlock = some g → w.heap.size ≤ g := by
  have hlen := hG.1
  have Hlen := Lib.hid hlen
  clear hlen
  go_enter Try.func99, Try.ntmps99
  go_wp2
  go_loop [3, 11] (fun s i => ∃ k : Nat, k ≤ vs.length ∧ i = .int .i64 k ∧ s = .int .i64 (flen Ls k : Nat)) (fun _ i => vs.length - (intOf i).toNat)
  case atStart => exact ⟨0, Nat.zero_le _, rfl, rfl⟩
  case round =>
    obtain ⟨k, hk, rfl, rfl⟩ := hrel
    by_cases hlt : k < vs.length
    · obtain ⟨b, o, v, rfl, hb, hx, c0⟩ := hq.getV hlt
      obtain ⟨L, hL⟩ : ∃ L, Ls[k]? = some L := ⟨_, List.getElem?_eq_getElem (by rw [← Hlen.out]; exact hlt)⟩
      obtain ⟨⟨p, cap, rfl, hcap, hs⟩, hnil⟩ := hG.2 k v L hx hL
      have Ht := Lib.hid (flen_succ hL)
      have hle : flen Ls k + L.length ≤ 1000000 := by
        rw [← flen_succ hL]
        exact Nat.le_trans (flatten_le Ls (k + 1)) hsum
      clear hx hL
      go_wp2
      go_round
      case rel => exact ⟨k + 1, by omega, by go_num, by rw [Ht.out]; go_num⟩
      case measure => simp [intOf]; omega
    · obtain rfl : k = vs.length := by omega
      have hfl : flen Ls vs.length ≤ 1000000 := Nat.le_trans (flatten_le Ls _) hsum
      have Hsum := Lib.hid hsum
      clear hsum
      go_wp2_with (first | (go_at_call 131; refine (Grow_any _ _ hfl).mono ?_; rintro e w1 ⟨v1, rfl, hown0, hk1⟩))
      go_loopw [6, 27] (fun v i wr => ∃ k : Nat, k ≤ vs.length ∧ i = .int .i64 k ∧ wr.ownsRow w.heap.size 92 2 v (Ls.take k).flatten.length ((Ls.take k).flatten.flatMap encW) ∧ Keep No w wr) (fun _ i _ => vs.length - (intOf i).toNat)
      case atStart => exact ⟨0, Nat.zero_le _, rfl, hown0, hk1⟩
      case round =>
        obtain ⟨k, hk, rfl, hown, hkr⟩ := hrel
        have hsz := hkr.size
        by_cases hlt : k < vs.length
        · obtain ⟨b, o, v, rfl, hb, hx, c0⟩ := (hq.keepNo hkr).getV hlt
          obtain ⟨L, hL⟩ : ∃ L, Ls[k]? = some L := ⟨_, List.getElem?_eq_getElem (by rw [← Hlen.out]; exact hlt)⟩
          obtain ⟨⟨p, cap, rfl, hcap, hs⟩, hnil⟩ := hG.2 k v L hx hL
          have Ht := Lib.hid (flatten_take hL)
          have hle := Nat.le_trans (flatten_le Ls (k + 1)) Hsum.out
          rw [flatten_take hL, List.length_append] at hle
          have hle2 : (Ls.take k).flatten.length + L.length ≤ 1000000000000 := by omega
          clear hle
          have hnil' : p = none → cap = 0 := fun e => hnil L.length cap (by rw [e])
          clear hx hL
          go_wp2_with (first | (at_builtin; go_must (refine wpList_appS rfl (.tmp 31) (.tmp 32) 76 rfl arrW encW_length encW_one w.heap.size _ (Ls.take k).flatten L p cap rfl rfl (hs.keepNo hkr) hnil' hown hle2 hsz ?_; intro v2 w2 hown2 hk2)))
          go_roundw
          case rel => exact ⟨k + 1, by omega, by go_num, by rw [Ht.out]; exact hown2, hkr.app hown (Nat.le_refl _) hk2⟩
          case measure => simp [intOf]; omega
        · obtain rfl : k = vs.length := by omega
          rw [show Ls.take vs.length = Ls by rw [Hlen.out, List.take_length]] at hown
          go_wp2
          go_ret
          exact ⟨_, rfl, SliceV.of_own encW_length hown, hkr, fun g hg => (hown.lt g hg).1⟩

/-- freq.Merge: the reference's fold over all lists. -/
theorem CMerge_any (q : Option Addr) (cq : Nat) (vs : List Value) (Ls : List (List W2)) (w : World) (hq : SlAt encV 1 w q vs) (hG : Groups w vs Ls) (hn : vs.length ≤ 1000000) (hsum : Ls.flatten.length ≤ 1000000)
    (hws : ∀ x ∈ Ls.flatten, x.1.size ≤ maxLen ∧ x.2 ≤ 9223372036854775807) :
    Calls Try.prog 52 #[.slice q vs.length cq] w fun e w' => ∃ v, e = .returned (.tuple #[v, .int .i64 (mergeW [] Ls.flatten).2]) ∧ SliceV encW 2 w' v ((mergeW [] Ls.flatten).1.getD []) ∧ Keep No w w' ∧ ∀ g, v.ownBlock = some g → w.heap.size ≤ g := by
  generalize hF : Ls.flatten = F at *
  have HF := Lib.hid hF
  clear hF
  have hcon := fun W (hW : Keep No w W) => Concat_any q cq vs Ls W (hq.keepNo hW) ⟨hG.1, fun i v L h1 h2 => ⟨(hG.2 i v L h1 h2).1.keepNo hW, (hG.2 i v L h1 h2).2⟩⟩ hn (by rw [HF.out]; exact hsum)
  rw [HF.out] at hcon
  clear hG hq
  go_enter Try.func52, Try.ntmps52
  go_wp2_with (first | (go_at_call 53; refine (New_any _).mono ?_; rintro e w1 ⟨rfl, hc, hk1, hB⟩) | (go_at_call 99; refine (hcon _ hk1).mono ?_; rintro e w2 ⟨v2, rfl, ⟨p, cap, rfl, hcap, hs⟩, hk2, hn2⟩))
  have hc2 := hc.keep hk2 (fun _ _ e => e)
  have hclt := hc.foot_lt
  have hkw := hk1.trans' hk2
  go_loopw [12] (fun i wr => ∃ (k : Nat) (L : List W2), k ≤ F.length ∧ i = .int .i64 k ∧ CAfter w2 wr w.heap.size L ∧ Keep No w wr ∧ (∀ j, footC wr w.heap.size j → w.heap.size ≤ j) ∧ Rising L ∧ Ints L ∧ L.length ≤ k ∧ mergeW L (F.drop k) = mergeW [] F) (fun i _ => F.length - (intOf i).toNat)
  case atStart => exact ⟨0, [], Nat.zero_le _, rfl, CAfter.refl hc2.1, hkw, fun j hj => hB j (hc2.2 j hj), rising_nil, ints_nil, Nat.le_refl _, rfl⟩
  case round =>
    obtain ⟨k, L, hk, rfl, hA, hkr, hBr, hR, hI, hLl, heq⟩ := hrel
    have Heq := Lib.hid heq
    clear heq
    by_cases hlt : k < F.length
    · have hs' : SlAt encW 2 wr p F := hs.keep hA.keep fun hne a ha hf => by
        have h1 := hclt _ (hc2.2 _ hf)
        have h2 := hn2 a.block (by rw [ha]; rfl)
        omega
      obtain ⟨b, o, t, n, rfl, hb, hx, c0, c1⟩ := hs'.getW hlt
      have hxs := hws _ (List.mem_of_getElem? hx)
      have Hd := Lib.hid (drop_cons hx)
      clear hx
      have hadd := fun W (hW : Keep No wr W) => CAdd_any w.heap.size L t n W (hA.is.keep hW (fun _ _ e => e)).1 hR hI (by omega) hxs.1 hxs.2
      have hst := Lib.hid (show mergeW [] F = if (addW L t n).2 = 0 then mergeW (addW L t n).1 (F.drop (k + 1)) else (none, (addW L t n).2) by rw [← Heq.out, Hd.out]; rfl)
      have hR2 := addW_rising hR t n
      have hI2 := addW_ints hI t n
      have hl2 := addW_length L t n
      generalize addW L t n = r at *
      have hbox := hA.is.keep ((Keep.refl No wr).alloc (.cells #[.string t, .int .i64 n] 92)) (fun _ _ e => e)
      cases he : (r.2 == 0)
      · have hne : ¬ r.2 = 0 := by simpa using he
        go_wp2_with (first | (go_at_call 40; refine (hadd _ ((Keep.refl No wr).alloc _)).mono ?_; rintro e w3 ⟨rfl, hA2⟩))
        obtain ⟨hk3, hB3⟩ := hA2.own (hkr.alloc _) (fun j hj => hBr j (hbox.2 j hj))
        go_ret2
        rw [hst.out, if_neg hne]
        exact ⟨_, rfl, SliceV.nil _ _ _, hk3, (fun g e => nomatch e)⟩
      · have hp : r.2 = 0 := by simpa using he
        have Hp := Lib.hid hp
        clear hp
        go_wp2_with (first | (go_at_call 40; refine (hadd _ ((Keep.refl No wr).alloc _)).mono ?_; rintro e w3 ⟨rfl, hA2⟩))
        obtain ⟨hk3, hB3⟩ := hA2.own (hkr.alloc _) (fun j hj => hBr j (hbox.2 j hj))
        go_roundw
        case rel => exact ⟨k + 1, r.1, by omega, by go_num, (hA.no ((Keep.refl No wr).alloc _)).trans hA2, hk3, hB3, hR2, hI2, by omega, by rw [hst.out, if_pos Hp.out]⟩
        case measure => simp [intOf]; omega
    · obtain rfl : k = F.length := by omega
      have hfin : mergeW [] F = (some L, 0) := by rw [← Heq.out]; simp [mergeW]
      have Hfin := Lib.hid hfin
      clear hfin
      have hfr := CFreeze_any w.heap.size L wr hA.is hR (by omega)
      go_wp2_with (first | (go_at_call 43; refine hfr.mono ?_; rintro e w4 ⟨v4, rfl, hv4, hk4, hn4⟩))
      go_ret2
      rw [Hfin.out]
      exact ⟨_, rfl, hv4, hkr.trans' hk4, fun g hg => Nat.le_trans hkr.size (hn4 g hg)⟩
end Go.Proofs.Ytcofpmmoijnfiaa
