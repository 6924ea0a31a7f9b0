/- ref06.Add, ref07.Count, ref07.Add. -/
import Derived.Test.YtcofpmmoijnfiaaC
import Derived.Test.YtcofpmmoijnfiaaM
namespace Go.Proofs.Ytcofpmmoijnfiaa
open Go.RowKit

theorem info92 : (Try.prog.info? 92).map (fun i => (i.zero, i.size, i.bytes)) = some (some (.agg #[.string ByteArray.empty, .int .i64 0]), 2, 24) := by kernel_rfl

/-- checked sums: the reference's and the code's. -/
def addC (a b : Int) : Option Int := if 0 ≤ a ∧ 0 ≤ b ∧ a + b ≤ 9223372036854775807 then some (a + b) else none

theorem ref06Add_yes (a b : Int) (w : World) (ha : 0 ≤ a) (hb : 0 ≤ b) (h : a + b ≤ 9223372036854775807) :
    Calls Try.prog 79 #[.int .i64 a, .int .i64 b] w fun e w' => e = .returned (.tuple #[.int .i64 (a + b), .bool true]) ∧ w = w' := by
  go_enter Try.func79, Try.ntmps79
  go_wp2
  go_ret2
  exact ⟨rfl, rfl⟩

theorem ref06Add_no (a b : Int) (w : World) (ha : -9223372036854775808 ≤ a) (hb : -9223372036854775808 ≤ b) (ha' : a ≤ 9223372036854775807) (hb' : b ≤ 9223372036854775807) (h : ¬ (0 ≤ a ∧ 0 ≤ b ∧ a + b ≤ 9223372036854775807)) :
    Calls Try.prog 79 #[.int .i64 a, .int .i64 b] w fun e w' => e = .returned (.tuple #[.int .i64 0, .bool false]) ∧ w = w' := by
  by_cases h1 : a < 0
  · go_enter Try.func79, Try.ntmps79
    go_wp2
    go_ret2
    exact ⟨rfl, rfl⟩
  · by_cases h2 : b < 0
    · go_enter Try.func79, Try.ntmps79
      go_wp2
      go_ret2
      exact ⟨rfl, rfl⟩
    · have h3 : wrap64 (a + b) < 0 := by unfold wrap64; omega
      go_enter Try.func79, Try.ntmps79
      go_wp2
      go_ret2
      exact ⟨rfl, rfl⟩

theorem ref06Add_any (a b : Int) (w : World) (ha : -9223372036854775808 ≤ a) (hb : -9223372036854775808 ≤ b) (ha' : a ≤ 9223372036854775807) (hb' : b ≤ 9223372036854775807) :
    Calls Try.prog 79 #[.int .i64 a, .int .i64 b] w fun e w' => e = .returned (.tuple #[.int .i64 ((addC a b).getD 0), .bool (addC a b).isSome]) ∧ w = w' := by
  unfold addC
  split
  · rename_i h; exact ref06Add_yes a b w h.1 h.2.1 h.2.2
  · rename_i h; exact ref06Add_no a b w ha hb ha' hb' h


theorem Count_any (p : Option Addr) (cap : Nat) (L : List W2) (s : ByteArray) (w : World) (h : SlAt encW 2 w p L) (hl : L.length ≤ 9223372036854775807) :
    Calls Try.prog 55 #[.slice p L.length cap, .string s] w fun e w' => e = .returned (.int .i64 (cnt L s)) ∧ w = w' := by
  go_enter Try.func55, Try.ntmps55
  go_wp2
  go_loop [5] (fun i => ∃ k : Nat, k ≤ L.length ∧ i = .int .i64 k ∧ ∀ j x, j < k → L[j]? = some x → decide (x.1 = s) = false) (fun i => L.length - (intOf i).toNat)
  case atStart => exact ⟨0, by omega, rfl, by omega⟩
  case round =>
    obtain ⟨k, hk, rfl, hno⟩ := hrel
    have Hno := Lib.hid hno; clear hno
    by_cases hlt : k < L.length
    · obtain ⟨b, o, t, n, rfl, hb, hx, c0, c1⟩ := h.getW hlt
      have Hx := Lib.hid hx; clear hx
      cases hts : t.toList == s.toList
      · have Hts := Lib.hid (show decide (t = s) = false by rw [← toList_beq]; exact hts)
        go_wp2
        go_round
        case rel =>
          refine ⟨k + 1, by omega, by go_num, fun j x hj hx => ?_⟩
          by_cases hjk : j = k
          · subst hjk; rw [Hx.out] at hx; cases hx; exact Hts.out
          · exact Hno.out j x (by omega) hx
        case measure => simp [intOf]; omega
      · have Hts := Lib.hid (show decide (t = s) = true by rw [← toList_beq]; exact hts)
        go_wp2
        go_ret
        refine ⟨ret_int ?_, rfl⟩
        rw [cnt, find_at Hx.out (fun j x hj h => Hno.out j x hj h) Hts.out]
    · obtain rfl : k = L.length := by omega
      go_wp2
      go_ret
      refine ⟨ret_int ?_, rfl⟩
      rw [cnt, find_none_at Hno.out]

/-! ### Add -/
def insW (word : ByteArray) (sum : Int) : Bool → List W2 → List W2
  | done, [] => if done then [] else [(word, sum)]
  | done, x :: L => (if !done && !ltB x.1 word then [(word, sum)] else []) ++ ((if x.1 = word then [] else [x]) ++ insW word sum (done || !ltB x.1 word) L)

theorem insW_cons (word : ByteArray) (sum : Int) (dn : Bool) (t : ByteArray) (cn : Int) (L : List W2) : insW word sum dn ((t, cn) :: L) = (if (!dn && !ltB t word) = true then [(word, sum)] else []) ++ ((if t = word then [] else [(t, cn)]) ++ insW word sum (dn || !ltB t word) L) := rfl
/-- The reference's answer: the list then, an error's number. -/
def addW (L : List W2) (word : ByteArray) (n : Int) : List W2 × Int :=
  if word.size = 0 ∨ n < 1 then (L, 1) else match addC (cnt L word) n with | some sum => (insW word sum false L, 0) | none => (L, 5)

def NewOr (w w' : World) (v v' : Value) : Prop := ∀ g, v'.ownBlock = some g → v.ownBlock = some g ∨ (w.heap.size ≤ g ∧ g < w'.heap.size)

set_option maxRecDepth 100000 in
theorem Add_ok (p : Option Addr) (cap : Nat) (L : List W2) (word : ByteArray) (n : Int) (w : World) (h : SlAt encW 2 w p L) (hl : L.length ≤ 400000000000) (hws : word.size ≤ 9223372036854775807)
    (hLs : ∀ x ∈ L, x.1.size ≤ 9223372036854775807) (sum : Int)
    (hw : word.toList.isEmpty = false) (hn : 1 ≤ n) (hn' : n ≤ 9223372036854775807) (hc : -9223372036854775808 ≤ cnt L word) (hc' : cnt L word ≤ 9223372036854775807) (hs : addC (cnt L word) n = some sum) :
    Calls Try.prog 54 #[.slice p L.length cap, .string word, .int .i64 n] w fun e w' => ∃ v', e = .returned (.tuple #[v', .int .i64 0]) ∧ SliceV encW 2 w' v' (insW word sum false L) ∧ Keep No w w' ∧ NewOr w w' (.slice p L.length cap) v' := by
  have h79 := ref06Add_any (cnt L word) n w hc (by omega) hc' hn'
  rw [hs] at h79
  simp only [Option.getD_some, Option.isSome_some] at h79
  clear hs
  go_enter Try.func54, Try.ntmps54
  go_wp2_with (first | (go_at_call 55; refine (Count_any _ _ _ _ _ h (by omega)).mono ?_; rintro e w' ⟨rfl, rfl⟩) | (go_at_call 79; refine h79.mono ?_; rintro e w' ⟨rfl, rfl⟩))
  obtain ⟨i0, hi, hz0, hz1, hz2⟩ := info_parts info92
  go_loopw [10, 11, 12] (fun v d i wr => ∃ (k : Nat) (out : List W2) (dn : Bool), k ≤ L.length ∧ i = .int .i64 k ∧ d = .bool dn ∧ wr.ownsRow w.heap.size 92 2 v out.length (out.flatMap encW) ∧ Keep No w wr ∧ out ++ insW word sum dn (L.drop k) = insW word sum false L ∧ out.length ≤ 2 * k) (fun _ _ i _ => L.length - (intOf i).toNat)
  case atStart => exact ⟨0, [], false, by omega, rfl, rfl, World.ownsRow_nil _ _ _ _, Keep.refl _ _, rfl, by simp⟩
  case round =>
    obtain ⟨k, out, dn, hk, rfl, rfl, hown, hkeep, hins, hout⟩ := hrel
    have Hins := Lib.hid hins; clear hins
    have hsz := hkeep.size
    by_cases hlt : k < L.length
    · obtain ⟨b, o, t, cn, hp, hb, hx, c0, c1⟩ := h.getW hlt
      have Hx := Lib.hid hx; clear hx
      subst hp
      have hts : t.size ≤ 9223372036854775807 := hLs _ (List.mem_of_getElem? Hx.out)
      have c0' := hkeep.cell (fun e => e) c0
      have c1' := hkeep.cell (fun e => e) c1
      have hbq : ∀ q, w.heap.size ≤ (wr.drewN q).heap.size := fun q => hsz
      have hlen2 : (out ++ [(word, sum)]).length + 1 ≤ 1000000000000 := by rw [List.length_append]; simp only [List.length_cons, List.length_nil]; omega
      have hoff : ¬ u10.ownBlock = some b := fun e => absurd (hown.lt b e).1 (by omega)
      have hstep := drop_cons Hx.out
      have Hstep := Lib.hid hstep; clear hstep
      cases htw : t.toList == word.toList
      · have Htw := Lib.hid (show ¬ t = word by simpa [toList_beq] using htw)
        cases dn
        · cases hlb : ltB t word
          · go_wp2_with (first | (go_at_call 92; refine (Less_any _ _ _ hts hws).mono ?_; rintro e w' ⟨rfl, q, rfl⟩; rw [hlb]) | (at_builtin; refine wpList_app1 rfl (.tmp 49) (.tmp 53) 76 rfl arrW encW_length encW_one w.heap.size _ out (word, sum) rfl _ rfl rfl (own_drewN q hown) (by omega) (hbq q) ?_; intro v1 w1 hown1 hk1; have d0 := hk1.cell hoff c0'; have d1 := hk1.cell hoff c1'; have hk1' := (hkeep.drewN q).app (own_drewN q hown) (Nat.le_refl _) hk1) | (at_builtin; go_must (refine wpList_app1 rfl (.tmp 62) (.tmp 67) 76 rfl arrW encW_length encW_one w.heap.size _ (out ++ [(word, sum)]) (t, cn) rfl _ rfl rfl hown1 hlen2 (by have := hk1'.size; omega) ?_; intro v2 w2 hown2 hk2)))
            go_roundw
            case rel => exact ⟨k + 1, out ++ [(word, sum)] ++ [(t, cn)], true, by omega, by go_num, rfl, hown2, hk1'.app hown1 (Nat.le_refl _) hk2, by rw [← Hins.out, Hstep.out, insW_cons, if_neg Htw.out, hlb]; simp, by simp; omega⟩
            case measure => simp [intOf]; omega
          · go_wp2_with (first | (go_at_call 92; refine (Less_any _ _ _ hts hws).mono ?_; rintro e w' ⟨rfl, q, rfl⟩; rw [hlb]) | (at_builtin; go_must (refine wpList_app1 rfl (.tmp 62) (.tmp 67) 76 rfl arrW encW_length encW_one w.heap.size _ out (t, cn) rfl _ rfl rfl (own_drewN q hown) (by omega) (hbq q) ?_; intro v2 w2 hown2 hk2)))
            go_roundw
            case rel => exact ⟨k + 1, out ++ [(t, cn)], false, by omega, by go_num, rfl, hown2, (hkeep.drewN q).app (own_drewN q hown) (Nat.le_refl _) hk2, by rw [← Hins.out, Hstep.out, insW_cons, if_neg Htw.out, hlb]; simp, by simp; omega⟩
            case measure => simp [intOf]; omega
        · go_wp2_with (first | (at_builtin; go_must (refine wpList_app1 rfl (.tmp 62) (.tmp 67) 76 rfl arrW encW_length encW_one w.heap.size _ out (t, cn) rfl _ rfl rfl hown (by omega) (by omega) ?_; intro v2 w2 hown2 hk2)))
          go_roundw
          case rel => exact ⟨k + 1, out ++ [(t, cn)], true, by omega, by go_num, rfl, hown2, hkeep.app hown (Nat.le_refl _) hk2, by rw [← Hins.out, Hstep.out, insW_cons, if_neg Htw.out]; simp, by simp; omega⟩
          case measure => simp [intOf]; omega
      · have Htw := Lib.hid (show t = word by simpa [toList_beq] using htw)
        cases dn
        · cases hlb : ltB t word
          · go_wp2_with (first | (go_at_call 92; refine (Less_any _ _ _ hts hws).mono ?_; rintro e w' ⟨rfl, q, rfl⟩; rw [hlb]) | (at_builtin; refine wpList_app1 rfl (.tmp 49) (.tmp 53) 76 rfl arrW encW_length encW_one w.heap.size _ out (word, sum) rfl _ rfl rfl (own_drewN q hown) (by omega) (hbq q) ?_; intro v1 w1 hown1 hk1; have d0 := hk1.cell hoff c0'; have d1 := hk1.cell hoff c1'; have hk1' := (hkeep.drewN q).app (own_drewN q hown) (Nat.le_refl _) hk1; clear hown hkeep))
            go_roundw
            case rel => exact ⟨k + 1, out ++ [(word, sum)], true, by omega, by go_num, rfl, hown1, hk1', by rw [← Hins.out, Hstep.out, insW_cons, if_pos Htw.out, hlb]; simp, by simp; omega⟩
            case measure => simp [intOf]; omega
          · go_wp2_with (first | (go_at_call 92; refine (Less_any _ _ _ hts hws).mono ?_; rintro e w' ⟨rfl, q, rfl⟩; rw [hlb]))
            go_roundw
            case rel => exact ⟨k + 1, out, false, by omega, by go_num, rfl, own_drewN q hown, hkeep.drewN q, by rw [← Hins.out, Hstep.out, insW_cons, if_pos Htw.out, hlb]; simp, by omega⟩
            case measure => simp [intOf]; omega
        · go_wp2
          go_roundw
          case rel => exact ⟨k + 1, out, true, by omega, by go_num, rfl, hown, hkeep, by rw [← Hins.out, Hstep.out, insW_cons, if_pos Htw.out]; simp, by omega⟩
          case measure => simp [intOf]; omega
    · obtain rfl : k = L.length := by omega
      have Hins2 := Lib.hid (show out ++ insW word sum dn [] = insW word sum false L by rw [← Hins.out]; simp)
      cases dn
      · go_wp2_with (first | (at_builtin; go_must (refine wpList_app1 rfl (.tmp 71) (.tmp 75) 76 rfl arrW encW_length encW_one w.heap.size _ out (word, sum) rfl _ rfl rfl hown (by omega) (by omega) ?_; intro v1 w1 hown1 hk1)))
        go_ret2
        have e1 : out ++ [(word, sum)] = insW word sum false L := by rw [← Hins2.out]; simp [insW]
        rw [e1] at hown1
        exact ⟨_, rfl, SliceV.of_own encW_length hown1, hkeep.app hown (Nat.le_refl _) hk1, fun g hg => .inr (hown1.lt g hg)⟩
      · go_wp2
        go_ret2
        have e1 : out = insW word sum false L := by rw [← Hins2.out]; simp [insW]
        subst e1
        exact ⟨_, rfl, SliceV.of_own encW_length hown, hkeep, fun g hg => .inr (hown.lt g hg)⟩
end Go.Proofs.Ytcofpmmoijnfiaa
