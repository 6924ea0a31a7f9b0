/- The counter of words: Add. -/
import Derived.Test.YtcofpmmoijnfiaaF1
import Derived.Test.YtcofpmmoijnfiaaP1
namespace Go.Proofs.Ytcofpmmoijnfiaa
open Go.RowKit

theorem isEmpty_size {s : ByteArray} : s.toList.isEmpty = decide (s.size = 0) := by
  rw [ByteArray.toList_eq, Bool.eq_iff_iff, List.isEmpty_iff, decide_eq_true_eq, ← List.length_eq_zero_iff, Array.length_toList]
  rfl

/-- What a call on the counter leaves: the counter with L, and no other block turned. -/
structure CAfter (w w' : World) (c : Nat) (L : List W2) : Prop where
  is : IsC w' c L
  foot : ∀ k, footC w' c k → footC w c k ∨ w.heap.size ≤ k
  keep : Keep (footC w c) w w'

set_option maxRecDepth 100000 in
theorem CAdd_ok (c : Nat) (L : List W2) (word : ByteArray) (n sum : Int) (w : World) (h : IsC w c L) (hR : Rising L) (hlen : L.length ≤ 1000000000) (hs : word.size ≤ maxLen)
    (hw : word.toList.isEmpty = false) (hn : 1 ≤ n) (hn' : n ≤ 9223372036854775807) (hc : -9223372036854775808 ≤ cnt L word) (hc' : cnt L word ≤ 9223372036854775807) (hsum : addC (cnt L word) n = some sum) :
    Calls Try.prog 40 #[.pointer (some ⟨c, 0, none⟩), .string word, .int .i64 n] w fun e w' => e = .returned (.int .i64 0) ∧ CAfter w w' c (insW word sum false L) := by
  have h93 := fun W => checkedAdd_any (cnt L word) n W hc (by omega) hc' hn'
  rw [hsum] at h93
  simp only [Option.getD_some, Option.isSome_some] at h93
  have hsw : (Lit.int .i64 sum).wf = true := by
    refine WalkArith.wf_i64 ?_
    unfold addC at hsum
    split at hsum
    · cases hsum; omega
    · cases hsum
  have hp := insW_put (word := word) (sum := sum) hR
  clear hsum
  have hcl := h.lt
  obtain ⟨mv, hcell, hf, hm, hne⟩ := h
  have hl := hm.look keyS (k := word) hs
  rcases hm with ⟨rfl, rfl⟩ | ⟨b, rfl, hm⟩
  · have hmm := @run_makeMap Try.prog
    have hnil := fun w' => run_eql_map_nil (P := Try.prog) w' 70 9 3 none Try.underlying70
    obtain ⟨W, hW⟩ : ∃ W, W = (w.setCell ⟨c, 0, none⟩ (.map (some w.heap.size))).alloc (.map #[] 0) := ⟨_, rfl⟩
    have hsc : (w.setCell ⟨c, 0, none⟩ (.map (some w.heap.size))).heap.size = w.heap.size := by simp [World.setCell]
    have T : MapAt Try.prog 9 klS WfS W w.heap.size [] := by
      have := MapAt.made keyS (w.setCell ⟨c, 0, none⟩ (.map (some w.heap.size)))
      rw [hsc] at this
      rw [hW]; exact this
    have hcc : W.cell? ⟨c, 0, none⟩ = some (.map (some w.heap.size)) := by
      rw [hW, Below.cell (w := w.setCell _ _) ((Below.refl w.heap.size _).alloc (by rw [hsc]; exact Nat.le_refl _) _) hcl]
      exact World.cell?_setCell_same' _ _ _ (by rw [hcell]; rfl)
    have hff : W.frozen? ⟨c, 0, none⟩ = false := by
      rw [hW, Below.frozen (w := w.setCell _ _) ((Below.refl w.heap.size _).alloc (by rw [hsc]; exact Nat.le_refl _) _) hcl, World.frozen?_setCell, hf]
    have hk0 : Keep (fun j => j = c) w W := by
      rw [hW]; exact ((Keep.refl (fun j => j = c) _).setCell (p := ⟨c, 0, none⟩) (fun _ => rfl) _).alloc _
    have Hcc := Lib.hid hcc
    have Hff := Lib.hid hff
    have HW := Lib.hid hW
    clear hcc hff hW
    go_enter Try.func40, Try.ntmps40
    go_wp2_with (first | (go_at_call 93; refine (h93 _).mono ?_; rintro e w' ⟨rfl, rfl⟩) | (at_mapUpdate; go_must (rw [← HW.out]; refine wpList_storeM rfl (.tmp 44) (.tmp 45) (.tmp 46) rfl keyS (n := sum) rfl T hs rfl rfl hsw (by simp [maxLen]) hp ?_; intro w1 hown1 hk1)))
    go_ret
    have hcs : ¬ c = w.heap.size := by omega
    have hsz := hk0.size
    refine ⟨rfl, ⟨_, hk1.cell hcs Hcc.out, ?_, .inr ⟨_, rfl, hown1⟩, fun b e => by cases e; omega⟩, ?_, ?_⟩
    · rw [hk1.frozen hcs (by omega)]; exact Hff.out
    · rintro k (rfl | hk)
      · exact .inl (.inl rfl)
      · rw [hk1.cell hcs Hcc.out] at hk; cases hk; exact .inr (Nat.le_refl _)
    · exact (hk0.mono fun j e => .inl e).trans hk1 fun j hj e => by omega
  · have hnil := fun w' => run_eql_map_nil (P := Try.prog) w' 70 9 3 (some b) Try.underlying70
    have hbc := hne b rfl
    have hlt := hm.lt
    go_enter Try.func40, Try.ntmps40
    go_wp2_with (first | (go_at_call 93; refine (h93 _).mono ?_; rintro e w' ⟨rfl, rfl⟩) | (at_mapUpdate; go_must (refine wpList_storeM rfl (.tmp 44) (.tmp 45) (.tmp 46) rfl keyS (n := sum) rfl hm hs rfl rfl hsw (by unfold maxLen; omega) hp ?_; intro w1 hown1 hk1)))
    go_ret
    refine ⟨rfl, ⟨_, hk1.cell (Ne.symm hbc) hcell, ?_, .inr ⟨_, rfl, hown1⟩, fun b' e => by cases e; exact hbc⟩, ?_, ?_⟩
    · rw [hk1.frozen (Ne.symm hbc) hcl]; exact hf
    · rintro k (rfl | hk)
      · exact .inl (.inl rfl)
      · rw [hk1.cell (Ne.symm hbc) hcell] at hk; cases hk; exact .inl (.inr hcell)
    · exact hk1.mono fun j e => .inr (by rw [e]; exact hcell)

set_option maxRecDepth 100000 in
theorem CAdd_over (c : Nat) (L : List W2) (word : ByteArray) (n : Int) (w : World) (h : IsC w c L) (hs : word.size ≤ maxLen)
    (hw : word.toList.isEmpty = false) (hn : 1 ≤ n) (hn' : n ≤ 9223372036854775807) (hc : -9223372036854775808 ≤ cnt L word) (hc' : cnt L word ≤ 9223372036854775807) (hsum : addC (cnt L word) n = none) :
    Calls Try.prog 40 #[.pointer (some ⟨c, 0, none⟩), .string word, .int .i64 n] w fun e w' => e = .returned (.int .i64 5) ∧ w = w' := by
  have h93 := fun W => checkedAdd_any (cnt L word) n W hc (by omega) hc' hn'
  rw [hsum] at h93
  simp only [Option.getD_none, Option.isSome_none] at h93
  clear hsum
  obtain ⟨mv, hcell, hf, hm, hne⟩ := h
  have hl := hm.look keyS (k := word) hs
  go_enter Try.func40, Try.ntmps40
  go_wp2_with (first | (go_at_call 93; refine (h93 _).mono ?_; rintro e w' ⟨rfl, rfl⟩))
  go_ret
  exact ⟨rfl, rfl⟩

set_option maxRecDepth 100000 in
theorem CAdd_bad (c : Nat) (word : ByteArray) (n : Int) (w : World) (hn' : n ≤ 9223372036854775807) (hw : word.toList.isEmpty = true ∨ n < 1) :
    Calls Try.prog 40 #[.pointer (some ⟨c, 0, none⟩), .string word, .int .i64 n] w fun e w' => e = .returned (.int .i64 1) ∧ w = w' := by
  cases he : word.toList.isEmpty
  · have hn : n < 1 := by simpa [he] using hw
    clear hw
    go_enter Try.func40, Try.ntmps40
    go_wp2
    go_ret
    exact ⟨rfl, rfl⟩
  · clear hw
    go_enter Try.func40, Try.ntmps40
    go_wp2
    go_ret
    exact ⟨rfl, rfl⟩

theorem CAdd_nil (word : ByteArray) (n : Int) (w : World) :
    Calls Try.prog 40 #[.pointer none, .string word, .int .i64 n] w fun e w' => e = .returned (.int .i64 1) ∧ w = w' := by
  go_enter Try.func40, Try.ntmps40
  go_wp2
  go_ret
  exact ⟨rfl, rfl⟩

/-- The counts are within int. -/
def Ints (L : List W2) : Prop := ∀ p ∈ L, 0 ≤ p.2 ∧ p.2 ≤ 9223372036854775807
theorem Ints.cnt {L : List W2} (h : Ints L) (s : ByteArray) : 0 ≤ cnt L s ∧ cnt L s ≤ 9223372036854775807 := by
  unfold Ytcofpmmoijnfiaa.cnt
  split
  · rename_i p hp; exact h p (List.mem_of_find?_eq_some hp)
  · omega

theorem CAfter.refl {w : World} {c : Nat} {L : List W2} (h : IsC w c L) : CAfter w w c L := ⟨h, fun k hk => .inl hk, Keep.refl _ _⟩

/-- Add, whole: what the reference says. -/
theorem CAdd_any (c : Nat) (L : List W2) (word : ByteArray) (n : Int) (w : World) (h : IsC w c L) (hR : Rising L) (hI : Ints L) (hlen : L.length ≤ 1000000000) (hs : word.size ≤ maxLen) (hn' : n ≤ 9223372036854775807) :
    Calls Try.prog 40 #[.pointer (some ⟨c, 0, none⟩), .string word, .int .i64 n] w fun e w' => e = .returned (.int .i64 (addW L word n).2) ∧ CAfter w w' c (addW L word n).1 := by
  have hc := hI.cnt word
  unfold addW
  by_cases hb : word.size = 0 ∨ n < 1
  · rw [if_pos hb]
    refine (CAdd_bad c word n w hn' (by rw [isEmpty_size]; simpa using hb)).mono ?_
    rintro e w' ⟨rfl, rfl⟩
    exact ⟨rfl, CAfter.refl h⟩
  · rw [if_neg hb]
    have hw : word.toList.isEmpty = false := by rw [isEmpty_size]; simpa using fun e => hb (.inl e)
    have hn : 1 ≤ n := by omega
    cases hsum : addC (cnt L word) n with
    | none =>
      refine (CAdd_over c L word n w h hs hw hn hn' (by omega) hc.2 hsum).mono ?_
      rintro e w' ⟨rfl, rfl⟩
      exact ⟨rfl, CAfter.refl h⟩
    | some sum => exact CAdd_ok c L word n sum w h hR hlen hs hw hn hn' (by omega) hc.2 hsum
end Go.Proofs.Ytcofpmmoijnfiaa
