/- The counts of pairs: Add, whole. -/
import Derived.Test.YtcofpmmoijnfiaaD5
namespace Go.Proofs.Ytcofpmmoijnfiaa
open Go.RowKit

set_option maxRecDepth 100000 in
theorem DAdd_bad (c : Nat) (p : P2) (by_ t : Int) (w : World) (ht : t < 0) :
    Calls Try.prog 65 #[.pointer (some ⟨c, 0, none⟩), encPv p, .int .i64 by_, .int .i64 t] w fun e w' => e = .returned (.int .i64 1) ∧ Keep No w w' := by
  unfold encPv
  go_enter Try.func65, Try.ntmps65
  go_wp2
  go_ret
  exact ⟨rfl, (Keep.refl _ _).alloc _⟩

set_option maxRecDepth 100000 in
theorem DAdd_over (c : Nat) (L : PL) (p : P2) (by_ t : Int) (w : World) (h : IsD w c L) (hp : WfP p) (hI : IntsD L)
    (hby : -9223372036854775808 ≤ by_ ∧ by_ ≤ 9223372036854775807) (ht : 0 ≤ t ∧ t ≤ 9223372036854775807) (hs : sumC (cnt L p) by_ t = none) :
    Calls Try.prog 65 #[.pointer (some ⟨c, 0, none⟩), encPv p, .int .i64 by_, .int .i64 t] w fun e w' => e = .returned (.int .i64 5) ∧ Keep No w w' := by
  have hcn := hI.cnt p
  have h103 := fun V => sum_any (cnt L p) by_ t V hcn.1 hcn.2 hby.1 hby.2 (by omega) ht.2
  rw [hs] at h103
  simp only [Option.isSome_none] at h103
  generalize sumV (cnt L p) by_ t = sv at *
  obtain ⟨W, hW⟩ : ∃ W, W = w.alloc (.cells #[.int .i64 p.1, .int .i64 p.2] 41) := ⟨_, rfl⟩
  have hk : Keep No w W := by rw [hW]; exact (Keep.refl No _).alloc _
  have c1 : W.cell? ⟨w.heap.size, 0, none⟩ = some (.int .i64 p.1) := by rw [hW]; exact cell_new (xs := [.int .i64 p.1, .int .i64 p.2]) rfl
  have c2 : W.cell? ⟨w.heap.size, 1, none⟩ = some (.int .i64 p.2) := by rw [hW]; exact cell_new (xs := [.int .i64 p.1, .int .i64 p.2]) rfl
  obtain ⟨mv, hc, hf, hm, hne⟩ := h.keepNo hk
  obtain ⟨mb, rfl⟩ : ∃ mb, mv = .map mb := by rcases hm with ⟨rfl, _⟩ | ⟨b, rfl, _⟩ <;> exact ⟨_, rfl⟩
  have hl : ∀ q, (Instr.lookup 128 (.map mb) (.agg #[.int .i64 p.1, .int .i64 p.2]) false).run Try.prog (W.drewN q) = .ok (.int .i64 (cnt L p)) (W.drewN q) := fun q => (hm.keep ((Keep.refl No W).drewN q) (fun _ _ e => e)).look keyD hp
  unfold encPv
  go_enter Try.func65, Try.ntmps65
  go_wp2
  rw [← hW]
  generalize w.heap.size = n at *
  clear hW h
  go_quiet (first | (go_at_call 103; refine Calls.quiet_of_same ((h103 _).mono fun e w' he => ⟨he.1, he.2.symm⟩)))
  go_wp2
  go_ret
  exact ⟨rfl, hk.drewN _⟩

/-- A Keep that leaves the counts alone. -/
theorem DAfter.ofNo {w w' : World} {c : Nat} {L : PL} (h : IsD w c L) (hk : Keep No w w') : DAfter w w' c L :=
  have h2 := h.keep hk fun _ _ e => e
  ⟨h2.1, fun k hf => .inl (h2.2 k hf), hk.ofNo⟩

theorem DAdd_any (c : Nat) (L : PL) (p : P2) (by_ t : Int) (w : World) (h : IsD w c L) (hp : WfP p) (hR : RisingG ltP L) (hI : IntsD L) (hlen : L.length ≤ 1000000000)
    (hby : -9223372036854775808 ≤ by_ ∧ by_ ≤ 9223372036854775807) (ht : -9223372036854775808 ≤ t ∧ t ≤ 9223372036854775807) :
    Calls Try.prog 65 #[.pointer (some ⟨c, 0, none⟩), encPv p, .int .i64 by_, .int .i64 t] w fun e w' => e = .returned (.int .i64 (addD L p by_ t).2) ∧ DAfter w w' c (addD L p by_ t).1 := by
  unfold addD
  by_cases ht0 : t < 0
  · rw [if_pos ht0]
    refine (DAdd_bad c p by_ t w ht0).mono ?_
    rintro e w' ⟨rfl, hk⟩
    exact ⟨rfl, DAfter.ofNo h hk⟩
  · rw [if_neg ht0]
    cases hs : sumC (cnt L p) by_ t with
    | none =>
      refine (DAdd_over c L p by_ t w h hp hI hby ⟨by omega, ht.2⟩ hs).mono ?_
      rintro e w' ⟨rfl, hk⟩
      exact ⟨rfl, DAfter.ofNo h hk⟩
    | some s =>
      have hlt := h.lt
      obtain ⟨mv, hc, hf, hm, hne⟩ := h
      rcases hm with ⟨rfl, rfl⟩ | ⟨b, rfl, hm⟩
      · refine (DAdd_none c p by_ t s w hc hf hp hby ⟨by omega, ht.2⟩ hs).mono ?_
        rintro e w' ⟨rfl, ⟨b, hb, hc2, hf2, hm2⟩, hk⟩
        refine ⟨rfl, ⟨⟨_, hc2, hf2, .inr ⟨b, rfl, hm2⟩, fun b' e => by cases e; omega⟩, ?_, hk.mono fun j e => .inl e⟩⟩
        rintro k (rfl | hk2)
        · exact .inl (.inl rfl)
        · rw [hc2] at hk2; cases hk2; exact .inr hb
      · refine (DAdd_some c b L p by_ t s w hc hf hm (hne b rfl) hp hR hI hlen hby ⟨by omega, ht.2⟩ hs).mono ?_
        rintro e w' ⟨rfl, hm2, hk⟩
        have hbc := hne b rfl
        have hc2 := hk.cell (fun e => hbc e.symm) hc
        refine ⟨rfl, ⟨⟨_, hc2, by rw [hk.frozen (fun e => hbc e.symm) hlt]; exact hf, .inr ⟨b, rfl, hm2⟩, fun b' e => by cases e; exact hbc⟩, ?_, hk.mono fun j e => .inr (by rw [e]; exact hc)⟩⟩
        rintro k (rfl | hk2)
        · exact .inl (.inl rfl)
        · rw [hc2] at hk2; cases hk2; exact .inl (.inr hc)

theorem addD_rising {L : PL} (h : RisingG ltP L) (p : P2) (b t : Int) : RisingG ltP (addD L p b t).1 := by
  unfold addD
  split
  · exact h
  · split
    · exact h
    · exact setG_rising ordP h _ _
theorem addD_ints {L : PL} (h : IntsD L) (p : P2) (b t : Int) : IntsD (addD L p b t).1 := by
  unfold addD
  split
  · exact h
  · split
    · exact h
    · rename_i s hs
      intro q hq
      rcases setG_mem ordP hq with ⟨rfl, hn⟩ | hq
      · have := sumC_bd (h.cnt p).2 hs
        dsimp only
        omega
      · exact h q hq
theorem addD_length {L : PL} (h : RisingG ltP L) (p : P2) (b t : Int) : (addD L p b t).1.length ≤ L.length + 1 := by
  unfold addD
  split
  · simp
  · split
    · simp
    · exact setG_length ordP h _ _
theorem addD_wf {L : PL} (h : ∀ x ∈ L, WfP x.1) {p : P2} (hp : WfP p) (b t : Int) : ∀ x ∈ (addD L p b t).1, WfP x.1 := by
  unfold addD
  split
  · exact h
  · split
    · exact h
    · intro q hq
      rcases setG_mem ordP hq with ⟨rfl, hn⟩ | hq
      · exact hp
      · exact h q hq

/-- Seen from a world in which the counts were not: nothing that lay there has turned. -/
theorem DAfter.own {w0 a b : World} {c : Nat} {L : PL} (h : DAfter a b c L) (hk : Keep No w0 a) (hB : ∀ k, footC a c k → w0.heap.size ≤ k) : Keep No w0 b ∧ ∀ k, footC b c k → w0.heap.size ≤ k := by
  refine ⟨hk.trans h.keep fun j hj hf => ?_, fun k hf => ?_⟩
  · have := hB j hf; omega
  · rcases h.foot k hf with h1 | h1
    · exact hB k h1
    · exact Nat.le_trans hk.size h1
end Go.Proofs.Ytcofpmmoijnfiaa
