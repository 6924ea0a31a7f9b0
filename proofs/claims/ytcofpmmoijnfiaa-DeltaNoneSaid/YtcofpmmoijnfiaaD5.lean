/- The counts of pairs: Add. -/
import Derived.Test.YtcofpmmoijnfiaaD4
import Derived.StillTailTactics
namespace Go.Proofs.Ytcofpmmoijnfiaa
open Go.RowKit

theorem ordP : Ord ltP where
  irrefl a := by simp [ltP]
  trans {a b c} h k := by simp [ltP] at *; omega
  total {a b} h := by
    have : a.1 ≠ b.1 ∨ a.2 ≠ b.2 := by
      by_cases e : a.1 = b.1
      · exact .inr fun e2 => h (Prod.ext e e2)
      · exact .inl e
    simp [ltP]
    omega

theorem mapV_at {κ : Type} [DecidableEq κ] {P : Program} {kty : TypeId} {kl : κ → Lit} {Wf : κ → Prop} {w : World} {b : Nat} {L : List (κ × Int)} (h : MapV P kty kl Wf w (.map (some b)) L) : MapAt P kty kl Wf w b L := by
  rcases h with ⟨e, _⟩ | ⟨b', e, h⟩
  · cases e
  · cases e; exact h
def addD (L : PL) (p : P2) (b t : Int) : PL × Int :=
  if t < 0 then (L, 1) else match sumC (cnt L p) b t with | none => (L, 5) | some s => (setG ltP L p s, 0)

structure DAfter (w w' : World) (c : Nat) (L : PL) : Prop where
  is : IsD w' c L
  foot : ∀ k, footC w' c k → footC w c k ∨ w.heap.size ≤ k
  keep : Keep (footC w c) w w'

theorem sumC_bd {n b t s : Int} (hn : n ≤ 9223372036854775807) (h : sumC n b t = some s) : 0 ≤ s ∧ s ≤ 9223372036854775807 := by
  unfold sumC at h
  split at h
  · cases h
  · split at h
    · cases h
    · rename_i d hd
      obtain ⟨-, h0, h1⟩ := mulC_some hd
      split at h
      · split at h
        · cases h; omega
        · cases h
      · unfold addC at h
        split at h
        · cases h; omega
        · cases h
/-- The counts are within int. -/
def IntsD (L : PL) : Prop := ∀ p ∈ L, 0 < p.2 ∧ p.2 ≤ 9223372036854775807
theorem IntsD.cnt {L : PL} (h : IntsD L) (s : P2) : 0 ≤ cnt L s ∧ cnt L s ≤ 9223372036854775807 := by
  unfold Ytcofpmmoijnfiaa.cnt
  split
  · rename_i p hp; have := h p (List.mem_of_find?_eq_some hp); omega
  · omega

set_option maxRecDepth 100000 in
theorem DAdd_some (c b : Nat) (L : PL) (p : P2) (by_ t s : Int) (w : World) (hc : w.cell? ⟨c, 0, none⟩ = some (.map (some b))) (hf : w.frozen? ⟨c, 0, none⟩ = false) (hm : MapAt Try.prog 41 klP WfP w b L) (hne : b ≠ c) (hp : WfP p) (hR : RisingG ltP L) (hI : IntsD L) (hlen : L.length ≤ 1000000000)
    (hby : -9223372036854775808 ≤ by_ ∧ by_ ≤ 9223372036854775807) (ht : 0 ≤ t ∧ t ≤ 9223372036854775807) (hs : sumC (cnt L p) by_ t = some s) :
    Calls Try.prog 65 #[.pointer (some ⟨c, 0, none⟩), encPv p, .int .i64 by_, .int .i64 t] w fun e w' => e = .returned (.int .i64 0) ∧ MapAt Try.prog 41 klP WfP w' b (setG ltP L p s) ∧ Keep (fun j => j = b) w w' := by
  have hcn := hI.cnt p
  have h103 := fun V => sum_any (cnt L p) by_ t V hcn.1 hcn.2 hby.1 hby.2 (by omega) ht.2
  rw [hs] at h103
  rw [sumV_some hs] at h103
  simp only [Option.isSome_some] at h103
  obtain ⟨W, hW⟩ : ∃ W, W = w.alloc (.cells #[.int .i64 p.1, .int .i64 p.2] 41) := ⟨_, rfl⟩
  have hk : Keep No w W := by rw [hW]; exact (Keep.refl No _).alloc _
  have c1 : W.cell? ⟨w.heap.size, 0, none⟩ = some (.int .i64 p.1) := by rw [hW]; exact cell_new (xs := [.int .i64 p.1, .int .i64 p.2]) rfl
  have c2 : W.cell? ⟨w.heap.size, 1, none⟩ = some (.int .i64 p.2) := by rw [hW]; exact cell_new (xs := [.int .i64 p.1, .int .i64 p.2]) rfl
  have hc' := hk.cell (fun e => e) hc
  have hl : ∀ q, (Instr.lookup 128 (.map (some b)) (.agg #[.int .i64 p.1, .int .i64 p.2]) false).run Try.prog (W.drewN q) = .ok (.int .i64 (cnt L p)) (W.drewN q) := fun q => MapV.look (L := L) keyD (.inr ⟨b, rfl, hm.keep (hk.drewN q) (fun e => e)⟩) hp
  have hblt := hm.lt
  unfold encPv
  go_enter Try.func65, Try.ntmps65
  go_wp2
  rw [← hW]
  generalize w.heap.size = n at *
  clear hW
  go_quiet (first | (go_at_call 103; refine Calls.quiet_of_same ((h103 _).mono fun e w' he => ⟨he.1, he.2.symm⟩)))
  have c0' : (W.drewN nq).cell? ⟨c, 0, none⟩ = _ := hc'
  have c1' : (W.drewN nq).cell? ⟨n, 0, none⟩ = _ := c1
  have c2' : (W.drewN nq).cell? ⟨n, 1, none⟩ = _ := c2
  have hk2 : Keep No w (W.drewN nq) := hk.drewN nq
  have hm2 := hm.keep hk2 (fun e => e)
  clear hc' c1 c2 hk hl
  generalize W.drewN nq = W2 at *
  have hnil := fun w' => run_eql_map_nil (P := Try.prog) w' 128 41 3 (some b) Try.underlying128
  go_wp2
  go_still_tail 6, (by kernel_rfl)
  have hm2' : MapAt Try.prog 41 klP WfP W2.drew b L := hm2
  have hsb : 0 ≤ s ∧ s ≤ 9223372036854775807 := sumC_bd hcn.2 hs
  have hsw : (Lit.int .i64 s).wf = true := WalkArith.wf_i64 (by omega)
  have hput := insG_put ordP (k := p) (n := s) hR
  refine wpList_storeM rfl (.tmp 43) (.tmp 44) (.tmp 45) rfl keyD (n := s) rfl hm2' hp rfl rfl hsw (by unfold maxLen; omega) hput ?_
  intro w1 hm1 hk1
  have hkw1 : Keep (fun j => j = b) w w1 := hk2.drew.ofNo.trans' hk1
  have e0 : w1.cell? ⟨c, 0, none⟩ = _ := hk1.cell (fun e => hne e.symm) c0'
  have e1 : w1.cell? ⟨n, 0, none⟩ = _ := hk1.cell (fun e => by omega) c1'
  have e2 : w1.cell? ⟨n, 1, none⟩ = _ := hk1.cell (fun e => by omega) c2'
  clear c0' c1' c2' hm2 hm2' hk1
  cases hs0 : (s == 0)
  · go_wp2
    go_ret
    refine ⟨rfl, ?_, hkw1⟩
    unfold setG
    rw [hs0]
    exact hm1
  · have hs00 : s = 0 := by simpa using hs0
    have hdel := set_zero ordP hR p
    rw [← hs00] at hdel
    have Hs := Lib.hid hs00
    clear hs00
    go_wp2
    go_still_tail 5, (by kernel_rfl)
    refine wpList_dropM rfl (.tmp 51) (.tmp 52) rfl keyD (L := insG ltP p s false L) (.inr ⟨b, rfl, hm1⟩) hp rfl hdel ?_
    intro w3 hm3 hk3
    have hm3' : MapAt Try.prog 41 klP WfP w3 b (setG ltP L p s) := mapV_at hm3
    have hk3' : Keep (fun j => j = b) w1 w3 := (Keep.refl _ w1).drew.trans hk3 fun j _ e => by cases e; rfl
    clear hm3 hk3
    go_wp2
    go_ret
    exact ⟨rfl, hm3', hkw1.trans' hk3'⟩
set_option maxRecDepth 100000 in
theorem DAdd_none (c : Nat) (p : P2) (by_ t s : Int) (w : World) (hc : w.cell? ⟨c, 0, none⟩ = some (.map none)) (hf : w.frozen? ⟨c, 0, none⟩ = false) (hp : WfP p)
    (hby : -9223372036854775808 ≤ by_ ∧ by_ ≤ 9223372036854775807) (ht : 0 ≤ t ∧ t ≤ 9223372036854775807) (hs : sumC 0 by_ t = some s) :
    Calls Try.prog 65 #[.pointer (some ⟨c, 0, none⟩), encPv p, .int .i64 by_, .int .i64 t] w fun e w' => e = .returned (.int .i64 0) ∧ (∃ b, w.heap.size ≤ b ∧ w'.cell? ⟨c, 0, none⟩ = some (.map (some b)) ∧ w'.frozen? ⟨c, 0, none⟩ = false ∧ MapAt Try.prog 41 klP WfP w' b (setG ltP [] p s)) ∧ Keep (fun j => j = c) w w' := by
  have hcl := lt_of_cell hc
  have h103 := fun V => sum_any 0 by_ t V (by omega) (by omega) hby.1 hby.2 (by omega) ht.2
  rw [hs] at h103
  rw [sumV_some hs] at h103
  simp only [Option.isSome_some] at h103
  obtain ⟨W, hW⟩ : ∃ W, W = w.alloc (.cells #[.int .i64 p.1, .int .i64 p.2] 41) := ⟨_, rfl⟩
  have hk : Keep No w W := by rw [hW]; exact (Keep.refl No _).alloc _
  have c1 : W.cell? ⟨w.heap.size, 0, none⟩ = some (.int .i64 p.1) := by rw [hW]; exact cell_new (xs := [.int .i64 p.1, .int .i64 p.2]) rfl
  have c2 : W.cell? ⟨w.heap.size, 1, none⟩ = some (.int .i64 p.2) := by rw [hW]; exact cell_new (xs := [.int .i64 p.1, .int .i64 p.2]) rfl
  have hc' := hk.cell (fun e => e) hc
  have hf' : W.frozen? ⟨c, 0, none⟩ = false := by rw [hk.frozen (fun e => e) hcl]; exact hf
  have hl : ∀ q, (Instr.lookup 128 (.map none) (.agg #[.int .i64 p.1, .int .i64 p.2]) false).run Try.prog (W.drewN q) = .ok (.int .i64 0) (W.drewN q) := fun q => MapV.look (L := []) keyD (.inl ⟨rfl, rfl⟩) hp
  unfold encPv
  go_enter Try.func65, Try.ntmps65
  go_wp2
  rw [← hW]
  generalize w.heap.size = n at *
  clear hW
  go_quiet (first | (go_at_call 103; refine Calls.quiet_of_same ((h103 _).mono fun e w' he => ⟨he.1, he.2.symm⟩)))
  have c0' : (W.drewN nq).cell? ⟨c, 0, none⟩ = _ := hc'
  have c1' : (W.drewN nq).cell? ⟨n, 0, none⟩ = _ := c1
  have c2' : (W.drewN nq).cell? ⟨n, 1, none⟩ = _ := c2
  have hk2 : Keep No w (W.drewN nq) := hk.drewN nq
  have hf2 : (W.drewN nq).frozen? ⟨c, 0, none⟩ = false := hf'
  have hn2 : n < (W.drewN nq).heap.size := lt_of_cell c1'
  have hc2 : c < (W.drewN nq).heap.size := lt_of_cell c0'
  have hcn2 : c < n := hcl
  clear hc' c1 c2 hk hl
  generalize W.drewN nq = W2 at *
  have hnil := fun w' => run_eql_map_nil (P := Try.prog) w' 128 41 3 none Try.underlying128
  obtain ⟨W3, hW3⟩ : ∃ W, W = (W2.setCell ⟨c, 0, none⟩ (.map (some W2.heap.size))).alloc (.map #[] 0) := ⟨_, rfl⟩
  obtain ⟨b, hb⟩ : ∃ b, b = W2.heap.size := ⟨_, rfl⟩
  have hsc : (W2.setCell ⟨c, 0, none⟩ (.map (some W2.heap.size))).heap.size = W2.heap.size := by simp [World.setCell]
  have hm2 : MapAt Try.prog 41 klP WfP W3 b [] := by
    have := MapAt.made keyD (W2.setCell ⟨c, 0, none⟩ (.map (some W2.heap.size)))
    rw [hsc] at this
    rw [hW3, hb]; exact this
  have hkc : Keep (fun j => j = c) W2 W3 := by
    rw [hW3]; exact ((Keep.refl (fun j => j = c) _).setCell (p := ⟨c, 0, none⟩) (fun _ => rfl) _).alloc _
  have hkw2 : Keep (fun j => j = c) w W3 := hk2.ofNo.trans' hkc
  have c0'' : W3.cell? ⟨c, 0, none⟩ = some (.map (some b)) := by
    rw [hW3, hb, Below.cell (w := W2.setCell _ _) ((Below.refl W2.heap.size _).alloc (by rw [hsc]; exact Nat.le_refl _) _) hc2]
    exact World.cell?_setCell_same' _ _ _ (by rw [c0']; rfl)
  have hf3 : W3.frozen? ⟨c, 0, none⟩ = false := by
    rw [hW3, Below.frozen (w := W2.setCell _ _) ((Below.refl W2.heap.size _).alloc (by rw [hsc]; exact Nat.le_refl _) _) hc2, World.frozen?_setCell, hf2]
  have c1'' := hkc.cell (fun e => by omega) c1'
  have c2'' := hkc.cell (fun e => by omega) c2'
  have hmm := @run_makeMap Try.prog
  have HW3 := Lib.hid hW3
  have hbn : n < b := by omega
  have hbw : w.heap.size ≤ b := by rw [hb]; exact hk2.size
  have Hb := Lib.hid hb
  clear hW3 hb hsc
  go_wp2
  rw [← HW3.out, ← Hb.out]
  clear c0' c1' c2' hk2 hf2
  go_still_tail 6, (by kernel_rfl)
  have hm2' : MapAt Try.prog 41 klP WfP W3.drew b [] := hm2
  have hsb : 0 ≤ s ∧ s ≤ 9223372036854775807 := sumC_bd (by omega) hs
  have hsw : (Lit.int .i64 s).wf = true := WalkArith.wf_i64 (by omega)
  have hput := insG_put ordP (k := p) (n := s) (L := []) (List.Pairwise.nil : RisingG ltP [])
  refine wpList_storeM rfl (.tmp 43) (.tmp 44) (.tmp 45) rfl keyD (n := s) rfl hm2' hp rfl rfl hsw (by simp [maxLen]) hput ?_
  intro w1 hm1 hk1
  have hkw1 : Keep (fun j => j = c) w w1 := hkw2.drew.trans hk1 (fun j hj e => by omega)
  have e0 : w1.cell? ⟨c, 0, none⟩ = _ := hk1.cell (fun e => by omega) c0''
  have e1 : w1.cell? ⟨n, 0, none⟩ = _ := hk1.cell (fun e => by omega) c1''
  have e2 : w1.cell? ⟨n, 1, none⟩ = _ := hk1.cell (fun e => by omega) c2''
  have hf4 : w1.frozen? ⟨c, 0, none⟩ = false := by rw [hk1.frozen (fun e => by omega) (lt_of_cell c0'')]; exact hf3
  clear c0'' c1'' c2'' hm2 hm2' hk1
  cases hs0 : (s == 0)
  · go_wp2
    go_ret
    refine ⟨rfl, ⟨b, hbw, e0, hf4, ?_⟩, hkw1⟩
    unfold setG
    rw [hs0]
    exact hm1
  · have hs00 : s = 0 := by simpa using hs0
    have hdel := set_zero ordP (List.Pairwise.nil : RisingG ltP []) p
    rw [← hs00] at hdel
    have Hs := Lib.hid hs00
    clear hs00
    go_wp2
    go_still_tail 5, (by kernel_rfl)
    refine wpList_dropM rfl (.tmp 51) (.tmp 52) rfl keyD (L := insG ltP p s false []) (.inr ⟨b, rfl, hm1⟩) hp rfl hdel ?_
    intro w3 hm3 hk3
    have hm3' : MapAt Try.prog 41 klP WfP w3 b (setG ltP [] p s) := mapV_at hm3
    have hk3' : Keep (fun j => j = b) w1 w3 := (Keep.refl _ w1).drew.trans hk3 fun j _ e => by cases e; rfl
    have f0 := hk3'.cell (fun e => by omega) e0
    have f1 : w3.frozen? ⟨c, 0, none⟩ = false := by rw [hk3'.frozen (fun e => by omega) (lt_of_cell e0)]; exact hf4
    clear hm3 hk3
    go_wp2
    go_ret
    exact ⟨rfl, ⟨b, hbw, f0, f1, hm3'⟩, hkw1.trans hk3' fun j hj e => by omega⟩
end Go.Proofs.Ytcofpmmoijnfiaa
