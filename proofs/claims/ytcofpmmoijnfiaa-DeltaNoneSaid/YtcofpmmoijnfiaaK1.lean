/- slices.Sorted(maps.Keys(m)) over a map with string keys that holds a rising list: the list's texts. -/
import Derived.Test.YtcofpmmoijnfiaaLays
import Derived.Test.YtcofpmmoijnfiaaF2
namespace Go.Proofs
open Go.RowKit Go.Maps Go.Sort Go.Shelf
theorem Try.sorts94 (m : Nat) : AnyZ.SortsIn Try.prog Try.sorted94_ren Fence.wide m :=
  ⟨fun blk off cap ss W hH hblk hsz => callsIn_wide.2 (AnyM.slices_Sort_string Try.sort127 blk off cap ss W hH hblk hsz),
   fun p cap W => callsIn_wide.2 (AnyM.slices_Sort_string_none Try.sort127 p cap W)⟩

theorem Try.maps_Keys_95 (mb : Option Nat) (W : World) : CallsIn Fence.wide 5 Try.prog 95 #[.map mb] W fun e w' => e = .returned (.func (.func 128) #[] #[.pointer (some ⟨W.heap.size, 0, none⟩)]) ∧ w' = W.alloc (.cells #[.map mb] 70) :=
  AnyZ.keys_in Try.keys95 Fence.wide 5 trivial rfl mb W

set_option maxHeartbeats 1000000 in
theorem Try.slices_Sorted_keys_94_95 {H : Type} (b nn : Nat) (D0 : DataW H) (R : Value → Option (DataW H × List MemPlace)) (w : World) (hown : w.ownsMap Try.prog 9 R b nn D0) (hmax : Maps.size D0 ≤ maxLen) (hbytes : Maps.size D0 * 16 ≤ 140737488355328) :
    CallsIn Fence.wide 5 Try.prog 94 #[.func (.func 128) #[] #[.pointer (some ⟨w.heap.size, 0, none⟩)]] (w.alloc (.cells #[.map (some b)] 70)) fun e w' => ∃ (v : Value) (ss : List (List UInt8)), e = .returned v ∧ ss.Perm (strKeys D0) ∧
      w'.ownsRow (w.alloc (.cells #[.map (some b)] 70)).heap.size 9 1 v ss.length ((ss.mergeSort (fun x y => decide (x ≤ y))).map encStr) ∧ (v = .slice none 0 0 ↔ ss = []) ∧ Below (w.alloc (.cells #[.map (some b)] 70)).heap.size (w.alloc (.cells #[.map (some b)] 70)) w' := by
  have hbl := hown.lt
  have hseq : SeqGives Fence.wide 2 Try.prog 128 #[.pointer (some ⟨w.heap.size, 0, none⟩)] encStr (fun ss => ss.Perm (strKeys D0)) (Maps.size D0) (w.alloc (.cells #[.map (some b)] 70)) :=
    AnyZ.keys_gives (ρ := Try.keys95_ren) { Try.keys95 with } Fence.wide _ trivial rfl (by omega) w.heap.size b nn D0 _ (by simp) (by simp) (by
      obtain ⟨es, clock, hb, Ft, hs, hD⟩ := hown
      exact ⟨es, clock, (Below.heap_alloc _ _ b hbl).trans hb, Ft, hs, hD⟩)
  exact AnyZ.sorted_in Try.sorted94 Fence.wide 5 trivial trivial trivial trivial rfl (by omega) (Try.sorts94 _) (enters_of Try.func127 (by kernel_rfl) rfl) 128 #[.pointer (some ⟨w.heap.size, 0, none⟩)] trivial (enters_of Try.func128 (by kernel_rfl) rfl) _ _ hmax hbytes _ hseq

set_option maxHeartbeats 1000000 in
theorem Try.slices_Sorted_keys_nil_94_95 (w : World) :
    CallsIn Fence.wide 5 Try.prog 94 #[.func (.func 128) #[] #[.pointer (some ⟨w.heap.size, 0, none⟩)]] (w.alloc (.cells #[.map none] 70)) fun e w' => ∃ (v : Value) (ss : List (List UInt8)), e = .returned v ∧ ss = [] ∧
      w'.ownsRow (w.alloc (.cells #[.map none] 70)).heap.size 9 1 v ss.length ((ss.mergeSort (fun x y => decide (x ≤ y))).map encStr) ∧ (v = .slice none 0 0 ↔ ss = []) ∧ Below (w.alloc (.cells #[.map none] 70)).heap.size (w.alloc (.cells #[.map none] 70)) w' := by
  have hseq : SeqGives Fence.wide 2 Try.prog 128 #[.pointer (some ⟨w.heap.size, 0, none⟩)] encStr (fun ss : List (List UInt8) => ss = []) 0 (w.alloc (.cells #[.map none] 70)) :=
    AnyZ.keys_gives_nil (ρ := Try.keys95_ren) { Try.keys95 with } Fence.wide _ trivial rfl w.heap.size _ (by simp) (by simp)
  exact AnyZ.sorted_in Try.sorted94 Fence.wide 5 trivial trivial trivial trivial rfl (by omega) (Try.sorts94 _) (enters_of Try.func127 (by kernel_rfl) rfl) 128 #[.pointer (some ⟨w.heap.size, 0, none⟩)] trivial (enters_of Try.func128 (by kernel_rfl) rfl) _ 0 (Nat.zero_le _) (by omega) _ hseq
end Go.Proofs

namespace Go.Proofs.Ytcofpmmoijnfiaa
open Go.RowKit Go.Maps

theorem bl_lt : ∀ x y : List UInt8, Op.bytesLess x y = true → x < y
  | _, [], h => by simp [Op.bytesLess] at h
  | [], _ :: _, _ => List.nil_lt_cons _ _
  | a :: x, b :: y, h => by
    simp only [Op.bytesLess, Bool.or_eq_true, Bool.and_eq_true, decide_eq_true_eq, beq_iff_eq] at h
    rw [List.cons_lt_cons_iff]
    rcases h with h | ⟨rfl, h⟩
    · exact .inl h
    · exact .inr ⟨rfl, bl_lt x y h⟩

theorem keys_perm {w : World} {b : Nat} {L : List W2} {D : DataW Unit} {n : Nat} (hown : w.ownsMap Try.prog 9 (plainElem Try.prog 3) b n D) (hr : MRel klS WfS D L) (hR : Rising L) : (L.map fun p => p.1.data.toList).Perm (strKeys D) := by
  obtain ⟨es, rfl, hko⟩ := hown.keysOf
  obtain ⟨es', he, hne⟩ := hown.tidy keyS.keyed
  cases he
  have hK : ∀ p ∈ es, ∃ x : ByteArray, WfS x ∧ p.1 = .string x.data.toList := by
    intro p hp
    obtain ⟨v, hv⟩ := hko p hp
    obtain ⟨s, h1, _, h3⟩ := string_whole Try.underlying9 hv
    exact ⟨s, h1, h3⟩
  refine perm_strKeys hne (fun p hp => let ⟨x, _, h⟩ := hK p hp; ⟨_, h⟩) ?_ fun x => ?_
  · exact List.pairwise_map.2 (hR.imp fun {a b} h e => ltB_ne_of h (ba_ext e))
  · rw [List.mem_map]
    constructor
    · rintro ⟨p, hp, rfl⟩
      have := hr.has p.1 (hr.wf p hp)
      unfold klS at this
      rw [this]
      exact hasK_true_iff.2 ⟨p, hp, rfl⟩
    · intro h
      have h' := h
      rw [Maps.has_eq, List.any_eq_true] at h'
      obtain ⟨p, hp, hs⟩ := h'
      obtain ⟨s, hs1, hs2⟩ := hK p hp
      rw [hs2] at hs
      have hx : s.data.toList = x := by simpa [Lit.sameKey] using hs
      have := hr.has s hs1
      unfold klS at this
      rw [hx, h] at this
      obtain ⟨q, hq, hq2⟩ := hasK_true_iff.1 this.symm
      exact ⟨q, hq, by rw [hq2, hx]⟩

theorem sorted_keys {L : List W2} (hR : Rising L) {ss : List (List UInt8)} (h : ss.Perm (L.map fun p => p.1.data.toList)) : (ss.mergeSort (fun x y => decide (x ≤ y))).map encStr = (L.map Prod.fst).flatMap encS := by
  have e1 := mergeSort_of_perm h
  have e2 : (L.map fun p => p.1.data.toList).mergeSort leB = L.map fun p => p.1.data.toList := by
    refine List.mergeSort_of_pairwise ?_
    refine List.pairwise_map.2 (hR.imp fun {a b} h => ?_)
    simp only [leB, decide_eq_true_eq]
    exact List.le_of_lt (bl_lt _ _ h)
  have e3 : (ss.mergeSort (fun x y => decide (x ≤ y))) = L.map fun p => p.1.data.toList := e1.trans e2
  rw [e3]
  clear e1 e2 e3 h hR
  induction L with
  | nil => rfl
  | cons a L ih => simp only [List.map_cons, List.flatMap_cons, encS, ih]; rfl

/-- slices.Sorted(maps.Keys(m)), the second call: behind the first one's block. -/
theorem SortedKeys (mb : Option Nat) (L : List W2) (w : World) (h : MapS w (.map mb) L) (hR : Rising L) (hlen : L.length ≤ 1000000000) :
    Calls Try.prog 94 #[.func (.func 128) #[] #[.pointer (some ⟨w.heap.size, 0, none⟩)]] (w.alloc (.cells #[.map mb] 70)) fun e w' => ∃ p cap, e = .returned (.slice p L.length cap) ∧ SlAt encS 1 w' p (L.map Prod.fst) ∧ Keep No w w' ∧ ∀ a, p = some a → w.heap.size ≤ a.block := by
  have fin : ∀ (w' : World) (v : Value) (ss : List (List UInt8)), ss.Perm (L.map fun p => p.1.data.toList) → w'.ownsRow (w.alloc (.cells #[.map mb] 70)).heap.size 9 1 v ss.length ((ss.mergeSort (fun x y => decide (x ≤ y))).map encStr) → Below (w.alloc (.cells #[.map mb] 70)).heap.size (w.alloc (.cells #[.map mb] 70)) w' →
      ∃ p cap, Ending.returned v = .returned (.slice p L.length cap) ∧ SlAt encS 1 w' p (L.map Prod.fst) ∧ Keep No w w' ∧ ∀ a, p = some a → w.heap.size ≤ a.block := by
    intro w' v ss hp hrow hb
    rw [sorted_keys hR hp, hp.length_eq, List.length_map, ← List.length_map (f := Prod.fst)] at hrow
    have hlt := hrow.lt
    obtain ⟨p, cap, rfl, hc, hs⟩ := SliceV.of_own encS_length hrow
    rw [List.length_map] at *
    refine ⟨p, cap, rfl, hs, ((Keep.refl No w).alloc _).below hb (by simp), fun a ha => ?_⟩
    have := (hlt a.block (by rw [ha]; rfl)).1
    simp at this
    omega
  rcases h with ⟨e, rfl⟩ | ⟨b, e, D, hown, hr⟩
  · cases e
    refine (callsIn_wide.1 (Try.slices_Sorted_keys_nil_94_95 w)).mono ?_
    rintro e w' ⟨v, ss, rfl, rfl, hrow, _, hb⟩
    exact fin w' v [] (List.Perm.refl _) hrow hb
  · cases e
    refine (callsIn_wide.1 (Try.slices_Sorted_keys_94_95 b _ D _ w hown (by rw [hr.size]; unfold maxLen; omega) (by rw [hr.size]; omega))).mono ?_
    rintro e w' ⟨v, ss, rfl, hp, hrow, _, hb⟩
    exact fin w' v ss (hp.trans (keys_perm hown hr hR).symm) hrow hb
end Go.Proofs.Ytcofpmmoijnfiaa
