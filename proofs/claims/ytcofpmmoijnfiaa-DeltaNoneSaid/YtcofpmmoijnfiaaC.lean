/- ref01.Less: bytes' order. -/
import Derived.Test.YtcofpmmoijnfiaaB
import Derived.Deep.QuietTactic
import Derived.BigQuiet
namespace Go.Proofs.Ytcofpmmoijnfiaa
open Go.RowKit

def ltB (a b : ByteArray) : Bool := Op.bytesLess a.data.toList b.data.toList

theorem drewN_drewN (w : World) (a b : Nat) : (w.drewN a).drewN b = w.drewN (a + b) := by
  unfold World.drewN; simp [Nat.add_assoc]
theorem bytesLess_same (x y z : List UInt8) : Op.bytesLess (x ++ y) (x ++ z) = Op.bytesLess y z := by
  induction x with
  | nil => rfl
  | cons a x ih => simp [Op.bytesLess, ih]

theorem drop_at {a : ByteArray} {k : Nat} (h : k < a.size) : a.data.toList.drop k = a[k] :: a.data.toList.drop (k + 1) := by
  rw [List.drop_eq_getElem_cons (by simpa using h)]; rfl

theorem ltB_at {a b : ByteArray} {k : Nat} (ht : a.data.toList.take k = b.data.toList.take k) : ltB a b = Op.bytesLess (a.data.toList.drop k) (b.data.toList.drop k) := by
  have h := bytesLess_same (b.data.toList.take k) (a.data.toList.drop k) (b.data.toList.drop k)
  rw [List.take_append_drop, ← ht, List.take_append_drop] at h
  exact h

theorem ltB_ne {a b : ByteArray} {k : Nat} (ht : a.data.toList.take k = b.data.toList.take k) (ha : k < a.size) (hb : k < b.size) (hne : (((a[k].toNat : Nat) : Int) != ((b[k].toNat : Nat) : Int)) = true) :
    ltB a b = decide (((a[k].toNat : Nat) : Int) < ((b[k].toNat : Nat) : Int)) := by
  rw [ltB_at ht, drop_at ha, drop_at hb]
  have h : (a[k] == b[k]) = false := by
    rw [beq_eq_false_iff_ne]; intro e; rw [e] at hne; simp at hne
  rw [Op.bytesLess, h]
  simp [UInt8.lt_iff_toNat_lt]

theorem take_eq {a b : ByteArray} {k : Nat} (ht : a.data.toList.take k = b.data.toList.take k) (ha : k < a.size) (hb : k < b.size) (he : (((a[k].toNat : Nat) : Int) != ((b[k].toNat : Nat) : Int)) = false) :
    a.data.toList.take (k + 1) = b.data.toList.take (k + 1) := by
  have h : a[k] = b[k] := by
    rw [bne_eq_false_iff_eq] at he; exact UInt8.toNat_inj.1 (by omega)
  rw [List.take_add_one, List.take_add_one, ht]
  have h1 : a.data.toList[k]? = some a[k] := by rw [List.getElem?_eq_getElem (by simpa using ha)]; rfl
  have h2 : b.data.toList[k]? = some b[k] := by rw [List.getElem?_eq_getElem (by simpa using hb)]; rfl
  rw [h1, h2, h]

theorem ltB_end {a b : ByteArray} {k : Nat} (ht : a.data.toList.take k = b.data.toList.take k) (hka : k ≤ a.size) (hkb : k ≤ b.size) (h : ¬ k < a.size ∨ ¬ k < b.size) : ltB a b = decide ((a.size : Int) < (b.size : Int)) := by
  rw [ltB_at ht]
  by_cases hb : k < b.size
  · have ha : a.data.toList.drop k = [] := by rw [List.drop_eq_nil_iff]; simp; omega
    rw [ha, drop_at hb]
    simp [Op.bytesLess]; omega
  · have hb' : b.data.toList.drop k = [] := by rw [List.drop_eq_nil_iff]; simp; omega
    rw [hb']
    unfold Op.bytesLess
    simp; omega

set_option maxHeartbeats 400000 in
theorem Less_any (a b : ByteArray) (w : World) (ha : a.size ≤ 9223372036854775807) (hb : b.size ≤ 9223372036854775807) :
    Calls Try.prog 92 #[.string a, .string b] w fun e w' => e = .returned (.bool (ltB a b)) ∧ ∃ q, w' = w.drewN q := by
  go_enter Try.func92, Try.ntmps92
  go_wp2
  go_loopw [5] (fun i wr => ∃ k : Nat, k ≤ a.size ∧ k ≤ b.size ∧ i = .int .i64 k ∧ (∃ q, wr = w.drewN q) ∧ a.data.toList.take k = b.data.toList.take k) (fun i _ => a.size - (intOf i).toNat)
  case atStart => exact ⟨0, by omega, by omega, rfl, ⟨0, rfl⟩, rfl⟩
  case round =>
    obtain ⟨k, hka, hkb, rfl, ⟨q, hq⟩, htk⟩ := hrel
    have Hq := Lib.hid hq; clear hq
    have Htk := Lib.hid htk; clear htk
    by_cases hlab : k < a.size ∧ k < b.size
    · obtain ⟨hla, hlb⟩ := hlab
      cases hne : ((a[k].toNat : Nat) : Int) != ((b[k].toNat : Nat) : Int)
      · have Hne := Lib.hid (take_eq Htk.out hla hlb hne)
        go_wp2
        go_quiet (fail)
        go_wp2
        go_roundw
        case rel => exact ⟨k + 1, by omega, by omega, by go_num, ⟨_, by rw [Hq.out]; simp only [drewN_drewN]; rfl⟩, Hne.out⟩
        case measure => simp [intOf]; omega
      · have Hne := Lib.hid (ltB_ne Htk.out hla hlb hne)
        go_wp2
        go_quiet (fail)
        go_wp2
        go_quiet (fail)
        go_wp2
        go_ret
        exact ⟨ret_bool (by rw [Hne.out]; simp), _, by rw [Hq.out]; simp only [drewN_drewN]; rfl⟩
    · have Hend := Lib.hid (ltB_end Htk.out hka hkb (by omega))
      by_cases hla : k < a.size
      all_goals
        go_wp2
        go_ret
        exact ⟨ret_bool (by rw [Hend.out]; simp), q, Hq.out⟩
end Go.Proofs.Ytcofpmmoijnfiaa
