/- The statement DeltaNoneSaid, whole: for every input the law returns true and its arguments read as they did. It rests on the walk DeltaNone_row. -/
import Derived.Test.YtcofpmmoijnfiaaRows
import Derived.Test.YtcofpmmoijnfiaaRd
import Derived.Test.YtcofpmmoijnfiaaL15
import Derived.WalkKit
import Derived.ProofKit
import Derived.OpenShut
import Derived.ShutString
import Derived.ChangeOld
import Derived.Below
import Derived.SizedLaws
namespace Go.Proofs.Ytcofpmmoijnfiaa.deltaNone
open Go.ChangeShapes Go.WideShapes Go.ChangeAt Go.RowKit
open Go.ChangeMaps (open_string shut_string)
theorem own : ownKnob Try.prog.godebug = none := by kernel_rfl
theorem laidOut : laidOutB Try.prog = true := by kernel_rfl
set_option maxRecDepth 100000 in
theorem lifted (os : Os) (started : os.Started) (H : Type) (enc : TypeId × Value → H) :
    ReturnsInHanded {} Try.checked os 15 .any (Rows.deltaNoneSpec.pre6 enc Try.prog Try.f15 Rows.deltaNoneRow.domain false) (Rows.deltaNoneSpec.post enc Try.prog Try.f15 false true false false) := by
  refine returnsInHanded_of_change_sized (C := Try.checked) own started (by kernel_rfl) Try.func15
    (ChangeSpec.witness6 (enc := enc) (C := Try.checked) false ⟨#[], #[.agg #[.int .i64 0, .int .i64 0], .int .u16 0, .int .u16 0], []⟩ 8 (by kernel_rfl) (by kernel_rfl) (by kernel_rfl) (by kernel_rfl)) ?_
  intro W base args ds gs before hval0 hW _hcnd _hsz0 _
  have hval : ∀ (j : Nat) t v, Try.f15.params[j]? = some t → args[j]? = some v → Value.okWide Try.prog W .any base t v := hval0
  have hW' := hW
  obtain ⟨p, q, hA0, hV, rfl, hfz, hnd⟩ := hW
  have hA : DataW.TrodAll enc Try.prog W 0 (fun _ => true) true Try.f15.params.toList args.toList ds p := hA0
  rw [Try.params15] at hA hval
  obtain ⟨v0, vs0, d0, ds0, p0, q0, hargs, rfl, rfl, h0, r0⟩ := trodAll_cons hA
  obtain ⟨v1, vs1, d1, ds1, p1, q1, rfl, rfl, rfl, h1, r1⟩ := trodAll_cons r0
  obtain ⟨v2, vs2, d2, ds2, p2, q2, rfl, rfl, rfl, h2, r2⟩ := trodAll_cons r1
  obtain ⟨rfl, rfl, rfl⟩ := trodAll_nil r2
  obtain rfl : args = #[v0, v1, v2] := by cases args; simp_all
  obtain ⟨rfl, rfl⟩ := trodVars_none hV
  have k0 := h0
  have lt0 := trod_blocks k0
  obtain ⟨x0, rfl, hok0⟩ := read_agg Try.underlying41 (elem2 Try.underlying41 (elemN Try.underlying3) (elemN Try.underlying3) rfl (by kernel_rfl) (by kernel_rfl)) (hval 0 41 v0 rfl rfl) h0
  have k1 := h1
  have lt1 := trod_blocks k1
  obtain ⟨n1, rfl, _, _, wn1⟩ := open_int Try.underlying89 (hval 1 89 v1 rfl rfl) h1
  have k2 := h2
  have lt2 := trod_blocks k2
  obtain ⟨n2, rfl, _, _, wn2⟩ := open_int Try.underlying89 (hval 2 89 v2 rfl rfl) h2
  refine (DeltaNone_row x0 n1 n2 W hok0 wn1 wn2).mono fun e W' ⟨he, hkp⟩ => ?_
  have bel := hkp.toBelow
  subst he
  exact ⟨_, rfl, _, _, _, [], _, [], hW', trodAll_mk1 (shut_bool Try.underlying4 _), (trodAll_cons_mk (Below.trod laidOut (by kernel_rfl) (of_decide_eq_true (by kernel_rfl)) k0 bel lt0) (trodAll_cons_mk (Below.trod laidOut (by kernel_rfl) (of_decide_eq_true (by kernel_rfl)) k1 bel lt1) (trodAll_cons_mk (Below.trod laidOut (by kernel_rfl) (of_decide_eq_true (by kernel_rfl)) k2 bel lt2) trodAll_mk0))), rfl, bel.frame _, fun h => by cases h⟩
theorem over : Rows.deltaNoneRow.holds Try.pinned (OpenSpec.ofChange Rows.deltaNoneSpec) :=
  OpenClaim.holds_of_wide 15 Try.f15 rfl rfl rfl rfl rfl rfl rfl ⟨rfl, rfl, rfl, rfl, rfl⟩ rfl rfl rfl rfl rfl (by kernel_rfl) Try.func15 (by kernel_rfl)
    (of_decide_eq_true (by kernel_rfl)) (by unfold Func.isWrapper; first | (rw [if_pos (by decide +kernel)]; kernel_rfl) | (rw [if_neg (by decide +kernel)]; exact ⟨rfl, rfl⟩))
    (fun os started H enc _ => lifted os started H enc)
theorem proved : Rows.DeltaNoneSaid := over
end Go.Proofs.Ytcofpmmoijnfiaa.deltaNone
namespace Go.Proofs.Ytcofpmmoijnfiaa
/-- The row, under a short name, for the claim. -/
theorem deltaNone_holds : Rows.DeltaNoneSaid := deltaNone.proved
#print axioms deltaNone_holds
end Go.Proofs.Ytcofpmmoijnfiaa

