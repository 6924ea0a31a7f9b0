/- Keys that are pairs of numbers (api.Pair): how they read, and their map type. -/
import Derived.Test.YtcofpmmoijnfiaaM
import Derived.DeepKeys4
namespace Go.Proofs.Ytcofpmmoijnfiaa
open Go.RowKit Go.Maps

def encPv (p : P2) : Value := .agg #[.int .i64 p.1, .int .i64 p.2]
def WfP (p : P2) : Prop := (Lit.int .i64 p.1).wf = true ∧ (Lit.int .i64 p.2).wf = true
def klP (p : P2) : Lit := .string (keyBytes [.int .i64 p.1, .int .i64 p.2])

theorem laidOut : laidOutB Try.prog = true := by kernel_rfl
theorem keyType41 : Try.prog.keyType 41 = true := by kernel_rfl
theorem cells41 : Try.prog.cellsOf 41 = 2 := by kernel_rfl
theorem cells3 : Try.prog.cellsOf 3 = 1 := by kernel_rfl
theorem types_pos : ∃ m, Try.prog.types.size = m + 1 := ⟨Try.prog.types.size - 1, by have : 0 < Try.prog.types.size := of_decide_eq_true (by kernel_rfl); omega⟩
theorem law41 : WideMaps.KeyLaw Try.prog 41 := deep_law_laid laidOut (m := 2) (by omega) (of_decide_eq_true (by kernel_rfl)) (by kernel_rfl) (by rw [Try.underlying41])
theorem lits3 (d : Nat) (cs : List Value) (ls : List Lit) : Try.prog.keyLits (d + 1) 3 cs = some ls ↔ ∃ n : Int, cs = [.int .i64 n] ∧ (Lit.int .i64 n).wf = true ∧ ls = [.int .i64 n] := by
  rcases cs with _ | ⟨c, _ | ⟨c2, cs⟩⟩
  · simp [Program.keyLits, Try.underlying3]
  · cases c <;> simp [Program.keyLits, Try.underlying3]
    rename_i q n
    constructor
    · rintro ⟨⟨rfl, hw⟩, rfl⟩; exact ⟨n, ⟨rfl, rfl⟩, hw, rfl⟩
    · rintro ⟨n', ⟨rfl, rfl⟩, hw, rfl⟩; exact ⟨⟨rfl, hw⟩, rfl⟩
  · simp [Program.keyLits, Try.underlying3]

theorem keyOf41 (p : P2) (h : WfP p) : keyOf Try.prog 41 (encPv p) = some (klP p) := by
  obtain ⟨m, hm⟩ := types_pos
  unfold keyOf
  simp only [Try.underlying41]
  rw [if_pos (by simp [keyType41, Value.formed, Try.underlying41, cells41, encPv]), hm]
  unfold Program.keyLits
  simp only [Try.underlying41, encPv, Value.cells]
  rw [if_pos (by rw [cells41]; exact ⟨rfl, by simp⟩)]
  have h0 := (lits3 m [.int .i64 p.1] _).2 ⟨_, rfl, h.1, rfl⟩
  have h1 := (lits3 m [.int .i64 p.2] _).2 ⟨_, rfl, h.2, rfl⟩
  simp [cells3, h0, h1, klP]

theorem whole41 (v : Value) (l : Lit) (h : keyOf Try.prog 41 v = some l) : ∃ k, WfP k ∧ v = encPv k ∧ l = klP k := by
  obtain ⟨m, hm⟩ := types_pos
  have h' := h
  unfold keyOf at h
  simp only [Try.underlying41] at h
  split at h
  · rename_i hf
    simp only [Bool.and_eq_true, keyType41, true_and] at hf
    cases v <;> simp [Value.formed, Try.underlying41] at hf
    rename_i cs
    rw [cells41] at hf
    obtain ⟨l0⟩ := cs
    have hl : ∃ c0 c1, l0 = [c0, c1] := by
      rcases l0 with _ | ⟨c0, _ | ⟨c1, _ | ⟨c2, r⟩⟩⟩
      · simp at hf
      · simp at hf
      · exact ⟨c0, c1, rfl⟩
      · simp at hf
    obtain ⟨c0, c1, rfl⟩ := hl
    rw [hm] at h
    unfold Program.keyLits at h
    simp only [Try.underlying41, Value.cells] at h
    rw [if_pos (by rw [cells41]; exact ⟨rfl, by simp⟩)] at h
    simp [cells3] at h
    cases h0 : Try.prog.keyLits (m + 1) 3 [c0] with
    | none => simp [h0] at h
    | some l0 =>
      cases h1 : Try.prog.keyLits (m + 1) 3 [c1] with
      | none => simp [h0, h1] at h
      | some l1 =>
        simp [h0, h1] at h
        obtain ⟨n0, e0, w0, rfl⟩ := (lits3 m [c0] _).1 h0
        obtain ⟨n1, e1, w1, rfl⟩ := (lits3 m [c1] _).1 h1
        injection e0 with e0 _
        injection e1 with e1 _
        subst e0; subst e1
        refine ⟨(n0, n1), ⟨w0, w1⟩, rfl, ?_⟩
        rw [← h]
        simp [klP]
  · cases h

theorem keyP (t : TypeId) (ht : Try.prog.underlying t = some (.map 41 3)) : KeyT Try.prog t 41 P2 encPv klP WfP where
  keyed := Keyed.of_law law41
  ht := ht
  h3 := Try.underlying3
  zero _ := by kernel_rfl
  key := keyOf41
  inj a b ha hb h := by
    have e := (Keyed.of_law law41).inj (keyOf41 a ha) ((keyOf41 b hb).trans (by rw [h]))
    unfold encPv at e
    cases a; cases b
    simp at e
    simp [e]
  lit k := trivial
  whole := whole41
#check Try.underlying128
#check Try.underlying171
end Go.Proofs.Ytcofpmmoijnfiaa
