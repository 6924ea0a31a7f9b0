/-
  No cell of these rows narrows 'for every input' (looked for: loops, veiled, ifaces, maps, wideKeys, modest, calm, conditions, laid).
  DERIVED. THE GIVEN ROWS OF THIS SEAT. 13 by the template 'for every input the law returns true; each argument reads behind the call as it read before'; 0 by the template 'total and deterministic' (their statements: YtcofpmmoijnfiaaTotals.lean).
  GIVEN WITH THE SEED: the statements are not yours to turn. If you find one false, say at which input.
  Laid BY PROGRAM, IN A SANDBOX (cutbox-rows.mjs): the forced cells as the released guide's own fill.sh prints them over the translation 1eb299e01735f9e8… (all of the seat's roots in one cut). By AI agents, Wed Nov 11 2026. No macro, syntax, notation, axiom, sorry.
-/
import Derived.Test.YtcofpmmoijnfiaaChecked
import GoSem.Claim
import GoSem.ClaimJoined
import GoSem.ClaimMapViews
import Derived.JoinedTies
import Derived.KernelRfl
namespace Go.Proofs.Ytcofpmmoijnfiaa
/- THE CELL 'sum', in the pinned program and in every row, IS THE sha256 OF THE DUMP (.gsa) THAT YtcofpmmoijnfiaaProg.lean LOADS. Nothing in Lean hashes anything: it is a label: what it is worth is what the hold of that sum in a sandbox is worth. -/
noncomputable def Try.pinned : Pinned := { name := "ytcofpmmoijnfiaa", sum := "1eb299e01735f9e8607fdf0408d416659b0c0bc597338cd8632ff65892a8446d", checked := Try.checked }
namespace Rows
def none {H : Type} : Left H := { results := [], args := [] }

/-- 'gluepotlaw15.LazyPlays': WHATEVER THE INPUT: true; the input reads as it did. -/
def lazyPlaysSpec : ChangeSpec := { name := "lazyPlays", fn := fun _ => fun
  | [d] => { results := [.lit (.bool true)], args := [d] }
  | _ => none }
def lazyPlaysRow : OpenClaim := { program := "ytcofpmmoijnfiaa", sum := "1eb299e01735f9e8607fdf0408d416659b0c0bc597338cd8632ff65892a8446d", func := "gluepot/gluepotlaw15.LazyPlays", spec := "lazyPlays", unfollowed := true, recurses := true, plainKeys := false, apart := false }
def LazyPlaysSaid : Prop := lazyPlaysRow.holds Try.pinned (OpenSpec.ofChange lazyPlaysSpec)

/-- ITS FALSE NEIGHBOUR: 'it returns false'. Refute it at one input. -/
def lazyPlaysWrong : ChangeSpec := { name := "lazyPlays", fn := fun _ => fun
  | [d] => { results := [.lit (.bool false)], args := [d] }
  | _ => none }
def LazyPlaysWrongFalsely : Prop := lazyPlaysRow.holds Try.pinned (OpenSpec.ofChange lazyPlaysWrong)

/-- 'gluepotlaw10.PairBest': WHATEVER THE INPUT: true; the input reads as it did. -/
def pairBestSpec : ChangeSpec := { name := "pairBest", fn := fun _ => fun
  | [d1, d2] => { results := [.lit (.bool true)], args := [d1, d2] }
  | _ => none }
def pairBestRow : OpenClaim := { program := "ytcofpmmoijnfiaa", sum := "1eb299e01735f9e8607fdf0408d416659b0c0bc597338cd8632ff65892a8446d", func := "gluepot/gluepotlaw10.PairBest", spec := "pairBest", unfollowed := true, recurses := true, plainKeys := false, apart := false }
def PairBestSaid : Prop := pairBestRow.holds Try.pinned (OpenSpec.ofChange pairBestSpec)

/-- ITS FALSE NEIGHBOUR: 'it returns false'. Refute it at one input. -/
def pairBestWrong : ChangeSpec := { name := "pairBest", fn := fun _ => fun
  | [d1, d2] => { results := [.lit (.bool false)], args := [d1, d2] }
  | _ => none }
def PairBestWrongFalsely : Prop := pairBestRow.holds Try.pinned (OpenSpec.ofChange pairBestWrong)

/-- 'gluepotlaw10.PairTells': WHATEVER THE INPUT: true; the input reads as it did. -/
def pairTellsSpec : ChangeSpec := { name := "pairTells", fn := fun _ => fun
  | [d1, d2, d3, d4] => { results := [.lit (.bool true)], args := [d1, d2, d3, d4] }
  | _ => none }
def pairTellsRow : OpenClaim := { program := "ytcofpmmoijnfiaa", sum := "1eb299e01735f9e8607fdf0408d416659b0c0bc597338cd8632ff65892a8446d", func := "gluepot/gluepotlaw10.PairTells", spec := "pairTells", unfollowed := true, recurses := true, plainKeys := false, apart := false }
def PairTellsSaid : Prop := pairTellsRow.holds Try.pinned (OpenSpec.ofChange pairTellsSpec)

/-- ITS FALSE NEIGHBOUR: 'it returns false'. Refute it at one input. -/
def pairTellsWrong : ChangeSpec := { name := "pairTells", fn := fun _ => fun
  | [d1, d2, d3, d4] => { results := [.lit (.bool false)], args := [d1, d2, d3, d4] }
  | _ => none }
def PairTellsWrongFalsely : Prop := pairTellsRow.holds Try.pinned (OpenSpec.ofChange pairTellsWrong)

/-- 'gluepotlaw07.FreqNone': WHATEVER THE INPUT: true; the input reads as it did. -/
def freqNoneSpec : ChangeSpec := { name := "freqNone", fn := fun _ => fun
  | [d] => { results := [.lit (.bool true)], args := [d] }
  | _ => none }
def freqNoneRow : OpenClaim := { program := "ytcofpmmoijnfiaa", sum := "1eb299e01735f9e8607fdf0408d416659b0c0bc597338cd8632ff65892a8446d", func := "gluepot/gluepotlaw07.FreqNone", spec := "freqNone", unfollowed := true, recurses := true, plainKeys := false, apart := false }
def FreqNoneSaid : Prop := freqNoneRow.holds Try.pinned (OpenSpec.ofChange freqNoneSpec)

/-- ITS FALSE NEIGHBOUR: 'it returns false'. Refute it at one input. -/
def freqNoneWrong : ChangeSpec := { name := "freqNone", fn := fun _ => fun
  | [d] => { results := [.lit (.bool false)], args := [d] }
  | _ => none }
def FreqNoneWrongFalsely : Prop := freqNoneRow.holds Try.pinned (OpenSpec.ofChange freqNoneWrong)

/-- 'gluepotlaw11.SeqGone': WHATEVER THE INPUT: true; the input reads as it did. -/
def seqGoneSpec : ChangeSpec := { name := "seqGone", fn := fun _ => fun
  | [d1, d2] => { results := [.lit (.bool true)], args := [d1, d2] }
  | _ => none }
def seqGoneRow : OpenClaim := { program := "ytcofpmmoijnfiaa", sum := "1eb299e01735f9e8607fdf0408d416659b0c0bc597338cd8632ff65892a8446d", func := "gluepot/gluepotlaw11.SeqGone", spec := "seqGone", unfollowed := true, recurses := true, plainKeys := false, apart := false }
def SeqGoneSaid : Prop := seqGoneRow.holds Try.pinned (OpenSpec.ofChange seqGoneSpec)

/-- ITS FALSE NEIGHBOUR: 'it returns false'. Refute it at one input. -/
def seqGoneWrong : ChangeSpec := { name := "seqGone", fn := fun _ => fun
  | [d1, d2] => { results := [.lit (.bool false)], args := [d1, d2] }
  | _ => none }
def SeqGoneWrongFalsely : Prop := seqGoneRow.holds Try.pinned (OpenSpec.ofChange seqGoneWrong)

/-- 'gluepotlaw07.FreqOrder': WHATEVER THE INPUT: true; the input reads as it did. -/
def freqOrderSpec : ChangeSpec := { name := "freqOrder", fn := fun _ => fun
  | [d1, d2, d3] => { results := [.lit (.bool true)], args := [d1, d2, d3] }
  | _ => none }
def freqOrderRow : OpenClaim := { program := "ytcofpmmoijnfiaa", sum := "1eb299e01735f9e8607fdf0408d416659b0c0bc597338cd8632ff65892a8446d", func := "gluepot/gluepotlaw07.FreqOrder", spec := "freqOrder", unfollowed := true, recurses := true, plainKeys := false, apart := false }
def FreqOrderSaid : Prop := freqOrderRow.holds Try.pinned (OpenSpec.ofChange freqOrderSpec)

/-- ITS FALSE NEIGHBOUR: 'it returns false'. Refute it at one input. -/
def freqOrderWrong : ChangeSpec := { name := "freqOrder", fn := fun _ => fun
  | [d1, d2, d3] => { results := [.lit (.bool false)], args := [d1, d2, d3] }
  | _ => none }
def FreqOrderWrongFalsely : Prop := freqOrderRow.holds Try.pinned (OpenSpec.ofChange freqOrderWrong)

/-- 'gluepotlaw07.FreqPlays': WHATEVER THE INPUT: true; the input reads as it did. -/
def freqPlaysSpec : ChangeSpec := { name := "freqPlays", fn := fun _ => fun
  | [d1, d2] => { results := [.lit (.bool true)], args := [d1, d2] }
  | _ => none }
def freqPlaysRow : OpenClaim := { program := "ytcofpmmoijnfiaa", sum := "1eb299e01735f9e8607fdf0408d416659b0c0bc597338cd8632ff65892a8446d", func := "gluepot/gluepotlaw07.FreqPlays", spec := "freqPlays", unfollowed := true, recurses := true, plainKeys := false, apart := false }
def FreqPlaysSaid : Prop := freqPlaysRow.holds Try.pinned (OpenSpec.ofChange freqPlaysSpec)

/-- ITS FALSE NEIGHBOUR: 'it returns false'. Refute it at one input. -/
def freqPlaysWrong : ChangeSpec := { name := "freqPlays", fn := fun _ => fun
  | [d1, d2] => { results := [.lit (.bool false)], args := [d1, d2] }
  | _ => none }
def FreqPlaysWrongFalsely : Prop := freqPlaysRow.holds Try.pinned (OpenSpec.ofChange freqPlaysWrong)

/-- 'gluepotlaw11.SeqMerges': WHATEVER THE INPUT: true; the input reads as it did. -/
def seqMergesSpec : ChangeSpec := { name := "seqMerges", fn := fun _ => fun
  | [d1, d2] => { results := [.lit (.bool true)], args := [d1, d2] }
  | _ => none }
def seqMergesRow : OpenClaim := { program := "ytcofpmmoijnfiaa", sum := "1eb299e01735f9e8607fdf0408d416659b0c0bc597338cd8632ff65892a8446d", func := "gluepot/gluepotlaw11.SeqMerges", spec := "seqMerges", unfollowed := true, recurses := true, plainKeys := false, apart := false }
def SeqMergesSaid : Prop := seqMergesRow.holds Try.pinned (OpenSpec.ofChange seqMergesSpec)

/-- ITS FALSE NEIGHBOUR: 'it returns false'. Refute it at one input. -/
def seqMergesWrong : ChangeSpec := { name := "seqMerges", fn := fun _ => fun
  | [d1, d2] => { results := [.lit (.bool false)], args := [d1, d2] }
  | _ => none }
def SeqMergesWrongFalsely : Prop := seqMergesRow.holds Try.pinned (OpenSpec.ofChange seqMergesWrong)

/-- 'gluepotlaw11.SeqSpells': WHATEVER THE INPUT: true; the input reads as it did. -/
def seqSpellsSpec : ChangeSpec := { name := "seqSpells", fn := fun _ => fun
  | [d1, d2] => { results := [.lit (.bool true)], args := [d1, d2] }
  | _ => none }
def seqSpellsRow : OpenClaim := { program := "ytcofpmmoijnfiaa", sum := "1eb299e01735f9e8607fdf0408d416659b0c0bc597338cd8632ff65892a8446d", func := "gluepot/gluepotlaw11.SeqSpells", spec := "seqSpells", unfollowed := true, recurses := true, plainKeys := false, apart := false }
def SeqSpellsSaid : Prop := seqSpellsRow.holds Try.pinned (OpenSpec.ofChange seqSpellsSpec)

/-- ITS FALSE NEIGHBOUR: 'it returns false'. Refute it at one input. -/
def seqSpellsWrong : ChangeSpec := { name := "seqSpells", fn := fun _ => fun
  | [d1, d2] => { results := [.lit (.bool false)], args := [d1, d2] }
  | _ => none }
def SeqSpellsWrongFalsely : Prop := seqSpellsRow.holds Try.pinned (OpenSpec.ofChange seqSpellsWrong)

/-- 'gluepotlaw11.SeqCounts': WHATEVER THE INPUT: true; the input reads as it did. -/
def seqCountsSpec : ChangeSpec := { name := "seqCounts", fn := fun _ => fun
  | [d1, d2] => { results := [.lit (.bool true)], args := [d1, d2] }
  | _ => none }
def seqCountsRow : OpenClaim := { program := "ytcofpmmoijnfiaa", sum := "1eb299e01735f9e8607fdf0408d416659b0c0bc597338cd8632ff65892a8446d", func := "gluepot/gluepotlaw11.SeqCounts", spec := "seqCounts", unfollowed := true, recurses := true, plainKeys := false, apart := false }
def SeqCountsSaid : Prop := seqCountsRow.holds Try.pinned (OpenSpec.ofChange seqCountsSpec)

/-- ITS FALSE NEIGHBOUR: 'it returns false'. Refute it at one input. -/
def seqCountsWrong : ChangeSpec := { name := "seqCounts", fn := fun _ => fun
  | [d1, d2] => { results := [.lit (.bool false)], args := [d1, d2] }
  | _ => none }
def SeqCountsWrongFalsely : Prop := seqCountsRow.holds Try.pinned (OpenSpec.ofChange seqCountsWrong)

/-- 'gluepotlaw12.DeltaPlays': WHATEVER THE INPUT: true; the input reads as it did. -/
def deltaPlaysSpec : ChangeSpec := { name := "deltaPlays", fn := fun _ => fun
  | [d1, d2] => { results := [.lit (.bool true)], args := [d1, d2] }
  | _ => none }
def deltaPlaysRow : OpenClaim := { program := "ytcofpmmoijnfiaa", sum := "1eb299e01735f9e8607fdf0408d416659b0c0bc597338cd8632ff65892a8446d", func := "gluepot/gluepotlaw12.DeltaPlays", spec := "deltaPlays", unfollowed := true, recurses := true, plainKeys := false, apart := false }
def DeltaPlaysSaid : Prop := deltaPlaysRow.holds Try.pinned (OpenSpec.ofChange deltaPlaysSpec)

/-- ITS FALSE NEIGHBOUR: 'it returns false'. Refute it at one input. -/
def deltaPlaysWrong : ChangeSpec := { name := "deltaPlays", fn := fun _ => fun
  | [d1, d2] => { results := [.lit (.bool false)], args := [d1, d2] }
  | _ => none }
def DeltaPlaysWrongFalsely : Prop := deltaPlaysRow.holds Try.pinned (OpenSpec.ofChange deltaPlaysWrong)

/-- 'gluepotlaw12.DeltaApplies': WHATEVER THE INPUT: true; the input reads as it did. -/
def deltaAppliesSpec : ChangeSpec := { name := "deltaApplies", fn := fun _ => fun
  | [d1, d2, d3] => { results := [.lit (.bool true)], args := [d1, d2, d3] }
  | _ => none }
def deltaAppliesRow : OpenClaim := { program := "ytcofpmmoijnfiaa", sum := "1eb299e01735f9e8607fdf0408d416659b0c0bc597338cd8632ff65892a8446d", func := "gluepot/gluepotlaw12.DeltaApplies", spec := "deltaApplies", unfollowed := true, recurses := true, plainKeys := false, apart := false }
def DeltaAppliesSaid : Prop := deltaAppliesRow.holds Try.pinned (OpenSpec.ofChange deltaAppliesSpec)

/-- ITS FALSE NEIGHBOUR: 'it returns false'. Refute it at one input. -/
def deltaAppliesWrong : ChangeSpec := { name := "deltaApplies", fn := fun _ => fun
  | [d1, d2, d3] => { results := [.lit (.bool false)], args := [d1, d2, d3] }
  | _ => none }
def DeltaAppliesWrongFalsely : Prop := deltaAppliesRow.holds Try.pinned (OpenSpec.ofChange deltaAppliesWrong)

/-- 'gluepotlaw12.DeltaNone': WHATEVER THE INPUT: true; the input reads as it did. -/
def deltaNoneSpec : ChangeSpec := { name := "deltaNone", fn := fun _ => fun
  | [d1, d2, d3] => { results := [.lit (.bool true)], args := [d1, d2, d3] }
  | _ => none }
def deltaNoneRow : OpenClaim := { program := "ytcofpmmoijnfiaa", sum := "1eb299e01735f9e8607fdf0408d416659b0c0bc597338cd8632ff65892a8446d", func := "gluepot/gluepotlaw12.DeltaNone", spec := "deltaNone", unfollowed := true, recurses := true, plainKeys := false, apart := false }
def DeltaNoneSaid : Prop := deltaNoneRow.holds Try.pinned (OpenSpec.ofChange deltaNoneSpec)

/-- ITS FALSE NEIGHBOUR: 'it returns false'. Refute it at one input. -/
def deltaNoneWrong : ChangeSpec := { name := "deltaNone", fn := fun _ => fun
  | [d1, d2, d3] => { results := [.lit (.bool false)], args := [d1, d2, d3] }
  | _ => none }
def DeltaNoneWrongFalsely : Prop := deltaNoneRow.holds Try.pinned (OpenSpec.ofChange deltaNoneWrong)

/- THE SECOND FORM. 'bulk': how many values and letters a reading holds, each counted each time it is reached (what is shared counts as often as it is met; a slice's spare places count too). A statement '..UptoSaid' is the law's where the arguments, and the package variables that the reading takes, are together of bulk at most 1048576: NARROWER than '..Said'. Prove '..Said' where nothing that the law and all that it calls make is longer than what came in: it says more and counts as full. Else prove '..UptoSaid'. A law counts once. -/
mutual
def uptoBulk {H : Type} : DataW H → Nat
  | .lit (.string bytes) => bytes.length + 1
  | .lit _ => 1
  | .nil => 1
  | .ptr d => uptoBulk d + 1
  | .slice elems spare => uptoBulkAll elems + uptoBulkAll spare + 1
  | .agg parts => uptoBulkAll parts + 1
  | .iface _ d => uptoBulk d + 1
  | .map entries => uptoBulkEntries entries + 1
  | .held _ => 1
def uptoBulkAll {H : Type} : List (DataW H) → Nat
  | [] => 0
  | d :: r => uptoBulk d + uptoBulkAll r
def uptoBulkEntries {H : Type} : List (Lit × DataW H) → Nat
  | [] => 0
  | x :: r => uptoBulkEntry x + uptoBulkEntries r
def uptoBulkEntry {H : Type} : Lit × DataW H → Nat
  | (.string bytes, d) => bytes.length + uptoBulk d + 1
  | (_, d) => uptoBulk d + 1
 end
def uptoSmall : (H : Type) → List (DataW H) → Bool := fun _ ds => decide (uptoBulkAll ds ≤ 1048576)
def OpenSpec.upto (s : _root_.Go.ChangeSpec) : _root_.Go.OpenSpec := { _root_.Go.OpenSpec.ofChange s with cond := some uptoSmall }

/-- 'gluepotlaw15.LazyPlays', WHERE WHAT IT READS IS OF BULK AT MOST 1048576: true; the input reads as it did. -/
def lazyPlaysUptoRow : OpenClaim := { program := "ytcofpmmoijnfiaa", sum := "1eb299e01735f9e8607fdf0408d416659b0c0bc597338cd8632ff65892a8446d", func := "gluepot/gluepotlaw15.LazyPlays", spec := "lazyPlays", unfollowed := true, recurses := true, plainKeys := false, apart := false, narrowed := true }
def LazyPlaysUptoSaid : Prop := lazyPlaysUptoRow.holds Try.pinned (OpenSpec.upto lazyPlaysSpec)

/-- 'gluepotlaw10.PairBest', WHERE WHAT IT READS IS OF BULK AT MOST 1048576: true; the input reads as it did. -/
def pairBestUptoRow : OpenClaim := { program := "ytcofpmmoijnfiaa", sum := "1eb299e01735f9e8607fdf0408d416659b0c0bc597338cd8632ff65892a8446d", func := "gluepot/gluepotlaw10.PairBest", spec := "pairBest", unfollowed := true, recurses := true, plainKeys := false, apart := false, narrowed := true }
def PairBestUptoSaid : Prop := pairBestUptoRow.holds Try.pinned (OpenSpec.upto pairBestSpec)

/-- 'gluepotlaw10.PairTells', WHERE WHAT IT READS IS OF BULK AT MOST 1048576: true; the input reads as it did. -/
def pairTellsUptoRow : OpenClaim := { program := "ytcofpmmoijnfiaa", sum := "1eb299e01735f9e8607fdf0408d416659b0c0bc597338cd8632ff65892a8446d", func := "gluepot/gluepotlaw10.PairTells", spec := "pairTells", unfollowed := true, recurses := true, plainKeys := false, apart := false, narrowed := true }
def PairTellsUptoSaid : Prop := pairTellsUptoRow.holds Try.pinned (OpenSpec.upto pairTellsSpec)

/-- 'gluepotlaw07.FreqNone', WHERE WHAT IT READS IS OF BULK AT MOST 1048576: true; the input reads as it did. -/
def freqNoneUptoRow : OpenClaim := { program := "ytcofpmmoijnfiaa", sum := "1eb299e01735f9e8607fdf0408d416659b0c0bc597338cd8632ff65892a8446d", func := "gluepot/gluepotlaw07.FreqNone", spec := "freqNone", unfollowed := true, recurses := true, plainKeys := false, apart := false, narrowed := true }
def FreqNoneUptoSaid : Prop := freqNoneUptoRow.holds Try.pinned (OpenSpec.upto freqNoneSpec)

/-- 'gluepotlaw11.SeqGone', WHERE WHAT IT READS IS OF BULK AT MOST 1048576: true; the input reads as it did. -/
def seqGoneUptoRow : OpenClaim := { program := "ytcofpmmoijnfiaa", sum := "1eb299e01735f9e8607fdf0408d416659b0c0bc597338cd8632ff65892a8446d", func := "gluepot/gluepotlaw11.SeqGone", spec := "seqGone", unfollowed := true, recurses := true, plainKeys := false, apart := false, narrowed := true }
def SeqGoneUptoSaid : Prop := seqGoneUptoRow.holds Try.pinned (OpenSpec.upto seqGoneSpec)

/-- 'gluepotlaw07.FreqOrder', WHERE WHAT IT READS IS OF BULK AT MOST 1048576: true; the input reads as it did. -/
def freqOrderUptoRow : OpenClaim := { program := "ytcofpmmoijnfiaa", sum := "1eb299e01735f9e8607fdf0408d416659b0c0bc597338cd8632ff65892a8446d", func := "gluepot/gluepotlaw07.FreqOrder", spec := "freqOrder", unfollowed := true, recurses := true, plainKeys := false, apart := false, narrowed := true }
def FreqOrderUptoSaid : Prop := freqOrderUptoRow.holds Try.pinned (OpenSpec.upto freqOrderSpec)

/-- 'gluepotlaw07.FreqPlays', WHERE WHAT IT READS IS OF BULK AT MOST 1048576: true; the input reads as it did. -/
def freqPlaysUptoRow : OpenClaim := { program := "ytcofpmmoijnfiaa", sum := "1eb299e01735f9e8607fdf0408d416659b0c0bc597338cd8632ff65892a8446d", func := "gluepot/gluepotlaw07.FreqPlays", spec := "freqPlays", unfollowed := true, recurses := true, plainKeys := false, apart := false, narrowed := true }
def FreqPlaysUptoSaid : Prop := freqPlaysUptoRow.holds Try.pinned (OpenSpec.upto freqPlaysSpec)

/-- 'gluepotlaw11.SeqMerges', WHERE WHAT IT READS IS OF BULK AT MOST 1048576: true; the input reads as it did. -/
def seqMergesUptoRow : OpenClaim := { program := "ytcofpmmoijnfiaa", sum := "1eb299e01735f9e8607fdf0408d416659b0c0bc597338cd8632ff65892a8446d", func := "gluepot/gluepotlaw11.SeqMerges", spec := "seqMerges", unfollowed := true, recurses := true, plainKeys := false, apart := false, narrowed := true }
def SeqMergesUptoSaid : Prop := seqMergesUptoRow.holds Try.pinned (OpenSpec.upto seqMergesSpec)

/-- 'gluepotlaw11.SeqSpells', WHERE WHAT IT READS IS OF BULK AT MOST 1048576: true; the input reads as it did. -/
def seqSpellsUptoRow : OpenClaim := { program := "ytcofpmmoijnfiaa", sum := "1eb299e01735f9e8607fdf0408d416659b0c0bc597338cd8632ff65892a8446d", func := "gluepot/gluepotlaw11.SeqSpells", spec := "seqSpells", unfollowed := true, recurses := true, plainKeys := false, apart := false, narrowed := true }
def SeqSpellsUptoSaid : Prop := seqSpellsUptoRow.holds Try.pinned (OpenSpec.upto seqSpellsSpec)

/-- 'gluepotlaw11.SeqCounts', WHERE WHAT IT READS IS OF BULK AT MOST 1048576: true; the input reads as it did. -/
def seqCountsUptoRow : OpenClaim := { program := "ytcofpmmoijnfiaa", sum := "1eb299e01735f9e8607fdf0408d416659b0c0bc597338cd8632ff65892a8446d", func := "gluepot/gluepotlaw11.SeqCounts", spec := "seqCounts", unfollowed := true, recurses := true, plainKeys := false, apart := false, narrowed := true }
def SeqCountsUptoSaid : Prop := seqCountsUptoRow.holds Try.pinned (OpenSpec.upto seqCountsSpec)

/-- 'gluepotlaw12.DeltaPlays', WHERE WHAT IT READS IS OF BULK AT MOST 1048576: true; the input reads as it did. -/
def deltaPlaysUptoRow : OpenClaim := { program := "ytcofpmmoijnfiaa", sum := "1eb299e01735f9e8607fdf0408d416659b0c0bc597338cd8632ff65892a8446d", func := "gluepot/gluepotlaw12.DeltaPlays", spec := "deltaPlays", unfollowed := true, recurses := true, plainKeys := false, apart := false, narrowed := true }
def DeltaPlaysUptoSaid : Prop := deltaPlaysUptoRow.holds Try.pinned (OpenSpec.upto deltaPlaysSpec)

/-- 'gluepotlaw12.DeltaApplies', WHERE WHAT IT READS IS OF BULK AT MOST 1048576: true; the input reads as it did. -/
def deltaAppliesUptoRow : OpenClaim := { program := "ytcofpmmoijnfiaa", sum := "1eb299e01735f9e8607fdf0408d416659b0c0bc597338cd8632ff65892a8446d", func := "gluepot/gluepotlaw12.DeltaApplies", spec := "deltaApplies", unfollowed := true, recurses := true, plainKeys := false, apart := false, narrowed := true }
def DeltaAppliesUptoSaid : Prop := deltaAppliesUptoRow.holds Try.pinned (OpenSpec.upto deltaAppliesSpec)

/-- 'gluepotlaw12.DeltaNone', WHERE WHAT IT READS IS OF BULK AT MOST 1048576: true; the input reads as it did. -/
def deltaNoneUptoRow : OpenClaim := { program := "ytcofpmmoijnfiaa", sum := "1eb299e01735f9e8607fdf0408d416659b0c0bc597338cd8632ff65892a8446d", func := "gluepot/gluepotlaw12.DeltaNone", spec := "deltaNone", unfollowed := true, recurses := true, plainKeys := false, apart := false, narrowed := true }
def DeltaNoneUptoSaid : Prop := deltaNoneUptoRow.holds Try.pinned (OpenSpec.upto deltaNoneSpec)

end Rows
end Go.Proofs.Ytcofpmmoijnfiaa
