/-
  No cell of these rows narrows 'for every input' (looked for: loops, veiled, ifaces, maps, wideKeys, modest, calm, conditions, laid).
  DERIVED. THE GIVEN ROWS OF THIS SEAT. 5 by the template 'for every input the law returns true; each argument reads behind the call as it read before'; 0 by the template 'total and deterministic' (their statements: YtpbbngdhljiedaaTotals.lean).
  GIVEN WITH THE SEED: the statements are not yours to turn. If you find one false, say at which input.
  Laid BY PROGRAM, IN A SANDBOX (cutbox-rows.mjs): the forced cells as the released guide's own fill.sh prints them over the translation 8f3e7eb8c86433fe… (all of the seat's roots in one cut). By AI agents, Wed Nov 11 2026. No macro, syntax, notation, axiom, sorry.
-/
import Derived.Test.YtpbbngdhljiedaaChecked
import GoSem.Claim
import GoSem.ClaimJoined
import GoSem.ClaimMapViews
import Derived.JoinedTies
import Derived.KernelRfl
namespace Go.Proofs.Ytpbbngdhljiedaa
/- THE CELL 'sum', in the pinned program and in every row, IS THE sha256 OF THE DUMP (.gsa) THAT YtpbbngdhljiedaaProg.lean LOADS. Nothing in Lean hashes anything: it is a label: what it is worth is what the hold of that sum in a sandbox is worth. -/
noncomputable def Try.pinned : Pinned := { name := "ytpbbngdhljiedaa", sum := "8f3e7eb8c86433feebb575dee692bd7d2a06196bee5f8cda7b645ff6358e3516", checked := Try.checked }
namespace Rows
def none {H : Type} : Left H := { results := [], args := [] }

/-- 'ballastlaw10.GangTogether': WHATEVER THE INPUT: true; the input reads as it did. -/
def gangTogetherSpec : ChangeSpec := { name := "gangTogether", fn := fun _ => fun
  | [d1, d2] => { results := [.lit (.bool true)], args := [d1, d2] }
  | _ => none }
def gangTogetherRow : OpenClaim := { program := "ytpbbngdhljiedaa", sum := "8f3e7eb8c86433feebb575dee692bd7d2a06196bee5f8cda7b645ff6358e3516", func := "ballast/ballastlaw10.GangTogether", spec := "gangTogether", inPlace := ["sync/atomic.AddInt64"], unfollowed := true, recurses := true, apart := false }
def GangTogetherSaid : Prop := gangTogetherRow.holds Try.pinned (OpenSpec.ofChange gangTogetherSpec)

/-- ITS FALSE NEIGHBOUR: 'it returns false'. Refute it at one input. -/
def gangTogetherWrong : ChangeSpec := { name := "gangTogether", fn := fun _ => fun
  | [d1, d2] => { results := [.lit (.bool false)], args := [d1, d2] }
  | _ => none }
def GangTogetherWrongFalsely : Prop := gangTogetherRow.holds Try.pinned (OpenSpec.ofChange gangTogetherWrong)

/-- 'ballastlaw10.GangSplit': WHATEVER THE INPUT: true; the input reads as it did. -/
def gangSplitSpec : ChangeSpec := { name := "gangSplit", fn := fun _ => fun
  | [d1, d2] => { results := [.lit (.bool true)], args := [d1, d2] }
  | _ => none }
def gangSplitRow : OpenClaim := { program := "ytpbbngdhljiedaa", sum := "8f3e7eb8c86433feebb575dee692bd7d2a06196bee5f8cda7b645ff6358e3516", func := "ballast/ballastlaw10.GangSplit", spec := "gangSplit", inPlace := ["sync/atomic.AddInt64"], unfollowed := true, recurses := true, apart := false }
def GangSplitSaid : Prop := gangSplitRow.holds Try.pinned (OpenSpec.ofChange gangSplitSpec)

/-- ITS FALSE NEIGHBOUR: 'it returns false'. Refute it at one input. -/
def gangSplitWrong : ChangeSpec := { name := "gangSplit", fn := fun _ => fun
  | [d1, d2] => { results := [.lit (.bool false)], args := [d1, d2] }
  | _ => none }
def GangSplitWrongFalsely : Prop := gangSplitRow.holds Try.pinned (OpenSpec.ofChange gangSplitWrong)

/-- 'ballastlaw10.GangPlays': WHATEVER THE INPUT: true; the input reads as it did. -/
def gangPlaysSpec : ChangeSpec := { name := "gangPlays", fn := fun _ => fun
  | [d1, d2] => { results := [.lit (.bool true)], args := [d1, d2] }
  | _ => none }
def gangPlaysRow : OpenClaim := { program := "ytpbbngdhljiedaa", sum := "8f3e7eb8c86433feebb575dee692bd7d2a06196bee5f8cda7b645ff6358e3516", func := "ballast/ballastlaw10.GangPlays", spec := "gangPlays", inPlace := ["sync/atomic.AddInt64"], unfollowed := true, recurses := true, apart := false }
def GangPlaysSaid : Prop := gangPlaysRow.holds Try.pinned (OpenSpec.ofChange gangPlaysSpec)

/-- ITS FALSE NEIGHBOUR: 'it returns false'. Refute it at one input. -/
def gangPlaysWrong : ChangeSpec := { name := "gangPlays", fn := fun _ => fun
  | [d1, d2] => { results := [.lit (.bool false)], args := [d1, d2] }
  | _ => none }
def GangPlaysWrongFalsely : Prop := gangPlaysRow.holds Try.pinned (OpenSpec.ofChange gangPlaysWrong)

/-- 'ballastlaw10.GangNil': WHATEVER THE INPUT: true; the input reads as it did. -/
def gangNilSpec : ChangeSpec := { name := "gangNil", fn := fun _ => fun
  | [d] => { results := [.lit (.bool true)], args := [d] }
  | _ => none }
def gangNilRow : OpenClaim := { program := "ytpbbngdhljiedaa", sum := "8f3e7eb8c86433feebb575dee692bd7d2a06196bee5f8cda7b645ff6358e3516", func := "ballast/ballastlaw10.GangNil", spec := "gangNil", inPlace := ["sync/atomic.AddInt64"], unfollowed := true, recurses := true, apart := false }
def GangNilSaid : Prop := gangNilRow.holds Try.pinned (OpenSpec.ofChange gangNilSpec)

/-- ITS FALSE NEIGHBOUR: 'it returns false'. Refute it at one input. -/
def gangNilWrong : ChangeSpec := { name := "gangNil", fn := fun _ => fun
  | [d] => { results := [.lit (.bool false)], args := [d] }
  | _ => none }
def GangNilWrongFalsely : Prop := gangNilRow.holds Try.pinned (OpenSpec.ofChange gangNilWrong)

/-- 'ballastlaw10.GangRounds': WHATEVER THE INPUT: true; the input reads as it did. -/
def gangRoundsSpec : ChangeSpec := { name := "gangRounds", fn := fun _ => fun
  | [d1, d2, d3] => { results := [.lit (.bool true)], args := [d1, d2, d3] }
  | _ => none }
def gangRoundsRow : OpenClaim := { program := "ytpbbngdhljiedaa", sum := "8f3e7eb8c86433feebb575dee692bd7d2a06196bee5f8cda7b645ff6358e3516", func := "ballast/ballastlaw10.GangRounds", spec := "gangRounds", inPlace := ["sync/atomic.AddInt64"], unfollowed := true, recurses := true, apart := false }
def GangRoundsSaid : Prop := gangRoundsRow.holds Try.pinned (OpenSpec.ofChange gangRoundsSpec)

/-- ITS FALSE NEIGHBOUR: 'it returns false'. Refute it at one input. -/
def gangRoundsWrong : ChangeSpec := { name := "gangRounds", fn := fun _ => fun
  | [d1, d2, d3] => { results := [.lit (.bool false)], args := [d1, d2, d3] }
  | _ => none }
def GangRoundsWrongFalsely : Prop := gangRoundsRow.holds Try.pinned (OpenSpec.ofChange gangRoundsWrong)

/- THE SECOND FORM. 'bulk': how many values and letters a reading holds, each counted each time it is reached (what is shared counts as often as it is met; a slice's spare places count too). A statement '..UptoSaid' is the law's where the arguments, and the package variables that the reading takes, are together of bulk at most 1048576: NARROWER than '..Said'. Prove '..Said' where nothing that the law and all that it calls make is longer than what came in: it says more and counts as full. Else prove '..UptoSaid'. A law counts once. -/
mutual
def uptoBulk {H : Type} : DataW H → Nat
  | .lit (.string bytes) => bytes.length + 1
  | .lit _ => 1
  | .nil => 1
  | .ptr d => uptoBulk d + 1
  | .slice elems spare => uptoBulkAll elems + uptoBulkAll spare + 1
  | .agg parts => uptoBulkAll parts + 1
  | .iface _ d => uptoBulk d + 1
  | .map entries => uptoBulkEntries entries + 1
  | .held _ => 1
def uptoBulkAll {H : Type} : List (DataW H) → Nat
  | [] => 0
  | d :: r => uptoBulk d + uptoBulkAll r
def uptoBulkEntries {H : Type} : List (Lit × DataW H) → Nat
  | [] => 0
  | x :: r => uptoBulkEntry x + uptoBulkEntries r
def uptoBulkEntry {H : Type} : Lit × DataW H → Nat
  | (.string bytes, d) => bytes.length + uptoBulk d + 1
  | (_, d) => uptoBulk d + 1
 end
def uptoSmall : (H : Type) → List (DataW H) → Bool := fun _ ds => decide (uptoBulkAll ds ≤ 1048576)
def OpenSpec.upto (s : _root_.Go.ChangeSpec) : _root_.Go.OpenSpec := { _root_.Go.OpenSpec.ofChange s with cond := some uptoSmall }

/-- 'ballastlaw10.GangTogether', WHERE WHAT IT READS IS OF BULK AT MOST 1048576: true; the input reads as it did. -/
def gangTogetherUptoRow : OpenClaim := { program := "ytpbbngdhljiedaa", sum := "8f3e7eb8c86433feebb575dee692bd7d2a06196bee5f8cda7b645ff6358e3516", func := "ballast/ballastlaw10.GangTogether", spec := "gangTogether", inPlace := ["sync/atomic.AddInt64"], unfollowed := true, recurses := true, apart := false, narrowed := true }
def GangTogetherUptoSaid : Prop := gangTogetherUptoRow.holds Try.pinned (OpenSpec.upto gangTogetherSpec)

/-- 'ballastlaw10.GangSplit', WHERE WHAT IT READS IS OF BULK AT MOST 1048576: true; the input reads as it did. -/
def gangSplitUptoRow : OpenClaim := { program := "ytpbbngdhljiedaa", sum := "8f3e7eb8c86433feebb575dee692bd7d2a06196bee5f8cda7b645ff6358e3516", func := "ballast/ballastlaw10.GangSplit", spec := "gangSplit", inPlace := ["sync/atomic.AddInt64"], unfollowed := true, recurses := true, apart := false, narrowed := true }
def GangSplitUptoSaid : Prop := gangSplitUptoRow.holds Try.pinned (OpenSpec.upto gangSplitSpec)

/-- 'ballastlaw10.GangPlays', WHERE WHAT IT READS IS OF BULK AT MOST 1048576: true; the input reads as it did. -/
def gangPlaysUptoRow : OpenClaim := { program := "ytpbbngdhljiedaa", sum := "8f3e7eb8c86433feebb575dee692bd7d2a06196bee5f8cda7b645ff6358e3516", func := "ballast/ballastlaw10.GangPlays", spec := "gangPlays", inPlace := ["sync/atomic.AddInt64"], unfollowed := true, recurses := true, apart := false, narrowed := true }
def GangPlaysUptoSaid : Prop := gangPlaysUptoRow.holds Try.pinned (OpenSpec.upto gangPlaysSpec)

/-- 'ballastlaw10.GangNil', WHERE WHAT IT READS IS OF BULK AT MOST 1048576: true; the input reads as it did. -/
def gangNilUptoRow : OpenClaim := { program := "ytpbbngdhljiedaa", sum := "8f3e7eb8c86433feebb575dee692bd7d2a06196bee5f8cda7b645ff6358e3516", func := "ballast/ballastlaw10.GangNil", spec := "gangNil", inPlace := ["sync/atomic.AddInt64"], unfollowed := true, recurses := true, apart := false, narrowed := true }
def GangNilUptoSaid : Prop := gangNilUptoRow.holds Try.pinned (OpenSpec.upto gangNilSpec)

/-- 'ballastlaw10.GangRounds', WHERE WHAT IT READS IS OF BULK AT MOST 1048576: true; the input reads as it did. -/
def gangRoundsUptoRow : OpenClaim := { program := "ytpbbngdhljiedaa", sum := "8f3e7eb8c86433feebb575dee692bd7d2a06196bee5f8cda7b645ff6358e3516", func := "ballast/ballastlaw10.GangRounds", spec := "gangRounds", inPlace := ["sync/atomic.AddInt64"], unfollowed := true, recurses := true, apart := false, narrowed := true }
def GangRoundsUptoSaid : Prop := gangRoundsUptoRow.holds Try.pinned (OpenSpec.upto gangRoundsSpec)

end Rows
end Go.Proofs.Ytpbbngdhljiedaa
