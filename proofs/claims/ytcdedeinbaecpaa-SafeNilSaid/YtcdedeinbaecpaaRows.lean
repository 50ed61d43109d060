/-
  No cell of these rows narrows 'for every input' (looked for: loops, veiled, ifaces, maps, wideKeys, modest, calm, conditions, laid).
  DERIVED. THE GIVEN ROWS OF THIS SEAT. 5 by the template 'for every input the law returns true; each argument reads behind the call as it read before'; 0 by the template 'total and deterministic' (their statements: YtcdedeinbaecpaaTotals.lean).
  GIVEN WITH THE SEED: the statements are not yours to turn. If you find one false, say at which input.
  Laid BY PROGRAM, IN A SANDBOX (cutbox-rows.mjs): the forced cells as the released guide's own fill.sh prints them over the translation b192cfadcb9a5ffb… (all of the seat's roots in one cut). By AI agents, Wed Nov 11 2026. No macro, syntax, notation, axiom, sorry.
-/
import Derived.Test.YtcdedeinbaecpaaChecked
import GoSem.Claim
import GoSem.ClaimJoined
import GoSem.ClaimMapViews
import Derived.JoinedTies
import Derived.KernelRfl
namespace Go.Proofs.Ytcdedeinbaecpaa
/- THE CELL 'sum', in the pinned program and in every row, IS THE sha256 OF THE DUMP (.gsa) THAT YtcdedeinbaecpaaProg.lean LOADS. Nothing in Lean hashes anything: it is a label: what it is worth is what the hold of that sum in a sandbox is worth. -/
noncomputable def Try.pinned : Pinned := { name := "ytcdedeinbaecpaa", sum := "b192cfadcb9a5ffb1fa6dee9617bd5a139597adbeb8b71eefc277407ad2fb9a9", checked := Try.checked }
namespace Rows
def none {H : Type} : Left H := { results := [], args := [] }

/-- 'ballastlaw09.SafeAgain': WHATEVER THE INPUT: true; the input reads as it did. -/
def safeAgainSpec : ChangeSpec := { name := "safeAgain", fn := fun _ => fun
  | [d1, d2] => { results := [.lit (.bool true)], args := [d1, d2] }
  | _ => none }
def safeAgainRow : OpenClaim := { program := "ytcdedeinbaecpaa", sum := "b192cfadcb9a5ffb1fa6dee9617bd5a139597adbeb8b71eefc277407ad2fb9a9", func := "ballast/ballastlaw09.SafeAgain", spec := "safeAgain", unfollowed := true, recurses := true, apart := false }
def SafeAgainSaid : Prop := safeAgainRow.holds Try.pinned (OpenSpec.ofChange safeAgainSpec)

/-- ITS FALSE NEIGHBOUR: 'it returns false'. Refute it at one input. -/
def safeAgainWrong : ChangeSpec := { name := "safeAgain", fn := fun _ => fun
  | [d1, d2] => { results := [.lit (.bool false)], args := [d1, d2] }
  | _ => none }
def SafeAgainWrongFalsely : Prop := safeAgainRow.holds Try.pinned (OpenSpec.ofChange safeAgainWrong)

/-- 'ballastlaw09.SafePlays': WHATEVER THE INPUT: true; the input reads as it did. -/
def safePlaysSpec : ChangeSpec := { name := "safePlays", fn := fun _ => fun
  | [d] => { results := [.lit (.bool true)], args := [d] }
  | _ => none }
def safePlaysRow : OpenClaim := { program := "ytcdedeinbaecpaa", sum := "b192cfadcb9a5ffb1fa6dee9617bd5a139597adbeb8b71eefc277407ad2fb9a9", func := "ballast/ballastlaw09.SafePlays", spec := "safePlays", unfollowed := true, recurses := true, apart := false }
def SafePlaysSaid : Prop := safePlaysRow.holds Try.pinned (OpenSpec.ofChange safePlaysSpec)

/-- ITS FALSE NEIGHBOUR: 'it returns false'. Refute it at one input. -/
def safePlaysWrong : ChangeSpec := { name := "safePlays", fn := fun _ => fun
  | [d] => { results := [.lit (.bool false)], args := [d] }
  | _ => none }
def SafePlaysWrongFalsely : Prop := safePlaysRow.holds Try.pinned (OpenSpec.ofChange safePlaysWrong)

/-- 'ballastlaw09.SafeStands': WHATEVER THE INPUT: true; the input reads as it did. -/
def safeStandsSpec : ChangeSpec := { name := "safeStands", fn := fun _ => fun
  | [d1, d2] => { results := [.lit (.bool true)], args := [d1, d2] }
  | _ => none }
def safeStandsRow : OpenClaim := { program := "ytcdedeinbaecpaa", sum := "b192cfadcb9a5ffb1fa6dee9617bd5a139597adbeb8b71eefc277407ad2fb9a9", func := "ballast/ballastlaw09.SafeStands", spec := "safeStands", unfollowed := true, recurses := true, apart := false }
def SafeStandsSaid : Prop := safeStandsRow.holds Try.pinned (OpenSpec.ofChange safeStandsSpec)

/-- ITS FALSE NEIGHBOUR: 'it returns false'. Refute it at one input. -/
def safeStandsWrong : ChangeSpec := { name := "safeStands", fn := fun _ => fun
  | [d1, d2] => { results := [.lit (.bool false)], args := [d1, d2] }
  | _ => none }
def SafeStandsWrongFalsely : Prop := safeStandsRow.holds Try.pinned (OpenSpec.ofChange safeStandsWrong)

/-- 'ballastlaw09.SafeNil': WHATEVER THE INPUT: true; the input reads as it did. -/
def safeNilSpec : ChangeSpec := { name := "safeNil", fn := fun _ => fun
  | [d] => { results := [.lit (.bool true)], args := [d] }
  | _ => none }
def safeNilRow : OpenClaim := { program := "ytcdedeinbaecpaa", sum := "b192cfadcb9a5ffb1fa6dee9617bd5a139597adbeb8b71eefc277407ad2fb9a9", func := "ballast/ballastlaw09.SafeNil", spec := "safeNil", unfollowed := true, recurses := true, apart := false }
def SafeNilSaid : Prop := safeNilRow.holds Try.pinned (OpenSpec.ofChange safeNilSpec)

/-- ITS FALSE NEIGHBOUR: 'it returns false'. Refute it at one input. -/
def safeNilWrong : ChangeSpec := { name := "safeNil", fn := fun _ => fun
  | [d] => { results := [.lit (.bool false)], args := [d] }
  | _ => none }
def SafeNilWrongFalsely : Prop := safeNilRow.holds Try.pinned (OpenSpec.ofChange safeNilWrong)

/-- 'ballastlaw09.SafeCalls': WHATEVER THE INPUT: true; the input reads as it did. -/
def safeCallsSpec : ChangeSpec := { name := "safeCalls", fn := fun _ => fun
  | [d1, d2] => { results := [.lit (.bool true)], args := [d1, d2] }
  | _ => none }
def safeCallsRow : OpenClaim := { program := "ytcdedeinbaecpaa", sum := "b192cfadcb9a5ffb1fa6dee9617bd5a139597adbeb8b71eefc277407ad2fb9a9", func := "ballast/ballastlaw09.SafeCalls", spec := "safeCalls", unfollowed := true, recurses := true, apart := false }
def SafeCallsSaid : Prop := safeCallsRow.holds Try.pinned (OpenSpec.ofChange safeCallsSpec)

/-- ITS FALSE NEIGHBOUR: 'it returns false'. Refute it at one input. -/
def safeCallsWrong : ChangeSpec := { name := "safeCalls", fn := fun _ => fun
  | [d1, d2] => { results := [.lit (.bool false)], args := [d1, d2] }
  | _ => none }
def SafeCallsWrongFalsely : Prop := safeCallsRow.holds Try.pinned (OpenSpec.ofChange safeCallsWrong)

/- THE SECOND FORM. 'bulk': how many values and letters a reading holds, each counted each time it is reached (what is shared counts as often as it is met; a slice's spare places count too). A statement '..UptoSaid' is the law's where the arguments, and the package variables that the reading takes, are together of bulk at most 1048576: NARROWER than '..Said'. Prove '..Said' where nothing that the law and all that it calls make is longer than what came in: it says more and counts as full. Else prove '..UptoSaid'. A law counts once. -/
mutual
def uptoBulk {H : Type} : DataW H → Nat
  | .lit (.string bytes) => bytes.length + 1
  | .lit _ => 1
  | .nil => 1
  | .ptr d => uptoBulk d + 1
  | .slice elems spare => uptoBulkAll elems + uptoBulkAll spare + 1
  | .agg parts => uptoBulkAll parts + 1
  | .iface _ d => uptoBulk d + 1
  | .map entries => uptoBulkEntries entries + 1
  | .held _ => 1
def uptoBulkAll {H : Type} : List (DataW H) → Nat
  | [] => 0
  | d :: r => uptoBulk d + uptoBulkAll r
def uptoBulkEntries {H : Type} : List (Lit × DataW H) → Nat
  | [] => 0
  | x :: r => uptoBulkEntry x + uptoBulkEntries r
def uptoBulkEntry {H : Type} : Lit × DataW H → Nat
  | (.string bytes, d) => bytes.length + uptoBulk d + 1
  | (_, d) => uptoBulk d + 1
 end
def uptoSmall : (H : Type) → List (DataW H) → Bool := fun _ ds => decide (uptoBulkAll ds ≤ 1048576)
def OpenSpec.upto (s : _root_.Go.ChangeSpec) : _root_.Go.OpenSpec := { _root_.Go.OpenSpec.ofChange s with cond := some uptoSmall }

/-- 'ballastlaw09.SafeAgain', WHERE WHAT IT READS IS OF BULK AT MOST 1048576: true; the input reads as it did. -/
def safeAgainUptoRow : OpenClaim := { program := "ytcdedeinbaecpaa", sum := "b192cfadcb9a5ffb1fa6dee9617bd5a139597adbeb8b71eefc277407ad2fb9a9", func := "ballast/ballastlaw09.SafeAgain", spec := "safeAgain", unfollowed := true, recurses := true, apart := false, narrowed := true }
def SafeAgainUptoSaid : Prop := safeAgainUptoRow.holds Try.pinned (OpenSpec.upto safeAgainSpec)

/-- 'ballastlaw09.SafePlays', WHERE WHAT IT READS IS OF BULK AT MOST 1048576: true; the input reads as it did. -/
def safePlaysUptoRow : OpenClaim := { program := "ytcdedeinbaecpaa", sum := "b192cfadcb9a5ffb1fa6dee9617bd5a139597adbeb8b71eefc277407ad2fb9a9", func := "ballast/ballastlaw09.SafePlays", spec := "safePlays", unfollowed := true, recurses := true, apart := false, narrowed := true }
def SafePlaysUptoSaid : Prop := safePlaysUptoRow.holds Try.pinned (OpenSpec.upto safePlaysSpec)

/-- 'ballastlaw09.SafeStands', WHERE WHAT IT READS IS OF BULK AT MOST 1048576: true; the input reads as it did. -/
def safeStandsUptoRow : OpenClaim := { program := "ytcdedeinbaecpaa", sum := "b192cfadcb9a5ffb1fa6dee9617bd5a139597adbeb8b71eefc277407ad2fb9a9", func := "ballast/ballastlaw09.SafeStands", spec := "safeStands", unfollowed := true, recurses := true, apart := false, narrowed := true }
def SafeStandsUptoSaid : Prop := safeStandsUptoRow.holds Try.pinned (OpenSpec.upto safeStandsSpec)

/-- 'ballastlaw09.SafeNil', WHERE WHAT IT READS IS OF BULK AT MOST 1048576: true; the input reads as it did. -/
def safeNilUptoRow : OpenClaim := { program := "ytcdedeinbaecpaa", sum := "b192cfadcb9a5ffb1fa6dee9617bd5a139597adbeb8b71eefc277407ad2fb9a9", func := "ballast/ballastlaw09.SafeNil", spec := "safeNil", unfollowed := true, recurses := true, apart := false, narrowed := true }
def SafeNilUptoSaid : Prop := safeNilUptoRow.holds Try.pinned (OpenSpec.upto safeNilSpec)

/-- 'ballastlaw09.SafeCalls', WHERE WHAT IT READS IS OF BULK AT MOST 1048576: true; the input reads as it did. -/
def safeCallsUptoRow : OpenClaim := { program := "ytcdedeinbaecpaa", sum := "b192cfadcb9a5ffb1fa6dee9617bd5a139597adbeb8b71eefc277407ad2fb9a9", func := "ballast/ballastlaw09.SafeCalls", spec := "safeCalls", unfollowed := true, recurses := true, apart := false, narrowed := true }
def SafeCallsUptoSaid : Prop := safeCallsUptoRow.holds Try.pinned (OpenSpec.upto safeCallsSpec)

end Rows
end Go.Proofs.Ytcdedeinbaecpaa
