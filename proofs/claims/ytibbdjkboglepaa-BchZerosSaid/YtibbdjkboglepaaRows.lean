/-
  No cell of these rows narrows 'for every input' (looked for: loops, veiled, ifaces, maps, wideKeys, modest, calm, conditions, laid).
  DERIVED. THE GIVEN ROWS OF THIS SEAT. 6 by the template 'for every input the law returns true; each argument reads behind the call as it read before'; 0 by the template 'total and deterministic' (their statements: YtibbdjkboglepaaTotals.lean).
  GIVEN WITH THE SEED: the statements are not yours to turn. If you find one false, say at which input.
  Laid BY PROGRAM, IN A SANDBOX (cutbox-rows.mjs): the forced cells as the released guide's own fill.sh prints them over the translation c14b4858219d7cf3… (all of the seat's roots in one cut). By AI agents, Wed Nov 11 2026. No macro, syntax, notation, axiom, sorry.
-/
import Derived.Test.YtibbdjkboglepaaChecked
import GoSem.Claim
import GoSem.ClaimJoined
import GoSem.ClaimMapViews
import Derived.JoinedTies
import Derived.KernelRfl
namespace Go.Proofs.Ytibbdjkboglepaa
/- THE CELL 'sum', in the pinned program and in every row, IS THE sha256 OF THE DUMP (.gsa) THAT YtibbdjkboglepaaProg.lean LOADS. Nothing in Lean hashes anything: it is a label: what it is worth is what the hold of that sum in a sandbox is worth. -/
noncomputable def Try.pinned : Pinned := { name := "ytibbdjkboglepaa", sum := "c14b4858219d7cf386ac7f43ea3134370631b0587ab677e5e07305365d3f3960", checked := Try.checked }
namespace Rows
def none {H : Type} : Left H := { results := [], args := [] }

/-- 'codewrightlaw17.BchChecks': WHATEVER THE INPUT: true; the input reads as it did. -/
def bchChecksSpec : ChangeSpec := { name := "bchChecks", fn := fun _ => fun
  | [d1, d2, d3] => { results := [.lit (.bool true)], args := [d1, d2, d3] }
  | _ => none }
def bchChecksRow : OpenClaim := { program := "ytibbdjkboglepaa", sum := "c14b4858219d7cf386ac7f43ea3134370631b0587ab677e5e07305365d3f3960", func := "codewright/codewrightlaw17.BchChecks", spec := "bchChecks", apart := false }
def BchChecksSaid : Prop := bchChecksRow.holds Try.pinned (OpenSpec.ofChange bchChecksSpec)

/-- ITS FALSE NEIGHBOUR: 'it returns false'. Refute it at one input. -/
def bchChecksWrong : ChangeSpec := { name := "bchChecks", fn := fun _ => fun
  | [d1, d2, d3] => { results := [.lit (.bool false)], args := [d1, d2, d3] }
  | _ => none }
def BchChecksWrongFalsely : Prop := bchChecksRow.holds Try.pinned (OpenSpec.ofChange bchChecksWrong)

/-- 'codewrightlaw17.BchBounds': WHATEVER THE INPUT: true; the input reads as it did. -/
def bchBoundsSpec : ChangeSpec := { name := "bchBounds", fn := fun _ => fun
  | [d1, d2] => { results := [.lit (.bool true)], args := [d1, d2] }
  | _ => none }
def bchBoundsRow : OpenClaim := { program := "ytibbdjkboglepaa", sum := "c14b4858219d7cf386ac7f43ea3134370631b0587ab677e5e07305365d3f3960", func := "codewright/codewrightlaw17.BchBounds", spec := "bchBounds", apart := false }
def BchBoundsSaid : Prop := bchBoundsRow.holds Try.pinned (OpenSpec.ofChange bchBoundsSpec)

/-- ITS FALSE NEIGHBOUR: 'it returns false'. Refute it at one input. -/
def bchBoundsWrong : ChangeSpec := { name := "bchBounds", fn := fun _ => fun
  | [d1, d2] => { results := [.lit (.bool false)], args := [d1, d2] }
  | _ => none }
def BchBoundsWrongFalsely : Prop := bchBoundsRow.holds Try.pinned (OpenSpec.ofChange bchBoundsWrong)

/-- 'codewrightlaw17.BchMultiplies': WHATEVER THE INPUT: true; the input reads as it did. -/
def bchMultipliesSpec : ChangeSpec := { name := "bchMultiplies", fn := fun _ => fun
  | [d1, d2, d3, d4] => { results := [.lit (.bool true)], args := [d1, d2, d3, d4] }
  | _ => none }
def bchMultipliesRow : OpenClaim := { program := "ytibbdjkboglepaa", sum := "c14b4858219d7cf386ac7f43ea3134370631b0587ab677e5e07305365d3f3960", func := "codewright/codewrightlaw17.BchMultiplies", spec := "bchMultiplies", apart := false }
def BchMultipliesSaid : Prop := bchMultipliesRow.holds Try.pinned (OpenSpec.ofChange bchMultipliesSpec)

/-- ITS FALSE NEIGHBOUR: 'it returns false'. Refute it at one input. -/
def bchMultipliesWrong : ChangeSpec := { name := "bchMultiplies", fn := fun _ => fun
  | [d1, d2, d3, d4] => { results := [.lit (.bool false)], args := [d1, d2, d3, d4] }
  | _ => none }
def BchMultipliesWrongFalsely : Prop := bchMultipliesRow.holds Try.pinned (OpenSpec.ofChange bchMultipliesWrong)

/-- 'codewrightlaw17.BchRoots': WHATEVER THE INPUT: true; the input reads as it did. -/
def bchRootsSpec : ChangeSpec := { name := "bchRoots", fn := fun _ => fun
  | [d1, d2] => { results := [.lit (.bool true)], args := [d1, d2] }
  | _ => none }
def bchRootsRow : OpenClaim := { program := "ytibbdjkboglepaa", sum := "c14b4858219d7cf386ac7f43ea3134370631b0587ab677e5e07305365d3f3960", func := "codewright/codewrightlaw17.BchRoots", spec := "bchRoots", unfollowed := true, recurses := true, apart := false }
def BchRootsSaid : Prop := bchRootsRow.holds Try.pinned (OpenSpec.ofChange bchRootsSpec)

/-- ITS FALSE NEIGHBOUR: 'it returns false'. Refute it at one input. -/
def bchRootsWrong : ChangeSpec := { name := "bchRoots", fn := fun _ => fun
  | [d1, d2] => { results := [.lit (.bool false)], args := [d1, d2] }
  | _ => none }
def BchRootsWrongFalsely : Prop := bchRootsRow.holds Try.pinned (OpenSpec.ofChange bchRootsWrong)

/-- 'codewrightlaw17.BchClosures': WHATEVER THE INPUT: true; the input reads as it did. -/
def bchClosuresSpec : ChangeSpec := { name := "bchClosures", fn := fun _ => fun
  | [d1, d2, d3] => { results := [.lit (.bool true)], args := [d1, d2, d3] }
  | _ => none }
def bchClosuresRow : OpenClaim := { program := "ytibbdjkboglepaa", sum := "c14b4858219d7cf386ac7f43ea3134370631b0587ab677e5e07305365d3f3960", func := "codewright/codewrightlaw17.BchClosures", spec := "bchClosures", unfollowed := true, recurses := true, apart := false }
def BchClosuresSaid : Prop := bchClosuresRow.holds Try.pinned (OpenSpec.ofChange bchClosuresSpec)

/-- ITS FALSE NEIGHBOUR: 'it returns false'. Refute it at one input. -/
def bchClosuresWrong : ChangeSpec := { name := "bchClosures", fn := fun _ => fun
  | [d1, d2, d3] => { results := [.lit (.bool false)], args := [d1, d2, d3] }
  | _ => none }
def BchClosuresWrongFalsely : Prop := bchClosuresRow.holds Try.pinned (OpenSpec.ofChange bchClosuresWrong)

/-- 'codewrightlaw17.BchZeros': WHATEVER THE INPUT: true; the input reads as it did. -/
def bchZerosSpec : ChangeSpec := { name := "bchZeros", fn := fun _ => fun
  | [d1, d2] => { results := [.lit (.bool true)], args := [d1, d2] }
  | _ => none }
def bchZerosRow : OpenClaim := { program := "ytibbdjkboglepaa", sum := "c14b4858219d7cf386ac7f43ea3134370631b0587ab677e5e07305365d3f3960", func := "codewright/codewrightlaw17.BchZeros", spec := "bchZeros", unfollowed := true, recurses := true, apart := false }
def BchZerosSaid : Prop := bchZerosRow.holds Try.pinned (OpenSpec.ofChange bchZerosSpec)

/-- ITS FALSE NEIGHBOUR: 'it returns false'. Refute it at one input. -/
def bchZerosWrong : ChangeSpec := { name := "bchZeros", fn := fun _ => fun
  | [d1, d2] => { results := [.lit (.bool false)], args := [d1, d2] }
  | _ => none }
def BchZerosWrongFalsely : Prop := bchZerosRow.holds Try.pinned (OpenSpec.ofChange bchZerosWrong)

/- THE SECOND FORM. 'bulk': how many values and letters a reading holds, each counted each time it is reached (what is shared counts as often as it is met; a slice's spare places count too). A statement '..UptoSaid' is the law's where the arguments, and the package variables that the reading takes, are together of bulk at most 1048576: NARROWER than '..Said'. Prove '..Said' where nothing that the law and all that it calls make is longer than what came in: it says more and counts as full. Else prove '..UptoSaid'. A law counts once. -/
mutual
def uptoBulk {H : Type} : DataW H → Nat
  | .lit (.string bytes) => bytes.length + 1
  | .lit _ => 1
  | .nil => 1
  | .ptr d => uptoBulk d + 1
  | .slice elems spare => uptoBulkAll elems + uptoBulkAll spare + 1
  | .agg parts => uptoBulkAll parts + 1
  | .iface _ d => uptoBulk d + 1
  | .map entries => uptoBulkEntries entries + 1
  | .held _ => 1
def uptoBulkAll {H : Type} : List (DataW H) → Nat
  | [] => 0
  | d :: r => uptoBulk d + uptoBulkAll r
def uptoBulkEntries {H : Type} : List (Lit × DataW H) → Nat
  | [] => 0
  | x :: r => uptoBulkEntry x + uptoBulkEntries r
def uptoBulkEntry {H : Type} : Lit × DataW H → Nat
  | (.string bytes, d) => bytes.length + uptoBulk d + 1
  | (_, d) => uptoBulk d + 1
 end
def uptoSmall : (H : Type) → List (DataW H) → Bool := fun _ ds => decide (uptoBulkAll ds ≤ 1048576)
def OpenSpec.upto (s : _root_.Go.ChangeSpec) : _root_.Go.OpenSpec := { _root_.Go.OpenSpec.ofChange s with cond := some uptoSmall }

/-- 'codewrightlaw17.BchChecks', WHERE WHAT IT READS IS OF BULK AT MOST 1048576: true; the input reads as it did. -/
def bchChecksUptoRow : OpenClaim := { program := "ytibbdjkboglepaa", sum := "c14b4858219d7cf386ac7f43ea3134370631b0587ab677e5e07305365d3f3960", func := "codewright/codewrightlaw17.BchChecks", spec := "bchChecks", apart := false, narrowed := true }
def BchChecksUptoSaid : Prop := bchChecksUptoRow.holds Try.pinned (OpenSpec.upto bchChecksSpec)

/-- 'codewrightlaw17.BchBounds', WHERE WHAT IT READS IS OF BULK AT MOST 1048576: true; the input reads as it did. -/
def bchBoundsUptoRow : OpenClaim := { program := "ytibbdjkboglepaa", sum := "c14b4858219d7cf386ac7f43ea3134370631b0587ab677e5e07305365d3f3960", func := "codewright/codewrightlaw17.BchBounds", spec := "bchBounds", apart := false, narrowed := true }
def BchBoundsUptoSaid : Prop := bchBoundsUptoRow.holds Try.pinned (OpenSpec.upto bchBoundsSpec)

/-- 'codewrightlaw17.BchMultiplies', WHERE WHAT IT READS IS OF BULK AT MOST 1048576: true; the input reads as it did. -/
def bchMultipliesUptoRow : OpenClaim := { program := "ytibbdjkboglepaa", sum := "c14b4858219d7cf386ac7f43ea3134370631b0587ab677e5e07305365d3f3960", func := "codewright/codewrightlaw17.BchMultiplies", spec := "bchMultiplies", apart := false, narrowed := true }
def BchMultipliesUptoSaid : Prop := bchMultipliesUptoRow.holds Try.pinned (OpenSpec.upto bchMultipliesSpec)

/-- 'codewrightlaw17.BchRoots', WHERE WHAT IT READS IS OF BULK AT MOST 1048576: true; the input reads as it did. -/
def bchRootsUptoRow : OpenClaim := { program := "ytibbdjkboglepaa", sum := "c14b4858219d7cf386ac7f43ea3134370631b0587ab677e5e07305365d3f3960", func := "codewright/codewrightlaw17.BchRoots", spec := "bchRoots", unfollowed := true, recurses := true, apart := false, narrowed := true }
def BchRootsUptoSaid : Prop := bchRootsUptoRow.holds Try.pinned (OpenSpec.upto bchRootsSpec)

/-- 'codewrightlaw17.BchClosures', WHERE WHAT IT READS IS OF BULK AT MOST 1048576: true; the input reads as it did. -/
def bchClosuresUptoRow : OpenClaim := { program := "ytibbdjkboglepaa", sum := "c14b4858219d7cf386ac7f43ea3134370631b0587ab677e5e07305365d3f3960", func := "codewright/codewrightlaw17.BchClosures", spec := "bchClosures", unfollowed := true, recurses := true, apart := false, narrowed := true }
def BchClosuresUptoSaid : Prop := bchClosuresUptoRow.holds Try.pinned (OpenSpec.upto bchClosuresSpec)

/-- 'codewrightlaw17.BchZeros', WHERE WHAT IT READS IS OF BULK AT MOST 1048576: true; the input reads as it did. -/
def bchZerosUptoRow : OpenClaim := { program := "ytibbdjkboglepaa", sum := "c14b4858219d7cf386ac7f43ea3134370631b0587ab677e5e07305365d3f3960", func := "codewright/codewrightlaw17.BchZeros", spec := "bchZeros", unfollowed := true, recurses := true, apart := false, narrowed := true }
def BchZerosUptoSaid : Prop := bchZerosUptoRow.holds Try.pinned (OpenSpec.upto bchZerosSpec)

end Rows
end Go.Proofs.Ytibbdjkboglepaa
