/-
  No cell of these rows narrows 'for every input' (looked for: loops, veiled, ifaces, maps, wideKeys, modest, calm, conditions, laid).
  DERIVED. THE GIVEN ROWS OF THIS SEAT. 5 by the template 'for every input the law returns true; each argument reads behind the call as it read before'; 0 by the template 'total and deterministic' (their statements: YtlpbjbgfgfjnlaaTotals.lean).
  GIVEN WITH THE SEED: the statements are not yours to turn. If you find one false, say at which input.
  Laid BY PROGRAM, IN A SANDBOX (cutbox-rows.mjs): the forced cells as the released guide's own fill.sh prints them over the translation 4bf2fab7a141794f… (all of the seat's roots in one cut). By AI agents, Wed Nov 11 2026. No macro, syntax, notation, axiom, sorry.
-/
import Derived.Test.YtlpbjbgfgfjnlaaChecked
import GoSem.Claim
import GoSem.ClaimJoined
import GoSem.ClaimMapViews
import Derived.JoinedTies
import Derived.KernelRfl
namespace Go.Proofs.Ytlpbjbgfgfjnlaa
/- THE CELL 'sum', in the pinned program and in every row, IS THE sha256 OF THE DUMP (.gsa) THAT YtlpbjbgfgfjnlaaProg.lean LOADS. Nothing in Lean hashes anything: it is a label: what it is worth is what the hold of that sum in a sandbox is worth. -/
noncomputable def Try.pinned : Pinned := { name := "ytlpbjbgfgfjnlaa", sum := "4bf2fab7a141794fefc94dadaa62633c6c1edbbc9b3350bd8fedf7f6ff7aaf81", checked := Try.checked }
namespace Rows
def none {H : Type} : Left H := { results := [], args := [] }

/-- 'eliminantlaw05.OrderSorts': WHATEVER THE INPUT: true; the input reads as it did. -/
def orderSortsSpec : ChangeSpec := { name := "orderSorts", fn := fun _ => fun
  | [d1, d2] => { results := [.lit (.bool true)], args := [d1, d2] }
  | _ => none }
def orderSortsRow : OpenClaim := { program := "ytlpbjbgfgfjnlaa", sum := "4bf2fab7a141794fefc94dadaa62633c6c1edbbc9b3350bd8fedf7f6ff7aaf81", func := "eliminant/eliminantlaw05.OrderSorts", spec := "orderSorts", unfollowed := true, recurses := true, named := ["math/bits.overflowError"], apart := false }
def OrderSortsSaid : Prop := orderSortsRow.holds Try.pinned (OpenSpec.ofChange orderSortsSpec)

/-- ITS FALSE NEIGHBOUR: 'it returns false'. Refute it at one input. -/
def orderSortsWrong : ChangeSpec := { name := "orderSorts", fn := fun _ => fun
  | [d1, d2] => { results := [.lit (.bool false)], args := [d1, d2] }
  | _ => none }
def OrderSortsWrongFalsely : Prop := orderSortsRow.holds Try.pinned (OpenSpec.ofChange orderSortsWrong)

/-- 'eliminantlaw05.OrderNamed': WHATEVER THE INPUT: true; the input reads as it did. -/
def orderNamedSpec : ChangeSpec := { name := "orderNamed", fn := fun _ => fun
  | [d1, d2] => { results := [.lit (.bool true)], args := [d1, d2] }
  | _ => none }
def orderNamedRow : OpenClaim := { program := "ytlpbjbgfgfjnlaa", sum := "4bf2fab7a141794fefc94dadaa62633c6c1edbbc9b3350bd8fedf7f6ff7aaf81", func := "eliminant/eliminantlaw05.OrderNamed", spec := "orderNamed", unfollowed := true, recurses := true, named := ["math/bits.overflowError"], apart := false }
def OrderNamedSaid : Prop := orderNamedRow.holds Try.pinned (OpenSpec.ofChange orderNamedSpec)

/-- ITS FALSE NEIGHBOUR: 'it returns false'. Refute it at one input. -/
def orderNamedWrong : ChangeSpec := { name := "orderNamed", fn := fun _ => fun
  | [d1, d2] => { results := [.lit (.bool false)], args := [d1, d2] }
  | _ => none }
def OrderNamedWrongFalsely : Prop := orderNamedRow.holds Try.pinned (OpenSpec.ofChange orderNamedWrong)

/-- 'eliminantlaw05.OrderEliminates': WHATEVER THE INPUT: true; the input reads as it did. -/
def orderEliminatesSpec : ChangeSpec := { name := "orderEliminates", fn := fun _ => fun
  | [d1, d2, d3] => { results := [.lit (.bool true)], args := [d1, d2, d3] }
  | _ => none }
def orderEliminatesRow : OpenClaim := { program := "ytlpbjbgfgfjnlaa", sum := "4bf2fab7a141794fefc94dadaa62633c6c1edbbc9b3350bd8fedf7f6ff7aaf81", func := "eliminant/eliminantlaw05.OrderEliminates", spec := "orderEliminates", unfollowed := true, recurses := true, named := ["math/bits.overflowError"], apart := false }
def OrderEliminatesSaid : Prop := orderEliminatesRow.holds Try.pinned (OpenSpec.ofChange orderEliminatesSpec)

/-- ITS FALSE NEIGHBOUR: 'it returns false'. Refute it at one input. -/
def orderEliminatesWrong : ChangeSpec := { name := "orderEliminates", fn := fun _ => fun
  | [d1, d2, d3] => { results := [.lit (.bool false)], args := [d1, d2, d3] }
  | _ => none }
def OrderEliminatesWrongFalsely : Prop := orderEliminatesRow.holds Try.pinned (OpenSpec.ofChange orderEliminatesWrong)

/-- 'eliminantlaw05.OrderPermutes': WHATEVER THE INPUT: true; the input reads as it did. -/
def orderPermutesSpec : ChangeSpec := { name := "orderPermutes", fn := fun _ => fun
  | [d1, d2, d3] => { results := [.lit (.bool true)], args := [d1, d2, d3] }
  | _ => none }
def orderPermutesRow : OpenClaim := { program := "ytlpbjbgfgfjnlaa", sum := "4bf2fab7a141794fefc94dadaa62633c6c1edbbc9b3350bd8fedf7f6ff7aaf81", func := "eliminant/eliminantlaw05.OrderPermutes", spec := "orderPermutes", unfollowed := true, recurses := true, named := ["math/bits.overflowError"], apart := false }
def OrderPermutesSaid : Prop := orderPermutesRow.holds Try.pinned (OpenSpec.ofChange orderPermutesSpec)

/-- ITS FALSE NEIGHBOUR: 'it returns false'. Refute it at one input. -/
def orderPermutesWrong : ChangeSpec := { name := "orderPermutes", fn := fun _ => fun
  | [d1, d2, d3] => { results := [.lit (.bool false)], args := [d1, d2, d3] }
  | _ => none }
def OrderPermutesWrongFalsely : Prop := orderPermutesRow.holds Try.pinned (OpenSpec.ofChange orderPermutesWrong)

/-- 'eliminantlaw05.OrderAdmissible': WHATEVER THE INPUT: true; the input reads as it did. -/
def orderAdmissibleSpec : ChangeSpec := { name := "orderAdmissible", fn := fun _ => fun
  | [d1, d2] => { results := [.lit (.bool true)], args := [d1, d2] }
  | _ => none }
def orderAdmissibleRow : OpenClaim := { program := "ytlpbjbgfgfjnlaa", sum := "4bf2fab7a141794fefc94dadaa62633c6c1edbbc9b3350bd8fedf7f6ff7aaf81", func := "eliminant/eliminantlaw05.OrderAdmissible", spec := "orderAdmissible", unfollowed := true, recurses := true, named := ["math/bits.overflowError"], apart := false }
def OrderAdmissibleSaid : Prop := orderAdmissibleRow.holds Try.pinned (OpenSpec.ofChange orderAdmissibleSpec)

/-- ITS FALSE NEIGHBOUR: 'it returns false'. Refute it at one input. -/
def orderAdmissibleWrong : ChangeSpec := { name := "orderAdmissible", fn := fun _ => fun
  | [d1, d2] => { results := [.lit (.bool false)], args := [d1, d2] }
  | _ => none }
def OrderAdmissibleWrongFalsely : Prop := orderAdmissibleRow.holds Try.pinned (OpenSpec.ofChange orderAdmissibleWrong)

/- THE SECOND FORM. 'bulk': how many values and letters a reading holds, each counted each time it is reached (what is shared counts as often as it is met; a slice's spare places count too). A statement '..UptoSaid' is the law's where the arguments, and the package variables that the reading takes, are together of bulk at most 1048576: NARROWER than '..Said'. Prove '..Said' where nothing that the law and all that it calls make is longer than what came in: it says more and counts as full. Else prove '..UptoSaid'. A law counts once. -/
mutual
def uptoBulk {H : Type} : DataW H → Nat
  | .lit (.string bytes) => bytes.length + 1
  | .lit _ => 1
  | .nil => 1
  | .ptr d => uptoBulk d + 1
  | .slice elems spare => uptoBulkAll elems + uptoBulkAll spare + 1
  | .agg parts => uptoBulkAll parts + 1
  | .iface _ d => uptoBulk d + 1
  | .map entries => uptoBulkEntries entries + 1
  | .held _ => 1
def uptoBulkAll {H : Type} : List (DataW H) → Nat
  | [] => 0
  | d :: r => uptoBulk d + uptoBulkAll r
def uptoBulkEntries {H : Type} : List (Lit × DataW H) → Nat
  | [] => 0
  | x :: r => uptoBulkEntry x + uptoBulkEntries r
def uptoBulkEntry {H : Type} : Lit × DataW H → Nat
  | (.string bytes, d) => bytes.length + uptoBulk d + 1
  | (_, d) => uptoBulk d + 1
 end
def uptoSmall : (H : Type) → List (DataW H) → Bool := fun _ ds => decide (uptoBulkAll ds ≤ 1048576)
def OpenSpec.upto (s : _root_.Go.ChangeSpec) : _root_.Go.OpenSpec := { _root_.Go.OpenSpec.ofChange s with cond := some uptoSmall }

/-- 'eliminantlaw05.OrderSorts', WHERE WHAT IT READS IS OF BULK AT MOST 1048576: true; the input reads as it did. -/
def orderSortsUptoRow : OpenClaim := { program := "ytlpbjbgfgfjnlaa", sum := "4bf2fab7a141794fefc94dadaa62633c6c1edbbc9b3350bd8fedf7f6ff7aaf81", func := "eliminant/eliminantlaw05.OrderSorts", spec := "orderSorts", unfollowed := true, recurses := true, named := ["math/bits.overflowError"], apart := false, narrowed := true }
def OrderSortsUptoSaid : Prop := orderSortsUptoRow.holds Try.pinned (OpenSpec.upto orderSortsSpec)

/-- 'eliminantlaw05.OrderNamed', WHERE WHAT IT READS IS OF BULK AT MOST 1048576: true; the input reads as it did. -/
def orderNamedUptoRow : OpenClaim := { program := "ytlpbjbgfgfjnlaa", sum := "4bf2fab7a141794fefc94dadaa62633c6c1edbbc9b3350bd8fedf7f6ff7aaf81", func := "eliminant/eliminantlaw05.OrderNamed", spec := "orderNamed", unfollowed := true, recurses := true, named := ["math/bits.overflowError"], apart := false, narrowed := true }
def OrderNamedUptoSaid : Prop := orderNamedUptoRow.holds Try.pinned (OpenSpec.upto orderNamedSpec)

/-- 'eliminantlaw05.OrderEliminates', WHERE WHAT IT READS IS OF BULK AT MOST 1048576: true; the input reads as it did. -/
def orderEliminatesUptoRow : OpenClaim := { program := "ytlpbjbgfgfjnlaa", sum := "4bf2fab7a141794fefc94dadaa62633c6c1edbbc9b3350bd8fedf7f6ff7aaf81", func := "eliminant/eliminantlaw05.OrderEliminates", spec := "orderEliminates", unfollowed := true, recurses := true, named := ["math/bits.overflowError"], apart := false, narrowed := true }
def OrderEliminatesUptoSaid : Prop := orderEliminatesUptoRow.holds Try.pinned (OpenSpec.upto orderEliminatesSpec)

/-- 'eliminantlaw05.OrderPermutes', WHERE WHAT IT READS IS OF BULK AT MOST 1048576: true; the input reads as it did. -/
def orderPermutesUptoRow : OpenClaim := { program := "ytlpbjbgfgfjnlaa", sum := "4bf2fab7a141794fefc94dadaa62633c6c1edbbc9b3350bd8fedf7f6ff7aaf81", func := "eliminant/eliminantlaw05.OrderPermutes", spec := "orderPermutes", unfollowed := true, recurses := true, named := ["math/bits.overflowError"], apart := false, narrowed := true }
def OrderPermutesUptoSaid : Prop := orderPermutesUptoRow.holds Try.pinned (OpenSpec.upto orderPermutesSpec)

/-- 'eliminantlaw05.OrderAdmissible', WHERE WHAT IT READS IS OF BULK AT MOST 1048576: true; the input reads as it did. -/
def orderAdmissibleUptoRow : OpenClaim := { program := "ytlpbjbgfgfjnlaa", sum := "4bf2fab7a141794fefc94dadaa62633c6c1edbbc9b3350bd8fedf7f6ff7aaf81", func := "eliminant/eliminantlaw05.OrderAdmissible", spec := "orderAdmissible", unfollowed := true, recurses := true, named := ["math/bits.overflowError"], apart := false, narrowed := true }
def OrderAdmissibleUptoSaid : Prop := orderAdmissibleUptoRow.holds Try.pinned (OpenSpec.upto orderAdmissibleSpec)

end Rows
end Go.Proofs.Ytlpbjbgfgfjnlaa
