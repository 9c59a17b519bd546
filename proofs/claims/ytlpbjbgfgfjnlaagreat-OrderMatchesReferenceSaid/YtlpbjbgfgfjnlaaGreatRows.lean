/-
  No cell of these rows narrows 'for every input' (looked for: loops, veiled, ifaces, maps, wideKeys, modest, calm, conditions, laid).
  DERIVED. THE GIVEN ROWS OF THIS SEAT. 2 by the template 'for every input the law returns true; each argument reads behind the call as it read before'; 0 by the template 'total and deterministic' (their statements: YtlpbjbgfgfjnlaaGreatTotals.lean).
  GIVEN WITH THE SEED: the statements are not yours to turn. If you find one false, say at which input.
  Laid BY PROGRAM, IN A SANDBOX (cutbox-rows.mjs): the forced cells as the released guide's own fill.sh prints them over the translation f8366e5bc180afc4… (all of the seat's roots in one cut). By AI agents, Wed Nov 11 2026. No macro, syntax, notation, axiom, sorry.
-/
import Derived.Test.YtlpbjbgfgfjnlaaGreatChecked
import GoSem.Claim
import GoSem.ClaimJoined
import GoSem.ClaimMapViews
import Derived.JoinedTies
import Derived.KernelRfl
namespace Go.Proofs.YtlpbjbgfgfjnlaaGreat
/- THE CELL 'sum', in the pinned program and in every row, IS THE sha256 OF THE DUMP (.gsa) THAT YtlpbjbgfgfjnlaaGreatProg.lean LOADS. Nothing in Lean hashes anything: it is a label: what it is worth is what the hold of that sum in a sandbox is worth. -/
noncomputable def Tryz.pinned : Pinned := { name := "ytlpbjbgfgfjnlaagreat", sum := "f8366e5bc180afc47da111c7621c80cdd136dfb67ce56fe82d78a48da924a030", checked := Tryz.checked }
namespace Rows
def none {H : Type} : Left H := { results := [], args := [] }

/-- 'eliminantlaw05.OrderMatchesReference': WHATEVER THE INPUT: true; the input reads as it did. -/
def orderMatchesReferenceSpec : ChangeSpec := { name := "orderMatchesReference", fn := fun _ => fun
  | [d1, d2, d3] => { results := [.lit (.bool true)], args := [d1, d2, d3] }
  | _ => none }
def orderMatchesReferenceRow : OpenClaim := { program := "ytlpbjbgfgfjnlaagreat", sum := "f8366e5bc180afc47da111c7621c80cdd136dfb67ce56fe82d78a48da924a030", func := "eliminant/eliminantlaw05.OrderMatchesReference", spec := "orderMatchesReference", unfollowed := true, recurses := true, named := ["math/bits.overflowError"], apart := false }
def OrderMatchesReferenceSaid : Prop := orderMatchesReferenceRow.holds Tryz.pinned (OpenSpec.ofChange orderMatchesReferenceSpec)

/-- ITS FALSE NEIGHBOUR: 'it returns false'. Refute it at one input. -/
def orderMatchesReferenceWrong : ChangeSpec := { name := "orderMatchesReference", fn := fun _ => fun
  | [d1, d2, d3] => { results := [.lit (.bool false)], args := [d1, d2, d3] }
  | _ => none }
def OrderMatchesReferenceWrongFalsely : Prop := orderMatchesReferenceRow.holds Tryz.pinned (OpenSpec.ofChange orderMatchesReferenceWrong)

/-- 'eliminantlaw05.OrderErrors': WHATEVER THE INPUT: true; the input reads as it did. -/
def orderErrorsSpec : ChangeSpec := { name := "orderErrors", fn := fun _ => fun
  | [d1, d2] => { results := [.lit (.bool true)], args := [d1, d2] }
  | _ => none }
def orderErrorsRow : OpenClaim := { program := "ytlpbjbgfgfjnlaagreat", sum := "f8366e5bc180afc47da111c7621c80cdd136dfb67ce56fe82d78a48da924a030", func := "eliminant/eliminantlaw05.OrderErrors", spec := "orderErrors", unfollowed := true, recurses := true, named := ["math/bits.overflowError"], apart := false }
def OrderErrorsSaid : Prop := orderErrorsRow.holds Tryz.pinned (OpenSpec.ofChange orderErrorsSpec)

/-- ITS FALSE NEIGHBOUR: 'it returns false'. Refute it at one input. -/
def orderErrorsWrong : ChangeSpec := { name := "orderErrors", fn := fun _ => fun
  | [d1, d2] => { results := [.lit (.bool false)], args := [d1, d2] }
  | _ => none }
def OrderErrorsWrongFalsely : Prop := orderErrorsRow.holds Tryz.pinned (OpenSpec.ofChange orderErrorsWrong)

/- THE SECOND FORM. 'bulk': how many values and letters a reading holds, each counted each time it is reached (what is shared counts as often as it is met; a slice's spare places count too). A statement '..UptoSaid' is the law's where the arguments, and the package variables that the reading takes, are together of bulk at most 1048576: NARROWER than '..Said'. Prove '..Said' where nothing that the law and all that it calls make is longer than what came in: it says more and counts as full. Else prove '..UptoSaid'. A law counts once. -/
mutual
def uptoBulk {H : Type} : DataW H → Nat
  | .lit (.string bytes) => bytes.length + 1
  | .lit _ => 1
  | .nil => 1
  | .ptr d => uptoBulk d + 1
  | .slice elems spare => uptoBulkAll elems + uptoBulkAll spare + 1
  | .agg parts => uptoBulkAll parts + 1
  | .iface _ d => uptoBulk d + 1
  | .map entries => uptoBulkEntries entries + 1
  | .held _ => 1
def uptoBulkAll {H : Type} : List (DataW H) → Nat
  | [] => 0
  | d :: r => uptoBulk d + uptoBulkAll r
def uptoBulkEntries {H : Type} : List (Lit × DataW H) → Nat
  | [] => 0
  | x :: r => uptoBulkEntry x + uptoBulkEntries r
def uptoBulkEntry {H : Type} : Lit × DataW H → Nat
  | (.string bytes, d) => bytes.length + uptoBulk d + 1
  | (_, d) => uptoBulk d + 1
 end
def uptoSmall : (H : Type) → List (DataW H) → Bool := fun _ ds => decide (uptoBulkAll ds ≤ 1048576)
def OpenSpec.upto (s : _root_.Go.ChangeSpec) : _root_.Go.OpenSpec := { _root_.Go.OpenSpec.ofChange s with cond := some uptoSmall }

/-- 'eliminantlaw05.OrderMatchesReference', WHERE WHAT IT READS IS OF BULK AT MOST 1048576: true; the input reads as it did. -/
def orderMatchesReferenceUptoRow : OpenClaim := { program := "ytlpbjbgfgfjnlaagreat", sum := "f8366e5bc180afc47da111c7621c80cdd136dfb67ce56fe82d78a48da924a030", func := "eliminant/eliminantlaw05.OrderMatchesReference", spec := "orderMatchesReference", unfollowed := true, recurses := true, named := ["math/bits.overflowError"], apart := false, narrowed := true }
def OrderMatchesReferenceUptoSaid : Prop := orderMatchesReferenceUptoRow.holds Tryz.pinned (OpenSpec.upto orderMatchesReferenceSpec)

/-- 'eliminantlaw05.OrderErrors', WHERE WHAT IT READS IS OF BULK AT MOST 1048576: true; the input reads as it did. -/
def orderErrorsUptoRow : OpenClaim := { program := "ytlpbjbgfgfjnlaagreat", sum := "f8366e5bc180afc47da111c7621c80cdd136dfb67ce56fe82d78a48da924a030", func := "eliminant/eliminantlaw05.OrderErrors", spec := "orderErrors", unfollowed := true, recurses := true, named := ["math/bits.overflowError"], apart := false, narrowed := true }
def OrderErrorsUptoSaid : Prop := orderErrorsUptoRow.holds Tryz.pinned (OpenSpec.upto orderErrorsSpec)

end Rows
end Go.Proofs.YtlpbjbgfgfjnlaaGreat
