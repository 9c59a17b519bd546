/- From a run of a law's telling to its row. -/
import Derived.Test.YtlpbjbgfgfjnlaaAvProg
import Derived.Test.YtlpbjbgfgfjnlaaAvOpen
import Derived.Test.YtlpbjbgfgfjnlaaAvSym
import Derived.Test.YtlpbjbgfgfjnlaaRows
import Derived.ProofKit
set_option linter.unusedVariables false
set_option linter.unusedSimpArgs false
namespace Go.AVM
open Go.Proofs Go.ChangeShapes Go.WideShapes Go.ChangeAt Go.RowKit
theorem fzv_true {S : Store} {r : AV} (h : fzv S r = some (.bool true)) : r = .bool true := by
  cases r <;> simp only [fzv, fz1, fzDepth, fzc] at h <;> first | (cases h; rfl) | (cases h; done) | skip
  all_goals
    obtain ⟨_, _, h⟩ := Option.bind_eq_some_iff.1 h
    first
      | cases h
      | (obtain ⟨_, _, h⟩ := Option.bind_eq_some_iff.1 h; cases h)
/-- A call that answers true, and has only laid new blocks. -/
theorem true_call {f : Nat} {args : List AV} {cargs : Array Value} {W : World} (h : callPure (run tab) f args = some (.bool true)) (ha : AsRep fid (fun _ _ => none) (memOf W) args cargs) :
    Calls Try.prog (fid f) cargs W fun e W' => e = .returned (.bool true) ∧ Below W.heap.size W W' ∧ ∃ S' J' M', Inv fid S' J' M' W' ∧ Step [] (fun _ _ => none) (memOf W) W S' J' M' W' := by
  unfold callPure at h
  obtain ⟨⟨r, S'⟩, hr, hf⟩ := Option.bind_eq_some_iff.1 h
  have hrt := fzv_true hf
  subst hrt
  have I : Inv fid [] (fun _ _ => none) (memOf W) W := Inv.empty fun b o v hv => memOf_some hv
  refine ((runs_sound f args [] _ S' hr).2 _ _ W cargs I ha).mono fun e W' hl => ?_
  obtain ⟨v, J', M', rfl, I', st, hrep⟩ := hl
  exact ⟨by rw [hrep.bool_inv], ⟨st.os, st.tape, st.output, st.size, fun k hk => st.frame k hk not_wr_nil⟩, S', J', M', I', st⟩
end Go.AVM
