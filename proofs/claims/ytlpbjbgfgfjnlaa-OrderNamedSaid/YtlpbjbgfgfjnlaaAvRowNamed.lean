/- The row OrderNamed, from what its telling computes. -/
import Derived.Test.YtlpbjbgfgfjnlaaAvRow
import Derived.Test.YtlpbjbgfgfjnlaaAvOrd4
set_option linter.unusedVariables false
set_option linter.unusedSimpArgs false
namespace Go.Proofs.Ytlpbjbgfgfjnlaa
open Go.AVM Go.ChangeShapes Go.WideShapes Go.ChangeAt Go.RowKit
theorem own : ownKnob Try.prog.godebug = none := by kernel_rfl
theorem laidOut : laidOutB Try.prog = true := by kernel_rfl
theorem opens42 : Opens Try.prog fid 42 (List (List Int)) (fun l => l.flatMap fun x => x.flatMap fun n => [.int .u16 n]) (fun l => l.length = 2 ∧ ∀ x ∈ l, x.length = 8 ∧ ∀ n ∈ x, IntKind.u16.min ≤ n ∧ n ≤ IntKind.u16.max) :=
  opens_array Try.underlying42 (by kernel_rfl) (opens_array Try.underlying41 (by kernel_rfl) (opens_int Try.underlying39))
set_option maxRecDepth 100000 in
theorem named_lifted (os : Os) (started : os.Started) (H : Type) (enc : TypeId × Value → H) :
    ReturnsInHanded {} Try.checked os 4 .any (Rows.orderNamedSpec.pre6 enc Try.prog Try.f4 Rows.orderNamedRow.domain false) (Rows.orderNamedSpec.post enc Try.prog Try.f4 false true false false) := by
  refine returnsInHanded_of_change (C := Try.checked) own started (by kernel_rfl) Try.func4
    (ChangeSpec.witness6 (enc := enc) (C := Try.checked) false ⟨#[], #[.agg (Array.replicate 16 (.int .u16 0)), .bool false], []⟩ 8 (by kernel_rfl) (by kernel_rfl) (by kernel_rfl) (by kernel_rfl)) ?_
  intro W base args ds gs before hval0 hW hcnd _
  have hval : ∀ (j : Nat) t v, Try.f4.params[j]? = some t → args[j]? = some v → Value.okWide Try.prog W .any base t v := hval0
  have hW' := hW
  have hlt : ∀ p ∈ before, p.block < W.heap.size := fun p hp => hW.lt p hp
  obtain ⟨p, q, hA0, hV, rfl, hfz, hnd⟩ := hW
  have hA : DataW.TrodAll enc Try.prog W 0 (fun _ => true) true Try.f4.params.toList args.toList ds p := hA0
  rw [Try.params4] at hA hval
  obtain ⟨v0, v1, d0, d1, p0, p1, hargs, rfl, rfl, h0, h1⟩ := trodAll_two hA
  obtain ⟨rfl, rfl⟩ := trodVars_none hV
  have hargs' : args = #[v0, v1] := by simpa using hargs
  subst hargs'
  obtain ⟨c0, rfl, _, _⟩ : ∃ cs, v0 = .agg cs ∧ cs.size = Try.prog.cellsOf 42 ∧ Row.okWide Try.prog W .any base 42 cs := by
    have := hval 0 42 v0 rfl rfl
    unfold Value.okWide at this
    rw [Try.underlying42] at this
    exact this
  obtain ⟨l, hl, hr0⟩ := arg_agg (fid := fid) opens42 h0
  obtain ⟨b, rfl, rfl, rfl⟩ := open_bool Try.underlying4 (hval 1 4 v1 rfl rfl) h1
  have hlaw := law_named l b hl.1 (fun x hx => ⟨(hl.2 x hx).1, fun n hn => (hl.2 x hx).2 n hn⟩)
  have hcall := true_call (cargs := #[.agg c0, .bool b]) (W := W) hlaw ⟨rfl, fun k x hk => by
    match k with
    | 0 => simp at hk; subst hk; exact ⟨_, rfl, .fr hr0⟩
    | 1 => simp at hk; subst hk; exact ⟨_, rfl, .fr (.bool _)⟩
    | k + 2 => simp at hk⟩
  rw [fid_4] at hcall
  refine hcall.mono fun e W' ⟨he, hb, _⟩ => ?_
  subst he
  refine ⟨_, rfl, [d0, .lit (.bool b)], [], _, [], p0 ++ [], [], hW', ?_, ?_, rfl, hb.frame _, fun h => by cases h⟩
  · exact trodAll_mk1 (shut_bool Try.underlying4 true)
  · exact trodAll_mk2 (Below.trod laidOut (by kernel_rfl) (of_decide_eq_true (by kernel_rfl)) h0 hb (fun x hx => hlt x (by simp [hx]))) (shut_bool Try.underlying4 b)
theorem named_holds : Rows.OrderNamedSaid :=
  OpenClaim.holds_of_wide 4 Try.f4 rfl rfl rfl rfl rfl rfl rfl ⟨rfl, rfl, rfl, rfl, rfl⟩ rfl rfl rfl rfl rfl (by kernel_rfl) Try.func4 (by kernel_rfl)
    (of_decide_eq_true (by kernel_rfl)) (by unfold Func.isWrapper; first | (rw [if_pos (by decide +kernel)]; kernel_rfl) | (rw [if_neg (by decide +kernel)]; exact ⟨rfl, rfl⟩))
    (fun os started H enc _ => named_lifted os started H enc)
end Go.Proofs.Ytlpbjbgfgfjnlaa
