/- OrderPermutes: for every raw order, every two monomials and every number of a permutation, the law's call returns true and changes nothing that it was handed. Conditions: none beyond the statement's own. -/
import Derived.Test.YtlpbjbgfgfjnlaaAvPermutes8
import Derived.Test.YtlpbjbgfgfjnlaaAvPermutes7
set_option linter.unusedVariables false
set_option linter.unusedSimpArgs false
namespace Go.Proofs.Ytlpbjbgfgfjnlaa
open Go.AVM Go.ChangeShapes Go.WideShapes Go.ChangeAt Go.RowKit
theorem own : ownKnob Try.prog.godebug = none := by kernel_rfl
theorem laidOut : laidOutB Try.prog = true := by kernel_rfl
theorem opens42 : Opens Try.prog fid 42 (List (List Int)) (fun l => l.flatMap fun x => x.flatMap fun n => [.int .u16 n]) (fun l => l.length = 2 ∧ ∀ x ∈ l, x.length = 8 ∧ ∀ n ∈ x, IntKind.u16.min ≤ n ∧ n ≤ IntKind.u16.max) :=
  opens_array Try.underlying42 (by kernel_rfl) (opens_array Try.underlying41 (by kernel_rfl) (opens_int Try.underlying39))
theorem opens24 : Opens Try.prog fid 24 (List (List Int)) (fun X => [.sl (X.map fun r => elOf 8 (r.flatMap fun n => [.int .i8 n])) 8 false]) (fun X => X.length ≤ maxLen ∧ ∀ r ∈ X, r.length = 8 ∧ ∀ n ∈ r, IntKind.i8.min ≤ n ∧ n ≤ IntKind.i8.max) :=
  opens_struct1 Try.underlying24 rfl rfl (by kernel_rfl) (opens_slice Try.underlying22 (by kernel_rfl) (by decide) (opens_array Try.underlying68 (by kernel_rfl) (opens_int Try.underlying67)))
theorem raw_eq (X : List (List Int)) : AV.agg [.sl (X.map fun r => elOf 8 (r.flatMap fun n => [.int .i8 n])) 8 false] = .agg [RawR X] := by
  have : (fun r : List Int => elOf 8 (r.flatMap fun n => [AV.int .i8 n])) = fun r => .agg (nums .i8 r) := by
    funext r
    show AV.agg (r.flatMap fun n => [AV.int .i8 n]) = .agg (nums .i8 r)
    congr 1
    induction r with
    | nil => rfl
    | cons n z ih => rw [List.flatMap_cons, ih]; rfl
  rw [this]
set_option maxRecDepth 100000 in
theorem permutes_lifted (os : Os) (started : os.Started) (H : Type) (enc : TypeId × Value → H) :
    ReturnsInHanded {} Try.checked os 6 .any (Rows.orderPermutesSpec.pre6 enc Try.prog Try.f6 Rows.orderPermutesRow.domain false) (Rows.orderPermutesSpec.post enc Try.prog Try.f6 false true false false) := by
  refine returnsInHanded_of_change (C := Try.checked) own started (by kernel_rfl) Try.func6
    (ChangeSpec.witness6 (enc := enc) (C := Try.checked) false ⟨#[], #[.agg #[.slice none 0 0], .agg (Array.replicate 16 (.int .u16 0)), .int .u16 0], []⟩ 8 (by kernel_rfl) (by kernel_rfl) (by kernel_rfl) (by kernel_rfl)) ?_
  intro W base args ds gs before hval0 hW hcnd _
  have hval : ∀ (j : Nat) t v, Try.f6.params[j]? = some t → args[j]? = some v → Value.okWide Try.prog W .any base t v := hval0
  have hW' := hW
  have hlt : ∀ p ∈ before, p.block < W.heap.size := fun p hp => hW.lt p hp
  obtain ⟨p, q, hA0, hV, rfl, hfz, hnd⟩ := hW
  have hA : DataW.TrodAll enc Try.prog W 0 (fun _ => true) true Try.f6.params.toList args.toList ds p := hA0
  rw [Try.params6] at hA hval
  obtain ⟨v0, v1, v2, d0, d1, d2, p0, p1, p2, hargs, rfl, rfl, h0, h1, h2⟩ := trodAll_three hA
  obtain ⟨rfl, rfl⟩ := trodVars_none hV
  have hargs' : args = #[v0, v1, v2] := by simpa using hargs
  subst hargs'
  obtain ⟨c0, rfl⟩ : ∃ cs, v0 = .agg cs := by
    have := hval 0 24 v0 rfl rfl
    unfold Value.okWide at this
    rw [Try.underlying24] at this
    obtain ⟨cs, rfl, _⟩ := this
    exact ⟨cs, rfl⟩
  obtain ⟨c1, rfl⟩ : ∃ cs, v1 = .agg cs := by
    have := hval 1 42 v1 rfl rfl
    unfold Value.okWide at this
    rw [Try.underlying42] at this
    obtain ⟨cs, rfl, _⟩ := this
    exact ⟨cs, rfl⟩
  obtain ⟨X, hX, hr0⟩ := arg_agg (fid := fid) opens24 h0
  obtain ⟨l, hl, hr1⟩ := arg_agg (fid := fid) opens42 h1
  obtain ⟨n, rfl, rfl, rfl, hn⟩ := open_int Try.underlying39 (hval 2 39 v2 rfl rfl) h2
  rw [raw_eq] at hr0
  have hn2 : 0 ≤ n ∧ n ≤ 65535 := by
    have h := hn
    simp only [Lit.wf, Bool.and_eq_true, decide_eq_true_eq] at h
    exact h
  obtain ⟨m, rfl⟩ : ∃ m : Nat, n = (m : Int) := ⟨n.toNat, by omega⟩
  have hlaw := law_permutes X (fun r hr => ⟨(hX.2 r hr).1, fun n hn => (hX.2 r hr).2 n hn⟩) l hl.1 (fun x hx => ⟨(hl.2 x hx).1, fun n hn => (hl.2 x hx).2 n hn⟩) m (by omega)
  have hcall := true_call (cargs := #[.agg c0, .agg c1, .int .u16 (m : Int)]) (W := W) hlaw ⟨rfl, fun k x hk => by
    match k with
    | 0 => simp at hk; subst hk; exact ⟨_, rfl, .fr hr0⟩
    | 1 => simp at hk; subst hk; exact ⟨_, rfl, .fr hr1⟩
    | 2 => simp at hk; subst hk; exact ⟨_, rfl, .fr (.int _ _)⟩
    | k + 3 => simp at hk⟩
  rw [fid_6] at hcall
  refine hcall.mono fun e W' ⟨he, hb, _⟩ => ?_
  subst he
  refine ⟨_, rfl, [d0, d1, .lit (.int .u16 (m : Int))], [], _, [], p0 ++ (p1 ++ []), [], hW', ?_, ?_, rfl, hb.frame _, fun h => by cases h⟩
  · exact trodAll_mk1 (shut_bool Try.underlying4 true)
  · exact trodAll_mk3 (Below.trod laidOut (by kernel_rfl) (of_decide_eq_true (by kernel_rfl)) h0 hb (fun x hx => hlt x (by simp [hx]))) (Below.trod laidOut (by kernel_rfl) (of_decide_eq_true (by kernel_rfl)) h1 hb (fun x hx => hlt x (by simp [hx]))) (shut_int Try.underlying39 hn)
theorem permutes_holds : Rows.OrderPermutesSaid :=
  OpenClaim.holds_of_wide 6 Try.f6 rfl rfl rfl rfl rfl rfl rfl ⟨rfl, rfl, rfl, rfl, rfl⟩ rfl rfl rfl rfl rfl (by kernel_rfl) Try.func6 (by kernel_rfl)
    (of_decide_eq_true (by kernel_rfl)) (by unfold Func.isWrapper; first | (rw [if_pos (by decide +kernel)]; kernel_rfl) | (rw [if_neg (by decide +kernel)]; exact ⟨rfl, rfl⟩))
    (fun os started H enc _ => permutes_lifted os started H enc)
end Go.Proofs.Ytlpbjbgfgfjnlaa
