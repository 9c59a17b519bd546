/- OrderErrors: for every order and every row of eight numbers, the law's call returns true and changes nothing that it was handed. Conditions: none beyond the statement's own. -/
import Derived.Test.YtlpbjbgfgfjnlaaGreatAvErrors8
import Derived.Test.YtlpbjbgfgfjnlaaGreatAvErrors7
set_option linter.unusedVariables false
set_option linter.unusedSimpArgs false
namespace Go.Proofs.YtlpbjbgfgfjnlaaGreat
open Go.AVM Go.ChangeShapes Go.WideShapes Go.ChangeAt Go.RowKit
theorem own : ownKnob Tryz.prog.godebug = none := by kernel_rfl
theorem laidOut : laidOutB Tryz.prog = true := by kernel_rfl
theorem opens35 : Opens Tryz.prog fid 35 (List Int) (fun r => r.flatMap fun n => [.int .i64 n]) (fun r => r.length = 8 ∧ ∀ n ∈ r, IntKind.i64.min ≤ n ∧ n ≤ IntKind.i64.max) :=
  opens_array Tryz.underlying35 (by kernel_rfl) (opens_int Tryz.underlying3)
theorem opens30 : Opens Tryz.prog fid 30 (List (List Int)) (fun X => [.sl (X.map fun r => elOf 8 (r.flatMap fun n => [.int .i64 n])) 8 false]) (fun X => X.length ≤ maxLen ∧ ∀ r ∈ X, r.length = 8 ∧ ∀ n ∈ r, IntKind.i64.min ≤ n ∧ n ≤ IntKind.i64.max) :=
  opens_slice Tryz.underlying30 (by kernel_rfl) (by decide) opens35
theorem row_eq (r : List Int) : (r.flatMap fun n => [AV.int .i64 n]) = nums .i64 r := by
  induction r with
  | nil => rfl
  | cons n z ih => rw [List.flatMap_cons, ih]; rfl
theorem ord_eq (X : List (List Int)) : AV.sl (X.map fun r => elOf 8 (r.flatMap fun n => [.int .i64 n])) 8 false = OR X := by
  have : (fun r : List Int => elOf 8 (r.flatMap fun n => [AV.int .i64 n])) = R8 := by
    funext r
    show AV.agg (r.flatMap fun n => [AV.int .i64 n]) = .agg (nums .i64 r)
    rw [row_eq]
  rw [this]
set_option maxRecDepth 100000 in
theorem errors_lifted (os : Os) (started : os.Started) (H : Type) (enc : TypeId × Value → H) :
    ReturnsInHanded {} Tryz.checked os 4 .any (Rows.orderErrorsSpec.pre6 enc Tryz.prog Tryz.f4 Rows.orderErrorsRow.domain false) (Rows.orderErrorsSpec.post enc Tryz.prog Tryz.f4 false true false false) := by
  refine returnsInHanded_of_change (C := Tryz.checked) own started (by kernel_rfl) Tryz.func4
    (ChangeSpec.witness6 (enc := enc) (C := Tryz.checked) false ⟨#[], #[.slice none 0 0, .agg (Array.replicate 8 (.int .i64 0))], []⟩ 8 (by kernel_rfl) (by kernel_rfl) (by kernel_rfl) (by kernel_rfl)) ?_
  intro W base args ds gs before hval0 hW hcnd _
  have hval : ∀ (j : Nat) t v, Tryz.f4.params[j]? = some t → args[j]? = some v → Value.okWide Tryz.prog W .any base t v := hval0
  have hW' := hW
  have hlt : ∀ p ∈ before, p.block < W.heap.size := fun p hp => hW.lt p hp
  obtain ⟨p, q, hA0, hV, rfl, hfz, hnd⟩ := hW
  have hA : DataW.TrodAll enc Tryz.prog W 0 (fun _ => true) true Tryz.f4.params.toList args.toList ds p := hA0
  rw [Tryz.params4] at hA hval
  obtain ⟨v0, v1, d0, d1, p0, p1, hargs, rfl, rfl, h0, h1⟩ := trodAll_two hA
  obtain ⟨rfl, rfl⟩ := trodVars_none hV
  have hargs' : args = #[v0, v1] := by simpa using hargs
  subst hargs'
  obtain ⟨c1, rfl⟩ : ∃ cs, v1 = .agg cs := by
    have := hval 1 35 v1 rfl rfl
    unfold Value.okWide at this
    rw [Tryz.underlying35] at this
    obtain ⟨cs, rfl, _⟩ := this
    exact ⟨cs, rfl⟩
  have hv0 : v0.cells.toList = [v0] := by
    have := hval 0 30 v0 rfl rfl
    unfold Value.okWide at this
    rw [Tryz.underlying30] at this
    cases v0 <;> first | rfl | (simp [Cell.okWide, Cell.ok, Tryz.underlying30] at this)
  obtain ⟨X, hX, hr0⟩ := arg_one (fid := fid) opens30 hv0 h0
  obtain ⟨l, hl, hr1⟩ := arg_agg (fid := fid) opens35 h1
  rw [ord_eq] at hr0
  rw [row_eq] at hr1
  have hlaw := law_errors X (fun r hr => (hX.2 r hr).1) l hl.1 (fun n hn => by
    have h := hl.2 n hn
    have e1 : IntKind.i64.min = -9223372036854775808 := by decide
    have e2 : IntKind.i64.max = 9223372036854775807 := by decide
    rw [e1, e2] at h
    omega)
  have hcall := true_call (cargs := #[v0, .agg c1]) (W := W) hlaw ⟨rfl, fun k x hk => by
    match k with
    | 0 => simp at hk; subst hk; exact ⟨_, rfl, .fr hr0⟩
    | 1 => simp at hk; subst hk; exact ⟨_, rfl, .fr hr1⟩
    | k + 2 => simp at hk⟩
  rw [fid_128] at hcall
  refine hcall.mono fun e W' ⟨he, hb, _⟩ => ?_
  subst he
  refine ⟨_, rfl, [d0, d1], [], _, [], p0 ++ p1, [], hW', ?_, ?_, rfl, hb.frame _, fun h => by cases h⟩
  · exact trodAll_mk1 (shut_bool Tryz.underlying4 true)
  · exact trodAll_mk2 (Below.trod laidOut (by kernel_rfl) (of_decide_eq_true (by kernel_rfl)) h0 hb (fun x hx => hlt x (by simp [hx]))) (Below.trod laidOut (by kernel_rfl) (of_decide_eq_true (by kernel_rfl)) h1 hb (fun x hx => hlt x (by simp [hx])))
theorem errors_holds : Rows.OrderErrorsSaid :=
  OpenClaim.holds_of_wide 4 Tryz.f4 rfl rfl rfl rfl rfl rfl rfl ⟨rfl, rfl, rfl, rfl, rfl⟩ rfl rfl rfl rfl rfl (by kernel_rfl) Tryz.func4 (by kernel_rfl)
    (of_decide_eq_true (by kernel_rfl)) (by unfold Func.isWrapper; first | (rw [if_pos (by decide +kernel)]; kernel_rfl) | (rw [if_neg (by decide +kernel)]; exact ⟨rfl, rfl⟩))
    (fun os started H enc _ => errors_lifted os started H enc)
end Go.Proofs.YtlpbjbgfgfjnlaaGreat
