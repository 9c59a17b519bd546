/- OrderMatchesReference: for every raw order, every list of exponents and every two numbers, the law's call returns true and changes nothing that it was handed. Conditions: none beyond the statement's own. -/
import Derived.Test.YtlpbjbgfgfjnlaaGreatAvMatch11
import Derived.Test.YtlpbjbgfgfjnlaaGreatAvMatch10
set_option linter.unusedVariables false
set_option linter.unusedSimpArgs false
namespace Go.Proofs.YtlpbjbgfgfjnlaaGreat
open Go.AVM Go.ChangeShapes Go.WideShapes Go.ChangeAt Go.RowKit
theorem own : ownKnob Tryz.prog.godebug = none := by kernel_rfl
theorem laidOut : laidOutB Tryz.prog = true := by kernel_rfl
theorem opens27 : Opens Tryz.prog fid 27 (List Int) (fun r => r.flatMap fun n => [.int .u16 n]) (fun r => r.length = 2 ∧ ∀ n ∈ r, IntKind.u16.min ≤ n ∧ n ≤ IntKind.u16.max) :=
  opens_array Tryz.underlying27 (by kernel_rfl) (opens_int Tryz.underlying26)
theorem opens25 : Opens Tryz.prog fid 25 (List (List Int)) (fun X => [.sl (X.map fun r => elOf 8 (r.flatMap fun n => [.int .u16 n])) 8 false]) (fun X => X.length ≤ maxLen ∧ ∀ r ∈ X, r.length = 8 ∧ ∀ n ∈ r, IntKind.u16.min ≤ n ∧ n ≤ IntKind.u16.max) :=
  opens_slice Tryz.underlying25 (by kernel_rfl) (by decide) (opens_array Tryz.underlying56 (by kernel_rfl) (opens_int Tryz.underlying26))
theorem opens24 : Opens Tryz.prog fid 24 (List (List Int)) (fun X => [.sl (X.map fun r => elOf 8 (r.flatMap fun n => [.int .i8 n])) 8 false]) (fun X => X.length ≤ maxLen ∧ ∀ r ∈ X, r.length = 8 ∧ ∀ n ∈ r, IntKind.i8.min ≤ n ∧ n ≤ IntKind.i8.max) :=
  opens_struct1 Tryz.underlying24 rfl rfl (by kernel_rfl) (opens_slice Tryz.underlying22 (by kernel_rfl) (by decide) (opens_array Tryz.underlying53 (by kernel_rfl) (opens_int Tryz.underlying52)))
theorem raw_eq (X : List (List Int)) : AV.agg [.sl (X.map fun r => elOf 8 (r.flatMap fun n => [.int .i8 n])) 8 false] = .agg [RawR X] := by
  have : (fun r : List Int => elOf 8 (r.flatMap fun n => [AV.int .i8 n])) = fun r => .agg (nums .i8 r) := by
    funext r
    show AV.agg (r.flatMap fun n => [AV.int .i8 n]) = .agg (nums .i8 r)
    congr 1
    induction r with
    | nil => rfl
    | cons n z ih => rw [List.flatMap_cons, ih]; rfl
  rw [this]
theorem exs_eq (X : List (List Int)) : AV.sl (X.map fun r => elOf 8 (r.flatMap fun n => [.int .u16 n])) 8 false = ExR X := by
  have : (fun r : List Int => elOf 8 (r.flatMap fun n => [AV.int .u16 n])) = fun r => .agg (nums .u16 r) := by
    funext r
    show AV.agg (r.flatMap fun n => [AV.int .u16 n]) = .agg (nums .u16 r)
    congr 1
    induction r with
    | nil => rfl
    | cons n z ih => rw [List.flatMap_cons, ih]; rfl
  rw [this]
set_option maxRecDepth 100000 in
theorem match_lifted (os : Os) (started : os.Started) (H : Type) (enc : TypeId × Value → H) :
    ReturnsInHanded {} Tryz.checked os 3 .any (Rows.orderMatchesReferenceSpec.pre6 enc Tryz.prog Tryz.f3 Rows.orderMatchesReferenceRow.domain false) (Rows.orderMatchesReferenceSpec.post enc Tryz.prog Tryz.f3 false true false false) := by
  refine returnsInHanded_of_change (C := Tryz.checked) own started (by kernel_rfl) Tryz.func3
    (ChangeSpec.witness6 (enc := enc) (C := Tryz.checked) false ⟨#[], #[.agg #[.slice none 0 0], .slice none 0 0, .agg (Array.replicate 2 (.int .u16 0))], []⟩ 8 (by kernel_rfl) (by kernel_rfl) (by kernel_rfl) (by kernel_rfl)) ?_
  intro W base args ds gs before hval0 hW hcnd _
  have hval : ∀ (j : Nat) t v, Tryz.f3.params[j]? = some t → args[j]? = some v → Value.okWide Tryz.prog W .any base t v := hval0
  have hW' := hW
  have hlt : ∀ p ∈ before, p.block < W.heap.size := fun p hp => hW.lt p hp
  obtain ⟨p, q, hA0, hV, rfl, hfz, hnd⟩ := hW
  have hA : DataW.TrodAll enc Tryz.prog W 0 (fun _ => true) true Tryz.f3.params.toList args.toList ds p := hA0
  rw [Tryz.params3] at hA hval
  obtain ⟨v0, v1, v2, d0, d1, d2, p0, p1, p2, hargs, rfl, rfl, h0, h1, h2⟩ := trodAll_three hA
  obtain ⟨rfl, rfl⟩ := trodVars_none hV
  have hargs' : args = #[v0, v1, v2] := by simpa using hargs
  subst hargs'
  obtain ⟨c0, rfl⟩ : ∃ cs, v0 = .agg cs := by
    have := hval 0 24 v0 rfl rfl
    unfold Value.okWide at this
    rw [Tryz.underlying24] at this
    obtain ⟨cs, rfl, _⟩ := this
    exact ⟨cs, rfl⟩
  have hv1 : v1.cells.toList = [v1] := by
    have := hval 1 25 v1 rfl rfl
    unfold Value.okWide at this
    rw [Tryz.underlying25] at this
    cases v1 <;> first | rfl | (simp [Cell.okWide, Cell.ok, Tryz.underlying25] at this)
  obtain ⟨c2, rfl⟩ : ∃ cs, v2 = .agg cs := by
    have := hval 2 27 v2 rfl rfl
    unfold Value.okWide at this
    rw [Tryz.underlying27] at this
    obtain ⟨cs, rfl, _⟩ := this
    exact ⟨cs, rfl⟩
  obtain ⟨X, hX, hr0⟩ := arg_agg (fid := fid) opens24 h0
  obtain ⟨l, hl, hr1⟩ := arg_one (fid := fid) opens25 hv1 h1
  obtain ⟨k, hk, hr2⟩ := arg_agg (fid := fid) opens27 h2
  rw [raw_eq] at hr0
  rw [exs_eq] at hr1
  obtain ⟨a, b, rfl⟩ : ∃ a b, k = [a, b] := by
    match k, hk.1 with
    | [a, b], _ => exact ⟨a, b, rfl⟩
  have e1 : IntKind.u16.min = 0 := by decide
  have e2 : IntKind.u16.max = 65535 := by decide
  have ha := hk.2 a (by simp)
  have hb2 := hk.2 b (by simp)
  rw [e1, e2] at ha hb2
  obtain ⟨m, rfl⟩ : ∃ m : Nat, a = (m : Int) := ⟨a.toNat, by omega⟩
  obtain ⟨n, rfl⟩ : ∃ n : Nat, b = (n : Int) := ⟨b.toNat, by omega⟩
  have hlaw := law_match X (fun r hr => ⟨(hX.2 r hr).1, fun n hn => (hX.2 r hr).2 n hn⟩) l (fun x hx => ⟨(hl.2 x hx).1, fun n hn => (hl.2 x hx).2 n hn⟩) m n (by omega)
  have hcall := true_call (cargs := #[.agg c0, v1, .agg c2]) (W := W) hlaw ⟨rfl, fun k x hk => by
    match k with
    | 0 => simp at hk; subst hk; exact ⟨_, rfl, .fr hr0⟩
    | 1 => simp at hk; subst hk; exact ⟨_, rfl, .fr hr1⟩
    | 2 => simp at hk; subst hk; exact ⟨_, rfl, .fr hr2⟩
    | k + 3 => simp at hk⟩
  rw [fid_127] at hcall
  refine hcall.mono fun e W' ⟨he, hb, _⟩ => ?_
  subst he
  refine ⟨_, rfl, [d0, d1, d2], [], _, [], p0 ++ (p1 ++ p2), [], hW', ?_, ?_, rfl, hb.frame _, fun h => by cases h⟩
  · exact trodAll_mk1 (shut_bool Tryz.underlying4 true)
  · exact trodAll_mk3 (Below.trod laidOut (by kernel_rfl) (of_decide_eq_true (by kernel_rfl)) h0 hb (fun x hx => hlt x (by simp [hx]))) (Below.trod laidOut (by kernel_rfl) (of_decide_eq_true (by kernel_rfl)) h1 hb (fun x hx => hlt x (by simp [hx]))) (Below.trod laidOut (by kernel_rfl) (of_decide_eq_true (by kernel_rfl)) h2 hb (fun x hx => hlt x (by simp [hx])))
theorem match_holds : Rows.OrderMatchesReferenceSaid :=
  OpenClaim.holds_of_wide 3 Tryz.f3 rfl rfl rfl rfl rfl rfl rfl ⟨rfl, rfl, rfl, rfl, rfl⟩ rfl rfl rfl rfl rfl (by kernel_rfl) Tryz.func3 (by kernel_rfl)
    (of_decide_eq_true (by kernel_rfl)) (by unfold Func.isWrapper; first | (rw [if_pos (by decide +kernel)]; kernel_rfl) | (rw [if_neg (by decide +kernel)]; exact ⟨rfl, rfl⟩))
    (fun os started H enc _ => match_lifted os started H enc)
end Go.Proofs.YtlpbjbgfgfjnlaaGreat
