/- Monomials: exponents, degree. -/
import Derived.Test.YtlpbjbgfgfjnlaaAvUn
set_option linter.unusedVariables false
set_option linter.unusedSimpArgs false
set_option linter.unusedSectionVars false
namespace Go.AVM
theorem run_degree {l : List Int} (hl : l.length = 8) (hb : Bd 1000000 l) : callPure RT 16 [R8 l] = some (.int .i64 l.sum) := by
  obtain ⟨a0, a1, a2, a3, a4, a5, a6, a7, rfl⟩ := len8 hl
  simp [Bd] at hb
  refine callPure_of (wpF_of tab_16 rfl ?_)
  simp [f16, enter]
  simp [wpL_step, head, f16_0m, f16_0, mask, rd, chk]
  simp (disch := omega) only [wrap_i64]
  omega
/-- The monomial of exponents. -/
def monoL (x : List Int) : List Int := x.map fun n => n % 20000
theorem run_mono {x : List Int} (hl : x.length = 8) (hb : ∀ n ∈ x, 0 ≤ n ∧ n ≤ 65535) : callPure RT 15 [.agg (nums .u16 x)] = some (R8 (monoL x)) := by
  obtain ⟨a0, a1, a2, a3, a4, a5, a6, a7, rfl⟩ := len8 hl
  simp at hb
  have hm : ∀ a : Int, 0 ≤ a → a.tmod 20000 = a % 20000 := fun a h => by rw [Int.tmod_eq_emod_of_nonneg h]
  refine callPure_of (wpF_of tab_15 rfl ?_)
  simp [f15, enter, fillA, chk, wr, splice]
  simp [wpL_step, head, f15_0m, f15_0, mask, rd, wr, splice, chk, trunc, lt1, ltc, Blk.lt, monoL]
  simp (disch := omega) only [wrap_i64, hm, and_self]
theorem run_lex : callPure RT 19 [] = some (.sl [] 8 false) := by
  refine callPure_of (wpF_of tab_19 rfl ?_)
  simp [f19, enter]
def cmpL : List Int → List Int → Int
  | a :: l, b :: m => if a < b then -1 else if b < a then 1 else cmpL l m
  | _, _ => 0
end Go.AVM
