/- Monomials: comparing. -/
import Derived.Test.YtlpbjbgfgfjnlaaAvOrd1
set_option linter.unusedVariables false
set_option linter.unusedSimpArgs false
set_option linter.unusedSectionVars false
namespace Go.AVM
theorem cmpI_zero {a b : Int} : cmpI a b = 0 ↔ a = b := by
  unfold cmpI; split
  · omega
  · split <;> omega
theorem cmpL_cons (a b : Int) (l m : List Int) : cmpL (a :: l) (b :: m) = if cmpI a b = 0 then cmpL l m else cmpI a b := by
  simp only [cmpL, cmpI]
  by_cases h1 : a < b
  · simp [h1]
  · by_cases h2 : b < a
    · simp [h1, h2]
    · simp [h1, h2]
theorem cmp_loop2 {xs ys : List Int} (hxy : xs.length = ys.length) (hlen : xs.length < 1000000) {base : Nat} {S : Store} (hS : S.length ≤ base) {Q : FQ}
    (h1 : ∀ (tm : List AV) (hl : tm.length = 36), tm[0] = .sl (nums .i64 xs) 1 false → tm[1] = .sl (nums .i64 ys) 1 false → cmpL xs ys = 0 → Q (.ex 0) ⟨tm, S⟩)
    (h2 : ∀ (tm : List AV) (hl : tm.length = 36), tm[4] = .int .i64 (cmpL xs ys) → Q .ret ⟨tm, S⟩) :
    ∀ (m i : Nat), i + m = xs.length → cmpL (xs.drop i) (ys.drop i) = cmpL xs ys →
    wpL RT f39_0m base f39_0 ⟨[.sl (nums .i64 xs) 1 false, .sl (nums .i64 ys) 1 false, .any, .any, .any, .any, .any, .any, .any, .sl (nums .i64 xs) 1 false, .int .i64 (xs.length : Int), .int .i64 (i : Int)] ++ List.replicate 24 .any, S⟩ Q := by
  intro m
  induction m with
  | zero =>
    intro i hi he
    have hi' : i = xs.length := by omega
    subst hi'
    rw [wpL_step]
    generalize hK : loopQ RT f39_0m base f39_0 Q = K
    simp [f39_0, List.replicate]
    subst hK
    refine h1 _ rfl rfl rfl ?_
    rw [← he]; simp [cmpL]
  | succ m ih =>
    intro i hi he
    have hi1 : i < xs.length := by omega
    have hi2 : i < ys.length := by omega
    rw [List.drop_eq_getElem_cons hi1, List.drop_eq_getElem_cons hi2, cmpL_cons] at he
    have hw : IntKind.i64.wrap ((i : Int) + 1) = ((i + 1 : Nat) : Int) := wrap_i64 (by omega) (by omega)
    rw [wpL_step]
    generalize hK : loopQ RT f39_0m base f39_0 Q = K
    by_cases h0 : cmpI xs[i] ys[i] = 0
    · simp [f39_0, List.replicate, hi1, hi2, run_cmpI, after_nr, h0, hw, Nat.not_le.2 hi2]
      rw [if_pos h0] at he
      have := ih (i + 1) (by omega) he
      subst hK
      simp [head, f39_0m, mask, trunc_len hS]
      simpa [f39_0m, List.replicate] using this
    · simp [f39_0, List.replicate, hi1, hi2, run_cmpI, after_nr, h0, hw, Nat.not_le.2 hi2]
      rw [if_neg h0] at he
      subst hK
      refine h2 _ rfl ?_
      simp [he]
theorem run_compare {xs ys : List Int} (hxy : xs.length = ys.length) (hlen : xs.length < 1000000) : callPure RT 39 [.sl (nums .i64 xs) 1 false, .sl (nums .i64 ys) 1 false] = some (.int .i64 (cmpL xs ys)) := by
  refine callPure_of (wpF_of tab_39 rfl ?_)
  simp [f39, enter, head, mask, f39_0m]
  refine cmp_loop2 hxy hlen (S := []) (Nat.zero_le _) ?_ ?_ xs.length 0 (by simp) rfl
  · intro tm hl h0 h1 hc
    simp [h0, h1, hxy, hl, hc]
  · intro tm hl h4
    simp [hl, h4]
theorem run_mcmp {a b : List Int} (ha : a.length = 8) (hb : b.length = 8) : callPure RT 17 [R8 a, R8 b] = some (.int .i64 (cmpL a b)) := by
  have h := run_compare (xs := a) (ys := b) (by omega) (by omega)
  obtain ⟨a0, a1, a2, a3, a4, a5, a6, a7, rfl⟩ := len8 ha
  obtain ⟨b0, b1, b2, b3, b4, b5, b6, b7, rfl⟩ := len8 hb
  refine callPure_of (wpF_of tab_17 rfl ?_)
  simp at h
  simp [f17, enter, sliceArr, bounds, chk, capAt, fzc, rd, chunk, h]
/-- The sum of weights times differences of exponents. -/
def dotL : List Int → List Int → List Int → Int
  | w :: ws, a :: as, b :: bs => w * (a - b) + dotL ws as bs
  | _, _, _ => 0
theorem mul_bd {w d W D : Int} (hw : -W ≤ w ∧ w ≤ W) (hd : -D ≤ d ∧ d ≤ D) : -(W * D) ≤ w * d ∧ w * d ≤ W * D := by
  have hW : 0 ≤ W := by omega
  have hD : 0 ≤ D := by omega
  have h : (w * d).natAbs ≤ (W * D).natAbs := by
    rw [Int.natAbs_mul, Int.natAbs_mul]
    exact Nat.mul_le_mul (by omega) (by omega)
  have h2 : 0 ≤ W * D := Int.mul_nonneg hW hD
  omega
set_option maxRecDepth 20000 in
theorem dot_loop {w a b : List Int} (hw : w.length = 8) (ha : a.length = 8) (hb : b.length = 8) (hwB : Bd 1000 w) (haB : Bd 200000 a) (hbB : Bd 200000 b) {x15 x16 x17 : AV} {S : Store} {b4 b5 : Nat} {e4 e5 : Bool}
    (h4 : S[b4]? = some (.mu (nums .i64 a) e4)) (h5 : S[b5]? = some (.mu (nums .i64 b) e5)) {Q : FQ}
    (hQ : ∀ (tm : List AV) (hl : tm.length = 48), tm[4] = .mptr b4 0 8 → tm[5] = .mptr b5 0 8 → tm[9] = .int .i64 (dotL w a b) → tm[15] = x15 → tm[16] = x16 → tm[17] = x17 → Q (.ex 2) ⟨tm, S⟩) :
    wpL RT f13_0m S.length f13_0 ⟨[.any, .any, .any, .any, .mptr b4 0 8, .mptr b5 0 8, .any, .any, .any, .int .i64 0, .any, .any, .any, .any, .any, x15, x16, x17, .any, .any, .any, R8 w, .int .i64 0] ++ List.replicate 25 .any, S⟩ Q := by
  obtain ⟨a0, a1, a2, a3, a4, a5, a6, a7, rfl⟩ := len8 ha
  obtain ⟨b0, b1, b2, b3, b4', b5', b6, b7, rfl⟩ := len8 hb
  obtain ⟨w0, w1, w2, w3, w4, w5, w6, w7, rfl⟩ := len8 hw
  simp [Bd] at hwB haB hbB
  simp [wpL_step, head, f13_0m, f13_0, mask, rd, h4, h5, chk, List.replicate, trunc_len (Nat.le_refl _)]
  refine hQ _ rfl rfl rfl ?_ rfl rfl rfl
  have d0 := mul_bd (D := 400000) hwB.1 (show -400000 ≤ a0 - b0 ∧ a0 - b0 ≤ 400000 by omega)
  have d1 := mul_bd (D := 400000) hwB.2.1 (show -400000 ≤ a1 - b1 ∧ a1 - b1 ≤ 400000 by omega)
  have d2 := mul_bd (D := 400000) hwB.2.2.1 (show -400000 ≤ a2 - b2 ∧ a2 - b2 ≤ 400000 by omega)
  have d3 := mul_bd (D := 400000) hwB.2.2.2.1 (show -400000 ≤ a3 - b3 ∧ a3 - b3 ≤ 400000 by omega)
  have d4 := mul_bd (D := 400000) hwB.2.2.2.2.1 (show -400000 ≤ a4 - b4' ∧ a4 - b4' ≤ 400000 by omega)
  have d5 := mul_bd (D := 400000) hwB.2.2.2.2.2.1 (show -400000 ≤ a5 - b5' ∧ a5 - b5' ≤ 400000 by omega)
  have d6 := mul_bd (D := 400000) hwB.2.2.2.2.2.2.1 (show -400000 ≤ a6 - b6 ∧ a6 - b6 ≤ 400000 by omega)
  have d7 := mul_bd (D := 400000) hwB.2.2.2.2.2.2.2 (show -400000 ≤ a7 - b7 ∧ a7 - b7 ≤ 400000 by omega)
  simp
  simp (disch := omega) only [wrap_i64, dotL]
  omega
end Go.AVM
