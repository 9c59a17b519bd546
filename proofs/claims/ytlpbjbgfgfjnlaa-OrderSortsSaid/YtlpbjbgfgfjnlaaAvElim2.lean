/- Orders: which variables one eliminates. -/
import Derived.Test.YtlpbjbgfgfjnlaaAvElim1
set_option linter.unusedVariables false
set_option linter.unusedSimpArgs false
set_option linter.unusedSectionVars false
namespace Go.AVM
def elimOk (o : List (List Int)) (m i j : Nat) : Bool := !m.testBit i || (m.testBit j || pairOk i j o)
set_option maxRecDepth 20000 in
theorem elim_inner {o : List (List Int)} (ho : ∀ w ∈ o, w.length = 8) (hol : o.length < 1000000) {m i : Nat} (hi : i < 8) {Q : FQ}
    (h1 : ∀ (tm : List AV) (hl : tm.length = 51) (S : Store), tm[0] = OR o → tm[1] = .int .u8 (m : Int) → tm[8] = .int .i64 (i : Int) → (∀ j, j < 8 → elimOk o m i j = true) → Q (.ex 2) ⟨tm, [.mu [.int .i64 (i : Int)] true]⟩)
    (h2 : ∀ (tm : List AV) (hl : tm.length = 51) (S : Store), tm[4] = .bool false → (∃ j, j < 8 ∧ elimOk o m i j = false) → Q .ret ⟨tm, S⟩) :
    ∀ (n j : Nat), j + n = 8 → (∀ j', j' < j → elimOk o m i j' = true) →
    wpL RT f22_0m 1 f22_0 ⟨[OR o, .int .u8 (m : Int), .any, .any, .any, .mptr 0 0 1, .any, .any, .int .i64 (i : Int), .any, .any, .int .i64 (j : Int)] ++ List.replicate 39 .any, [.mu [.int .i64 (i : Int)] true]⟩ Q := by
  intro n
  induction n with
  | zero =>
    intro j hj hp
    have hj' : j = 8 := by omega
    subst hj'
    rw [wpL_step]
    generalize hK : loopQ RT f22_0m 1 f22_0 Q = K
    simp [f22_0, List.replicate]
    subst hK
    exact h1 _ rfl [] rfl rfl rfl hp
  | succ n ih =>
    intro j hj hp
    have hj8 : j < 8 := by omega
    have hjlt : (j : Int) < 8 := by omega
    have hw : IntKind.i64.wrap ((j : Int) + 1) = ((j + 1 : Nat) : Int) := wrap_i64 (by omega) (by omega)
    have si := shr_u8 m (i := i) (by omega)
    have sj := shr_u8 m (i := j) (by omega)
    have bi := Nat.testBit_eq_decide_div_mod_eq (x := m) (i := i)
    have bj := Nat.testBit_eq_decide_div_mod_eq (x := m) (i := j)
    have hx := run_index ho hol hi hj8
    have go : elimOk o m i j = true → wpL RT f22_0m 1 f22_0 ⟨[OR o, .int .u8 (m : Int), .any, .any, .any, .mptr 0 0 1, .any, .any, .int .i64 (i : Int), .any, .any, .int .i64 ((j + 1 : Nat) : Int)] ++ List.replicate 39 .any, [.mu [.int .i64 (i : Int)] true]⟩ Q := fun h => ih (j + 1) (by omega) fun j' hj' => by
      by_cases e : j' = j
      · rw [e]; exact h
      · exact hp j' (by omega)
    have fin : elimOk o m i j = false → ∃ j, j < 8 ∧ elimOk o m i j = false := fun h => ⟨j, hj8, h⟩
    unfold elimOk at go fin
    generalize m / 2 ^ i = qi at *
    generalize m / 2 ^ j = qj at *
    rw [wpL_step]
    generalize hK : loopQ RT f22_0m 1 f22_0 Q = K
    by_cases c1 : qi % 2 = 1
    · have e1 : ¬ (qi : Int) % 2 = 0 := by omega
      have e1' : (qi : Int) % 2 = 1 := by omega
      by_cases c2 : qj % 2 = 1
      · have e2 : (qj : Int) % 2 = 1 := by omega
        have := go (by rw [bi, bj]; simp [c1, c2])
        simp [-binA_shr, f22_0, List.replicate, hjlt, rd, wr, splice, chk, si, sj, and1_i, e1, e1', e2, hw]
        subst hK
        simp [head, f22_0m, mask, trunc, lt1, ltc, Blk.lt]
        simpa [f22_0m, List.replicate] using this
      · have e2 : (qj : Int) % 2 = 0 := by omega
        rcases idx_pair i j o 0 with ⟨h3, h4⟩ | ⟨q, w, h3, h4, h5⟩
        · rw [h3] at hx
          by_cases c3 : j < i
          · have hf := fin (by rw [bi, bj, h4]; simp [c1, c2, c3])
            have c3' : (j : Int) < (i : Int) := by omega
            simp [-binA_shr, f22_0, List.replicate, hjlt, rd, wr, splice, chk, si, sj, and1_i, e1, e1', e2, hw, fzc, hx, c3, c3']
            subst hK
            exact h2 _ rfl _ rfl hf
          · have hg := go (by rw [bi, bj, h4]; simp [c1, c2]; omega)
            have c3' : ¬ (j : Int) < (i : Int) := by omega
            simp [-binA_shr, f22_0, List.replicate, hjlt, rd, wr, splice, chk, si, sj, and1_i, e1, e1', e2, hw, fzc, hx, c3, c3']
            subst hK
            simp [head, f22_0m, mask, trunc, lt1, ltc, Blk.lt]
            simpa [f22_0m, List.replicate] using hg
        · rw [h3] at hx
          have hqo : q < o.length := (List.getElem?_eq_some_iff.1 h4).1
          have hwl : w.length = 8 := ho w (List.mem_of_getElem? h4)
          have hwj : w[j]? = some (w.getD j 0) := by rw [List.getD_eq_getElem?_getD, List.getElem?_eq_getElem (by omega)]; rfl
          have hq0 : ¬ (q : Int) < 0 := by omega
          have hj1 : 1 ≤ 8 - j := by omega
          have hqi : (q : Int) < (o.length : Int) := by omega
          simp only [Nat.zero_add] at hx
          generalize w.getD j 0 = x at *
          by_cases c3 : x = 0
          · have hg := go (by rw [bi, bj, h5]; simp [c1, c2, c3])
            simp [-binA_shr, f22_0, List.replicate, hjlt, rd, wr, splice, chk, si, sj, and1_i, e1, e1', e2, hw, fzc, hx, hq0, h4, hwl, hwj, hqi, hj1, c3]
            subst hK
            simp [head, f22_0m, mask, trunc, lt1, ltc, Blk.lt]
            simpa [f22_0m, List.replicate] using hg
          · have hf := fin (by rw [bi, bj, h5]; simp [c1, c2, c3])
            simp [-binA_shr, f22_0, List.replicate, hjlt, rd, wr, splice, chk, si, sj, and1_i, e1, e1', e2, hw, fzc, hx, hq0, h4, hwl, hwj, hqi, hj1, c3]
            subst hK
            exact h2 _ rfl _ rfl hf
    · have e1 : (qi : Int) % 2 = 0 := by omega
      have := go (by rw [bi]; simp [c1])
      simp [-binA_shr, f22_0, List.replicate, hjlt, rd, wr, splice, chk, si, sj, and1_i, e1, hw]
      subst hK
      simp [head, f22_0m, mask, trunc, lt1, ltc, Blk.lt]
      simpa [f22_0m, List.replicate] using this
/-- Whether an order eliminates the variables of a mask. -/
def elimB (o : List (List Int)) (m : Nat) : Prop := ∀ i, i < 8 → ∀ j, j < 8 → elimOk o m i j = true
set_option maxRecDepth 20000 in
theorem elim_outer {o : List (List Int)} (ho : ∀ w ∈ o, w.length = 8) (hol : o.length < 1000000) {m : Nat} {Q : FQ}
    (h1 : ∀ (tm : List AV) (hl : tm.length = 51) (S : Store), elimB o m → Q (.ex 0) ⟨tm, S⟩)
    (h2 : ∀ (tm : List AV) (hl : tm.length = 51) (S : Store), tm[4] = .bool false → ¬ elimB o m → Q .ret ⟨tm, S⟩) :
    ∀ (n i : Nat), i + n = 8 → (∀ i', i' < i → ∀ j, j < 8 → elimOk o m i' j = true) →
    wpL RT f22_1m 0 f22_1 ⟨[OR o, .int .u8 (m : Int), .any, .any, .any, .any, .any, .any, .int .i64 (i : Int)] ++ List.replicate 42 .any, []⟩ Q := by
  intro n
  induction n with
  | zero =>
    intro i hi hp
    have hi' : i = 8 := by omega
    subst hi'
    rw [wpL_step]
    generalize hK : loopQ RT f22_1m 0 f22_1 Q = K
    simp [f22_1, List.replicate]
    subst hK
    exact h1 _ rfl [] hp
  | succ n ih =>
    intro i hi hp
    have hi8 : i < 8 := by omega
    have hilt : (i : Int) < 8 := by omega
    have hw : IntKind.i64.wrap ((i : Int) + 1) = ((i + 1 : Nat) : Int) := wrap_i64 (by omega) (by omega)
    rw [wpL_step]
    generalize hK : loopQ RT f22_1m 0 f22_1 Q = K
    simp [f22_1, List.replicate, hilt, wr, chk, splice]
    simp [head, f22_0m, mask, trunc_len]
    refine elim_inner ho hol hi8 ?_ ?_ 8 0 rfl (fun j' h => by omega)
    · intro tm hl S h0 h1' h8 hall
      simp [hl, h0, h1', h8, hw]
      subst hK
      simp only [loopQ_nrm, head]
      rw [mask_of (n := 51) (by simp [hl])]
      have := ih (i + 1) (by omega) fun i' hi' => by
        by_cases e : i' = i
        · rw [e]; exact hall
        · exact hp i' (by omega)
      simp [f22_1m, hl, h0, h1', List.range_succ, trunc, lt1, ltc, Blk.lt]
      simpa [f22_1m, List.replicate] using this
    · intro tm hl S h4 hex
      simp [hl, h4]
      subst hK
      refine h2 _ (by simp [hl]) _ (by simp [h4]) fun hE => ?_
      obtain ⟨j, hj, hf⟩ := hex
      rw [hE i hi8 j hj] at hf
      cases hf
open Classical in
theorem run_eliminates {o : List (List Int)} (ho : ∀ w ∈ o, w.length = 8) (hol : o.length < 1000000) (m : Nat) : callPure RT 22 [OR o, .int .u8 (m : Int)] = some (.bool (decide (elimB o m))) := by
  refine callPure_of (wpF_of tab_22 rfl ?_)
  simp [f22, enter]
  simp [head, f22_1m, mask, trunc_len]
  refine elim_outer ho hol ?_ ?_ 8 0 rfl (fun i' h => by omega)
  · intro tm hl S h
    simp [hl, h]
  · intro tm hl S h4 h
    simp [hl, h4, h]
end Go.AVM
