/- Orders: the plain law of eliminating; the variables that occur. -/
import Derived.Test.YtlpbjbgfgfjnlaaAvElim2
set_option linter.unusedVariables false
set_option linter.unusedSimpArgs false
set_option linter.unusedSectionVars false
namespace Go.AVM
theorem dot_get {w a b : List Int} (hw : w.length = 8) (ha : a.length = 8) (hb : b.length = 8) {P : Int → Prop} (h0 : ∀ t : Nat → Int, (∀ k, k < 8 → t k = w.getD k 0 * (a.getD k 0 - b.getD k 0)) → P (t 0 + (t 1 + (t 2 + (t 3 + (t 4 + (t 5 + (t 6 + (t 7 + 0))))))))) : P (dotL w a b) := by
  obtain ⟨a0, a1, a2, a3, a4, a5, a6, a7, rfl⟩ := len8 ha
  obtain ⟨b0, b1, b2, b3, b4, b5, b6, b7, rfl⟩ := len8 hb
  obtain ⟨w0, w1, w2, w3, w4, w5, w6, w7, rfl⟩ := len8 hw
  exact h0 (fun k => [w0, w1, w2, w3, w4, w5, w6, w7].getD k 0 * ([a0, a1, a2, a3, a4, a5, a6, a7].getD k 0 - [b0, b1, b2, b3, b4, b5, b6, b7].getD k 0)) fun k _ => rfl
theorem dot_pos {w a b : List Int} (hw : w.length = 8) (ha : a.length = 8) (hb : b.length = 8) (h : ∀ k, k < 8 → 0 ≤ w.getD k 0 * (a.getD k 0 - b.getD k 0)) {i : Nat} (hi : i < 8) (hp : 0 < w.getD i 0 * (a.getD i 0 - b.getD i 0)) : 0 < dotL w a b := by
  refine dot_get (P := fun d => 0 < d) hw ha hb fun t ht => ?_
  have hk : ∀ k, k < 8 → 0 ≤ t k := fun k hk => by rw [ht k hk]; exact h k hk
  have hip : 0 < t i := by rw [ht i hi]; exact hp
  have h0 := hk 0 (by decide); have h1 := hk 1 (by decide); have h2 := hk 2 (by decide); have h3 := hk 3 (by decide)
  have h4 := hk 4 (by decide); have h5 := hk 5 (by decide); have h6 := hk 6 (by decide); have h7 := hk 7 (by decide)
  have : i = 0 ∨ i = 1 ∨ i = 2 ∨ i = 3 ∨ i = 4 ∨ i = 5 ∨ i = 6 ∨ i = 7 := by omega
  rcases this with rfl | rfl | rfl | rfl | rfl | rfl | rfl | rfl <;> omega
theorem dot_zero {w a b : List Int} (hw : w.length = 8) (ha : a.length = 8) (hb : b.length = 8) (h : ∀ k, k < 8 → w.getD k 0 * (a.getD k 0 - b.getD k 0) = 0) : dotL w a b = 0 := by
  refine dot_get (P := fun d => d = 0) hw ha hb fun t ht => ?_
  have hk : ∀ k, k < 8 → t k = 0 := fun k hk => by rw [ht k hk]; exact h k hk
  have h0 := hk 0 (by decide); have h1 := hk 1 (by decide); have h2 := hk 2 (by decide); have h3 := hk 3 (by decide)
  have h4 := hk 4 (by decide); have h5 := hk 5 (by decide); have h6 := hk 6 (by decide); have h7 := hk 7 (by decide)
  omega
/-- The first place where two rows differ decides. -/
theorem cmpL_first : ∀ {a b : List Int} {i : Nat}, a.length = b.length → i < a.length → (∀ k, k < i → a.getD k 0 = b.getD k 0) → b.getD i 0 < a.getD i 0 → cmpL a b = 1
  | [], _, _, _, h, _, _ => by simp at h
  | _ :: _, [], _, h, _, _, _ => by simp at h
  | x :: a, y :: b, 0, _, _, _, h => by
    simp only [List.getD_cons_zero] at h
    simp only [cmpL]; rw [if_neg (by omega), if_pos h]
  | x :: a, y :: b, i + 1, hl, hi, hk, h => by
    have h0 := hk 0 (by omega)
    simp only [List.getD_cons_zero] at h0
    simp only [List.getD_cons_succ] at h
    simp only [cmpL]; rw [if_neg (by omega), if_neg (by omega)]
    exact cmpL_first (by simpa using hl) (by simpa using hi) (fun k hk' => by have := hk (k + 1) (by omega); simpa using this) h
/-- In an order that eliminates variables, a monomial in which one of them occurs is greater than one in which none of them occurs. -/
theorem elim_cmp {m : Nat} {a b : List Int} (ha : a.length = 8) (hb : b.length = 8) (ha0 : ∀ k, k < 8 → 0 ≤ a.getD k 0) (hbm : ∀ k, k < 8 → m.testBit k = true → b.getD k 0 = 0) {i0 : Nat} (hi0 : i0 < 8) (hm0 : m.testBit i0 = true) (hp0 : 0 < a.getD i0 0) :
    ∀ (o : List (List Int)), (∀ w ∈ o, w.length = 8) → (∀ k, k < 8 → m.testBit k = true → 0 < a.getD k 0 → colOk k o) → (∀ i, i < 8 → m.testBit i = true → 0 < a.getD i 0 → ∀ j, j < 8 → m.testBit j = false → pairOk i j o = true) → ordCmp o a b = 1
  | [], _, _, hE => by
    /- the least of the variables that occur -/
    have hex : ∃ i, i < 8 ∧ m.testBit i = true ∧ 0 < a.getD i 0 ∧ ∀ k, k < i → ¬ (m.testBit k = true ∧ 0 < a.getD k 0) := by
      have : ∀ n i, i ≤ n → i < 8 → m.testBit i = true → 0 < a.getD i 0 → ∃ i, i < 8 ∧ m.testBit i = true ∧ 0 < a.getD i 0 ∧ ∀ k, k < i → ¬ (m.testBit k = true ∧ 0 < a.getD k 0) := by
        intro n
        induction n with
        | zero => exact fun i hi h8 hm hp => ⟨i, h8, hm, hp, fun k hk => by omega⟩
        | succ n ih =>
          intro i hi h8 hm hp
          by_cases h : ∃ k, k < i ∧ m.testBit k = true ∧ 0 < a.getD k 0
          · obtain ⟨k, hk, h1, h2⟩ := h
            exact ih k (by omega) (by omega) h1 h2
          · exact ⟨i, h8, hm, hp, fun k hk h' => h ⟨k, hk, h'⟩⟩
      exact this 8 i0 (by omega) hi0 hm0 hp0
    obtain ⟨i, h8, hm, hp, hleast⟩ := hex
    show cmpL a b = 1
    refine cmpL_first (i := i) (by omega) (by omega) (fun k hk => ?_) (by rw [hbm i h8 hm]; exact hp)
    cases hmk : m.testBit k with
    | true =>
      have h1 := hleast k hk
      have h2 := ha0 k (by omega)
      rw [hbm k (by omega) hmk]
      refine Classical.byContradiction fun hne => h1 ⟨hmk, by omega⟩
    | false =>
      have := hE i h8 hm hp k (by omega) hmk
      simp only [pairOk, decide_eq_true_eq] at this
      omega
  | w :: o, hw8, hc, hE => by
    have hwl := hw8 w (by simp)
    have hcw : ∀ k, k < 8 → m.testBit k = true → 0 < a.getD k 0 → 0 < w.getD k 0 ∨ (w.getD k 0 = 0 ∧ colOk k o) := fun k hk h1 h2 => hc k hk h1 h2
    simp only [ordCmp]
    by_cases hex : ∃ i, i < 8 ∧ m.testBit i = true ∧ 0 < a.getD i 0 ∧ w.getD i 0 ≠ 0
    · obtain ⟨i, h8, hm, hp, hne⟩ := hex
      have hj : ∀ j, j < 8 → m.testBit j = false → w.getD j 0 = 0 := by
        intro j hj hmj
        have := hE i h8 hm hp j hj hmj
        have ho : occ i j w = true := by unfold occ; rw [decide_eq_true hne]; rfl
        simp only [pairOk, ho, if_true, decide_eq_true_eq] at this
        exact this
      have hge : ∀ k, k < 8 → m.testBit k = true → 0 < a.getD k 0 → 0 ≤ w.getD k 0 := fun k hk h1 h2 => by rcases hcw k hk h1 h2 with h | h <;> omega
      have hpos : 0 < dotL w a b := by
        refine dot_pos hwl ha hb (fun k hk => ?_) h8 ?_
        · cases hmk : m.testBit k with
          | true =>
            rw [hbm k hk hmk]
            by_cases hpk : 0 < a.getD k 0
            · exact Int.mul_nonneg (hge k hk hmk hpk) (by omega)
            · have : a.getD k 0 = 0 := by have := ha0 k hk; omega
              rw [this]; simp
          | false => rw [hj k hk hmk]; simp
        · rw [hbm i h8 hm]
          refine Int.mul_pos ?_ (by omega)
          have := hge i h8 hm hp; omega
      rw [if_neg (by omega), if_pos hpos]
    · have hz : ∀ i, i < 8 → m.testBit i = true → 0 < a.getD i 0 → w.getD i 0 = 0 := fun i h8 hm hp => Classical.byContradiction fun hne => hex ⟨i, h8, hm, hp, hne⟩
      have hj : ∀ i, i < 8 → m.testBit i = true → 0 < a.getD i 0 → ∀ j, j < 8 → m.testBit j = false → w.getD j 0 = 0 ∧ pairOk i j o = true := by
        intro i h8 hm hp j hj hmj
        have h1 := hE i h8 hm hp j hj hmj
        have h2 := hz i h8 hm hp
        by_cases hwj : w.getD j 0 = 0
        · have ho : occ i j w = false := by unfold occ; rw [h2, hwj]; rfl
          simp only [pairOk, ho, Bool.false_eq_true, if_false] at h1
          exact ⟨hwj, h1⟩
        · have ho : occ i j w = true := by unfold occ; rw [decide_eq_true (p := w.getD j 0 ≠ 0) hwj, Bool.or_true]
          simp only [pairOk, ho, if_true, decide_eq_true_eq] at h1
          exact absurd h1 hwj
      have hzero : dotL w a b = 0 := by
        refine dot_zero hwl ha hb fun k hk => ?_
        cases hmk : m.testBit k with
        | true =>
          rw [hbm k hk hmk]
          by_cases hp : 0 < a.getD k 0
          · rw [hz k hk hmk hp]; simp
          · have : a.getD k 0 = 0 := by have := ha0 k hk; omega
            rw [this]; simp
        | false => rw [(hj i0 hi0 hm0 hp0 k hk hmk).1]; simp
      rw [if_neg (by omega), if_neg (by omega)]
      refine elim_cmp ha hb ha0 hbm hi0 hm0 hp0 o (fun v hv => hw8 v (by simp [hv])) (fun k hk hmk hpk => ?_) (fun i h8 hm hp j hj' hmj => (hj i h8 hm hp j hj' hmj).2)
      rcases hcw k hk hmk hpk with h | h
      · have := hz k hk hmk hpk; omega
      · exact h.2
/-- The variables that occur, as bits. -/
theorem support_loop {a : List Int} (ha : a.length = 8) {r : Blk} {Q : FQ}
    (hQ : ∀ (tm : List AV) (hl : tm.length = 19) (s : Nat), tm[3] = .int .u8 (s : Int) → s < 256 → (∀ k, k < 8 → s.testBit k = decide (0 < a.getD k 0)) → Q (.ex 0) ⟨tm, [r]⟩) :
    ∀ (m k : Nat), k + m = 8 → ∀ s : Nat, s < 2 ^ k → (∀ j, j < k → s.testBit j = decide (0 < a.getD j 0)) →
    wpL RT f26_0m 1 f26_0 ⟨[.any, .any, .any, .int .u8 (s : Int), .any, .any, R8 a, .int .i64 (k : Int)] ++ List.replicate 11 .any, [r]⟩ Q := by
  intro m
  induction m with
  | zero =>
    intro k hk s hs hb
    have hk' : k = 8 := by omega
    subst hk'
    rw [wpL_step]
    generalize hK : loopQ RT f26_0m 1 f26_0 Q = K
    simp [f26_0, List.replicate]
    subst hK
    exact hQ _ rfl s rfl hs hb
  | succ m ih =>
    intro k hk s hs hb
    have hk8 : k < 8 := by omega
    have hklt : (k : Int) < 8 := by omega
    have hw : IntKind.i64.wrap ((k : Int) + 1) = ((k + 1 : Nat) : Int) := wrap_i64 (by omega) (by omega)
    have hget : a[k]? = some (a.getD k 0) := by rw [List.getD_eq_getElem?_getD, List.getElem?_eq_getElem (by omega)]; rfl
    have hpow : 2 ^ k ≤ 128 := by
      have : k ≤ 7 := by omega
      exact Nat.pow_le_pow_right (by decide) this
    have hs2 : s < 2 ^ (k + 1) := by rw [Nat.pow_succ]; omega
    by_cases c : 0 < a.getD k 0
    · have hshl : binA .shl (.int .u8 1) (.int .i64 (k : Int)) = some (.int .u8 ((2 ^ k : Nat) : Int)) := by
        have h0 : min ((k : Int).toNat) IntKind.u8.bits = k := by show min ((k : Int).toNat) 8 = k; omega
        rw [binA_shl, chk_pos (by omega), h0, wrap_u8]
        have : (1 : Int) * 2 ^ k = ((2 ^ k : Nat) : Int) := by push_cast; omega
        rw [this, Int.emod_eq_of_lt (by omega) (by omega)]
      have hor : binA .or (.int .u8 (s : Int)) (.int .u8 ((2 ^ k : Nat) : Int)) = some (.int .u8 ((s ||| 2 ^ k : Nat) : Int)) := or_nat rfl (by show s < 256; omega) (by show 2 ^ k < 256; omega)
      have hlt2 : s ||| 2 ^ k < 2 ^ (k + 1) := Nat.or_lt_two_pow hs2 (by rw [Nat.pow_succ]; omega)
      have hb2 : ∀ j, j < k + 1 → (s ||| 2 ^ k).testBit j = decide (0 < a.getD j 0) := by
        intro j hj
        rw [Nat.testBit_or, Nat.testBit_two_pow]
        by_cases e : k = j
        · subst e; simp [c]
          have h1 := c
          rw [List.getD_eq_getElem?_getD] at h1
          simpa using h1
        · rw [hb j (by omega)]; simp [e]
      have := ih (k + 1) (by omega) (s ||| 2 ^ k) hlt2 hb2
      generalize s ||| 2 ^ k = s2 at *
      generalize 2 ^ k = p at *
      generalize a.getD k 0 = x at *
      rw [wpL_step]
      generalize hK : loopQ RT f26_0m 1 f26_0 Q = K
      simp [-binA_shl, f26_0, List.replicate, hklt, ha, hget, c, hshl, hor, hw]
      subst hK
      simp [head, f26_0m, mask, trunc_len]
      simpa [f26_0m, List.replicate] using this
    · have hb2 : ∀ j, j < k + 1 → s.testBit j = decide (0 < a.getD j 0) := by
        intro j hj
        by_cases e : j = k
        · subst e
          rw [Nat.testBit_lt_two_pow hs]; simp only [c, decide_false]
        · exact hb j (by omega)
      have := ih (k + 1) (by omega) s hs2 hb2
      generalize a.getD k 0 = x at *
      rw [wpL_step]
      generalize hK : loopQ RT f26_0m 1 f26_0 Q = K
      simp [f26_0, List.replicate, hklt, ha, hget, c, hw]
      subst hK
      simp [head, f26_0m, mask, trunc_len]
      simpa [f26_0m, List.replicate] using this
theorem run_support {a : List Int} (ha : a.length = 8) : ∃ s : Nat, callPure RT 26 [R8 a] = some (.int .u8 (s : Int)) ∧ s < 256 ∧ ∀ k, k < 8 → s.testBit k = decide (0 < a.getD k 0) := by
  suffices h : ∃ r, callPure RT 26 [R8 a] = some r ∧ ∃ s : Nat, r = .int .u8 (s : Int) ∧ s < 256 ∧ ∀ k, k < 8 → s.testBit k = decide (0 < a.getD k 0) by
    obtain ⟨_, h1, s, rfl, h2, h3⟩ := h
    exact ⟨s, h1, h2, h3⟩
  have ht8 : (nums .i64 a).take 8 = nums .i64 a := List.take_of_length_le (by simp [ha])
  refine callPure_ex (wpF_of tab_26 rfl ?_)
  simp [f26, enter, ha, rd, chk, ht8]
  simp [head, f26_0m, mask, trunc_len]
  refine support_loop ha ?_ 8 0 rfl 0 (by decide) (fun j h => by omega)
  intro tm hl s h3 hs hb
  simp [hl, h3]
  exact ⟨s, rfl, hs, by simpa using hb⟩
end Go.AVM
