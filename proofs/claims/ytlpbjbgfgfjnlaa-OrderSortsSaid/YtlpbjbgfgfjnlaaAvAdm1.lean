/- Orders: the plain laws of comparing; products of monomials. -/
import Derived.Test.YtlpbjbgfgfjnlaaAvOrd5
set_option linter.unusedVariables false
set_option linter.unusedSimpArgs false
set_option linter.unusedSectionVars false
namespace Go.AVM
theorem cmpL_anti : ∀ a b : List Int, cmpL b a = -(cmpL a b)
  | [], [] => rfl
  | [], _ :: _ => rfl
  | _ :: _, [] => rfl
  | x :: a, y :: b => by
    simp only [cmpL]
    rcases Int.lt_trichotomy x y with h | h | h
    · rw [if_pos h, if_neg (by omega), if_pos h]; rfl
    · rw [if_neg (by omega), if_neg (by omega), if_neg (by omega), if_neg (by omega), cmpL_anti a b]
    · simp [h, Int.not_lt.2 (Int.le_of_lt h)]
theorem cmpL_vals : ∀ a b : List Int, cmpL a b = -1 ∨ cmpL a b = 0 ∨ cmpL a b = 1
  | [], [] => .inr (.inl rfl)
  | [], _ :: _ => .inr (.inl rfl)
  | _ :: _, [] => .inr (.inl rfl)
  | x :: a, y :: b => by
    simp only [cmpL]
    split
    · exact .inl rfl
    · split
      · exact .inr (.inr rfl)
      · exact cmpL_vals a b
theorem cmpL_eq0 : ∀ {a b : List Int}, a.length = b.length → cmpL a b = 0 → a = b
  | [], [], _, _ => rfl
  | [], _ :: _, h, _ => by simp at h
  | _ :: _, [], h, _ => by simp at h
  | x :: a, y :: b, h, h0 => by
    simp only [cmpL] at h0
    split at h0
    · cases h0
    · split at h0
      · cases h0
      · have := cmpL_eq0 (by simpa using h) h0
        have hxy : x = y := by omega
        rw [hxy, this]
theorem cmpL_trans : ∀ {a b c : List Int}, a.length = b.length → b.length = c.length → 0 ≤ cmpL a b → 0 ≤ cmpL b c → 0 ≤ cmpL a c
  | [], [], [], _, _, _, _ => by simp [cmpL]
  | x :: a, y :: b, z :: c, h1, h2, h3, h4 => by
    simp only [cmpL] at h3 h4 ⊢
    by_cases c1 : x < y
    · rw [if_pos c1] at h3; omega
    · by_cases c2 : y < z
      · rw [if_pos c2] at h4; omega
      · by_cases c3 : y < x
        · rw [if_neg (by omega), if_pos (by omega)]; decide
        · by_cases c4 : z < y
          · rw [if_neg (by omega), if_pos (by omega)]; decide
          · rw [if_neg c1, if_neg c3] at h3
            rw [if_neg c2, if_neg c4] at h4
            rw [if_neg (by omega), if_neg (by omega)]
            exact cmpL_trans (by simpa using h1) (by simpa using h2) h3 h4
  | [], _ :: _, _, h, _, _, _ => by simp at h
  | _ :: _, [], _, h, _, _, _ => by simp at h
  | [], [], _ :: _, _, h, _, _ => by simp at h
  | _ :: _, _ :: _, [], _, h, _, _ => by simp at h
theorem cmpL_le : ∀ {a b : List Int}, a.length = b.length → (∀ k, k < a.length → b.getD k 0 ≤ a.getD k 0) → 0 ≤ cmpL a b
  | [], [], _, _ => by simp [cmpL]
  | [], _ :: _, h, _ => by simp at h
  | _ :: _, [], h, _ => by simp at h
  | x :: a, y :: b, h, hk => by
    have h0 := hk 0 (by simp)
    simp only [List.getD_cons_zero] at h0
    simp only [cmpL]
    rw [if_neg (by omega)]
    split
    · decide
    · exact cmpL_le (by simpa using h) fun k hk' => by have := hk (k + 1) (by simpa using hk'); simpa using this
/-- The product of monomials. -/
def addL (a c : List Int) : List Int := List.zipWith (· + ·) a c
theorem cmpL_add : ∀ {a b c : List Int}, a.length = c.length → b.length = c.length → cmpL (addL a c) (addL b c) = cmpL a b
  | [], [], [], _, _ => rfl
  | x :: a, y :: b, z :: c, h1, h2 => by
    have ih := cmpL_add (a := a) (b := b) (c := c) (by simpa using h1) (by simpa using h2)
    simp only [addL] at ih
    simp only [addL, List.zipWith_cons_cons, cmpL, ih]
    rcases Int.lt_trichotomy x y with h | h | h
    · rw [if_pos (by omega), if_pos h]
    · rw [if_neg (by omega), if_neg (by omega), if_neg (by omega), if_neg (by omega)]
    · rw [if_neg (by omega), if_pos (by omega), if_neg (by omega), if_pos h]
  | [], _ :: _, [], _, h => by simp at h
  | _ :: _, _, [], h, _ => by simp at h
  | [], _, _ :: _, h, _ => by simp at h
  | _ :: _, [], _ :: _, _, h => by simp at h
theorem dotL_anti : ∀ w a b : List Int, dotL w b a = -(dotL w a b)
  | [], _, _ => by simp [dotL]
  | _ :: _, [], [] => by simp [dotL]
  | _ :: _, [], _ :: _ => by simp [dotL]
  | _ :: _, _ :: _, [] => by simp [dotL]
  | w :: ws, a :: as, b :: bs => by
    simp only [dotL, dotL_anti ws as bs, Int.mul_sub]; omega
theorem dotL_trans : ∀ {w a b c : List Int}, a.length = b.length → b.length = c.length → dotL w a c = dotL w a b + dotL w b c
  | [], _, _, _, _, _ => by simp [dotL]
  | _ :: _, [], [], [], _, _ => by simp [dotL]
  | w :: ws, a :: as, b :: bs, c :: cs, h1, h2 => by
    simp only [dotL, dotL_trans (w := ws) (a := as) (b := bs) (c := cs) (by simpa using h1) (by simpa using h2), Int.mul_sub]; omega
  | _ :: _, [], _ :: _, _, h, _ => by simp at h
  | _ :: _, _ :: _, [], _, h, _ => by simp at h
  | _ :: _, [], [], _ :: _, _, h => by simp at h
  | _ :: _, _ :: _, _ :: _, [], _, h => by simp at h
theorem dotL_add : ∀ {w a b c : List Int}, a.length = c.length → b.length = c.length → dotL w (addL a c) (addL b c) = dotL w a b
  | [], _, _, _, _, _ => by simp [dotL]
  | _ :: _, [], [], [], _, _ => by simp [dotL, addL]
  | w :: ws, a :: as, b :: bs, c :: cs, h1, h2 => by
    have ih := dotL_add (w := ws) (a := as) (b := bs) (c := cs) (by simpa using h1) (by simpa using h2)
    simp only [addL] at ih
    simp only [addL, List.zipWith_cons_cons, dotL, ih]
    have : a + c - (b + c) = a - b := by omega
    rw [this]
  | _ :: _, [], _ :: _, [], _, h => by simp at h
  | _ :: _, _ :: _, _, [], h, _ => by simp at h
  | _ :: _, [], _, _ :: _, h, _ => by simp at h
  | _ :: _, _ :: _, [], _ :: _, _, h => by simp at h
theorem ordCmp_anti (o : List (List Int)) (a b : List Int) : ordCmp o b a = -(ordCmp o a b) := by
  induction o with
  | nil => exact cmpL_anti a b
  | cons w o ih =>
    simp only [ordCmp, dotL_anti w a b]
    rcases Int.lt_trichotomy (dotL w a b) 0 with h | h | h
    · rw [if_neg (by omega), if_pos (by omega), if_pos h]; rfl
    · rw [if_neg (by omega), if_neg (by omega), if_neg (by omega), if_neg (by omega), ih]
    · rw [if_pos (by omega), if_neg (by omega), if_pos h]
theorem ordCmp_vals (o : List (List Int)) (a b : List Int) : ordCmp o a b = -1 ∨ ordCmp o a b = 0 ∨ ordCmp o a b = 1 := by
  induction o with
  | nil => exact cmpL_vals a b
  | cons w o ih =>
    simp only [ordCmp]
    split
    · exact .inl rfl
    · split
      · exact .inr (.inr rfl)
      · exact ih
theorem ordCmp_eq0 (o : List (List Int)) {a b : List Int} (h : a.length = b.length) (h0 : ordCmp o a b = 0) : a = b := by
  induction o with
  | nil => exact cmpL_eq0 h h0
  | cons w o ih =>
    simp only [ordCmp] at h0
    split at h0
    · cases h0
    · split at h0
      · cases h0
      · exact ih h0
theorem ordCmp_trans (o : List (List Int)) {a b c : List Int} (h1 : a.length = b.length) (h2 : b.length = c.length) (h3 : 0 ≤ ordCmp o a b) (h4 : 0 ≤ ordCmp o b c) : 0 ≤ ordCmp o a c := by
  induction o with
  | nil => exact cmpL_trans h1 h2 h3 h4
  | cons w o ih =>
    have ht := dotL_trans (w := w) h1 h2
    simp only [ordCmp] at h3 h4 ⊢
    by_cases c1 : dotL w a b < 0
    · rw [if_pos c1] at h3; omega
    · by_cases c2 : dotL w b c < 0
      · rw [if_pos c2] at h4; omega
      · by_cases c3 : 0 < dotL w a b
        · rw [if_neg (by omega), if_pos (by omega)]; decide
        · by_cases c4 : 0 < dotL w b c
          · rw [if_neg (by omega), if_pos (by omega)]; decide
          · rw [if_neg c1, if_neg c3] at h3
            rw [if_neg c2, if_neg c4] at h4
            rw [if_neg (by omega), if_neg (by omega)]
            exact ih h3 h4
theorem ordCmp_add (o : List (List Int)) {a b c : List Int} (h1 : a.length = c.length) (h2 : b.length = c.length) : ordCmp o (addL a c) (addL b c) = ordCmp o a b := by
  induction o with
  | nil => exact cmpL_add h1 h2
  | cons w o ih => simp only [ordCmp, dotL_add h1 h2, ih]
/-- In a valid order, a monomial with greater exponents is not less. -/
theorem ordCmp_le {a b : List Int} (ha : a.length = 8) (hb : b.length = 8) (hk : ∀ k, k < 8 → b.getD k 0 ≤ a.getD k 0) : ∀ (o : List (List Int)), (∀ w ∈ o, w.length = 8) → (∀ k, k < 8 → b.getD k 0 < a.getD k 0 → colOk k o) → 0 ≤ ordCmp o a b
  | [], _, _ => cmpL_le (by omega) fun k h => hk k (by omega)
  | w :: o, hw8, hc => by
    have hwl := hw8 w (by simp)
    have hcw : ∀ k, k < 8 → b.getD k 0 < a.getD k 0 → 0 < w.getD k 0 ∨ (w.getD k 0 = 0 ∧ colOk k o) := fun k h1 h2 => hc k h1 h2
    simp only [ordCmp]
    by_cases hex : ∃ i, i < 8 ∧ b.getD i 0 < a.getD i 0 ∧ w.getD i 0 ≠ 0
    · obtain ⟨i, h8, hlt, hne⟩ := hex
      have hpos : 0 < dotL w a b := by
        refine dot_pos hwl ha hb (fun k hk8 => ?_) h8 ?_
        · by_cases h : b.getD k 0 < a.getD k 0
          · refine Int.mul_nonneg ?_ (by omega)
            rcases hcw k hk8 h with h' | h' <;> omega
          · have := hk k hk8
            have e : a.getD k 0 - b.getD k 0 = 0 := by omega
            rw [e]; simp
        · refine Int.mul_pos ?_ (by omega)
          rcases hcw i h8 hlt with h' | h' <;> omega
      rw [if_neg (by omega), if_pos hpos]; decide
    · have hz : ∀ k, k < 8 → b.getD k 0 < a.getD k 0 → w.getD k 0 = 0 := fun k h8 hlt => Classical.byContradiction fun hne => hex ⟨k, h8, hlt, hne⟩
      have hzero : dotL w a b = 0 := by
        refine dot_zero hwl ha hb fun k hk8 => ?_
        by_cases h : b.getD k 0 < a.getD k 0
        · rw [hz k hk8 h]; simp
        · have := hk k hk8
          have e : a.getD k 0 - b.getD k 0 = 0 := by omega
          rw [e]; simp
      rw [if_neg (by omega), if_neg (by omega)]
      refine ordCmp_le ha hb hk o (fun v hv => hw8 v (by simp [hv])) fun k h8 hlt => ?_
      rcases hcw k h8 hlt with h | h
      · have := hz k h8 hlt; omega
      · exact h.2
/-! ### Products -/
@[simp] theorem nr1_fn (f : Nat) (cs : List AV) : nr1 (.fn f cs) = cs.all nrc := rfl
theorem run_plus {x y : Int} (h1 : -1000000 ≤ x ∧ x ≤ 1000000) (h2 : -1000000 ≤ y ∧ y ≤ 1000000) : callPure RT 47 [.int .i64 x, .int .i64 y] = some (.int .i64 (x + y)) := by
  refine callPure_of (wpF_of tab_47 rfl ?_)
  simp [f47, enter]
  exact wrap_i64 (by omega) (by omega)
theorem addL_len {a c : List Int} (ha : a.length = 8) (hc : c.length = 8) : (addL a c).length = 8 := by simp [addL, ha, hc]
set_option maxRecDepth 20000 in
theorem run_each {a c : List Int} (ha : a.length = 8) (hc : c.length = 8) (haB : Bd 1000000 a) (hcB : Bd 1000000 c) : callPure RT 46 [R8 a, R8 c, .fn 47 []] = some (R8 (addL a c)) := by
  obtain ⟨a0, a1, a2, a3, a4, a5, a6, a7, rfl⟩ := len8 ha
  obtain ⟨c0, c1, c2, c3, c4, c5, c6, c7, rfl⟩ := len8 hc
  simp [Bd] at haB hcB
  have p0 := run_plus haB.1 hcB.1
  have p1 := run_plus haB.2.1 hcB.2.1
  have p2 := run_plus haB.2.2.1 hcB.2.2.1
  have p3 := run_plus haB.2.2.2.1 hcB.2.2.2.1
  have p4 := run_plus haB.2.2.2.2.1 hcB.2.2.2.2.1
  have p5 := run_plus haB.2.2.2.2.2.1 hcB.2.2.2.2.2.1
  have p6 := run_plus haB.2.2.2.2.2.2.1 hcB.2.2.2.2.2.2.1
  have p7 := run_plus haB.2.2.2.2.2.2.2 hcB.2.2.2.2.2.2.2
  refine callPure_of (wpF_of tab_46 rfl ?_)
  simp [f46, enter]
  simp [wpL_step, head, f46_0m, f46_0, mask, rd, wr, splice, chk, trunc, lt1, ltc, Blk.lt, opA_vpure, p0, p1, p2, p3, p4, p5, p6, p7, addL]
set_option maxRecDepth 20000 in
theorem run_mvalid {p : List Int} (hp : p.length = 8) (hb : ∀ x ∈ p, 0 ≤ x ∧ x ≤ 65535) : callPure RT 48 [R8 p] = some (.bool true) := by
  obtain ⟨a0, a1, a2, a3, a4, a5, a6, a7, rfl⟩ := len8 hp
  have n : ∀ x ∈ [a0, a1, a2, a3, a4, a5, a6, a7], ¬ x < 0 ∧ ¬ 65535 < x := fun x hx => by have := hb x hx; omega
  simp only [List.mem_cons, List.not_mem_nil, or_false, forall_eq_or_imp, forall_eq] at n
  obtain ⟨⟨l0, g0⟩, ⟨l1, g1⟩, ⟨l2, g2⟩, ⟨l3, g3⟩, ⟨l4, g4⟩, ⟨l5, g5⟩, ⟨l6, g6⟩, ⟨l7, g7⟩⟩ := n
  refine callPure_of (wpF_of tab_48 rfl ?_)
  simp [f48, enter, rd, chk]
  simp [wpL_step, head, f48_0m, f48_0, mask, rd, chk, trunc, lt1, ltc, Blk.lt, l0, g0, l1, g1, l2, g2, l3, g3, l4, g4, l5, g5, l6, g6, l7, g7]
theorem addL_get {a c : List Int} (ha : a.length = 8) (hc : c.length = 8) {k : Nat} (hk : k < 8) : (addL a c).getD k 0 = a.getD k 0 + c.getD k 0 := by
  rw [List.getD_eq_getElem?_getD, List.getD_eq_getElem?_getD, List.getD_eq_getElem?_getD, List.getElem?_eq_getElem (by rw [addL_len ha hc]; exact hk), List.getElem?_eq_getElem (by omega), List.getElem?_eq_getElem (by omega)]
  simp [addL]
theorem addL_mem {a c : List Int} (ha : a.length = 8) (hc : c.length = 8) {lo hi : Int} (hA : ∀ x ∈ a, lo ≤ x ∧ x ≤ hi) (hC : ∀ x ∈ c, lo ≤ x ∧ x ≤ hi) : ∀ x ∈ addL a c, lo + lo ≤ x ∧ x ≤ hi + hi := by
  intro x hx
  obtain ⟨k, hk, rfl⟩ := List.mem_iff_getElem.1 hx
  have hk8 : k < 8 := by rw [addL_len ha hc] at hk; exact hk
  have h := addL_get ha hc hk8
  rw [List.getD_eq_getElem?_getD, List.getElem?_eq_getElem hk, List.getD_eq_getElem?_getD, List.getD_eq_getElem?_getD, List.getElem?_eq_getElem (by omega), List.getElem?_eq_getElem (by omega)] at h
  simp only [Option.getD_some] at h
  have h1 := hA _ (List.getElem_mem (l := a) (n := k) (by omega))
  have h2 := hC _ (List.getElem_mem (l := c) (n := k) (by omega))
  omega
theorem run_mmul {a c : List Int} (ha : a.length = 8) (hc : c.length = 8) (hA : ∀ x ∈ a, 0 ≤ x ∧ x ≤ 20000) (hC : ∀ x ∈ c, 0 ≤ x ∧ x ≤ 20000) : callPure RT 33 [R8 a, R8 c] = some (.tup [R8 (addL a c), .int .i64 0]) := by
  have he := run_each ha hc (fun x hx => by have := hA x hx; omega) (fun x hx => by have := hC x hx; omega)
  have hl := addL_len ha hc
  have hm := addL_mem ha hc hA hC
  have hv := run_mvalid hl (fun x hx => by have := hm x hx; omega)
  have hta : (nums .i64 a).take 8 = nums .i64 a := List.take_of_length_le (by simp [ha])
  have htc : (nums .i64 c).take 8 = nums .i64 c := List.take_of_length_le (by simp [hc])
  have htp : (nums .i64 (addL a c)).take 8 = nums .i64 (addL a c) := List.take_of_length_le (by simp [hl])
  have hz : ∀ l : List Int, l.length = 8 → splice [.int .i64 0, .int .i64 0, .int .i64 0, .int .i64 0, .int .i64 0, .int .i64 0, .int .i64 0, .int .i64 0] 0 (nums .i64 l) = nums .i64 l := fun l hl => row_splice hl rfl
  refine callPure_of (wpF_of tab_33 rfl ?_)
  simp [f33, enter, ha, hc, rd, wr, chk, hta, htc, he, after_nr, hl, hz, htp, hv]
end Go.AVM
