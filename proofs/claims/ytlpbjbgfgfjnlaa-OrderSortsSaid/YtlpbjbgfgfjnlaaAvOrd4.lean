/- What OrderNamed says, of its telling. -/
import Derived.Test.YtlpbjbgfgfjnlaaAvOrd3
import Derived.Test.YtlpbjbgfgfjnlaaAvEx5
set_option linter.unusedVariables false
set_option linter.unusedSimpArgs false
set_option linter.unusedSectionVars false
namespace Go.AVM
theorem monoL_len {x : List Int} (h : x.length = 8) : (monoL x).length = 8 := by simp [monoL, h]
theorem monoL_bd {x : List Int} (h : ∀ n ∈ x, 0 ≤ n ∧ n ≤ 65535) : ∀ n ∈ monoL x, 0 ≤ n ∧ n < 20000 := by
  intro n hn
  obtain ⟨m, hm, rfl⟩ := List.mem_map.1 hn
  have := h m hm
  omega
theorem rows_nil : Rows [] := fun w hw => by cases hw
theorem rows_graded : Rows gradO := by simp [Rows, Bd, gradO]
theorem rows_rev : Rows revO := by simp [Rows, Bd, revO]
theorem graded_ok {a b : List Int} (ha : a.length = 8) (hb : b.length = 8) : ordCmp gradO a b = if a.sum < b.sum then -1 else if b.sum < a.sum then 1 else cmpL a b := by
  obtain ⟨a0, a1, a2, a3, a4, a5, a6, a7, rfl⟩ := len8 ha
  obtain ⟨b0, b1, b2, b3, b4, b5, b6, b7, rfl⟩ := len8 hb
  simp only [gradO, ordCmp, dotL, List.sum_cons, List.sum_nil, Int.one_mul, Int.add_zero]
  by_cases h1 : a0 + (a1 + (a2 + (a3 + (a4 + (a5 + (a6 + a7)))))) < b0 + (b1 + (b2 + (b3 + (b4 + (b5 + (b6 + b7))))))
  · rw [if_pos (by omega), if_pos h1]
  · rw [if_neg (by omega), if_neg h1]
    by_cases h2 : b0 + (b1 + (b2 + (b3 + (b4 + (b5 + (b6 + b7)))))) < a0 + (a1 + (a2 + (a3 + (a4 + (a5 + (a6 + a7))))))
    · rw [if_pos (by omega), if_pos h2]
    · rw [if_neg (by omega), if_neg h2]
theorem reverse_ok {a b : List Int} (ha : a.length = 8) (hb : b.length = 8) : ordCmp revO a b = if a.sum < b.sum then -1 else if b.sum < a.sum then 1 else -(cmpL a.reverse b.reverse) := by
  obtain ⟨a0, a1, a2, a3, a4, a5, a6, a7, rfl⟩ := len8 ha
  obtain ⟨b0, b1, b2, b3, b4, b5, b6, b7, rfl⟩ := len8 hb
  simp only [ordCmp, revO, dotL, List.sum_cons, List.sum_nil, Int.one_mul, Int.add_zero, Int.zero_mul, Int.zero_add, List.reverse_cons, List.reverse_nil, List.nil_append, List.cons_append, cmpL]
  by_cases h1 : a0 + (a1 + (a2 + (a3 + (a4 + (a5 + (a6 + a7)))))) < b0 + (b1 + (b2 + (b3 + (b4 + (b5 + (b6 + b7))))))
  · rw [if_pos (by omega), if_pos h1]
  · rw [if_neg (by omega), if_neg h1]
    by_cases h2 : b0 + (b1 + (b2 + (b3 + (b4 + (b5 + (b6 + b7)))))) < a0 + (a1 + (a2 + (a3 + (a4 + (a5 + (a6 + a7))))))
    · rw [if_pos (by omega), if_pos h2]
    · rw [if_neg (by omega), if_neg h2]
      have key : ∀ (x y p q : Int), (if -1 * (x - y) < 0 then (-1 : Int) else if 0 < -1 * (x - y) then 1 else p) = -(if x < y then -1 else if y < x then 1 else q) ↔ (x = y → p = -q) := by
        intro x y p q
        rcases Int.lt_trichotomy x y with h | h | h
        · rw [if_neg (by omega), if_pos (by omega), if_pos h]; constructor
          · intro _ h'; omega
          · intro _; rfl
        · rw [if_neg (by omega), if_neg (by omega), if_neg (by omega), if_neg (by omega)]
          exact ⟨fun h' _ => h', fun h' => h' h⟩
        · rw [if_pos (by omega), if_neg (by omega), if_pos h]; constructor
          · intro _ h'; omega
          · intro _; rfl
      rw [key _ _ _ _]; intro e7
      rw [key _ _ _ _]; intro e6
      rw [key _ _ _ _]; intro e5
      rw [key _ _ _ _]; intro e4
      rw [key _ _ _ _]; intro e3
      rw [key _ _ _ _]; intro e2
      rw [key _ _ _ _]; intro e1
      have e0 : a0 = b0 := by omega
      subst e0 e1 e2 e3 e4 e5 e6 e7
      simp
theorem sum_bd {l : List Int} (h8 : l.length = 8) {c : Int} (h : ∀ n ∈ l, 0 ≤ n ∧ n < c) : 0 ≤ l.sum ∧ l.sum ≤ 8 * c := by
  obtain ⟨a0, a1, a2, a3, a4, a5, a6, a7, rfl⟩ := len8 h8
  simp at h
  simp
  omega
set_option maxHeartbeats 2000000 in
set_option maxRecDepth 20000 in
theorem law_named (l : List (List Int)) (same : Bool) (hl2 : l.length = 2) (hx : ∀ x ∈ l, x.length = 8 ∧ ∀ n ∈ x, 0 ≤ n ∧ n ≤ 65535) :
    callPure (run tab) 4 [.agg (l.flatMap fun x => x.flatMap fun n => [.int .u16 n]), .bool same] = some (.bool true) := by
  obtain ⟨x, y, rfl⟩ : ∃ x y, l = [x, y] := by
    match l, hl2 with
    | [x, y], _ => exact ⟨x, y, rfl⟩
  obtain ⟨hx8, hxb⟩ := hx x (by simp)
  obtain ⟨hy8, hyb⟩ := hx y (by simp)
  have hfl : ∀ z : List Int, (z.flatMap fun n => [AV.int .u16 n]) = nums .u16 z := fun z => by
    induction z with
    | nil => rfl
    | cons n z ih => rw [List.flatMap_cons, ih]; rfl
  simp only [List.flatMap_cons, List.flatMap_nil, hfl, List.append_nil]
  have ht1 : (nums .u16 x ++ nums .u16 y).take 8 = nums .u16 x := by
    rw [List.take_append_of_le_length (by simp [hx8])]; exact List.take_of_length_le (by simp [hx8])
  have ht2 : ((nums .u16 x ++ nums .u16 y).drop 8).take 8 = nums .u16 y := by
    rw [List.drop_append_of_le_length (by simp [hx8]), List.drop_eq_nil_of_le (by simp [hx8]), List.nil_append]; exact List.take_of_length_le (by simp [hy8])
  have hm1 := run_mono hx8 hxb
  have hm2 := run_mono hy8 hyb
  have hA8 := monoL_len hx8
  have hB8 := monoL_len hy8
  have hAb := monoL_bd hxb
  have hBb := monoL_bd hyb
  generalize monoL x = a at *
  generalize monoL y = b0 at *
  have hty : (nums .u16 y).take 8 = nums .u16 y := List.take_of_length_le (by simp [hy8])
  have hta : (nums .i64 a).take 8 = nums .i64 a := List.take_of_length_le (by simp [hA8])
  have htb : (nums .i64 b0).take 8 = nums .i64 b0 := List.take_of_length_le (by simp [hB8])
  have hAB : Bd 200000 a := fun n hn => by have := hAb n hn; omega
  have hBB : Bd 200000 b0 := fun n hn => by have := hBb n hn; omega
  have hz : ∀ l : List Int, l.length = 8 → splice [.int .i64 0, .int .i64 0, .int .i64 0, .int .i64 0, .int .i64 0, .int .i64 0, .int .i64 0, .int .i64 0] 0 (nums .i64 l) = nums .i64 l := fun l hl => row_splice hl rfl
  have hda := run_degree hA8 (hAB.mono (by decide))
  have hdb := run_degree hB8 (hBB.mono (by decide))
  have hsa := sum_bd hA8 hAb
  have hsb := sum_bd hB8 hBb
  /- what follows the change of the last exponent -/
  have hrest : ∀ b : List Int, b.length = 8 → Bd 200000 b →
      callPure RT 13 [.sl [] 8 false, R8 a, R8 b] = some (.int .i64 (cmpL a b)) ∧ callPure RT 13 [OR gradO, R8 a, R8 b] = some (.int .i64 (if a.sum < b.sum then -1 else if b.sum < a.sum then 1 else cmpL a b)) ∧
      callPure RT 13 [OR revO, R8 a, R8 b] = some (.int .i64 (if a.sum < b.sum then -1 else if b.sum < a.sum then 1 else -(cmpL a.reverse b.reverse))) ∧
      callPure RT 17 [R8 a, R8 b] = some (.int .i64 (cmpL a b)) ∧ callPure RT 18 [R8 a, R8 b] = some (.int .i64 (-(cmpL a.reverse b.reverse))) ∧ callPure RT 16 [R8 b] = some (.int .i64 b.sum) := by
    intro b h8 hB
    refine ⟨run_Cmp (o := []) rows_nil (by decide) hA8 h8 hAB hB, ?_, ?_, run_mcmp hA8 h8, run_last hA8 h8, run_degree h8 (hB.mono (by decide))⟩
    · rw [run_Cmp rows_graded (by decide) hA8 h8 hAB hB, graded_ok hA8 h8]
    · rw [run_Cmp rows_rev (by decide) hA8 h8 hAB hB, reverse_ok hA8 h8]
  obtain ⟨w, hw⟩ : ∃ w, b0[7] = w := ⟨_, rfl⟩
  have hwb := hBb w (hw ▸ List.getElem_mem _)
  have hw1 : IntKind.i64.wrap (w + a.sum) = w + a.sum := wrap_i64 (by omega) (by omega)
  have hw2 : IntKind.i64.wrap (w + a.sum - b0.sum) = w + a.sum - b0.sum := wrap_i64 (by omega) (by omega)
  cases same with
  | false =>
    obtain ⟨r1, r2, r3, r4, r5, r6⟩ := hrest b0 hB8 hBB
    have hw3 : ¬ 65535 < w := by omega
    refine callPure_of (wpF_of tab_4 rfl ?_)
    simp [f4, enter, run_examples5, after_nr, hx8, hy8, rd, chk, ht1, ht2, hm1, hm2, hty, wr, hA8, hB8, hz, hta, htb, hw, hw3, r4, r5, r6, hda]
    have hl := run_lex
    by_cases c1 : a.sum < b0.sum
    · simp [c1] at r2 r3
      simp [c1, Int.not_lt.2 (Int.le_of_lt c1), rd, chk, hA8, hB8, hta, htb, hda, r1, r2, r3, r4, r5, r6, hl, run_graded, run_reverse, after_nr]
    · simp [c1] at r2 r3
      by_cases c2 : b0.sum < a.sum
      · simp [c2] at r2 r3
        simp [c1, c2, rd, chk, hA8, hB8, hta, htb, hda, r1, r2, r3, r4, r5, r6, hl, run_graded, run_reverse, after_nr]
      · simp [c2] at r2 r3
        simp [c1, c2, rd, chk, hA8, hB8, hta, htb, hda, r1, r2, r3, r4, r5, r6, hl, run_graded, run_reverse, after_nr]
  | true =>
    obtain ⟨v, hv⟩ : ∃ v, v = if b0.sum < w + a.sum then w + a.sum - b0.sum else 0 := ⟨_, rfl⟩
    have hvb : -200000 ≤ v ∧ v ≤ 200000 := by rw [hv]; split <;> omega
    have hC8 : (b0.set 7 v).length = 8 := by simp [hB8]
    have hCB : Bd 200000 (b0.set 7 v) := fun n hn => by
      rcases List.mem_or_eq_of_mem_set hn with h | rfl
      · exact hBB n h
      · exact hvb
    obtain ⟨r1, r2, r3, r4, r5, r6⟩ := hrest _ hC8 hCB
    have hsp : splice (nums .i64 b0) 7 [.int .i64 v] = nums .i64 (b0.set 7 v) := by
      obtain ⟨b0, b1, b2, b3, b4, b5, b6, b7, rfl⟩ := len8 hB8
      simp [splice]
    have htc : (nums .i64 (b0.set 7 v)).take 8 = nums .i64 (b0.set 7 v) := List.take_of_length_le (by simp [hB8])
    have hC7 : ∀ h, (b0.set 7 v)[7]'h = v := by simp
    by_cases hw3 : 65535 < v
    · refine callPure_of (wpF_of tab_4 rfl ?_)
      simp [f4, enter, run_examples5, after_nr, hx8, hy8, rd, chk, ht1, ht2, hm1, hm2, hty, wr, hA8, hB8, hz, hta, htb, hw, hda, hdb, hw1, hw2, ← hv, hsp, hw3]
    · generalize b0.set 7 v = b at *
      have hC7l : 7 < b.length := by omega
      refine callPure_of (wpF_of tab_4 rfl ?_)
      simp [f4, enter, run_examples5, after_nr, hx8, hy8, rd, chk, ht1, ht2, hm1, hm2, hty, wr, hA8, hB8, hz, hta, htb, hw, hda, hdb, hw1, hw2, ← hv, hsp, hC8, htc, hC7 hC7l, hw3, r4, r5, r6]
      have hl := run_lex
      by_cases c1 : a.sum < b.sum
      · simp [c1] at r2 r3
        simp [c1, Int.not_lt.2 (Int.le_of_lt c1), rd, chk, hA8, hC8, hta, htc, hda, r1, r2, r3, r4, r5, r6, hl, run_graded, run_reverse, after_nr]
      · simp [c1] at r2 r3
        by_cases c2 : b.sum < a.sum
        · simp [c2] at r2 r3
          simp [c1, c2, rd, chk, hA8, hC8, hta, htc, hda, r1, r2, r3, r4, r5, r6, hl, run_graded, run_reverse, after_nr]
        · simp [c2] at r2 r3
          simp [c1, c2, rd, chk, hA8, hC8, hta, htc, hda, r1, r2, r3, r4, r5, r6, hl, run_graded, run_reverse, after_nr]
end Go.AVM
