/- Making an order of raw rows: columns are turned round. -/
import Derived.Test.YtlpbjbgfgfjnlaaAvMade1
set_option linter.unusedVariables false
set_option linter.unusedSimpArgs false
set_option linter.unusedSectionVars false
namespace Go.AVM
/-- The first number that is not 0. -/
def firstL : List Int → Int
  | [] => 0
  | x :: l => if x = 0 then firstL l else x
/-- A column of rows that lie one after the other. -/
def colv (F : List Int) (n k : Nat) : List Int := (List.range n).map fun i => F.getD (8 * i + k) 0
theorem colv_len (F : List Int) (n k : Nat) : (colv F n k).length = n := by simp [colv]
theorem colv_get (F : List Int) (n k i : Nat) (h : i < n) : (colv F n k)[i]? = some (F.getD (8 * i + k) 0) := by simp [colv, h]
theorem first_loop {F : List Int} {n k b : Nat} (hF : F.length = 8 * n) (hk : k < 8) (hn : n < 1000) {S : Store} {ex : Bool} (hg : S[b]? = some (.mu (nums .i64 F) ex)) {base : Nat} (hbase : S.length ≤ base) {Q : FQ}
    (hQ : ∀ (tm : List AV) (hl : tm.length = 83), tm[3] = .msl b 0 n 8 (8 * n) none → tm[7] = .int .i64 (k : Int) → tm[8] = .int .i64 (firstL (colv F n k)) → Q (.ex 6) ⟨tm, S⟩) :
    ∀ (m i : Nat), i + m = n → ∀ acc : Int, (if acc = 0 then firstL ((colv F n k).drop i) else acc) = firstL (colv F n k) →
    wpL RT f9_2m base f9_2 ⟨[.any, .any, .any, .msl b 0 n 8 (8 * n) none, .any, .any, .any, .int .i64 (k : Int), .int .i64 acc, .int .i64 (i : Int)] ++ List.replicate 73 .any, S⟩ Q := by
  intro m
  induction m with
  | zero =>
    intro i hi acc he
    have hi' : i = n := by omega
    subst hi'
    rw [wpL_step]
    generalize hK : loopQ RT f9_2m base f9_2 Q = K
    simp [f9_2, List.replicate]
    subst hK
    refine hQ _ rfl rfl rfl ?_
    rw [List.drop_of_length_le (by rw [colv_len]; omega)] at he
    simp only [firstL] at he
    have : acc = firstL (colv F i k) := by
      rw [← he]; split
      · assumption
      · rfl
    simp [this]
  | succ m ih =>
    intro i hi acc he
    have hlt : (i : Int) < (n : Int) := by omega
    have hk' : (k : Int) < 8 := by omega
    have hw : IntKind.i64.wrap ((i : Int) + 1) = ((i + 1 : Nat) : Int) := wrap_i64 (by omega) (by omega)
    have hcol : (colv F n k).drop i = F.getD (8 * i + k) 0 :: (colv F n k).drop (i + 1) := by
      have h1 : i < (colv F n k).length := by rw [colv_len]; omega
      have h2 := colv_get F n k i (by omega)
      rw [List.drop_eq_getElem_cons h1]
      rw [List.getElem?_eq_getElem h1] at h2
      rw [Option.some.inj h2]
    rw [hcol] at he
    have hin : i * 8 + k < F.length := by omega
    have hget : F[i * 8 + k]? = some (F.getD (8 * i + k) 0) := by
      have e : 8 * i + k = i * 8 + k := by omega
      rw [e, List.getD_eq_getElem?_getD, List.getElem?_eq_getElem hin]; rfl
    generalize F.getD (8 * i + k) 0 = x at *
    have hrd : rd S b (i * 8 + k) (8 * n) 1 = some [.int .i64 x] := rd_num hg hF hget
    rw [wpL_step]
    generalize hK : loopQ RT f9_2m base f9_2 Q = K
    by_cases h0 : acc = 0
    · subst h0
      have := ih (i + 1) (by omega) x (by
        rw [if_pos rfl] at he
        simpa only [firstL] using he)
      simp [f9_2, List.replicate, hlt, hk', hrd, hw]
      subst hK
      simp [head, f9_2m, mask, trunc_len hbase]
      simpa [f9_2m, List.replicate] using this
    · have := ih (i + 1) (by omega) acc (by rw [if_neg h0] at he ⊢; exact he)
      simp [f9_2, List.replicate, hlt, hk, h0, hw]
      subst hK
      simp [head, f9_2m, mask, trunc_len hbase]
      simpa [f9_2m, List.replicate] using this
/-- A column turned round in its first rows. -/
def negcol (F : List Int) (k : Nat) : Nat → List Int
  | 0 => F
  | i + 1 => (negcol F k i).set (8 * i + k) (-(F.getD (8 * i + k) 0))
theorem negcol_len (F : List Int) (k : Nat) : ∀ i, (negcol F k i).length = F.length
  | 0 => rfl
  | i + 1 => by rw [negcol, List.length_set, negcol_len F k i]
theorem negcol_get (F : List Int) {k : Nat} (hk : k < 8) : ∀ (i : Nat), 8 * i ≤ F.length → ∀ (q j : Nat), j < 8 → (negcol F k i)[8 * q + j]? = if j = k ∧ q < i then (F[8 * q + j]?).map (fun x => -x) else F[8 * q + j]?
  | 0, _, q, j, hj => by simp [negcol]
  | i + 1, hi, q, j, hj => by
    rw [negcol, List.getElem?_set, negcol_get F hk i (by omega) q j hj, negcol_len]
    by_cases h1 : j = k ∧ q = i
    · obtain ⟨rfl, rfl⟩ := h1
      have hin : 8 * q + j < F.length := by omega
      rw [if_pos rfl, if_pos (by omega), if_pos ⟨rfl, by omega⟩, List.getD_eq_getElem?_getD, List.getElem?_eq_getElem hin]
      rfl
    · rw [if_neg (by omega)]
      by_cases h2 : j = k ∧ q < i
      · rw [if_pos h2, if_pos ⟨h2.1, by omega⟩]
      · rw [if_neg h2, if_neg (by omega)]
theorem neg_loop {F : List Int} {n k b : Nat} (hF : F.length = 8 * n) (hk : k < 8) (hn : n < 1000) (hFb : Bd 128 F) {S : Store} {base : Nat} (hbase : S.length ≤ base) (hb : b < S.length) {acc : Int} (hacc : acc < 0) {ex : Bool} {Q : FQ}
    (hQ : ∀ (tm : List AV) (hl : tm.length = 83), tm[3] = .msl b 0 n 8 (8 * n) none → tm[7] = .int .i64 (k : Int) → Q (.ex 8) ⟨tm, S.set b (.mu (nums .i64 (negcol F k n)) ex)⟩) :
    ∀ (m i : Nat), i + m = n →
    wpL RT f9_3m base f9_3 ⟨[.any, .any, .any, .msl b 0 n 8 (8 * n) none, .any, .any, .any, .int .i64 (k : Int), .int .i64 acc, .any, .int .i64 (i : Int)] ++ List.replicate 72 .any, S.set b (.mu (nums .i64 (negcol F k i)) ex)⟩ Q := by
  intro m
  induction m with
  | zero =>
    intro i hi
    have hi' : i = n := by omega
    subst hi'
    rw [wpL_step]
    generalize hK : loopQ RT f9_3m base f9_3 Q = K
    simp [f9_3, List.replicate]
    subst hK
    exact hQ _ rfl rfl rfl
  | succ m ih =>
    intro i hi
    have hlt : (i : Int) < (n : Int) := by omega
    have hk' : (k : Int) < 8 := by omega
    have hw : IntKind.i64.wrap ((i : Int) + 1) = ((i + 1 : Nat) : Int) := wrap_i64 (by omega) (by omega)
    have hin : 8 * i + k < F.length := by omega
    have hg : (S.set b (.mu (nums .i64 (negcol F k i)) ex))[b]? = some (.mu (nums .i64 (negcol F k i)) ex) := set_get hb
    have hget : (negcol F k i)[i * 8 + k]? = some (F.getD (8 * i + k) 0) := by
      have e : i * 8 + k = 8 * i + k := by omega
      rw [e, negcol_get F hk i (by omega) i k hk, if_neg (by omega), List.getD_eq_getElem?_getD, List.getElem?_eq_getElem hin]; rfl
    have hxb : -128 ≤ F.getD (8 * i + k) 0 ∧ F.getD (8 * i + k) 0 ≤ 128 := by
      rw [List.getD_eq_getElem?_getD, List.getElem?_eq_getElem hin]
      exact hFb _ (List.getElem_mem hin)
    have hset : negcol F k (i + 1) = (negcol F k i).set (i * 8 + k) (-(F.getD (8 * i + k) 0)) := by
      rw [negcol]; congr 1; omega
    generalize F.getD (8 * i + k) 0 = x at *
    have hrd : rd (S.set b (.mu (nums .i64 (negcol F k i)) ex)) b (i * 8 + k) (8 * n) 1 = some [.int .i64 x] := rd_num hg (by rw [negcol_len]; exact hF) hget
    have hwr : wr (S.set b (.mu (nums .i64 (negcol F k i)) ex)) b (i * 8 + k) (8 * n) [.int .i64 (-x)] = some (S.set b (.mu (nums .i64 (negcol F k (i + 1))) ex)) := by
      rw [wr_num hg (by rw [negcol_len]; exact hF) (by omega), List.set_set, hset]
    have hnx : IntKind.i64.wrap (-x) = -x := wrap_i64 (by omega) (by omega)
    rw [wpL_step]
    generalize hK : loopQ RT f9_3m base f9_3 Q = K
    have := ih (i + 1) (by omega)
    simp [f9_3, List.replicate, hlt, hk', hacc, hrd, hnx, hwr, hw]
    subst hK
    simp [head, f9_3m, mask, trunc_len (show (S.set b (.mu (nums .i64 (negcol F k (i + 1))) ex)).length ≤ base by simpa using hbase)]
    simpa [f9_3m, List.replicate] using this
end Go.AVM
