/- Making an order of raw rows: the rows. -/
import Derived.Test.YtlpbjbgfgfjnlaaAvSto
import Derived.Test.YtlpbjbgfgfjnlaaAvOrd3
set_option linter.unusedVariables false
set_option linter.unusedSimpArgs false
set_option linter.unusedSectionVars false
namespace Go.AVM
/-- Raw rows. -/
abbrev RawR (X : List (List Int)) : AV := .sl (X.map fun r => .agg (nums .i8 r)) 8 false
def RawOk (X : List (List Int)) : Prop := ∀ r ∈ X, r.length = 8 ∧ ∀ n ∈ r, -128 ≤ n ∧ n ≤ 127
/-- A slice of rows that grows. -/
def Grow (S : Store) (v : AV) (F : List Int) (n : Nat) : Prop := F.length = 8 * n ∧ ((v = .sl [] 8 true ∧ n = 0) ∨ ∃ b, 1 ≤ b ∧ 1 ≤ n ∧ v = .msl b 0 n 8 (8 * n) none ∧ S[b]? = some (.mu (nums .i64 F) false))
theorem Grow.app {S : Store} {v : AV} {F r : List Int} {n : Nat} (h : Grow S v F n) (hr : r.length = 8) (hn : n < 1000) {bytes : Nat} (hb : bytes ≤ 1000) (hS : 1 ≤ S.length) :
    ∃ v' S', appA 8 bytes S v (.sl [R8 r] 8 true) = some (v', S') ∧ Grow S' v' (F ++ r) (n + 1) ∧ S'[0]? = S[0]? := by
  obtain ⟨hF, ⟨rfl, rfl⟩ | ⟨b, hb1, hn1, rfl, hg⟩⟩ := h
  · have hF0 : F = [] := List.eq_nil_of_length_eq_zero (by omega)
    subst hF0
    have hroom : room (0 + 1) bytes := by unfold room; omega
    refine ⟨.msl S.length 0 1 8 8 none, S ++ [.mu (nums .i64 r) false], ?_, ⟨by simp [hr], .inr ⟨S.length, hS, by omega, rfl, by simp [get_last]⟩⟩, ?_⟩
    · simp [appA, held, chk, hroom]
    · exact get_app (by omega)
  · have hroom : room (n + 1) bytes := by
      unfold room
      have : (n + 1) * bytes ≤ 1000 * 1000 := Nat.mul_le_mul (by omega) hb
      omega
    have h1 : ¬ (n + 1) * 8 ≤ 8 * n := by omega
    have h2 : n * 8 ≤ 8 * n := by omega
    have hlt := lt_of_get hg
    refine ⟨.msl b 0 (n + 1) 8 (8 * (n + 1)) none, S.set b (.mu (nums .i64 (F ++ r)) false), ?_, ⟨by simp [hF, hr]; omega, .inr ⟨b, hb1, by omega, rfl, by simp [hlt]⟩⟩, ?_⟩
    · have ht : (nums .i64 F).take (n * 8) = nums .i64 F := List.take_of_length_le (by simp [hF]; omega)
      simp [appA, held, chk, hroom, h1, hg, hF, h2, ht, nums_append]
      omega
    · rw [List.getElem?_set_ne (by omega)]
theorem zero8 : List.replicate 8 (AV.int .i64 0) = nums .i64 [0, 0, 0, 0, 0, 0, 0, 0] := rfl
set_option maxRecDepth 20000 in
theorem row_loop {X : List (List Int)} {S : Store} (h0 : S[0]? = some (.mu [RawR X] true)) {i : Nat} {r : List Int} (hi : X[i]? = some r) (hr : r.length = 8) (hb : ∀ n ∈ r, -128 ≤ n ∧ n ≤ 127) {T3 : AV} {Q : FQ}
    (hQ : ∀ (tm : List AV) (hl : tm.length = 83), tm[1] = .mptr 0 0 1 → tm[3] = T3 → tm[4] = .int .i64 (i : Int) → tm[5] = .mptr S.length 0 8 → Q (.ex 2) ⟨tm, S ++ [.mu (nums .i64 r) true]⟩) :
    wpL RT f9_0m (S.length + 1) f9_0 ⟨[.any, .mptr 0 0 1, .any, T3, .int .i64 (i : Int), .mptr S.length 0 8, .int .i64 0] ++ List.replicate 76 .any, S ++ [.mu (nums .i64 [0, 0, 0, 0, 0, 0, 0, 0]) true]⟩ Q := by
  obtain ⟨w0, w1, w2, w3, w4, w5, w6, w7, rfl⟩ := len8 hr
  simp at hb
  have hlt := lt_of_get h0
  have hiX := (List.getElem?_eq_some_iff.1 hi).1
  have hi' : (i : Int) < (X.length : Int) := by omega
  have hrd : ∀ cs ex, rd (S ++ [.mu cs ex]) 0 0 1 1 = some [RawR X] := fun cs ex => by
    rw [rd_app hlt, rd_mu (vl := 1) h0 rfl (by decide)]; rfl
  simp [wpL_step, head, f9_0m, f9_0, mask, hrd, chk, List.replicate, trunc_len, hi', hi, splice]
  simp (disch := omega) only [wrap_i64]
  exact hQ _ rfl rfl rfl rfl rfl
theorem Grow.keep {S : Store} {v : AV} {F : List Int} {n k : Nat} {vs : List AV} (h : Grow S v F n) (hv : v ∈ vs) (hk : k = 1) : Grow (trunc k vs S) v F n := by
  subst hk
  obtain ⟨hF, h | ⟨b, hb1, hn1, rfl, hg⟩⟩ := h
  · exact ⟨hF, .inl h⟩
  · refine ⟨hF, .inr ⟨b, hb1, hn1, rfl, ?_⟩⟩
    rw [trunc_get (.inr ⟨_, hv, by simp [lt1, ltc]; omega⟩), hg]
set_option maxRecDepth 20000 in
theorem rows_loop {X : List (List Int)} (hX : RawOk X) {Q : FQ}
    (hQ : ∀ (tm : List AV) (hl : tm.length = 83) (S : Store), Grow S tm[3] ((X.take 6).flatten) (min X.length 6) → S[0]? = some (.mu [RawR X] true) → Q (.ex 0) ⟨tm, S⟩) :
    ∀ (m i : Nat), i + m = min X.length 6 → ∀ (S : Store) (v : AV), S[0]? = some (.mu [RawR X] true) → Grow S v ((X.take i).flatten) i →
    wpL RT f9_1m 1 f9_1 ⟨[.any, .mptr 0 0 1, .any, v, .int .i64 (i : Int)] ++ List.replicate 78 .any, S⟩ Q := by
  intro m
  induction m with
  | zero =>
    intro i hi S v h0 hG
    have hlt := lt_of_get h0
    have hrd : rd S 0 0 1 1 = some [RawR X] := by rw [rd_mu (vl := 1) h0 rfl (by decide)]; rfl
    have hfin : Grow S v ((X.take 6).flatten) (min X.length 6) := by
      have : X.take i = X.take 6 := by
        by_cases h6 : X.length ≤ 6
        · rw [List.take_of_length_le (by omega), List.take_of_length_le (by omega)]
        · congr 1; omega
      rw [this] at hG
      have hi' : i = min X.length 6 := by omega
      rw [← hi']; exact hG
    rw [wpL_step]
    generalize hK : loopQ RT f9_1m 1 f9_1 Q = K
    by_cases hx : (i : Int) < (X.length : Int)
    · have h6 : ¬ (i : Int) < 6 := by omega
      simp [f9_1, List.replicate, hrd, hx, h6]
      subst hK
      exact hQ _ rfl S hfin h0
    · simp [f9_1, List.replicate, hrd, hx]
      subst hK
      exact hQ _ rfl S hfin h0
  | succ m ih =>
    intro i hi S v h0 hG
    have hlt := lt_of_get h0
    have hrd : rd S 0 0 1 1 = some [RawR X] := by rw [rd_mu (vl := 1) h0 rfl (by decide)]; rfl
    have hx : (i : Int) < (X.length : Int) := by omega
    have h6 : (i : Int) < 6 := by omega
    have hi1 : i < X.length := by omega
    obtain ⟨hr8, hrb⟩ := hX X[i] (List.getElem_mem hi1)
    have hget : X[i]? = some X[i] := List.getElem?_eq_getElem hi1
    have htake : (X.take (i + 1)).flatten = (X.take i).flatten ++ X[i] := by
      have h : X.take (i + 1) = X.take i ++ [X[i]] := by rw [List.take_add_one, hget]; rfl
      rw [h, List.flatten_append, List.flatten_cons, List.flatten_nil, List.append_nil]
    generalize X[i] = r at *
    have hw : IntKind.i64.wrap ((i : Int) + 1) = ((i + 1 : Nat) : Int) := wrap_i64 (by omega) (by omega)
    rw [wpL_step]
    generalize hK : loopQ RT f9_1m 1 f9_1 Q = K
    simp [f9_1, List.replicate, hrd, hx, h6, fillA, chk, splice]
    simp [head, f9_0m, mask, trunc_len]
    refine row_loop h0 hget hr8 hrb ?_
    intro tm hl h1 h3 h4 h5
    have hG2 : Grow (S ++ [.mu (nums .i64 r) true]) v ((X.take i).flatten) i := by
      obtain ⟨hF, h | ⟨b, hb1, hn1, rfl, hg⟩⟩ := hG
      · exact ⟨hF, .inl h⟩
      · exact ⟨hF, .inr ⟨b, hb1, hn1, rfl, by rw [get_app (lt_of_get hg), hg]⟩⟩
    obtain ⟨v', S', ha, hG', hS'⟩ := hG2.app hr8 (by omega) (bytes := 64) (by omega) (by simp)
    have ht8 : (nums .i64 r).take 8 = nums .i64 r := List.take_of_length_le (by simp [hr8])
    simp [hl, h1, h3, h4, h5, hr8, chk, ht8, opA_litn, fillE, elt, ha, hw]
    subst hK
    simp only [loopQ_nrm, head]
    rw [mask_of (n := 83) (by simp [hl])]
    simp [f9_1m, hl, h1, h4, List.range_succ]
    have := ih (i + 1) (by omega) (trunc 1 ([.any, .mptr 0 0 1, .any, v', .int .i64 ((i + 1 : Nat) : Int)] ++ List.replicate 78 .any) S') v' (by
      rw [trunc_get (.inl (by decide)), hS', get_app hlt, h0]) (by rw [htake]; exact hG'.keep (by simp) rfl)
    simpa [f9_1m, List.replicate] using this
end Go.AVM
