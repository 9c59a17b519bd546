/- Texts joined: AvInd10, AvMade1, AvMade2, AvMade3, AvValid, AvElim1, AvElim2, AvElim3, AvEx5, AvOrd4, AvOrd5, AvAdm1, AvSort1, AvSort2, AvSort3, AvSort4, AvSort5, AvOrd7, AvFull, AvPerm1, AvPerm2, AvPerm3, AvPerm4, AvPerm5, AvPerm6, AvShuf, AvShuf2, AvShuf3, AvPlain1, AvPlain2, AvPlain3, AvPlain4, AvOrd6, AvPlain5, AvPlain6, AvPlain7, AvOrd8, AvOrd9. -/
import Derived.Test.YtlpbjbgfgfjnlaaAvPermutes6
import Derived.Test.YtlpbjbgfgfjnlaaAvPermutes5
import Derived.KernelRfl
/- What the elimination tells: whether nothing but 0 is orthogonal to all rows. -/
set_option linter.unusedVariables false
set_option linter.unusedSimpArgs false
set_option linter.unusedSectionVars false
namespace Go.AVM
def qdot : List Rat → List Rat → Rat
  | a :: l, x :: xs => a * x + qdot l xs
  | _, _ => 0
theorem qdot_less {c : Rat} : ∀ {l p x : List Rat} {n : Nat}, l.length = n → p.length = n → x.length = n → qdot (lessRow c p l) x = qdot l x - c * qdot p x
  | [], [], [], n, _, _, _ => by simp [lessRow, qdot]; grind
  | a :: l, b :: p, y :: x, n + 1, hl, hp, hx => by
    have := qdot_less (c := c) (l := l) (p := p) (x := x) (n := n) (by simpa using hl) (by simpa using hp) (by simpa using hx)
    unfold lessRow at this
    simp only [lessRow, List.zipWith_cons_cons, qdot, this]
    grind
theorem qdot_set : ∀ {l x : List Rat} {k n : Nat} {v : Rat}, l.length = n → x.length = n → k < n → qdot l (x.set k v) = qdot l x + l.getD k 0 * (v - x.getD k 0)
  | a :: l, y :: x, 0, n + 1, v, _, _, _ => by simp only [List.set_cons_zero, qdot, List.getD_cons_zero]; grind
  | a :: l, y :: x, k + 1, n + 1, v, hl, hx, hk => by
    have := qdot_set (l := l) (x := x) (k := k) (n := n) (v := v) (by simpa using hl) (by simpa using hx) (by omega)
    simp only [List.set_cons_succ, qdot, this, List.getD_cons_succ]; grind
theorem qdot_zero : ∀ {l x : List Rat}, (∀ j, x.getD j 0 = 0) → qdot l x = 0
  | [], _, _ => by simp [qdot]
  | _ :: _, [], _ => by simp [qdot]
  | a :: l, y :: x, h => by
    have h0 := h 0
    have := qdot_zero (l := l) (x := x) fun j => by have := h (j + 1); simpa using this
    simp only [List.getD_cons_zero] at h0
    simp only [qdot, this, h0]; grind
/-- Only 0 is orthogonal to all rows, among those that vanish before column k. -/
def KerT (k : Nat) (rows : List (List Rat)) : Prop := ∀ x : List Rat, x.length = 8 → (∀ j, j < k → x.getD j 0 = 0) → (∀ l ∈ rows, qdot l x = 0) → ∀ j, x.getD j 0 = 0
theorem mem_erase {α : Type} {rows : List α} {i : Nat} (hi : i < rows.length) {l : α} (h : l ∈ rows) : l = rows[i] ∨ l ∈ rows.eraseIdx i := by
  obtain ⟨j, hj, rfl⟩ := List.getElem_of_mem h
  by_cases e : j = i
  · subst e; exact .inl rfl
  · right
    rw [List.mem_eraseIdx_iff_getElem?]
    exact ⟨j, e, List.getElem?_eq_getElem hj⟩
theorem getD_set {x : List Rat} {k j : Nat} {v : Rat} (hk : k < x.length) : (x.set k v).getD j 0 = if j = k then v else x.getD j 0 := by
  simp only [List.getD_eq_getElem?_getD, List.getElem?_set]
  by_cases h : j = k
  · subst h; simp [hk]
  · rw [if_neg (by omega), if_neg h]
theorem ker_ind : ∀ (m k : Nat), k + m = 8 → ∀ rows : List (List Rat), (∀ l ∈ rows, l.length = 8) → (indR m k rows = true ↔ KerT k rows) := by
  intro m
  induction m with
  | zero =>
    intro k hk rows h8
    simp only [indR, true_iff]
    intro x hx hz _ j
    by_cases hj : j < k
    · exact hz j hj
    · rw [List.getD_eq_getElem?_getD, List.getElem?_eq_none (by omega)]; rfl
  | succ m ih =>
    intro k hk rows h8
    have hk8 : k < 8 := by omega
    simp only [indR]
    cases hf : rows.findIdx? (qnz k) with
    | none =>
      simp only [Bool.false_eq_true, false_iff]
      intro hK
      have hz : ∀ l ∈ rows, l.getD k 0 = 0 := fun l hl => by
        have := List.findIdx?_eq_none_iff.1 hf l hl
        simpa [qnz] using this
      have := hK ((List.replicate 8 0).set k 1) (by simp) (fun j hj => by
        rw [getD_set (by simpa using hk8), if_neg (by omega)]
        simp only [List.getD_eq_getElem?_getD, List.getElem?_replicate]; split <;> rfl) (fun l hl => by
        rw [qdot_set (h8 l hl) (by simp) hk8, hz l hl, qdot_zero fun j => by simp only [List.getD_eq_getElem?_getD, List.getElem?_replicate]; split <;> rfl]
        grind) k
      rw [getD_set (by simpa using hk8), if_pos rfl] at this
      exact absurd this (by decide)
    | some i =>
      obtain ⟨hi, hpi, _⟩ := List.findIdx?_eq_some_iff_getElem.1 hf
      have hge : rows.getD i [] = rows[i] := by rw [List.getD_eq_getElem?_getD, List.getElem?_eq_getElem hi]; rfl
      have hp8 := h8 rows[i] (List.getElem_mem _)
      have hpk : rows[i].getD k 0 ≠ 0 := of_decide_eq_true hpi
      have hpm : rows[i] ∈ rows := List.getElem_mem _
      have hmem := fun l (h : l ∈ rows) => mem_erase hi h
      have h8e : ∀ l ∈ rows.eraseIdx i, l.length = 8 := fun l hl => h8 l (List.mem_of_mem_eraseIdx hl)
      simp only [hge]
      rw [ih (k + 1) (by omega) _ (fun l hl => by
        obtain ⟨l0, h0, rfl⟩ := List.mem_map.1 hl
        exact lessRow_len (h8e l0 h0) hp8)]
      generalize rows[i] = p at *
      constructor
      · intro hK x hx hz hr
        have hx' := hK (x.set k 0) (by simpa using hx) (fun j hj => by
          rw [getD_set (by omega)]
          split
          · rfl
          · exact hz j (by omega)) (fun l hl => by
          obtain ⟨l0, h0, rfl⟩ := List.mem_map.1 hl
          unfold clearRow
          rw [qdot_less (h8e l0 h0) hp8 (by simpa using hx), qdot_set (h8e l0 h0) hx hk8, qdot_set hp8 hx hk8, hr p hpm, hr l0 (List.mem_of_mem_eraseIdx h0)]
          grind)
        have hp0 := hr p hpm
        have e := qdot_set (v := 0) hp8 hx hk8
        rw [qdot_zero hx', hp0] at e
        have hxk : x.getD k 0 = 0 := by grind
        intro j
        by_cases hj : j = k
        · rw [hj]; exact hxk
        · have := hx' j
          rw [getD_set (by omega), if_neg hj] at this
          exact this
      · intro hK x hx hz hr
        have hxk := hz k (by omega)
        have hy := hK (x.set k (-(qdot p x) / p.getD k 0)) (by simpa using hx) (fun j hj => by
          rw [getD_set (by omega), if_neg (by omega)]
          exact hz j (by omega)) (fun l hl => by
          rcases hmem l hl with rfl | hl
          · rw [qdot_set hp8 hx hk8, hxk]; grind
          · have := hr _ (List.mem_map.2 ⟨l, hl, rfl⟩)
            unfold clearRow at this
            rw [qdot_less (h8e l hl) hp8 hx] at this
            rw [qdot_set (h8e l hl) hx hk8, hxk]; grind)
        intro j
        by_cases hj : j = k
        · rw [hj]; exact hxk
        · have := hy j
          rw [getD_set (by omega), if_neg hj] at this
          exact this
/-- Fewer than eight rows are not independent. -/
theorem few_ind : ∀ (m k : Nat) (rows : List (List Rat)), rows.length < m → indR m k rows = false
  | 0, k, rows, h => by omega
  | m + 1, k, rows, h => by
    simp only [indR]
    cases hf : rows.findIdx? (qnz k) with
    | none => rfl
    | some i =>
      obtain ⟨hi, _⟩ := List.findIdx?_eq_some_iff_getElem.1 hf
      exact few_ind m (k + 1) _ (by rw [List.length_map, List.length_eraseIdx, if_pos hi]; omega)
end Go.AVM

/- Making an order of raw rows: the rows. -/
set_option linter.unusedVariables false
set_option linter.unusedSimpArgs false
set_option linter.unusedSectionVars false
namespace Go.AVM
/-- Raw rows. -/
abbrev RawR (X : List (List Int)) : AV := .sl (X.map fun r => .agg (nums .i8 r)) 8 false
def RawOk (X : List (List Int)) : Prop := ∀ r ∈ X, r.length = 8 ∧ ∀ n ∈ r, -128 ≤ n ∧ n ≤ 127
/-- A slice of rows that grows. -/
def Grow (S : Store) (v : AV) (F : List Int) (n : Nat) : Prop := F.length = 8 * n ∧ ((v = .sl [] 8 true ∧ n = 0) ∨ ∃ b, 1 ≤ b ∧ 1 ≤ n ∧ v = .msl b 0 n 8 (8 * n) none ∧ S[b]? = some (.mu (nums .i64 F) false))
theorem Grow.app {S : Store} {v : AV} {F r : List Int} {n : Nat} (h : Grow S v F n) (hr : r.length = 8) (hn : n < 1000) {bytes : Nat} (hb : bytes ≤ 1000) (hS : 1 ≤ S.length) :
    ∃ v' S', appA 8 bytes S v (.sl [R8 r] 8 true) = some (v', S') ∧ Grow S' v' (F ++ r) (n + 1) ∧ S'[0]? = S[0]? := by
  obtain ⟨hF, ⟨rfl, rfl⟩ | ⟨b, hb1, hn1, rfl, hg⟩⟩ := h
  · have hF0 : F = [] := List.eq_nil_of_length_eq_zero (by omega)
    subst hF0
    have hroom : room (0 + 1) bytes := by unfold room; omega
    refine ⟨.msl S.length 0 1 8 8 none, S ++ [.mu (nums .i64 r) false], ?_, ⟨by simp [hr], .inr ⟨S.length, hS, by omega, rfl, by simp [get_last]⟩⟩, ?_⟩
    · simp [appA, held, chk, hroom]
    · exact get_app (by omega)
  · have hroom : room (n + 1) bytes := by
      unfold room
      have : (n + 1) * bytes ≤ 1000 * 1000 := Nat.mul_le_mul (by omega) hb
      omega
    have h1 : ¬ (n + 1) * 8 ≤ 8 * n := by omega
    have h2 : n * 8 ≤ 8 * n := by omega
    have hlt := lt_of_get hg
    refine ⟨.msl b 0 (n + 1) 8 (8 * (n + 1)) none, S.set b (.mu (nums .i64 (F ++ r)) false), ?_, ⟨by simp [hF, hr]; omega, .inr ⟨b, hb1, by omega, rfl, by simp [hlt]⟩⟩, ?_⟩
    · have ht : (nums .i64 F).take (n * 8) = nums .i64 F := List.take_of_length_le (by simp [hF]; omega)
      simp [appA, held, chk, hroom, h1, hg, hF, h2, ht, nums_append]
      omega
    · rw [List.getElem?_set_ne (by omega)]
set_option maxRecDepth 20000 in
theorem row_loop {X : List (List Int)} {S : Store} (h0 : S[0]? = some (.mu [RawR X] true)) {i : Nat} {r : List Int} (hi : X[i]? = some r) (hr : r.length = 8) (hb : ∀ n ∈ r, -128 ≤ n ∧ n ≤ 127) {T3 : AV} {Q : FQ}
    (hQ : ∀ (tm : List AV) (hl : tm.length = 83), tm[1] = .mptr 0 0 1 → tm[3] = T3 → tm[4] = .int .i64 (i : Int) → tm[5] = .mptr S.length 0 8 → Q (.ex 2) ⟨tm, S ++ [.mu (nums .i64 r) true]⟩) :
    wpL RT f9_0m (S.length + 1) f9_0 ⟨[.any, .mptr 0 0 1, .any, T3, .int .i64 (i : Int), .mptr S.length 0 8, .int .i64 0] ++ List.replicate 76 .any, S ++ [.mu (nums .i64 [0, 0, 0, 0, 0, 0, 0, 0]) true]⟩ Q := by
  obtain ⟨w0, w1, w2, w3, w4, w5, w6, w7, rfl⟩ := len8 hr
  simp at hb
  have hlt := lt_of_get h0
  have hiX := (List.getElem?_eq_some_iff.1 hi).1
  have hi' : (i : Int) < (X.length : Int) := by omega
  have hrd : ∀ cs ex, rd (S ++ [.mu cs ex]) 0 0 1 1 = some [RawR X] := fun cs ex => by
    rw [rd_app hlt, rd_mu (vl := 1) h0 rfl (by decide)]; rfl
  simp [wpL_step, head, f9_0m, f9_0, mask, hrd, chk, List.replicate, trunc_len, hi', hi, splice]
  simp (disch := omega) only [wrap_i64]
  exact hQ _ rfl rfl rfl rfl rfl
theorem Grow.keep {S : Store} {v : AV} {F : List Int} {n k : Nat} {vs : List AV} (h : Grow S v F n) (hv : v ∈ vs) (hk : k = 1) : Grow (trunc k vs S) v F n := by
  subst hk
  obtain ⟨hF, h | ⟨b, hb1, hn1, rfl, hg⟩⟩ := h
  · exact ⟨hF, .inl h⟩
  · refine ⟨hF, .inr ⟨b, hb1, hn1, rfl, ?_⟩⟩
    rw [trunc_get (.inr ⟨_, hv, by simp [lt1, ltc]; omega⟩), hg]
set_option maxRecDepth 20000 in
theorem rows_loop {X : List (List Int)} (hX : RawOk X) {Q : FQ}
    (hQ : ∀ (tm : List AV) (hl : tm.length = 83) (S : Store), Grow S tm[3] ((X.take 6).flatten) (min X.length 6) → S[0]? = some (.mu [RawR X] true) → Q (.ex 0) ⟨tm, S⟩) :
    ∀ (m i : Nat), i + m = min X.length 6 → ∀ (S : Store) (v : AV), S[0]? = some (.mu [RawR X] true) → Grow S v ((X.take i).flatten) i →
    wpL RT f9_1m 1 f9_1 ⟨[.any, .mptr 0 0 1, .any, v, .int .i64 (i : Int)] ++ List.replicate 78 .any, S⟩ Q := by
  intro m
  induction m with
  | zero =>
    intro i hi S v h0 hG
    have hlt := lt_of_get h0
    have hrd : rd S 0 0 1 1 = some [RawR X] := by rw [rd_mu (vl := 1) h0 rfl (by decide)]; rfl
    have hfin : Grow S v ((X.take 6).flatten) (min X.length 6) := by
      have : X.take i = X.take 6 := by
        by_cases h6 : X.length ≤ 6
        · rw [List.take_of_length_le (by omega), List.take_of_length_le (by omega)]
        · congr 1; omega
      rw [this] at hG
      have hi' : i = min X.length 6 := by omega
      rw [← hi']; exact hG
    rw [wpL_step]
    generalize hK : loopQ RT f9_1m 1 f9_1 Q = K
    by_cases hx : (i : Int) < (X.length : Int)
    · have h6 : ¬ (i : Int) < 6 := by omega
      simp [f9_1, List.replicate, hrd, hx, h6]
      subst hK
      exact hQ _ rfl S hfin h0
    · simp [f9_1, List.replicate, hrd, hx]
      subst hK
      exact hQ _ rfl S hfin h0
  | succ m ih =>
    intro i hi S v h0 hG
    have hlt := lt_of_get h0
    have hrd : rd S 0 0 1 1 = some [RawR X] := by rw [rd_mu (vl := 1) h0 rfl (by decide)]; rfl
    have hx : (i : Int) < (X.length : Int) := by omega
    have h6 : (i : Int) < 6 := by omega
    have hi1 : i < X.length := by omega
    obtain ⟨hr8, hrb⟩ := hX X[i] (List.getElem_mem hi1)
    have hget : X[i]? = some X[i] := List.getElem?_eq_getElem hi1
    have htake : (X.take (i + 1)).flatten = (X.take i).flatten ++ X[i] := by
      have h : X.take (i + 1) = X.take i ++ [X[i]] := by rw [List.take_add_one, hget]; rfl
      rw [h, List.flatten_append, List.flatten_cons, List.flatten_nil, List.append_nil]
    generalize X[i] = r at *
    have hw : IntKind.i64.wrap ((i : Int) + 1) = ((i + 1 : Nat) : Int) := wrap_i64 (by omega) (by omega)
    rw [wpL_step]
    generalize hK : loopQ RT f9_1m 1 f9_1 Q = K
    simp [f9_1, List.replicate, hrd, hx, h6, fillA, chk, splice]
    simp [head, f9_0m, mask, trunc_len]
    refine row_loop h0 hget hr8 hrb ?_
    intro tm hl h1 h3 h4 h5
    have hG2 : Grow (S ++ [.mu (nums .i64 r) true]) v ((X.take i).flatten) i := by
      obtain ⟨hF, h | ⟨b, hb1, hn1, rfl, hg⟩⟩ := hG
      · exact ⟨hF, .inl h⟩
      · exact ⟨hF, .inr ⟨b, hb1, hn1, rfl, by rw [get_app (lt_of_get hg), hg]⟩⟩
    obtain ⟨v', S', ha, hG', hS'⟩ := hG2.app hr8 (by omega) (bytes := 64) (by omega) (by simp)
    have ht8 : (nums .i64 r).take 8 = nums .i64 r := List.take_of_length_le (by simp [hr8])
    simp [hl, h1, h3, h4, h5, hr8, chk, ht8, opA_litn, fillE, elt, ha, hw]
    subst hK
    simp only [loopQ_nrm, head]
    rw [mask_of (n := 83) (by simp [hl])]
    simp [f9_1m, hl, h1, h4, List.range_succ]
    have := ih (i + 1) (by omega) (trunc 1 ([.any, .mptr 0 0 1, .any, v', .int .i64 ((i + 1 : Nat) : Int)] ++ List.replicate 78 .any) S') v' (by
      rw [trunc_get (.inl (by decide)), hS', get_app hlt, h0]) (by rw [htake]; exact hG'.keep (by simp) rfl)
    simpa [f9_1m, List.replicate] using this
end Go.AVM

/- Making an order of raw rows: columns are turned round. -/
set_option linter.unusedVariables false
set_option linter.unusedSimpArgs false
set_option linter.unusedSectionVars false
namespace Go.AVM
/-- The first number that is not 0. -/
def firstL : List Int → Int
  | [] => 0
  | x :: l => if x = 0 then firstL l else x
/-- A column of rows that lie one after the other. -/
def colv (F : List Int) (n k : Nat) : List Int := (List.range n).map fun i => F.getD (8 * i + k) 0
theorem colv_len (F : List Int) (n k : Nat) : (colv F n k).length = n := by simp [colv]
theorem colv_get (F : List Int) (n k i : Nat) (h : i < n) : (colv F n k)[i]? = some (F.getD (8 * i + k) 0) := by simp [colv, h]
theorem first_loop {F : List Int} {n k b : Nat} (hF : F.length = 8 * n) (hk : k < 8) (hn : n < 1000) {S : Store} {ex : Bool} (hg : S[b]? = some (.mu (nums .i64 F) ex)) {base : Nat} (hbase : S.length ≤ base) {Q : FQ}
    (hQ : ∀ (tm : List AV) (hl : tm.length = 83), tm[3] = .msl b 0 n 8 (8 * n) none → tm[7] = .int .i64 (k : Int) → tm[8] = .int .i64 (firstL (colv F n k)) → Q (.ex 6) ⟨tm, S⟩) :
    ∀ (m i : Nat), i + m = n → ∀ acc : Int, (if acc = 0 then firstL ((colv F n k).drop i) else acc) = firstL (colv F n k) →
    wpL RT f9_2m base f9_2 ⟨[.any, .any, .any, .msl b 0 n 8 (8 * n) none, .any, .any, .any, .int .i64 (k : Int), .int .i64 acc, .int .i64 (i : Int)] ++ List.replicate 73 .any, S⟩ Q := by
  intro m
  induction m with
  | zero =>
    intro i hi acc he
    have hi' : i = n := by omega
    subst hi'
    rw [wpL_step]
    generalize hK : loopQ RT f9_2m base f9_2 Q = K
    simp [f9_2, List.replicate]
    subst hK
    refine hQ _ rfl rfl rfl ?_
    rw [List.drop_of_length_le (by rw [colv_len]; omega)] at he
    simp only [firstL] at he
    have : acc = firstL (colv F i k) := by
      rw [← he]; split
      · assumption
      · rfl
    simp [this]
  | succ m ih =>
    intro i hi acc he
    have hlt : (i : Int) < (n : Int) := by omega
    have hk' : (k : Int) < 8 := by omega
    have hw : IntKind.i64.wrap ((i : Int) + 1) = ((i + 1 : Nat) : Int) := wrap_i64 (by omega) (by omega)
    have hcol : (colv F n k).drop i = F.getD (8 * i + k) 0 :: (colv F n k).drop (i + 1) := by
      have h1 : i < (colv F n k).length := by rw [colv_len]; omega
      have h2 := colv_get F n k i (by omega)
      rw [List.drop_eq_getElem_cons h1]
      rw [List.getElem?_eq_getElem h1] at h2
      rw [Option.some.inj h2]
    rw [hcol] at he
    have hin : i * 8 + k < F.length := by omega
    have hget : F[i * 8 + k]? = some (F.getD (8 * i + k) 0) := by
      have e : 8 * i + k = i * 8 + k := by omega
      rw [e, List.getD_eq_getElem?_getD, List.getElem?_eq_getElem hin]; rfl
    generalize F.getD (8 * i + k) 0 = x at *
    have hrd : rd S b (i * 8 + k) (8 * n) 1 = some [.int .i64 x] := rd_num hg hF hget
    rw [wpL_step]
    generalize hK : loopQ RT f9_2m base f9_2 Q = K
    by_cases h0 : acc = 0
    · subst h0
      have := ih (i + 1) (by omega) x (by
        rw [if_pos rfl] at he
        simpa only [firstL] using he)
      simp [f9_2, List.replicate, hlt, hk', hrd, hw]
      subst hK
      simp [head, f9_2m, mask, trunc_len hbase]
      simpa [f9_2m, List.replicate] using this
    · have := ih (i + 1) (by omega) acc (by rw [if_neg h0] at he ⊢; exact he)
      simp [f9_2, List.replicate, hlt, hk, h0, hw]
      subst hK
      simp [head, f9_2m, mask, trunc_len hbase]
      simpa [f9_2m, List.replicate] using this
/-- A column turned round in its first rows. -/
def negcol (F : List Int) (k : Nat) : Nat → List Int
  | 0 => F
  | i + 1 => (negcol F k i).set (8 * i + k) (-(F.getD (8 * i + k) 0))
theorem negcol_len (F : List Int) (k : Nat) : ∀ i, (negcol F k i).length = F.length
  | 0 => rfl
  | i + 1 => by rw [negcol, List.length_set, negcol_len F k i]
theorem negcol_get (F : List Int) {k : Nat} (hk : k < 8) : ∀ (i : Nat), 8 * i ≤ F.length → ∀ (q j : Nat), j < 8 → (negcol F k i)[8 * q + j]? = if j = k ∧ q < i then (F[8 * q + j]?).map (fun x => -x) else F[8 * q + j]?
  | 0, _, q, j, hj => by simp [negcol]
  | i + 1, hi, q, j, hj => by
    rw [negcol, List.getElem?_set, negcol_get F hk i (by omega) q j hj, negcol_len]
    by_cases h1 : j = k ∧ q = i
    · obtain ⟨rfl, rfl⟩ := h1
      have hin : 8 * q + j < F.length := by omega
      rw [if_pos rfl, if_pos (by omega), if_pos ⟨rfl, by omega⟩, List.getD_eq_getElem?_getD, List.getElem?_eq_getElem hin]
      rfl
    · rw [if_neg (by omega)]
      by_cases h2 : j = k ∧ q < i
      · rw [if_pos h2, if_pos ⟨h2.1, by omega⟩]
      · rw [if_neg h2, if_neg (by omega)]
theorem neg_loop {F : List Int} {n k b : Nat} (hF : F.length = 8 * n) (hk : k < 8) (hn : n < 1000) (hFb : Bd 128 F) {S : Store} {base : Nat} (hbase : S.length ≤ base) (hb : b < S.length) {acc : Int} (hacc : acc < 0) {ex : Bool} {Q : FQ}
    (hQ : ∀ (tm : List AV) (hl : tm.length = 83), tm[3] = .msl b 0 n 8 (8 * n) none → tm[7] = .int .i64 (k : Int) → Q (.ex 8) ⟨tm, S.set b (.mu (nums .i64 (negcol F k n)) ex)⟩) :
    ∀ (m i : Nat), i + m = n →
    wpL RT f9_3m base f9_3 ⟨[.any, .any, .any, .msl b 0 n 8 (8 * n) none, .any, .any, .any, .int .i64 (k : Int), .int .i64 acc, .any, .int .i64 (i : Int)] ++ List.replicate 72 .any, S.set b (.mu (nums .i64 (negcol F k i)) ex)⟩ Q := by
  intro m
  induction m with
  | zero =>
    intro i hi
    have hi' : i = n := by omega
    subst hi'
    rw [wpL_step]
    generalize hK : loopQ RT f9_3m base f9_3 Q = K
    simp [f9_3, List.replicate]
    subst hK
    exact hQ _ rfl rfl rfl
  | succ m ih =>
    intro i hi
    have hlt : (i : Int) < (n : Int) := by omega
    have hk' : (k : Int) < 8 := by omega
    have hw : IntKind.i64.wrap ((i : Int) + 1) = ((i + 1 : Nat) : Int) := wrap_i64 (by omega) (by omega)
    have hin : 8 * i + k < F.length := by omega
    have hg : (S.set b (.mu (nums .i64 (negcol F k i)) ex))[b]? = some (.mu (nums .i64 (negcol F k i)) ex) := set_get hb
    have hget : (negcol F k i)[i * 8 + k]? = some (F.getD (8 * i + k) 0) := by
      have e : i * 8 + k = 8 * i + k := by omega
      rw [e, negcol_get F hk i (by omega) i k hk, if_neg (by omega), List.getD_eq_getElem?_getD, List.getElem?_eq_getElem hin]; rfl
    have hxb : -128 ≤ F.getD (8 * i + k) 0 ∧ F.getD (8 * i + k) 0 ≤ 128 := by
      rw [List.getD_eq_getElem?_getD, List.getElem?_eq_getElem hin]
      exact hFb _ (List.getElem_mem hin)
    have hset : negcol F k (i + 1) = (negcol F k i).set (i * 8 + k) (-(F.getD (8 * i + k) 0)) := by
      rw [negcol]; congr 1; omega
    generalize F.getD (8 * i + k) 0 = x at *
    have hrd : rd (S.set b (.mu (nums .i64 (negcol F k i)) ex)) b (i * 8 + k) (8 * n) 1 = some [.int .i64 x] := rd_num hg (by rw [negcol_len]; exact hF) hget
    have hwr : wr (S.set b (.mu (nums .i64 (negcol F k i)) ex)) b (i * 8 + k) (8 * n) [.int .i64 (-x)] = some (S.set b (.mu (nums .i64 (negcol F k (i + 1))) ex)) := by
      rw [wr_num hg (by rw [negcol_len]; exact hF) (by omega), List.set_set, hset]
    have hnx : IntKind.i64.wrap (-x) = -x := wrap_i64 (by omega) (by omega)
    rw [wpL_step]
    generalize hK : loopQ RT f9_3m base f9_3 Q = K
    have := ih (i + 1) (by omega)
    simp [f9_3, List.replicate, hlt, hk', hacc, hrd, hnx, hwr, hw]
    subst hK
    simp [head, f9_3m, mask, trunc_len (show (S.set b (.mu (nums .i64 (negcol F k (i + 1))) ex)).length ≤ base by simpa using hbase)]
    simpa [f9_3m, List.replicate] using this
end Go.AVM

/- Making an order of raw rows: what is made. -/
set_option linter.unusedVariables false
set_option linter.unusedSimpArgs false
set_option linter.unusedSectionVars false
namespace Go.AVM
theorem firstL_neg : ∀ l : List Int, firstL (l.map fun x => -x) = -(firstL l)
  | [] => rfl
  | x :: l => by
    simp only [List.map_cons, firstL]
    by_cases h : x = 0
    · rw [if_pos h, if_pos (by omega), firstL_neg l]
    · rw [if_neg h, if_neg (by omega)]
theorem negcol_col {F : List Int} {n k k' : Nat} (hF : F.length = 8 * n) (hk : k < 8) (hk' : k' < 8) : colv (negcol F k n) n k' = if k' = k then (colv F n k).map (fun x => -x) else colv F n k' := by
  have hin : ∀ i, i < n → (negcol F k n).getD (8 * i + k') 0 = if k' = k then -(F.getD (8 * i + k') 0) else F.getD (8 * i + k') 0 := by
    intro i hi
    rw [List.getD_eq_getElem?_getD, negcol_get F hk n (by omega) i k' hk', List.getD_eq_getElem?_getD]
    by_cases h : k' = k
    · rw [if_pos ⟨h, hi⟩, if_pos h]
      have : 8 * i + k' < F.length := by omega
      rw [List.getElem?_eq_getElem this]; rfl
    · rw [if_neg (by omega), if_neg h]
  unfold colv
  by_cases h : k' = k
  · subst h
    rw [if_pos rfl, List.map_map]
    refine List.map_congr_left fun i hi => ?_
    rw [hin i (by simpa using hi), if_pos rfl]; rfl
  · rw [if_neg h]
    refine List.map_congr_left fun i hi => ?_
    rw [hin i (by simpa using hi), if_neg h]
theorem negcol_bd {F : List Int} {n k : Nat} (hF : F.length = 8 * n) (hk : k < 8) (hb : Bd 128 F) : Bd 128 (negcol F k n) := by
  intro x hx
  obtain ⟨p, hp, rfl⟩ := List.mem_iff_getElem.1 hx
  rw [negcol_len] at hp
  have h1 := negcol_get F hk n (by omega) (p / 8) (p % 8) (Nat.mod_lt _ (by decide))
  rw [Nat.div_add_mod, List.getElem?_eq_getElem (by rw [negcol_len]; exact hp), List.getElem?_eq_getElem hp] at h1
  have h2 := hb F[p] (List.getElem_mem hp)
  split at h1
  · have := Option.some.inj h1
    rw [this]; show -128 ≤ -F[p] ∧ -F[p] ≤ 128; omega
  · have := Option.some.inj h1
    rw [this]; exact h2
/-- The rows are short, and columns do not begin with a negative number. -/
def Turned (F : List Int) (n k : Nat) : Prop := F.length = 8 * n ∧ Bd 128 F ∧ ∀ k', k' < k → 0 ≤ firstL (colv F n k')
theorem cols_loop {n : Nat} (hn : n < 1000) {b : Nat} {base : Nat} {Q : FQ}
    (hQ : ∀ (tm : List AV) (hl : tm.length = 83) (S : Store) (F : List Int), tm[3] = .msl b 0 n 8 (8 * n) none → Turned F n 8 → S[b]? = some (.mu (nums .i64 F) false) → Q (.ex 4) ⟨tm, S⟩) :
    ∀ (m k : Nat), k + m = 8 → ∀ (S : Store) (F : List Int), S.length = base → S[b]? = some (.mu (nums .i64 F) false) → Turned F n k →
    wpL RT f9_4m base f9_4 ⟨[.any, .any, .any, .msl b 0 n 8 (8 * n) none, .any, .any, .any, .int .i64 (k : Int)] ++ List.replicate 75 .any, S⟩ Q := by
  intro m
  induction m with
  | zero =>
    intro k hk S F hS hg hT
    have hk' : k = 8 := by omega
    subst hk'
    rw [wpL_step]
    generalize hK : loopQ RT f9_4m base f9_4 Q = K
    simp [f9_4, List.replicate]
    subst hK
    exact hQ _ rfl S F rfl hT hg
  | succ m ih =>
    intro k hk S F hS hg hT
    have hk8 : k < 8 := by omega
    have hki : (k : Int) < 8 := by omega
    have hw : IntKind.i64.wrap ((k : Int) + 1) = ((k + 1 : Nat) : Int) := wrap_i64 (by omega) (by omega)
    have hblt := lt_of_get hg
    obtain ⟨hF, hFb, hT'⟩ := hT
    rw [wpL_step]
    generalize hK : loopQ RT f9_4m base f9_4 Q = K
    simp [f9_4, List.replicate, hki]
    simp [head, f9_2m, mask, trunc_len]
    refine first_loop hF hk8 hn hg (Nat.le_refl _) ?_ n 0 (by omega) 0 (by simp)
    intro tm hl h3 h7 h8
    simp [hl, h3, h7, h8]
    simp only [head]
    rw [mask_of (n := 83) (by simp [hl])]
    simp [f9_3m, hl, h3, h7, h8, List.range_succ, trunc_len]
    by_cases hneg : firstL (colv F n k) < 0
    · have := neg_loop hF hk8 hn hFb (S := S) (base := S.length) (Nat.le_refl _) hblt hneg (ex := false) (Q := blockQ 8 (blockQ 5 (seqQ RT
              (.reg [⟨(some 44), .mv, [.t 7], none⟩, ⟨(some 45), .bin .add, [.t 44, .c (.int .i64 1)], none⟩, ⟨(some 7), .mv, [.t 45], none⟩]) K))) ?_ n 0 (by omega)
      · have e : S.set b (.mu (nums .i64 (negcol F k 0)) false) = S := by
          have hg' := List.getElem?_eq_some_iff.1 hg
          obtain ⟨h1, h2⟩ := hg'
          show S.set b (.mu (nums .i64 F) false) = S
          rw [← h2]; exact List.set_getElem_self h1
        rw [e] at this
        simpa [List.replicate, f9_3m] using this
      · intro tm2 hl2 h32 h72
        simp [hl2, h32, h72, hw]
        subst hK
        simp only [loopQ_nrm, head]
        rw [mask_of (n := 83) (by simp [hl2])]
        simp [f9_4m, hl2, h32, List.range_succ, trunc_len, hS]
        have := ih (k + 1) (by omega) (S.set b (.mu (nums .i64 (negcol F k n)) false)) (negcol F k n) (by simpa using hS) (set_get hblt) ⟨by rw [negcol_len]; exact hF, negcol_bd hF hk8 hFb, fun k' hk' => by
          rw [negcol_col hF hk8 (by omega)]
          by_cases h : k' = k
          · rw [if_pos h, firstL_neg]; omega
          · rw [if_neg h]; exact hT' k' (by omega)⟩
        simpa [f9_4m, List.replicate] using this
    · have hT2 : Turned F n (k + 1) := ⟨hF, hFb, fun k' hk' => by
        by_cases h : k' = k
        · rw [h]; omega
        · exact hT' k' (by omega)⟩
      have := ih (k + 1) (by omega) S F hS hg hT2
      rw [wpL_step]
      generalize hK3 : loopQ RT f9_3m S.length f9_3 _ = K3
      by_cases hn0 : 0 < n
      · simp [f9_3, hn0, hneg]
        subst hK3
        simp [hw]
        subst hK
        simp [head, f9_4m, mask, trunc_len, hS]
        simpa [f9_4m, List.replicate] using this
      · simp [f9_3, hn0]
        subst hK3
        simp [hw]
        subst hK
        simp [head, f9_4m, mask, trunc_len, hS]
        simpa [f9_4m, List.replicate] using this
/-- In a valid order, a column does not begin with a negative weight. -/
def colOk (k : Nat) : List (List Int) → Prop
  | [] => True
  | w :: o => 0 < w.getD k 0 ∨ (w.getD k 0 = 0 ∧ colOk k o)
theorem colOk_of (k : Nat) : ∀ o : List (List Int), 0 ≤ firstL (o.map fun w => w.getD k 0) → colOk k o
  | [], _ => trivial
  | w :: o, h => by
    simp only [List.map_cons, firstL] at h
    by_cases h0 : w.getD k 0 = 0
    · rw [if_pos h0] at h; exact .inr ⟨h0, colOk_of k o h⟩
    · rw [if_neg h0] at h; exact .inl (by omega)
def ColsOk (o : List (List Int)) : Prop := ∀ k, k < 8 → colOk k o
theorem cut8_col {F : List Int} {n k : Nat} (hF : F.length = 8 * n) (hk : k < 8) : (cut8 n F).map (fun w => w.getD k 0) = colv F n k := by
  refine List.ext_getElem? fun i => ?_
  rw [List.getElem?_map, cut8_get n F hF i]
  by_cases h : i < n
  · rw [if_pos h, colv_get F n k i h]
    have h1 : 8 * i + k < F.length := by omega
    simp [List.getElem?_take, hk, List.getElem?_drop]
  · rw [if_neg h, List.getElem?_eq_none (by rw [colv_len]; omega)]; rfl
/-- An order as it is made. -/
structure MadeO (o : List (List Int)) : Prop where
  len : o.length ≤ 6
  row : ∀ w ∈ o, w.length = 8 ∧ Bd 128 w
  col : ColsOk o
theorem MadeO.rows {o : List (List Int)} (h : MadeO o) : Rows o := fun w hw => ⟨(h.row w hw).1, (h.row w hw).2.mono (by decide)⟩
set_option maxRecDepth 20000 in
theorem run_made {X : List (List Int)} (hX : RawOk X) : ∃ o, callPure RT 9 [.agg [RawR X]] = some (OR o) ∧ MadeO o := by
  by_cases h0 : X = []
  · subst h0
    refine ⟨[], ?_, by simp, by simp, fun k _ => trivial⟩
    exact pureIs_run (O := noneE) (n := 30) noneE_sound (by kernel_rfl)
  · have hn0 : X.length ≠ 0 := fun h => h0 (List.eq_nil_of_length_eq_zero h)
    suffices h : ∃ r, callPure RT 9 [.agg [RawR X]] = some r ∧ ∃ F, Turned F (min X.length 6) 8 ∧ r = .sl (chunk 8 (min X.length 6) (nums .i64 F)) 8 false by
      obtain ⟨_, hr, F, hT, rfl⟩ := h
      refine ⟨cut8 (min X.length 6) F, ?_, ?_, ?_, ?_⟩
      · rw [hr, chunk_cut _ _ hT.1]
      · rw [cut8_len]; omega
      · intro w hw
        have := cut8_mem _ _ hT.1 w hw
        exact ⟨this.1, fun x hx => hT.2.1 x (this.2 x hx)⟩
      · intro k hk
        refine colOk_of k _ ?_
        rw [cut8_col hT.1 hk]
        exact hT.2.2 k hk
    refine callPure_ex (wpF_of tab_9 rfl ?_)
    simp [f9, enter]
    simp [head, f9_1m, mask, trunc_len]
    refine rows_loop hX ?_ (min X.length 6) 0 (by omega) _ _ rfl ⟨rfl, .inl ⟨rfl, rfl⟩⟩
    intro tm hl S hG hbox
    obtain ⟨hF, ⟨_, hz⟩ | ⟨b, hb1, hn1, hv, hg⟩⟩ := hG
    · omega
    · have hFb : Bd 128 ((X.take 6).flatten) := by
        intro x hx
        obtain ⟨r, hr, hxr⟩ := List.mem_flatten.1 hx
        have := (hX r (List.mem_of_mem_take hr)).2 x hxr
        omega
      have hn6 : min X.length 6 < 1000 := by omega
      generalize (X.take 6).flatten = F at *
      generalize min X.length 6 = n at *
      simp [hl, hv]
      simp only [head]
      rw [mask_of (n := 83) (by simp [hl])]
      simp [f9_4m, hl, hv, List.range_succ, trunc_len]
      refine cols_loop (b := b) (base := S.length) hn6 ?_ 8 0 rfl S F rfl hg ⟨hF, hFb, fun k' h => by omega⟩
      intro tm2 hl2 S2 F2 h3 hT hg2
      have hcl : chunk 8 n (nums .i64 F2) = chunk 8 n (nums .i64 F2) := rfl
      have hrd : rd S2 b 0 (8 * n) (n * 8) = some (nums .i64 F2) := by
        rw [rd_mu hg2 (by simp [hT.1]) (by omega), List.drop_zero, List.take_of_length_le (by simp [hT.1]; omega)]
      simp [hl2, h3, fzc, hrd]
      exact ⟨F2, hT, rfl⟩
end Go.AVM

/- Orders: which are valid. -/
set_option linter.unusedVariables false
set_option linter.unusedSimpArgs false
set_option linter.unusedSectionVars false
namespace Go.AVM
def bools (bs : List Bool) : List AV := bs.map .bool
@[simp] theorem bools_length (bs : List Bool) : (bools bs).length = bs.length := by simp [bools]
theorem bools_take (bs : List Bool) (n : Nat) : (bools bs).take n = bools (bs.take n) := by simp [bools, List.map_take]
theorem bools_drop (bs : List Bool) (n : Nat) : (bools bs).drop n = bools (bs.drop n) := by simp [bools, List.map_drop]
theorem bools_set (bs : List Bool) (i : Nat) (b : Bool) : (bools bs).set i (.bool b) = bools (bs.set i b) := by simp [bools, List.map_set]
section
variable {S : Store} {b vl i : Nat} {ex v : Bool} {bs : List Bool}
theorem rd_bool (h : S[b]? = some (.mu (bools bs) ex)) (hl : bs.length = vl) (hi : bs[i]? = some v) : rd S b i vl 1 = some [.bool v] := by
  have hi' := (List.getElem?_eq_some_iff.1 hi).1
  rw [rd_mu h (by simpa using hl) (by omega), bools_drop, bools_take]
  rw [List.drop_eq_getElem_cons hi']
  have := (List.getElem?_eq_some_iff.1 hi).2
  rw [this]; rfl
theorem wr_bool (h : S[b]? = some (.mu (bools bs) ex)) (hl : bs.length = vl) (hi : i < vl) : wr S b i vl [.bool v] = some (S.set b (.mu (bools (bs.set i v)) ex)) := by
  rw [wr_mu h (by simpa using hl) (by simp; omega)]
  congr 4
  unfold splice
  rw [← bools_set, List.set_eq_take_append_cons_drop]
  simp [show i < bs.length by omega]
end
/-- A weight that may stand there. -/
def okW (w : Int) (b : Bool) : Bool := decide (-1000 ≤ w) && (decide (w ≤ 1000) && (decide (0 ≤ w) || b))
def nextW (w : Int) (b : Bool) : Bool := b || decide (0 < w)
def rowOk : List Int → List Bool → Bool
  | w :: ws, b :: bs => okW w b && rowOk ws bs
  | _, _ => true
def rowNext : List Int → List Bool → List Bool
  | w :: ws, b :: bs => nextW w b :: rowNext ws bs
  | _, bs => bs
def goV : List Bool → List (List Int) → Bool
  | _, [] => true
  | bs, w :: o => rowOk w bs && goV (rowNext w bs) o
/-- Which orders are valid. -/
def validB (o : List (List Int)) : Bool := decide (o.length ≤ 24) && goV (List.replicate 8 false) o
theorem rowNext_len : ∀ (w : List Int) (bs : List Bool), (rowNext w bs).length = bs.length
  | [], bs => by cases bs <;> rfl
  | _ :: _, [] => rfl
  | w :: ws, b :: bs => by simp [rowNext, rowNext_len ws bs]
theorem rowNext_get : ∀ (w : List Int) (bs : List Bool) (k : Nat) (x : Int) (b : Bool), w[k]? = some x → bs[k]? = some b → (rowNext w bs)[k]? = some (nextW x b)
  | [], _, _, _, _, h, _ => by simp at h
  | _ :: _, [], _, _, _, _, h => by simp at h
  | w :: ws, b :: bs, 0, x, b', h, h' => by simp at h h'; subst h; subst h'; rfl
  | w :: ws, b :: bs, k + 1, x, b', h, h' => by
    simp only [rowNext, List.getElem?_cons_succ] at h h' ⊢
    exact rowNext_get ws bs k x b' h h'
theorem rowOk_drop {w : List Int} {bs : List Bool} {k : Nat} {x : Int} {b : Bool} (h : w[k]? = some x) (h' : bs[k]? = some b) : rowOk (w.drop k) (bs.drop k) = (okW x b && rowOk (w.drop (k + 1)) (bs.drop (k + 1))) := by
  obtain ⟨h1, h2⟩ := List.getElem?_eq_some_iff.1 h
  obtain ⟨h3, h4⟩ := List.getElem?_eq_some_iff.1 h'
  rw [List.drop_eq_getElem_cons h1, List.drop_eq_getElem_cons h3, h2, h4]; rfl
theorem take_drop_set {α : Type} {l m : List α} {k : Nat} {v : α} (hl : m.length = l.length) (h : m[k]? = some v) : (m.take k ++ l.drop k).set k v = m.take (k + 1) ++ l.drop (k + 1) := by
  obtain ⟨h1, h2⟩ := List.getElem?_eq_some_iff.1 h
  have hlen : (m.take k).length = k := by rw [List.length_take]; omega
  rw [List.set_append_right _ _ (by omega), hlen, Nat.sub_self, List.drop_eq_getElem_cons (l := l) (by omega), List.set_cons_zero, List.take_add_one, h]
  simp
set_option maxRecDepth 20000 in
theorem valid_inner {w : List Int} {bs : List Bool} (hw : w.length = 8) (hbs : bs.length = 8) {r : Blk} {x11 x12 x13 : AV} {Q : FQ}
    (h1 : ∀ (tm : List AV) (hl : tm.length = 49), tm[3] = .mptr 0 0 8 → tm[11] = x11 → tm[12] = x12 → tm[13] = x13 → rowOk w bs = true → Q (.ex 2) ⟨tm, [.mu (bools (rowNext w bs)) true, r]⟩)
    (h2 : ∀ (tm : List AV) (hl : tm.length = 49) (S : Store), tm[2] = .bool false → rowOk w bs = false → Q .ret ⟨tm, S⟩) :
    ∀ (m k : Nat), k + m = 8 → rowOk (w.drop k) (bs.drop k) = rowOk w bs →
    wpL RT f24_0m 2 f24_0 ⟨[.any, .any, .any, .mptr 0 0 8, .any, .any, .any, .any, .any, .any, .any, x11, x12, x13, .any, .any, .any, R8 w, .int .i64 (k : Int)] ++ List.replicate 30 .any, [.mu (bools ((rowNext w bs).take k ++ bs.drop k)) true, r]⟩ Q := by
  intro m
  induction m with
  | zero =>
    intro k hk he
    have hk' : k = 8 := by omega
    subst hk'
    rw [wpL_step]
    generalize hK : loopQ RT f24_0m 2 f24_0 Q = K
    simp [f24_0, List.replicate]
    subst hK
    have e : (rowNext w bs).take 8 ++ bs.drop 8 = rowNext w bs := by
      rw [List.drop_of_length_le (by omega), List.take_of_length_le (by rw [rowNext_len]; omega), List.append_nil]
    rw [e]
    refine h1 _ rfl rfl rfl rfl rfl ?_
    rw [← he, List.drop_of_length_le (by omega)]; rfl
  | succ m ih =>
    intro k hk he
    have hki : (k : Int) < 8 := by omega
    have hwk : w[k]? = some w[k] := List.getElem?_eq_getElem (by omega)
    have hbk : bs[k]? = some bs[k] := List.getElem?_eq_getElem (by omega)
    have hnk := rowNext_get w bs k _ _ hwk hbk
    rw [rowOk_drop hwk hbk] at he
    generalize w[k] = x at *
    generalize bs[k] = b at *
    have hlen : ((rowNext w bs).take k ++ bs.drop k).length = 8 := by simp [rowNext_len]; omega
    have hcur : ((rowNext w bs).take k ++ bs.drop k)[k]? = some b := by
      have hlen : ((rowNext w bs).take k).length = k := by rw [List.length_take, rowNext_len]; omega
      rw [List.getElem?_append_right (by omega), hlen, Nat.sub_self, List.getElem?_drop]; simpa using hbk
    have hset := take_drop_set (l := bs) (m := rowNext w bs) (by rw [rowNext_len]) hnk
    have hw1 : IntKind.i64.wrap ((k : Int) + 1) = ((k + 1 : Nat) : Int) := wrap_i64 (by omega) (by omega)
    generalize hcs : (rowNext w bs).take k ++ bs.drop k = cs at *
    have hrd : rd [.mu (bools cs) true, r] 0 k 8 1 = some [.bool b] := rd_bool rfl hlen hcur
    have hwr : ∀ v, wr [.mu (bools cs) true, r] 0 k 8 [.bool v] = some [.mu (bools (cs.set k v)) true, r] := fun v => wr_bool (S := [.mu (bools cs) true, r]) rfl hlen (by omega)
    rw [wpL_step]
    generalize hK : loopQ RT f24_0m 2 f24_0 Q = K
    have fin : okW x b = false → rowOk w bs = false := fun h => by rw [← he, h]; rfl
    have go : okW x b = true → wpL RT f24_0m 2 f24_0 ⟨[.any, .any, .any, .mptr 0 0 8, .any, .any, .any, .any, .any, .any, .any, x11, x12, x13, .any, .any, .any, R8 w, .int .i64 ((k + 1 : Nat) : Int)] ++ List.replicate 30 .any, [.mu (bools ((rowNext w bs).take (k + 1) ++ bs.drop (k + 1))) true, r]⟩ Q := by
      intro h
      rw [h, Bool.true_and] at he
      exact ih (k + 1) (by omega) he
    rw [← hset] at go
    by_cases c1 : x < -1000
    · have hf := fin (by unfold okW; simp; omega)
      simp [f24_0, List.replicate, hki, hw, hwk, hrd, c1]
      subst hK
      exact h2 _ rfl _ rfl hf
    · by_cases c2 : 1000 < x
      · have hf := fin (by unfold okW; simp; omega)
        simp [f24_0, List.replicate, hki, hw, hwk, hrd, c1, c2]
        subst hK
        exact h2 _ rfl _ rfl hf
      · by_cases c3 : x < 0
        · cases b with
          | false =>
            have hf := fin (by unfold okW; simp; omega)
            simp [f24_0, List.replicate, hki, hw, hwk, hrd, c1, c2, c3]
            subst hK
            exact h2 _ rfl _ rfl hf
          | true =>
            have hg := go (by unfold okW; simp; omega)
            have hn : nextW x true = true := rfl
            rw [hn] at hg
            simp [f24_0, List.replicate, hki, hw, hwk, hrd, c1, c2, c3, hwr, hw1]
            subst hK
            simp [head, f24_0m, mask, trunc_len]
            simpa [f24_0m, List.replicate] using hg
        · have hg := go (by unfold okW; simp; omega)
          cases b with
          | true =>
            have hn : nextW x true = true := rfl
            rw [hn] at hg
            simp [f24_0, List.replicate, hki, hw, hwk, hrd, c1, c2, c3, hwr, hw1]
            subst hK
            simp [head, f24_0m, mask, trunc_len]
            simpa [f24_0m, List.replicate] using hg
          | false =>
            have hn : nextW x false = decide (0 < x) := by simp [nextW]
            rw [hn] at hg
            simp [f24_0, List.replicate, hki, hw, hwk, hrd, c1, c2, c3, hwr, hw1]
            subst hK
            simp [head, f24_0m, mask, trunc_len]
            simpa [f24_0m, List.replicate] using hg
set_option maxRecDepth 20000 in
theorem valid_outer {o : List (List Int)} (ho : ∀ w ∈ o, w.length = 8) (hol : o.length < 1000000) {Q : FQ}
    (h1 : ∀ (tm : List AV) (hl : tm.length = 49) (S : Store), goV (List.replicate 8 false) o = true → Q (.ex 0) ⟨tm, S⟩)
    (h2 : ∀ (tm : List AV) (hl : tm.length = 49) (S : Store), tm[2] = .bool false → goV (List.replicate 8 false) o = false → Q .ret ⟨tm, S⟩) :
    ∀ (m i : Nat), i + m = o.length → ∀ bs : List Bool, bs.length = 8 → goV bs (o.drop i) = goV (List.replicate 8 false) o →
    wpL RT f24_1m 1 f24_1 ⟨[.any, .any, .any, .mptr 0 0 8, .any, .any, .any, .any, .any, .any, .any, OR o, .int .i64 (o.length : Int), .int .i64 (i : Int)] ++ List.replicate 35 .any, [.mu (bools bs) true]⟩ Q := by
  intro m
  induction m with
  | zero =>
    intro i hi bs hbs he
    have hi' : i = o.length := by omega
    subst hi'
    rw [wpL_step]
    generalize hK : loopQ RT f24_1m 1 f24_1 Q = K
    simp [f24_1, List.replicate]
    subst hK
    refine h1 _ rfl _ ?_
    rw [← he, List.drop_of_length_le (Nat.le_refl _)]
    cases bs <;> rfl
  | succ m ih =>
    intro i hi bs hbs he
    have hi1 : i < o.length := by omega
    rw [List.drop_eq_getElem_cons hi1] at he
    have hwl := ho o[i] (List.getElem_mem hi1)
    have hget : o[i]? = some o[i] := List.getElem?_eq_getElem hi1
    generalize o[i] = w at *
    have hw : IntKind.i64.wrap ((i : Int) + 1) = ((i + 1 : Nat) : Int) := wrap_i64 (by omega) (by omega)
    have hlt : (i : Int) < (o.length : Int) := by omega
    rw [wpL_step]
    generalize hK : loopQ RT f24_1m 1 f24_1 Q = K
    have hz : splice [.int .i64 0, .int .i64 0, .int .i64 0, .int .i64 0, .int .i64 0, .int .i64 0, .int .i64 0, .int .i64 0] 0 (nums .i64 w) = nums .i64 w := row_splice hwl rfl
    have ht8 : (nums .i64 w).take 8 = nums .i64 w := List.take_of_length_le (by simp [hwl])
    simp [f24_1, List.replicate, hlt, hget, hwl, ht8, wr, chk, hz, rd]
    simp [head, f24_0m, mask, trunc_len]
    refine valid_inner hwl hbs (r := .mu (nums .i64 w) true) ?_ ?_ 8 0 rfl rfl
    · intro tm hl h3 h11 h12 h13 hr
      have he' : goV (rowNext w bs) (o.drop (i + 1)) = goV (List.replicate 8 false) o := by rw [← he]; simp only [goV, hr, Bool.true_and]
      simp [hl, h3, h11, h12, h13, hw]
      subst hK
      simp only [loopQ_nrm, head]
      rw [mask_of (n := 49) (by simp [hl])]
      have := ih (i + 1) (by omega) (rowNext w bs) (by rw [rowNext_len]; exact hbs) he'
      have hlb : Blk.lt 1 (.mu (bools (rowNext w bs)) true) = true := by simp [Blk.lt, bools, lt1, ltc]
      simp [f24_1m, hl, h3, h11, h12, List.range_succ, trunc, lt1, ltc, hlb]
      simpa [f24_1m, List.replicate] using this
    · intro tm hl S h2' hr
      have he' : goV (List.replicate 8 false) o = false := by rw [← he]; simp only [goV, hr, Bool.false_and]
      simp [hl, h2']
      subst hK
      exact h2 _ (by simp [hl]) _ (by simp [h2']) he'
theorem run_valid {o : List (List Int)} (ho : ∀ w ∈ o, w.length = 8) (hol : o.length < 1000000) : callPure RT 24 [OR o] = some (.bool (validB o)) := by
  refine callPure_of (wpF_of tab_24 rfl ?_)
  unfold validB
  by_cases hc : (24 : Int) < (o.length : Int)
  · have : ¬ o.length ≤ 24 := by omega
    simp [f24, enter, hc, this]
  · have : o.length ≤ 24 := by omega
    simp [f24, enter, hc, this]
    simp [head, f24_1m, mask, trunc_len]
    refine valid_outer ho hol ?_ ?_ o.length 0 (by simp) (List.replicate 8 false) rfl rfl
    · intro tm hl S h
      have h' : goV [false, false, false, false, false, false, false, false] o = true := h
      simp [hl, h']
    · intro tm hl S h2 h
      have h' : goV [false, false, false, false, false, false, false, false] o = false := h
      simp [hl, h2, h']
end Go.AVM

/- Orders: the mask of variables; the first row where one of two variables occurs. -/
set_option linter.unusedVariables false
set_option linter.unusedSimpArgs false
set_option linter.unusedSectionVars false
namespace Go.AVM
end Go.AVM

/- Orders: which variables one eliminates. -/
set_option linter.unusedVariables false
set_option linter.unusedSimpArgs false
set_option linter.unusedSectionVars false
namespace Go.AVM
end Go.AVM

/- Orders: the plain law of eliminating; the variables that occur. -/
set_option linter.unusedVariables false
set_option linter.unusedSimpArgs false
set_option linter.unusedSectionVars false
namespace Go.AVM
end Go.AVM

/- The fixed examples of chapter 05, reckoned. -/
set_option maxRecDepth 100000
namespace Go.AVM
def rat0 : AV := .agg [.bool false, .sl [] 1 false, .bool false, .sl [.int .u32 1] 1 false]
def rat1 : AV := .agg [.bool false, .sl [.int .u32 1] 1 false, .bool false, .sl [.int .u32 1] 1 false]
def ratM : AV := .agg [.bool true, .sl [.int .u32 1] 1 false, .bool false, .sl [.int .u32 1] 1 false]
theorem ex_s0 : callPure (run tab) 58 [rat0, rat0] = some rat0 := pureIs_run (O := noneE) (n := 30) noneE_sound (by kernel_rfl)
theorem ex_s1 : callPure (run tab) 58 [ratM, rat0] = some ratM := pureIs_run (O := noneE) (n := 30) noneE_sound (by kernel_rfl)
theorem ex_m0 : callPure (run tab) 59 [rat0, rat0] = some rat0 := pureIs_run (O := noneE) (n := 30) noneE_sound (by kernel_rfl)
theorem ex_m1 : callPure (run tab) 59 [rat0, rat1] = some rat0 := pureIs_run (O := noneE) (n := 30) noneE_sound (by kernel_rfl)
theorem ex_m2 : callPure (run tab) 59 [rat0, ratM] = some rat0 := pureIs_run (O := noneE) (n := 30) noneE_sound (by kernel_rfl)
theorem ex_w0 : callPure (run tab) 52 [.int .i64 0] = some rat0 := pureIs_run (O := noneE) (n := 30) noneE_sound (by kernel_rfl)
theorem ex_w1 : callPure (run tab) 52 [.int .i64 1] = some rat1 := pureIs_run (O := noneE) (n := 30) noneE_sound (by kernel_rfl)
theorem ex_w2 : callPure (run tab) 52 [.int .i64 (-1)] = some ratM := pureIs_run (O := noneE) (n := 30) noneE_sound (by kernel_rfl)
theorem ex_g0 : callPure (run tab) 55 [rat0] = some (.int .i64 0) := pureIs_run (O := noneE) (n := 30) noneE_sound (by kernel_rfl)
theorem ex_g1 : callPure (run tab) 55 [rat1] = some (.int .i64 1) := pureIs_run (O := noneE) (n := 30) noneE_sound (by kernel_rfl)
theorem ex_g2 : callPure (run tab) 55 [ratM] = some (.int .i64 (-1)) := pureIs_run (O := noneE) (n := 30) noneE_sound (by kernel_rfl)
theorem ex_d1 : callPure (run tab) 57 [rat0, rat1] = some (.tup [rat0, .int .i64 0]) := pureIs_run (O := noneE) (n := 30) noneE_sound (by kernel_rfl)
theorem ex_d2 : callPure (run tab) 57 [rat0, ratM] = some (.tup [rat0, .int .i64 0]) := pureIs_run (O := noneE) (n := 30) noneE_sound (by kernel_rfl)
def ratKnown : Known := [(58, [rat0, rat0], rat0), (58, [ratM, rat0], ratM), (59, [rat0, rat0], rat0), (59, [rat0, rat1], rat0), (59, [rat0, ratM], rat0), (52, [.int .i64 0], rat0), (52, [.int .i64 1], rat1), (52, [.int .i64 (-1)], ratM),
  (55, [rat0], .int .i64 0), (55, [rat1], .int .i64 1), (55, [ratM], .int .i64 (-1)), (57, [rat0, rat1], .tup [rat0, .int .i64 0]), (57, [rat0, ratM], .tup [rat0, .int .i64 0])]
theorem ratKnown_sound : ∀ f a r, askE ratKnown f a = some r → callPure (run tab) f a = some r := askE_sound fun e he => by
  simp only [ratKnown, List.mem_cons, List.not_mem_nil, or_false] at he
  rcases he with rfl | rfl | rfl | rfl | rfl | rfl | rfl | rfl | rfl | rfl | rfl | rfl | rfl
  · exact ex_s0
  · exact ex_s1
  · exact ex_m0
  · exact ex_m1
  · exact ex_m2
  · exact ex_w0
  · exact ex_w1
  · exact ex_w2
  · exact ex_g0
  · exact ex_g1
  · exact ex_g2
  · exact ex_d1
  · exact ex_d2
def exRow (l : List Int) : AV := .agg (l.map (AV.int .i64))
def exRev : AV := .sl [exRow [1,1,1,1,1,1,1,1], exRow [0,0,0,0,0,0,0,-1], exRow [0,0,0,0,0,0,-1,0], exRow [0,0,0,0,0,-1,0,0], exRow [0,0,0,0,-1,0,0,0], exRow [0,0,0,-1,0,0,0,0], exRow [0,0,-1,0,0,0,0,0], exRow [0,-1,0,0,0,0,0,0]] 8 false
theorem ex_i0 : callPure (run tab) 45 [.sl [] 8 false] = some (.bool false) := pureIs_run (n := 30) ratKnown_sound (by kernel_rfl)
theorem ex_i1 : callPure (run tab) 45 [.sl [exRow [1,1,1,1,1,1,1,1]] 8 false] = some (.bool false) := pureIs_run (n := 30) ratKnown_sound (by kernel_rfl)
theorem ex_i2 : callPure (run tab) 45 [exRev] = some (.bool true) := pureIs_run (n := 30) ratKnown_sound (by kernel_rfl)
def indKnown : Known := [(45, [.sl [] 8 false], .bool false), (45, [.sl [exRow [1,1,1,1,1,1,1,1]] 8 false], .bool false), (45, [exRev], .bool true)]
theorem indKnown_sound : ∀ f a r, askE indKnown f a = some r → callPure (run tab) f a = some r := askE_sound fun e he => by
  simp only [indKnown, List.mem_cons, List.not_mem_nil, or_false] at he
  rcases he with rfl | rfl | rfl
  · exact ex_i0
  · exact ex_i1
  · exact ex_i2
theorem run_examples5 : callPure (run tab) 8 [] = some (.bool true) := pureIs_run (n := 30) indKnown_sound (by kernel_rfl)
end Go.AVM

/- What OrderNamed says, of its telling. -/
set_option linter.unusedVariables false
set_option linter.unusedSimpArgs false
set_option linter.unusedSectionVars false
namespace Go.AVM
theorem monoL_len {x : List Int} (h : x.length = 8) : (monoL x).length = 8 := by simp [monoL, h]
theorem monoL_bd {x : List Int} (h : ∀ n ∈ x, 0 ≤ n ∧ n ≤ 65535) : ∀ n ∈ monoL x, 0 ≤ n ∧ n < 20000 := by
  intro n hn
  obtain ⟨m, hm, rfl⟩ := List.mem_map.1 hn
  have := h m hm
  omega
end Go.AVM

/- What OrderEliminates says, of its telling. -/
set_option linter.unusedVariables false
set_option linter.unusedSimpArgs false
set_option linter.unusedSectionVars false
namespace Go.AVM
end Go.AVM

/- Orders: the plain laws of comparing; products of monomials. -/
set_option linter.unusedVariables false
set_option linter.unusedSimpArgs false
set_option linter.unusedSectionVars false
namespace Go.AVM
theorem cmpL_anti : ∀ a b : List Int, cmpL b a = -(cmpL a b)
  | [], [] => rfl
  | [], _ :: _ => rfl
  | _ :: _, [] => rfl
  | x :: a, y :: b => by
    simp only [cmpL]
    rcases Int.lt_trichotomy x y with h | h | h
    · rw [if_pos h, if_neg (by omega), if_pos h]; rfl
    · rw [if_neg (by omega), if_neg (by omega), if_neg (by omega), if_neg (by omega), cmpL_anti a b]
    · simp [h, Int.not_lt.2 (Int.le_of_lt h)]
theorem cmpL_vals : ∀ a b : List Int, cmpL a b = -1 ∨ cmpL a b = 0 ∨ cmpL a b = 1
  | [], [] => .inr (.inl rfl)
  | [], _ :: _ => .inr (.inl rfl)
  | _ :: _, [] => .inr (.inl rfl)
  | x :: a, y :: b => by
    simp only [cmpL]
    split
    · exact .inl rfl
    · split
      · exact .inr (.inr rfl)
      · exact cmpL_vals a b
theorem cmpL_eq0 : ∀ {a b : List Int}, a.length = b.length → cmpL a b = 0 → a = b
  | [], [], _, _ => rfl
  | [], _ :: _, h, _ => by simp at h
  | _ :: _, [], h, _ => by simp at h
  | x :: a, y :: b, h, h0 => by
    simp only [cmpL] at h0
    split at h0
    · cases h0
    · split at h0
      · cases h0
      · have := cmpL_eq0 (by simpa using h) h0
        have hxy : x = y := by omega
        rw [hxy, this]
theorem dotL_anti : ∀ w a b : List Int, dotL w b a = -(dotL w a b)
  | [], _, _ => by simp [dotL]
  | _ :: _, [], [] => by simp [dotL]
  | _ :: _, [], _ :: _ => by simp [dotL]
  | _ :: _, _ :: _, [] => by simp [dotL]
  | w :: ws, a :: as, b :: bs => by
    simp only [dotL, dotL_anti ws as bs, Int.mul_sub]; omega
theorem ordCmp_anti (o : List (List Int)) (a b : List Int) : ordCmp o b a = -(ordCmp o a b) := by
  induction o with
  | nil => exact cmpL_anti a b
  | cons w o ih =>
    simp only [ordCmp, dotL_anti w a b]
    rcases Int.lt_trichotomy (dotL w a b) 0 with h | h | h
    · rw [if_neg (by omega), if_pos (by omega), if_pos h]; rfl
    · rw [if_neg (by omega), if_neg (by omega), if_neg (by omega), if_neg (by omega), ih]
    · rw [if_pos (by omega), if_neg (by omega), if_pos h]
theorem ordCmp_vals (o : List (List Int)) (a b : List Int) : ordCmp o a b = -1 ∨ ordCmp o a b = 0 ∨ ordCmp o a b = 1 := by
  induction o with
  | nil => exact cmpL_vals a b
  | cons w o ih =>
    simp only [ordCmp]
    split
    · exact .inl rfl
    · split
      · exact .inr (.inr rfl)
      · exact ih
theorem ordCmp_eq0 (o : List (List Int)) {a b : List Int} (h : a.length = b.length) (h0 : ordCmp o a b = 0) : a = b := by
  induction o with
  | nil => exact cmpL_eq0 h h0
  | cons w o ih =>
    simp only [ordCmp] at h0
    split at h0
    · cases h0
    · split at h0
      · cases h0
      · exact ih h0
/-! ### Products -/
@[simp] theorem nr1_fn (f : Nat) (cs : List AV) : nr1 (.fn f cs) = cs.all nrc := rfl
end Go.AVM

/- Sorting by insertion. -/
set_option linter.unusedVariables false
set_option linter.unusedSimpArgs false
set_option linter.unusedSectionVars false
namespace Go.AVM
/-! ### Rows in the store -/
def All8 (L : List (List Int)) : Prop := ∀ r ∈ L, r.length = 8
theorem flat_row : ∀ {L : List (List Int)} {j : Nat} {r : List Int}, All8 L → L[j]? = some r → (L.flatten.drop (j * 8)).take 8 = r
  | [], _, _, _, h => by simp at h
  | x :: L, 0, r, h8, h => by
    simp at h; subst h
    have hx := h8 x (by simp)
    rw [Nat.zero_mul, List.drop_zero, List.flatten_cons, List.take_append_of_le_length (by omega), List.take_of_length_le (by omega)]
  | x :: L, j + 1, r, h8, h => by
    have hx := h8 x (by simp)
    have e : (j + 1) * 8 = x.length + j * 8 := by omega
    rw [e, List.flatten_cons, List.drop_append, List.drop_of_length_le (by omega), List.nil_append]
    have e2 : x.length + j * 8 - x.length = j * 8 := by omega
    rw [e2]
    exact flat_row (fun r hr => h8 r (by simp [hr])) (by simpa using h)
section
variable {S : Store} {b j n : Nat} {ex : Bool} {L : List (List Int)} {r : List Int}
theorem rd_row (h : S[b]? = some (.mu (nums .i64 L.flatten) ex)) (h8 : All8 L) (hn : L.length = n) (hj : L[j]? = some r) : rd S b (j * 8) (8 * n) 8 = some (nums .i64 r) := by
  have hjl := (List.getElem?_eq_some_iff.1 hj).1
  have hl := flat_len h8
  rw [rd_mu h (by simp [hl, hn]) (by omega), nums_drop, nums_take, flat_row h8 hj]
end
theorem All8.set {L : List (List Int)} (h : All8 L) {j : Nat} {r : List Int} (hr : r.length = 8) : All8 (L.set j r) := fun x hx => by
  rcases List.mem_or_eq_of_mem_set hx with h' | rfl
  · exact h x h'
  · exact hr
/-! ### The closure that compares -/
/-! ### Insertion -/
/-- What stands before does not come after. -/
abbrev Dec (o : List (List Int)) (L : List (List Int)) : Prop := L.Pairwise fun a b => 0 ≤ ordCmp o a b
structure Mono8 (L : List (List Int)) : Prop where
  len : All8 L
  bd : ∀ r ∈ L, Bd 200000 r
end Go.AVM

/- Sorting: the whole, for short lists. -/
set_option linter.unusedVariables false
set_option linter.unusedSimpArgs false
set_option linter.unusedSectionVars false
namespace Go.AVM
end Go.AVM

/- What stands twice is taken out. -/
set_option linter.unusedVariables false
set_option linter.unusedSimpArgs false
set_option linter.unusedSectionVars false
namespace Go.AVM
@[simp] theorem opA_clr {R : RunF} {S : Store} {sz b off n sz' vl : Nat} {cap : Option Nat} {z : List AV} : opA R (.clr sz z) [.msl b off n sz' vl cap] S = chk (sz = sz' ∧ z.length = sz) ((wr S b off vl (List.replicate n z).flatten).bind fun S' => some (.tup [], S')) := rfl
/-- Each greater than what follows. -/
abbrev SDec (o : List (List Int)) (D : List (List Int)) : Prop := D.Pairwise fun a b => ordCmp o a b = 1
theorem take_snoc {α : Type} {L : List α} {p : Nat} {x : α} (hx : L[p]? = some x) : L.take (p + 1) = L.take p ++ [x] := by rw [List.take_add_one, hx]; rfl
theorem dec_to {o L : List (List Int)} (hd : Dec o L) {p : Nat} {x d : List Int} (hx : L[p]? = some x) (hm : d ∈ L.take p) : 0 ≤ ordCmp o d x := by
  have h := hd
  rw [← List.take_append_drop p L] at h
  have hp := (List.getElem?_eq_some_iff.1 hx)
  refine (List.pairwise_append.1 h).2.2 d hm x ?_
  rw [List.drop_eq_getElem_cons hp.1, hp.2]
  exact List.mem_cons_self ..
theorem sdec_snoc {o L D : List (List Int)} {p : Nat} {x y : List Int} (hd : Dec o L) (h8 : All8 L) (hx : L[p + 1]? = some x) (hy : L[p]? = some y) (hxy : x ≠ y) (hD : SDec o D) (hm : ∀ d, d ∈ D ↔ d ∈ L.take (p + 1)) :
    SDec o (D ++ [x]) ∧ ∀ d, d ∈ D ++ [x] ↔ d ∈ L.take (p + 2) := by
  have ht := take_snoc hx
  refine ⟨List.pairwise_append.2 ⟨hD, List.pairwise_singleton _ _, fun d hdD z hz => ?_⟩, fun d => ?_⟩
  · have hz' : z = x := by simpa using hz
    subst hz'
    have hdm := (hm d).1 hdD
    have h1 := dec_to hd hx hdm
    have hd8 := h8 d (List.mem_of_mem_take hdm)
    have hx8 := h8 z (List.mem_of_getElem? hx)
    have hy8 := h8 y (List.mem_of_getElem? hy)
    have hne : ordCmp o d z ≠ 0 := fun h0 => by
      have hdz := ordCmp_eq0 o (by omega) h0
      subst hdz
      have hyx : 0 ≤ ordCmp o y d := dec_to hd hx (by rw [take_snoc hy]; simp)
      rw [take_snoc hy] at hdm
      rcases List.mem_append.1 hdm with h | h
      · have h2 := dec_to hd hy h
        have h3 := ordCmp_anti o d y
        exact hxy (ordCmp_eq0 o (by omega) (by omega))
      · have : d = y := by simpa using h
        exact hxy this
    have := ordCmp_vals o d z
    omega
  · rw [ht]
    simp only [List.mem_append, hm d]
theorem mem_same {L D : List (List Int)} {p : Nat} {x : List Int} (hx : L[p + 1]? = some x) (hy : L[p]? = some x) (hm : ∀ d, d ∈ D ↔ d ∈ L.take (p + 1)) : ∀ d, d ∈ D ↔ d ∈ L.take (p + 2) := by
  intro d
  rw [take_snoc hx, hm d]
  constructor
  · exact fun h => List.mem_append.2 (.inl h)
  · intro h
    rcases List.mem_append.1 h with h | h
    · exact h
    · have : d = x := by simpa using h
      rw [this, take_snoc hy]; simp
/-- What stands in the store while what stands twice is taken out. -/
structure Comp (o L : List (List Int)) (n k p : Nat) (A : List (List Int)) : Prop where
  all : All8 A
  len : A.length = n
  le : k ≤ p
  dec : SDec o (A.take k)
  mem : ∀ d, d ∈ A.take k ↔ d ∈ L.take (p + 1)
  rest : ∀ i, p ≤ i → A[i]? = L[i]?
theorem Comp.skip {o L A : List (List Int)} {n k p : Nat} {x : List Int} (h : Comp o L n k p A) (hx : L[p + 1]? = some x) (hy : L[p]? = some x) : Comp o L n k (p + 1) A :=
  ⟨h.all, h.len, by have := h.le; omega, h.dec, mem_same hx hy h.mem, fun i hi => h.rest i (by omega)⟩
theorem Comp.put {o L A : List (List Int)} {n k p : Nat} {x y : List Int} (hd : Dec o L) (h8 : All8 L) (hL : L.length = n) (h : Comp o L n k p A) (hx : L[p + 1]? = some x) (hy : L[p]? = some y) (hxy : x ≠ y) : Comp o L n (k + 1) (p + 1) (A.set k x) := by
  have hpn := (List.getElem?_eq_some_iff.1 hx).1
  have hkl : k < A.length := by have := h.le; have := h.len; omega
  have e : (A.set k x).take (k + 1) = A.take k ++ [x] := by
    rw [take_snoc (p := k) (x := x) (by simp [hkl])]
    congr 1
    rw [List.take_set_of_le (by omega)]
  have hs := sdec_snoc hd h8 hx hy hxy h.dec h.mem
  refine ⟨h.all.set (h8 x (List.mem_of_getElem? hx)), by simp [h.len], by have := h.le; omega, ?_, ?_, fun i hi => ?_⟩
  · rw [e]; exact hs.1
  · rw [e]; exact hs.2
  · have := h.le
    rw [List.getElem?_set_ne (by omega), h.rest i (by omega)]
end Go.AVM

/- Sorting: what the result is. -/
set_option linter.unusedVariables false
set_option linter.unusedSimpArgs false
set_option linter.unusedSectionVars false
namespace Go.AVM
end Go.AVM

/- Sorting: the whole function; lists of monomials. -/
set_option linter.unusedVariables false
set_option linter.unusedSimpArgs false
set_option linter.unusedSectionVars false
namespace Go.AVM
end Go.AVM

/- What OrderSorts says, of its telling. -/
set_option linter.unusedVariables false
set_option linter.unusedSimpArgs false
set_option linter.unusedSectionVars false
namespace Go.AVM
/-- A slice of rows that grows, from nothing. -/
def Grow0 (S : Store) (v : AV) (F : List (List Int)) : Prop := All8 F ∧ ((v = .sl [] 8 true ∧ F = []) ∨ ∃ b, F ≠ [] ∧ v = .msl b 0 F.length 8 (8 * F.length) none ∧ S[b]? = some (.mu (nums .i64 F.flatten) false))
theorem Grow0.app {S : Store} {v : AV} {F : List (List Int)} {r : List Int} (h : Grow0 S v F) (hr : r.length = 8) (hn : F.length < 1000) : ∃ v' S', appA 8 64 S v (.sl [R8 r] 8 true) = some (v', S') ∧ Grow0 S' v' (F ++ [r]) := by
  obtain ⟨h8, ⟨rfl, rfl⟩ | ⟨b, hne, rfl, hg⟩⟩ := h
  · refine ⟨.msl S.length 0 1 8 8 none, S ++ [.mu (nums .i64 r) false], ?_, ⟨fun x hx => ?_, .inr ⟨S.length, by simp, rfl, ?_⟩⟩⟩
    · have : room 1 64 := by decide
      simp [appA, held, chk, this]
    · have : x = r := by simpa using hx
      rw [this]; exact hr
    · simp [get_last]
  · have hl := flat_len h8
    have hroom : room (F.length + 1) 64 := by unfold room; omega
    have h1 : ¬ (F.length + 1) * 8 ≤ 8 * F.length := by omega
    have h2 : F.length * 8 ≤ 8 * F.length := by omega
    have hlt := lt_of_get hg
    refine ⟨.msl b 0 (F.length + 1) 8 (8 * (F.length + 1)) none, S.set b (.mu (nums .i64 (F ++ [r]).flatten) false), ?_, ⟨fun x hx => ?_, .inr ⟨b, by simp, by simp, by simp [hlt]⟩⟩⟩
    · have ht : (nums .i64 F.flatten).take (F.length * 8) = nums .i64 F.flatten := List.take_of_length_le (by simp only [nums_length, hl]; omega)
      have hfl : (F ++ [r]).flatten = F.flatten ++ r := by simp
      rw [hfl, ← nums_append]
      generalize hG : nums .i64 F.flatten = G at *
      have hGl : G.length = 8 * F.length := by rw [← hG, nums_length, hl]
      simp [appA, held, chk, hroom, h1, hg, hGl, h2, ht]
      omega
    · rcases List.mem_append.1 hx with h | h
      · exact h8 x h
      · have : x = r := by simpa using h
        rw [this]; exact hr
theorem Grow0.keep {S : Store} {v : AV} {F : List (List Int)} {vs : List AV} (h : Grow0 S v F) (hv : v ∈ vs) : Grow0 (trunc 0 vs S) v F := by
  obtain ⟨h8, h | ⟨b, hne, rfl, hg⟩⟩ := h
  · exact ⟨h8, .inl h⟩
  · refine ⟨h8, .inr ⟨b, hne, rfl, ?_⟩⟩
    rw [trunc_get (.inr ⟨_, hv, by simp [lt1, ltc]⟩), hg]
end Go.AVM

/- order.Full: what it gives. -/
set_option linter.unusedVariables false
set_option linter.unusedSimpArgs false
set_option linter.unusedSectionVars false
namespace Go.AVM
def unitL (k : Nat) : List Int := (List.replicate 8 0).set k 1
def unitsL (n : Nat) : List (List Int) := (List.range n).map unitL
theorem run_unit {k : Nat} (hk : k < 8) : callPure RT 41 [.int .i64 (k : Int), .int .i64 1] = some (R8 (unitL k)) := by
  match k, hk with
  | 0, _ => exact pureIs_run (O := noneE) (n := 30) noneE_sound (by kernel_rfl)
  | 1, _ => exact pureIs_run (O := noneE) (n := 30) noneE_sound (by kernel_rfl)
  | 2, _ => exact pureIs_run (O := noneE) (n := 30) noneE_sound (by kernel_rfl)
  | 3, _ => exact pureIs_run (O := noneE) (n := 30) noneE_sound (by kernel_rfl)
  | 4, _ => exact pureIs_run (O := noneE) (n := 30) noneE_sound (by kernel_rfl)
  | 5, _ => exact pureIs_run (O := noneE) (n := 30) noneE_sound (by kernel_rfl)
  | 6, _ => exact pureIs_run (O := noneE) (n := 30) noneE_sound (by kernel_rfl)
  | 7, _ => exact pureIs_run (O := noneE) (n := 30) noneE_sound (by kernel_rfl)
theorem unitL_len (k : Nat) : (unitL k).length = 8 := by simp [unitL]
theorem Grow0.clone {S : Store} {o : List (List Int)} (h8 : All8 o) (hl : o.length < 1000) : ∃ v S', appA 8 64 S (.sl [] 8 true) (OR o) = some (v, S') ∧ Grow0 S' v o := by
  have hx : held S 8 (OR o) = some (o.length, nums .i64 o.flatten) := by
    simp only [held]
    rw [chk_pos trivial, rows_cells]; simp
  unfold appA
  rw [hx]
  simp only [Option.bind_some]
  rw [chk_pos trivial]
  by_cases h0 : o = []
  · subst h0
    exact ⟨.sl [] 8 true, S, rfl, h8, .inl ⟨rfl, rfl⟩⟩
  · have hne : ¬ o.length = 0 := fun h => h0 (List.length_eq_zero_iff.1 h)
    rw [if_neg hne, chk_pos ⟨trivial, by unfold room; simp; omega⟩]
    refine ⟨_, _, rfl, h8, .inr ⟨S.length, h0, ?_, ?_⟩⟩
    · simp; omega
    · simp
theorem Grow0.keepn {S : Store} {v : AV} {F : List (List Int)} {vs : List AV} {k : Nat} (h : Grow0 S v F) (hv : v ∈ vs) : Grow0 (trunc k vs S) v F := by
  obtain ⟨h8, h | ⟨b, hne, rfl, hg⟩⟩ := h
  · exact ⟨h8, .inl h⟩
  · refine ⟨h8, .inr ⟨b, hne, rfl, ?_⟩⟩
    by_cases hb : b < k
    · rw [trunc_get (.inl hb), hg]
    · rw [trunc_get (.inr ⟨_, hv, by simp [lt1, ltc]; omega⟩), hg]
set_option maxRecDepth 20000 in
theorem full_loop {base : Nat} {o : List (List Int)} (ho : All8 o) (hol : o.length < 900) {Q : FQ}
    (h1 : ∀ (tm : List AV) (ht : tm.length = 27) (S' : Store) (v : AV), tm[4] = v → Grow0 S' v (o ++ unitsL 8) → Q (.ex 0) ⟨tm, S'⟩) :
    ∀ (m j : Nat), j + m = 8 → ∀ (S : Store) (v : AV), Grow0 S v (o ++ unitsL j) →
    wpL RT f28_0m base f28_0 ⟨[.any, .any, .any, .any, v, .any, .any, .any, .any, .any, .any, .any, .any, .any, .int .i64 (j : Int)] ++ List.replicate 12 .any, S⟩ Q := by
  intro m
  induction m with
  | zero =>
    intro j hj S v hG
    have hj' : j = 8 := by omega
    subst hj'
    rw [wpL_step]
    generalize hK' : loopQ RT f28_0m base f28_0 Q = KK
    simp [f28_0, List.replicate]
    subst hK'
    exact h1 _ rfl S v rfl hG
  | succ m ih =>
    intro j hj S v hG
    have hj8 : j < 8 := by omega
    have hlt : (j : Int) < 8 := by omega
    have hw : IntKind.i64.wrap ((j : Int) + 1) = ((j + 1 : Nat) : Int) := wrap_i64 (by omega) (by omega)
    have hu := run_unit hj8
    obtain ⟨v', S', ha, hG'⟩ := hG.app (unitL_len j) (by simp [unitsL]; omega)
    have hul : o ++ unitsL j ++ [unitL j] = o ++ unitsL (j + 1) := by
      unfold unitsL
      rw [List.append_assoc, List.range_succ, List.map_append]; rfl
    rw [hul] at hG'
    have hlen := unitL_len j
    have hih := fun S v h => ih (j + 1) (by omega) S v h
    clear hul hG
    generalize unitL j = u at *
    rw [wpL_step]
    generalize hK' : loopQ RT f28_0m base f28_0 Q = KK
    simp [f28_0, List.replicate, hlt, hu, after_nr, opA_litn, fillE, elt, hlen, ha, hw]
    subst hK'
    simp [head, f28_0m, mask]
    have := hih (trunc base _ S') v' (hG'.keepn (vs := [.any, .any, .any, .any, v', .any, .any, .any, .any, .any, .any, .any, .any, .any, .int .i64 ((j : Int) + 1)] ++ List.replicate 12 .any) (by simp))
    simpa [f28_0m, List.replicate] using this
def fullL (o : List (List Int)) : List (List Int) := if indR 8 0 (o.map toQ) then o else o ++ unitsL 8
/-- What completing an order gives. -/
def FullR (o : List (List Int)) (r : AV) (S : Store) : Prop :=
  if validB o then (if (fullL o).length ≤ 24 then ∃ v, r = .tup [v, .int .i64 0] ∧ Grow0 S v (fullL o) else r = .tup [.sl [] 8 true, .int .i64 2]) else r = .tup [.sl [] 8 true, .int .i64 50]
theorem valid_bd {o : List (List Int)} (h : validB o = true) : o.length ≤ 24 := by
  unfold validB at h
  simp at h; exact h.1
set_option maxRecDepth 20000 in
theorem run_full {o : List (List Int)} (ho : ∀ w ∈ o, w.length = 8) (hb : validB o = true → ∀ w ∈ o, Bd 1000000 w) (hol : o.length < 1000000) : wpF RT 28 [OR o] [] (FullR o) := by
  have hv := run_valid ho hol
  refine wpF_of tab_28 rfl ?_
  cases hvb : validB o with
  | false =>
    rw [hvb] at hv
    simp [f28, enter, hv]
    simp [FullR, hvb]
  | true =>
    rw [hvb] at hv
    have hl24 := valid_bd hvb
    have hi := run_indep (fun w hw => ⟨ho w hw, hb hvb w hw⟩) hol
    obtain ⟨v, S, hcl, hG⟩ := Grow0.clone (S := []) ho (by omega)
    cases hib : indR 8 0 (o.map toQ) with
    | true =>
      rw [hib] at hi
      simp [f28, enter, hv, hcl, hi]
      have hf : fullL o = o := by unfold fullL; rw [if_pos hib]
      unfold FullR
      rw [if_pos hvb, hf, if_pos hl24]
      exact ⟨v, rfl, hG⟩
    | false =>
      rw [hib] at hi
      have hf : fullL o = o ++ unitsL 8 := by unfold fullL; rw [if_neg (by simp [hib])]
      have lp := fun (Q : FQ) h => full_loop (Q := Q) (base := S.length) ho (by omega) h 8 0 rfl S v (by simpa [unitsL] using hG)
      simp only [List.replicate, List.cons_append, List.nil_append, Int.natCast_zero] at lp
      have hT : ∀ vs, trunc S.length vs S = S := fun vs => trunc_len (Nat.le_refl _)
      simp [f28, enter, hv, hcl, hi]
      simp [head, f28_0m, mask, hT]
      refine lp _ ?_
      intro tm ht S' v' t4 hG'
      have hlen : (o ++ unitsL 8).length = o.length + 8 := by simp [unitsL]
      obtain ⟨h8, ⟨rfl, hF⟩ | ⟨b, hne, rfl, hg⟩⟩ := hG'
      · rw [hF] at hlen; simp at hlen
      · by_cases hc : o.length + 8 ≤ 24
        · have hc' : ¬ (24 : Int) < (o.length : Int) + 8 := by omega
          simp [ht, t4, hlen, hc']
          unfold FullR
          rw [if_pos hvb, hf, if_pos (by rw [hlen]; exact hc)]
          refine ⟨_, rfl, h8, .inr ⟨b, hne, ?_, hg⟩⟩
          rw [hlen]
        · have hc' : (24 : Int) < (o.length : Int) + 8 := by omega
          simp [ht, t4, hlen, hc']
          unfold FullR
          rw [if_pos hvb, hf, if_neg (by rw [hlen]; exact hc)]
end Go.AVM

/- order.Permute: which permutations are taken. -/
set_option linter.unusedVariables false
set_option linter.unusedSimpArgs false
set_option linter.unusedSectionVars false
namespace Go.AVM
def permGo : List Bool → List Int → Bool
  | _, [] => true
  | bs, k :: ks => if 0 ≤ k ∧ k < 8 ∧ bs.getD k.toNat false = false then permGo (bs.set k.toNat true) ks else false
set_option maxRecDepth 20000 in
theorem perm_loop {p : List Int} {vo : AV} (hp : p.length = 8) (hpb : ∀ x ∈ p, -9223372036854775808 ≤ x ∧ x < 9223372036854775808) {Q : FQ}
    (h1 : ∀ (tm : List AV) (ht : tm.length = 65) (bs : List Bool), tm[0] = vo → tm[3] = .mptr 0 0 8 → permGo (List.replicate 8 false) p = true → Q (.ex 0) ⟨tm, [.mu (nums .i64 p) true, .mu (bools bs) true]⟩)
    (h2 : ∀ (tm : List AV) (ht : tm.length = 65) (S : Store), tm[4] = .sl [] 8 true → tm[5] = .int .i64 1 → permGo (List.replicate 8 false) p = false → Q .ret ⟨tm, S⟩) :
    ∀ (m i : Nat), i + m = 8 → ∀ bs : List Bool, bs.length = 8 → permGo bs (p.drop i) = permGo (List.replicate 8 false) p →
    wpL RT f29_0m 2 f29_0 ⟨[vo, .any, .any, .mptr 0 0 8, .any, .any, .mptr 1 0 8, .any, .any, .any, .any, .any, .any, .any, .any, .any, .any, .any, R8 p, .int .i64 (i : Int)] ++ List.replicate 45 .any, [.mu (nums .i64 p) true, .mu (bools bs) true]⟩ Q := by
  intro m
  induction m with
  | zero =>
    intro i hi bs hbs he
    have hi' : i = 8 := by omega
    subst hi'
    rw [List.drop_of_length_le (by omega)] at he
    rw [wpL_step]
    generalize hK' : loopQ RT f29_0m 2 f29_0 Q = KK
    simp [f29_0, List.replicate]
    subst hK'
    exact h1 _ rfl bs rfl rfl he.symm
  | succ m ih =>
    intro i hi bs hbs he
    have hi8 : i < 8 := by omega
    have hlt : (i : Int) < 8 := by omega
    have hw : IntKind.i64.wrap ((i : Int) + 1) = ((i + 1 : Nat) : Int) := wrap_i64 (by omega) (by omega)
    have hget : (nums .i64 p)[i]? = some (.int .i64 (p[i]'(by omega))) := by
      rw [List.getElem?_eq_getElem (by simpa [hp] using hi8), nums_getElem]
    rw [List.drop_eq_getElem_cons (by omega)] at he
    simp only [permGo] at he
    have hbd := hpb p[i] (List.getElem_mem _)
    have hih := ih (i + 1) (by omega)
    generalize p[i] = x at *
    rw [wpL_step]
    generalize hK' : loopQ RT f29_0m 2 f29_0 Q = KK
    by_cases c1 : x < 0
    · rw [if_neg (by omega)] at he
      simp [f29_0, List.replicate, hlt, hget, hp, c1]
      subst hK'
      exact h2 _ rfl _ rfl rfl he.symm
    · by_cases c2 : 8 ≤ x
      · rw [if_neg (by omega)] at he
        simp [f29_0, List.replicate, hlt, hget, hp, c1, c2]
        subst hK'
        exact h2 _ rfl _ rfl rfl he.symm
      · obtain ⟨q, rfl⟩ : ∃ q : Nat, x = (q : Int) := ⟨x.toNat, by omega⟩
        have hq : q < 8 := by omega
        have hql : (q : Int) < 8 := by omega
        have hgb : bs[q]? = some (bs.getD q false) := by rw [List.getD_eq_getElem?_getD, List.getElem?_eq_getElem (by omega)]; rfl
        have r1 : rd [.mu (nums .i64 p) true, .mu (bools bs) true] 1 q 8 1 = some [.bool (bs.getD q false)] := rd_bool rfl hbs hgb
        have w1 : wr [.mu (nums .i64 p) true, .mu (bools bs) true] 1 q 8 [.bool true] = some [.mu (nums .i64 p) true, .mu (bools (bs.set q true)) true] := wr_bool rfl hbs hq
        simp only [Int.toNat_natCast] at he
        have hih2 := hih (bs.set q true) (by simpa using hbs)
        generalize bs.getD q false = b at *
        cases b with
        | true =>
          rw [if_neg (by simp)] at he
          simp [f29_0, List.replicate, hlt, hget, hp, c1, c2, hql, r1]
          subst hK'
          exact h2 _ rfl _ rfl rfl he.symm
        | false =>
          rw [if_pos ⟨by omega, hql, rfl⟩] at he
          have := hih2 he
          simp [f29_0, List.replicate, hlt, hget, hp, c1, c2, hql, r1, w1, hw]
          subst hK'
          simp [head, f29_0m, mask, trunc_len]
          simpa [f29_0m, List.replicate] using this
end Go.AVM

/- order.Permute: the rows moved. -/
set_option linter.unusedVariables false
set_option linter.unusedSimpArgs false
set_option linter.unusedSectionVars false
namespace Go.AVM
/-- Numbers put at the places that a permutation says. -/
def scatter : List Int → List Int → List Int → List Int
  | k :: ks, w :: ws, r => scatter ks ws (r.set k.toNat w)
  | _, _, r => r
theorem scatter_len : ∀ (p w r : List Int), (scatter p w r).length = r.length
  | k :: ks, w :: ws, r => by rw [scatter, scatter_len]; simp
  | [], _, r => by simp [scatter]
  | _ :: _, [], r => by simp [scatter]
theorem flat_put : ∀ (F : List (List Int)) (i q : Nat) (v : Int), All8 F → (hi : i < F.length) → q < 8 → F.flatten.set (i * 8 + q) v = (F.set i (F[i].set q v)).flatten
  | r :: F, 0, q, v, h, _, hq => by
    have h8 : r.length = 8 := h r (by simp)
    simp only [List.flatten_cons, List.set_cons_zero, Nat.zero_mul, Nat.zero_add, List.getElem_cons_zero]
    rw [List.set_append_left _ _ (by omega)]
  | r :: F, i + 1, q, v, h, hi, hq => by
    have h8 : r.length = 8 := h r (by simp)
    have := flat_put F i q v (fun x hx => h x (by simp [hx])) (by simpa using hi) hq
    simp only [List.flatten_cons, List.set_cons_succ, List.getElem_cons_succ]
    rw [List.set_append_right _ _ (by omega), ← this]
    congr 2; omega
theorem all8_set {F : List (List Int)} {i : Nat} {r : List Int} (h : All8 F) (hr : r.length = 8) : All8 (F.set i r) := fun x hx => by
  rcases List.mem_or_eq_of_mem_set hx with h1 | h1
  · exact h x h1
  · rw [h1]; exact hr
set_option maxRecDepth 20000 in
theorem scat_loop {p row : List Int} (hp : p.length = 8) (hr : row.length = 8) (hpr : ∀ x ∈ p, 0 ≤ x ∧ x < 8) {F : List (List Int)} (hF : All8 F) {i : Nat} (hi : i < F.length) (hFl : F.length < 100) {Bb C : Blk} {ex : Bool} {v10 : AV} {Q : FQ}
    (h1 : ∀ (tm : List AV) (ht : tm.length = 65), tm[3] = .mptr 0 0 8 → tm[9] = .msl 2 0 F.length 8 (F.length * 8) none → tm[10] = v10 → tm[41] = .msl 2 0 F.length 8 (F.length * 8) none → tm[42] = .int .i64 (F.length : Int) → tm[43] = .int .i64 (i : Int) →
      Q (.ex 4) ⟨tm, [.mu (nums .i64 p) true, Bb, .mu (nums .i64 (F.set i (scatter p row row)).flatten) ex, C]⟩) :
    ∀ (m j : Nat), j + m = 8 → ∀ r : List Int, r.length = 8 → scatter (p.drop j) (row.drop j) r = scatter p row row →
    wpL RT f29_1m 4 f29_1 ⟨[.any, .any, .any, .mptr 0 0 8, .any, .any, .any, .any, .any, .msl 2 0 F.length 8 (F.length * 8) none, v10, .int .i64 (i : Int)] ++ List.replicate 29 .any ++ [.msl 2 0 F.length 8 (F.length * 8) none, .int .i64 (F.length : Int), .int .i64 (i : Int), .any, .any, .any, .any, R8 row, .int .i64 (j : Int)] ++ List.replicate 15 .any, [.mu (nums .i64 p) true, Bb, .mu (nums .i64 (F.set i r).flatten) ex, C]⟩ Q := by
  intro m
  induction m with
  | zero =>
    intro j hj r hrl he
    have hj' : j = 8 := by omega
    subst hj'
    rw [List.drop_of_length_le (by omega)] at he
    simp only [scatter] at he
    rw [he]
    rw [wpL_step]
    generalize hK' : loopQ RT f29_1m 4 f29_1 Q = KK
    simp [f29_1, List.replicate]
    subst hK'
    exact h1 _ rfl rfl rfl rfl rfl rfl rfl
  | succ m ih =>
    intro j hj r hrl he
    have hj8 : j < 8 := by omega
    have hlt : (j : Int) < 8 := by omega
    have hil : (i : Int) < (F.length : Int) := by omega
    have hw : IntKind.i64.wrap ((j : Int) + 1) = ((j + 1 : Nat) : Int) := wrap_i64 (by omega) (by omega)
    have hgr : (nums .i64 row)[j]? = some (.int .i64 (row[j]'(by omega))) := by
      rw [List.getElem?_eq_getElem (by simpa [hr] using hj8), nums_getElem]
    have hgp : p[j]? = some (p[j]'(by omega)) := List.getElem?_eq_getElem (by omega)
    rw [List.drop_eq_getElem_cons (l := p) (by omega), List.drop_eq_getElem_cons (l := row) (by omega)] at he
    simp only [scatter] at he
    obtain ⟨hx0, hx8⟩ := hpr p[j] (List.getElem_mem _)
    have r1 : ∀ Y, rd [.mu (nums .i64 p) true, Bb, Y, C] 0 j 8 1 = some [.int .i64 (p[j]'(by omega))] := fun Y => rd_num rfl hp hgp
    have hih := ih (j + 1) (by omega) (r.set (p[j]'(by omega)).toNat (row[j]'(by omega))) (by simpa using hrl) he
    obtain ⟨q, hq⟩ : ∃ q : Nat, p[j]'(by omega) = (q : Int) := ⟨(p[j]'(by omega)).toNat, by omega⟩
    have hfl : (F.set i r).flatten.length = F.length * 8 := by
      rw [flat_len (all8_set hF hrl), List.length_set]; omega
    have hq8 : q < 8 := by omega
    have hgs : (F.set i r)[i]'(by simpa using hi) = r := by simp
    have w1 : ∀ v, wr [.mu (nums .i64 p) true, Bb, .mu (nums .i64 (F.set i r).flatten) ex, C] 2 (i * 8 + q) (F.length * 8) [.int .i64 v] = some [.mu (nums .i64 p) true, Bb, .mu (nums .i64 (F.set i (r.set q v)).flatten) ex, C] := fun v => by
      rw [wr_num (ex := ex) rfl hfl (by omega), flat_put _ i q v (all8_set hF hrl) (by simpa using hi) hq8, hgs, List.set_set]
      rfl
    rw [hq, Int.toNat_natCast] at hih
    rw [hq] at r1
    clear he ih hgp
    generalize row[j] = x at *
    have hql : (q : Int) < 8 := by omega
    rw [wpL_step]
    generalize hK' : loopQ RT f29_1m 4 f29_1 Q = KK
    simp [f29_1, List.replicate, hlt, hgr, hr, hil, r1, hql, w1, hw]
    subst hK'
    simp [head, f29_1m, mask, trunc_len]
    simpa [f29_1m, List.replicate] using hih
end Go.AVM

/- order.Permute: what it gives. -/
set_option linter.unusedVariables false
set_option linter.unusedSimpArgs false
set_option linter.unusedSectionVars false
namespace Go.AVM
/-- A row moved by a permutation. -/
def movL (p r : List Int) : List Int := scatter p r r
def partM (p : List Int) (F : List (List Int)) (i : Nat) : List (List Int) := (F.map (movL p)).take i ++ F.drop i
theorem partM_len {p : List Int} {F : List (List Int)} {i : Nat} (h : i ≤ F.length) : (partM p F i).length = F.length := by simp [partM]; omega
theorem partM_all8 {p : List Int} {F : List (List Int)} {i : Nat} (h : All8 F) : All8 (partM p F i) := fun x hx => by
  rcases List.mem_append.1 hx with h1 | h1
  · obtain ⟨r, hr, rfl⟩ := List.mem_map.1 (List.mem_of_mem_take h1)
    unfold movL; rw [scatter_len]; exact h r hr
  · exact h x (List.mem_of_mem_drop h1)
theorem partM_get {p : List Int} {F : List (List Int)} {i : Nat} (h : i < F.length) : (partM p F i)[i]? = some F[i] := by
  unfold partM
  rw [List.getElem?_append_right (by simp; omega)]
  simp
  have : i - min i F.length = 0 := by omega
  rw [this]; simp [h]
theorem partM_set {p : List Int} {F : List (List Int)} {i : Nat} (h : i < F.length) : (partM p F i).set i (movL p F[i]) = partM p F (i + 1) := by
  unfold partM
  have e : ((F.map (movL p)).take i).length = i := by simp; omega
  rw [List.set_append_right _ _ (by omega), e, Nat.sub_self, List.drop_eq_getElem_cons h, List.set_cons_zero]
  rw [List.take_succ_eq_append_getElem (by simpa using h), List.append_assoc]
  simp
set_option maxRecDepth 20000 in
theorem move_loop {p : List Int} (hp : p.length = 8) (hpr : ∀ x ∈ p, 0 ≤ x ∧ x < 8) {F : List (List Int)} (hF : All8 F) (hFl : F.length < 100) {Bb : Blk} (hBb : Blk.lt 3 Bb = true) {ex : Bool} {Q : FQ}
    (h1 : ∀ (tm : List AV) (ht : tm.length = 65), tm[9] = .msl 2 0 F.length 8 (F.length * 8) none → tm[10] = .int .i64 0 →
      Q (.ex 2) ⟨tm, [.mu (nums .i64 p) true, Bb, .mu (nums .i64 (F.map (movL p)).flatten) ex]⟩) :
    ∀ (m i : Nat), i + m = F.length →
    wpL RT f29_2m 3 f29_2 ⟨[.any, .any, .any, .mptr 0 0 8, .any, .any, .any, .any, .any, .msl 2 0 F.length 8 (F.length * 8) none, .int .i64 0] ++ List.replicate 30 .any ++ [.msl 2 0 F.length 8 (F.length * 8) none, .int .i64 (F.length : Int), .int .i64 (i : Int)] ++ List.replicate 21 .any, [.mu (nums .i64 p) true, Bb, .mu (nums .i64 (partM p F i).flatten) ex]⟩ Q := by
  intro m
  induction m with
  | zero =>
    intro i hi
    have hi' : i = F.length := by omega
    subst hi'
    have e : partM p F F.length = F.map (movL p) := by
      unfold partM
      rw [List.take_of_length_le (by simp), List.drop_of_length_le (Nat.le_refl _), List.append_nil]
    rw [e]
    rw [wpL_step]
    generalize hK' : loopQ RT f29_2m 3 f29_2 Q = KK
    simp [f29_2, List.replicate]
    subst hK'
    exact h1 _ rfl rfl rfl
  | succ m ih =>
    intro i hi
    have hi1 : i < F.length := by omega
    have hil : (i : Int) < (F.length : Int) := by omega
    have hw : IntKind.i64.wrap ((i : Int) + 1) = ((i + 1 : Nat) : Int) := wrap_i64 (by omega) (by omega)
    have hr8 : F[i].length = 8 := hF _ (List.getElem_mem _)
    have hpl := partM_len (p := p) (F := F) (i := i) (by omega)
    have rd1 : rd [.mu (nums .i64 p) true, Bb, .mu (nums .i64 (partM p F i).flatten) ex] 2 (i * 8) (F.length * 8) 8 = some (nums .i64 F[i]) := by
      rw [Nat.mul_comm F.length 8]
      exact rd_row (ex := ex) rfl (partM_all8 hF) hpl (partM_get hi1)
    have hip : i < (partM p F i).length := by omega
    have hip2 : (partM p F i).length < 100 := by omega
    have hps := partM_set (p := p) hi1
    have hih := ih (i + 1) (by omega)
    have hset0 : (partM p F i).set i F[i] = partM p F i := by
      apply List.ext_getElem?
      intro j
      by_cases hj : j = i
      · subst hj; rw [List.getElem?_set_self (by omega), partM_get hi1]
      · rw [List.getElem?_set_ne (by omega)]
    generalize F[i] = row at *
    have sc := fun (Q : FQ) h => scat_loop (Q := Q) (Bb := Bb) (C := .mu (nums .i64 row) true) (ex := ex) (v10 := .int .i64 0) hp hr8 hpr (partM_all8 (p := p) (i := i) hF) (i := i) hip hip2 h 8 0 rfl row hr8 rfl
    rw [hset0, hpl] at sc
    unfold movL at hps
    rw [hps] at sc
    simp only [List.replicate, List.cons_append, List.nil_append, Int.natCast_zero] at sc
    have hrs := row_splice (z := List.replicate 8 (.int .i64 0)) hr8 (by simp)
    simp only [List.replicate] at hrs
    have ht8 : (nums .i64 row).take 8 = nums .i64 row := List.take_of_length_le (by simp [hr8])
    clear ih hset0 hps hip hip2
    rw [wpL_step]
    generalize hK' : loopQ RT f29_2m 3 f29_2 Q = KK
    have hrd3 : ∀ A B C D, rd [A, B, C, Blk.mu (nums .i64 row) D] 3 0 8 8 = some (nums .i64 row) := fun A B C D => by
      rw [rd_mu (cs := nums .i64 row) (ex := D) rfl (by simp [hr8]) (by omega), List.drop_zero, ht8]
    have hwr3 : ∀ A B C D, wr [A, B, C, Blk.mu [.int .i64 0, .int .i64 0, .int .i64 0, .int .i64 0, .int .i64 0, .int .i64 0, .int .i64 0, .int .i64 0] D] 3 0 8 (nums .i64 row) = some [A, B, C, .mu (nums .i64 row) D] := fun A B C D => by
      rw [wr_mu (S := [A, B, C, .mu [.int .i64 0, .int .i64 0, .int .i64 0, .int .i64 0, .int .i64 0, .int .i64 0, .int .i64 0, .int .i64 0] D]) (b := 3) (vl := 8) (off := 0) (cs := [.int .i64 0, .int .i64 0, .int .i64 0, .int .i64 0, .int .i64 0, .int .i64 0, .int .i64 0, .int .i64 0]) (ex := D) rfl rfl (by simp [hr8]), hrs]; rfl
    simp [f29_2, List.replicate, hil, rd1, hr8, hrd3, hwr3]
    simp [head, f29_1m, mask, trunc_len]
    refine sc _ ?_
    intro tm ht t3 t9 t10 t41 t42 t43
    simp [ht, t3, t9, t10, t41, t42, t43, hw]
    subst hK'
    simp only [loopQ_nrm, head]
    rw [mask_of (n := 65) (by simp [ht])]
    simp [f29_2m, ht, t3, t9, t10, t41, t42, t43, List.range_succ]
    have htr : ∀ vs, vs.all (lt1 3) = true → trunc 3 vs [.mu (nums .i64 p) true, Bb, .mu (nums .i64 (partM p F (i + 1)).flatten) ex, .mu (nums .i64 row) true] = [.mu (nums .i64 p) true, Bb, .mu (nums .i64 (partM p F (i + 1)).flatten) ex] := fun vs h => by
      unfold trunc
      have n1 : ∀ xs : List Int, Blk.lt 3 (.mu (nums .i64 xs) true) = true := fun xs => by simp [Blk.lt, nums, lt1, ltc]
      have n2 : ∀ xs : List Int, Blk.lt 3 (.mu (nums .i64 xs) ex) = true := fun xs => by simp [Blk.lt, nums, lt1, ltc]
      rw [h]
      simp [n1, n2, hBb]
    rw [htr _ (by simp [lt1, ltc])]
    simpa [f29_2m, List.replicate] using hih
end Go.AVM

/- order.Permute, whole. -/
set_option linter.unusedVariables false
set_option linter.unusedSimpArgs false
set_option linter.unusedSectionVars false
namespace Go.AVM
theorem nums_fz (S : Store) (f : Nat) : ∀ xs : List Int, (nums .i64 xs).mapM (fzc S f) = some (nums .i64 xs)
  | [] => rfl
  | x :: xs => by
    have : nums .i64 (x :: xs) = .int .i64 x :: nums .i64 xs := rfl
    have h1 : fzc S f (.int .i64 x) = some (.int .i64 x) := by cases f <;> rfl
    rw [this, List.mapM_cons, h1, nums_fz S f xs]; rfl
theorem rowsOf {S : Store} {b n f : Nat} {F : List (List Int)} {ex : Bool} (hg : S[b]? = some (.mu (nums .i64 F.flatten) ex)) (h8 : All8 F) (hn : F.length = n) : fzc S (f + 1) (.msl b 0 n 8 (8 * n) none) = some (OR F) := by
  have hl := flat_len h8
  rw [fzc, rd_mu hg (by simp [hl, hn]) (by omega), List.drop_zero, List.take_of_length_le (by simp [hl, hn]; omega)]
  simp only [Option.bind_some, nums_fz]
  rw [chunk_cut n _ (by rw [hl, hn])]
  congr 3
  have : ∀ (n : Nat) (F : List (List Int)), All8 F → F.length = n → cut8 n F.flatten = F := by
    intro n
    induction n with
    | zero => intro F _ h; rw [List.length_eq_zero_iff.1 h]; rfl
    | succ n ih =>
      intro F h8 h
      match F, h with
      | r :: F, h =>
        have h8r : r.length = 8 := h8 r (by simp)
        rw [cut8, List.flatten_cons, List.take_left' h8r, List.drop_left' h8r, ih F (fun x hx => h8 x (by simp [hx])) (by simpa using h)]
  exact this n F h8 hn
theorem own_full {o : List (List Int)} (ho : ∀ w ∈ o, w.length = 8) (hb : ∀ w ∈ o, Bd 1000000 w) (hol : o.length < 1000000) (hv : validB o = true) (hl : (fullL o).length ≤ 24) (hne : fullL o ≠ []) :
    callOwn RT 0 28 [OR o] = some (.tup [.osl (nums .i64 (fullL o).flatten) (fullL o).length 8 false, .int .i64 0]) := by
  obtain ⟨r, S, hr, hF⟩ := run_full ho (fun _ => hb) hol
  unfold FullR at hF
  rw [if_pos hv, if_pos hl] at hF
  obtain ⟨v, rfl, h8, ⟨_, h0⟩ | ⟨b, _, rfl, hg⟩⟩ := hF
  · exact absurd h0 hne
  · refine callOwn_of ⟨_, _, hr, ?_⟩
    have hfl := flat_len h8
    have ht : (nums .i64 (fullL o).flatten).take ((fullL o).length * 8) = nums .i64 (fullL o).flatten := List.take_of_length_le (by simp [hfl]; omega)
    have hz := nums_fz (S.set b .dead) 6 (fullL o).flatten
    have hlen : (nums .i64 (fullL o).flatten).length = 8 * (fullL o).length := by simp [hfl]
    simp only [ownRes, List.getElem?_cons_zero, takeOwn, hg]
    rw [chk_pos ⟨trivial, hlen, by omega⟩, ht]
    simp only [fzDepth, hz, Option.bind_some, Bool.false_and, List.eraseIdx_cons_zero]
    rfl
theorem pure_full {o : List (List Int)} (ho : ∀ w ∈ o, w.length = 8) (hb : ∀ w ∈ o, Bd 1000000 w) (hol : o.length < 1000000) (hv : validB o = true) (hl : (fullL o).length ≤ 24) (hne : fullL o ≠ []) :
    callPure RT 28 [OR o] = some (.tup [OR (fullL o), .int .i64 0]) := by
  obtain ⟨r, S, hr, hF⟩ := run_full ho (fun _ => hb) hol
  unfold FullR at hF
  rw [if_pos hv, if_pos hl] at hF
  obtain ⟨v, rfl, h8, ⟨_, h0⟩ | ⟨b, _, rfl, hg⟩⟩ := hF
  · exact absurd h0 hne
  · refine callPure_of ⟨_, _, hr, ?_⟩
    have : fz1 S (.msl b 0 (fullL o).length 8 (8 * (fullL o).length) none) = some (OR (fullL o)) := rowsOf hg h8 rfl
    simp only [fzv, List.mapM_cons, this]
    rfl
theorem land_own (S : Store) (cs : List AV) (n sz : Nat) (ex : Bool) (k : IntKind) (e : Int) : land S (.tup [.osl cs n sz ex, .int k e]) = (.tup [.msl S.length 0 n sz cs.length none, .int k e], S ++ [.mu cs ex]) := rfl
theorem after_OR (st : Bool) (S : Store) (o : List (List Int)) (r : AV) : after st S [OR o] r = some S := after_nr rfl
set_option maxRecDepth 20000 in
theorem run_permute {o : List (List Int)} {p : List Int} (ho : ∀ w ∈ o, w.length = 8) (hb : ∀ w ∈ o, Bd 1000000 w) (hol : o.length < 1000000) (hv : validB o = true) (hl : (fullL o).length ≤ 24) (hne : fullL o ≠ []) (h8 : All8 (fullL o))
    (hp : p.length = 8) (hpr : ∀ x ∈ p, 0 ≤ x ∧ x < 8) (hpg : permGo (List.replicate 8 false) p = true) :
    callPure RT 29 [OR o, R8 p] = some (.tup [OR ((fullL o).map (movL p)), .int .i64 0]) := by
  have hvv := run_valid ho hol
  rw [hv] at hvv
  have hown := own_full ho hb hol hv hl hne
  have pl := fun (Q : FQ) h1 h2 => perm_loop (Q := Q) (vo := OR o) hp (fun x hx => by have := hpr x hx; omega) h1 h2 8 0 rfl (List.replicate 8 false) (by simp) rfl
  have ml := fun (Q : FQ) (Bb : Blk) hBb h => move_loop (Q := Q) (Bb := Bb) hp hpr h8 (by omega) hBb (ex := false) h (fullL o).length 0 (by omega)
  have hp0 : partM p (fullL o) 0 = fullL o := by simp [partM]
  simp only [hp0] at ml
  have ht8 : (nums .i64 p).take 8 = nums .i64 p := List.take_of_length_le (by simp [hp])
  have hfl := flat_len h8
  have h8m : All8 ((fullL o).map (movL p)) := fun x hx => by
    obtain ⟨r, hr, rfl⟩ := List.mem_map.1 hx
    unfold movL; rw [scatter_len]; exact h8 r hr
  simp only [List.replicate, List.cons_append, List.nil_append, Int.natCast_zero, bools, List.map_cons, List.map_nil] at pl ml
  refine callPure_of (wpF_of tab_29 rfl ?_)
  simp [f29, enter, hvv, hp, rd, chk, ht8]
  simp [head, f29_0m, mask, trunc_len]
  refine pl _ ?_ ?_
  · intro tm ht bs t0 t3 _
    have hfl2 : (fullL o).flatten.length = (fullL o).length * 8 := by omega
    have hBb : Blk.lt 3 (.mu (List.map AV.bool bs) true) = true := by simp [Blk.lt, lt1, ltc]
    have rf := rowsOf (S := [Blk.mu (nums .i64 p) true, .mu (List.map AV.bool bs) true, .mu (nums .i64 ((fullL o).map (movL p)).flatten) false]) (b := 2) (n := (fullL o).length) (f := 5) rfl h8m (by simp)
    rw [Nat.mul_comm] at rf
    have ml2 := fun (Q : FQ) => ml Q _ hBb
    simp [ht, t0, t3, hown, land_own, after_OR, hfl2]
    simp only [head]
    rw [mask_of (n := 65) (by simp [ht])]
    simp [f29_2m, ht, t3, List.range_succ, trunc_len]
    refine ml2 _ ?_
    intro tm2 ht2 t9 t10
    simp [ht2, t9, t10]
    rw [rf]; rfl
  · intro tm ht S t4 t5 hf
    have hf' : permGo (List.replicate 8 false) p = false := hf
    rw [hpg] at hf'; cases hf'
end Go.AVM

/- Orders and monomials moved: the reference's small functions. -/
set_option linter.unusedVariables false
set_option linter.unusedSimpArgs false
set_option linter.unusedSectionVars false
namespace Go.AVM
theorem same_loop {s : List (List Int)} (hs : All8 s) (hsl : s.length < 1000000) {Q : FQ}
    (h1 : ∀ (tm : List AV) (hl : tm.length = 26), Q (.ex 0) ⟨tm, []⟩) :
    ∀ (m i : Nat), i + m = s.length →
    wpL RT f32_0m 0 f32_0 ⟨[OR s, OR s, .any, .any, .any, .int .i64 (i : Int)] ++ List.replicate 20 .any, []⟩ Q := by
  intro m
  induction m with
  | zero =>
    intro i hi
    have hi' : i = s.length := by omega
    subst hi'
    rw [wpL_step]
    generalize hK : loopQ RT f32_0m 0 f32_0 Q = K
    simp [f32_0, List.replicate]
    subst hK
    exact h1 _ rfl
  | succ m ih =>
    intro i hi
    have hi1 : i < s.length := by omega
    have hget : s[i]? = some s[i] := List.getElem?_eq_getElem hi1
    have hr8 := hs s[i] (List.getElem_mem hi1)
    generalize s[i] = r at *
    have hlt : (i : Int) < (s.length : Int) := by omega
    have hw : IntKind.i64.wrap ((i : Int) + 1) = ((i + 1 : Nat) : Int) := wrap_i64 (by omega) (by omega)
    have htr : (nums .i64 r).take 8 = nums .i64 r := List.take_of_length_le (by simp [hr8])
    have he := eqcs_nums .i64 (a := r) (b := r) rfl
    simp only [decide_true] at he
    have hih := ih (i + 1) (by omega)
    rw [wpL_step]
    generalize hK : loopQ RT f32_0m 0 f32_0 Q = K
    simp [f32_0, List.replicate, hlt, hget, hr8, htr, chk, he, hw]
    subst hK
    simp [head, f32_0m, mask, trunc_len]
    simpa [f32_0m, List.replicate] using hih
theorem run_same {s : List (List Int)} (hs : All8 s) (hsl : s.length < 1000000) : callPure RT 32 [OR s, OR s] = some (.bool true) := by
  refine callPure_of (wpF_of tab_32 rfl ?_)
  simp [f32, enter]
  simp [head, f32_0m, mask, trunc_len]
  refine same_loop hs hsl ?_ s.length 0 (by simp)
  intro tm hl
  simp [hl]
set_option maxRecDepth 20000 in
theorem moved_loop {a p : List Int} (ha : a.length = 8) (hp : p.length = 8) (hpr : ∀ x ∈ p, 0 ≤ x ∧ x < 8) {B : Blk} {Q : FQ}
    (h1 : ∀ (tm : List AV) (ht : tm.length = 20), tm[4] = .mptr 2 0 8 → tm[5] = .mptr 3 0 8 →
      Q (.ex 0) ⟨tm, [.mu (nums .i64 a) true, .mu (nums .i64 p) true, B, .mu (nums .i64 (scatter p a (List.replicate 8 0))) true]⟩) :
    ∀ (m j : Nat), j + m = 8 → ∀ r : List Int, r.length = 8 → scatter (p.drop j) (a.drop j) r = scatter p a (List.replicate 8 0) →
    wpL RT f31_0m 4 f31_0 ⟨[.any, .any, .mptr 0 0 8, .mptr 1 0 8, .mptr 2 0 8, .mptr 3 0 8, .int .i64 (j : Int)] ++ List.replicate 13 .any, [.mu (nums .i64 a) true, .mu (nums .i64 p) true, B, .mu (nums .i64 r) true]⟩ Q := by
  intro m
  induction m with
  | zero =>
    intro j hj r hrl he
    have hj' : j = 8 := by omega
    subst hj'
    rw [List.drop_of_length_le (by omega)] at he
    simp only [scatter] at he
    rw [he]
    rw [wpL_step]
    generalize hK' : loopQ RT f31_0m 4 f31_0 Q = KK
    simp [f31_0, List.replicate]
    subst hK'
    exact h1 _ rfl rfl rfl
  | succ m ih =>
    intro j hj r hrl he
    have hj8 : j < 8 := by omega
    have hlt : (j : Int) < 8 := by omega
    have hw : IntKind.i64.wrap ((j : Int) + 1) = ((j + 1 : Nat) : Int) := wrap_i64 (by omega) (by omega)
    have hga : a[j]? = some (a[j]'(by omega)) := List.getElem?_eq_getElem (by omega)
    have hgp : p[j]? = some (p[j]'(by omega)) := List.getElem?_eq_getElem (by omega)
    rw [List.drop_eq_getElem_cons (l := p) (by omega), List.drop_eq_getElem_cons (l := a) (by omega)] at he
    simp only [scatter] at he
    obtain ⟨hx0, hx8⟩ := hpr p[j] (List.getElem_mem _)
    have r0 : ∀ X Y Z, rd [.mu (nums .i64 a) true, X, Y, Z] 0 j 8 1 = some [.int .i64 (a[j]'(by omega))] := fun X Y Z => rd_num rfl ha hga
    have r1 : ∀ X Y Z, rd [X, .mu (nums .i64 p) true, Y, Z] 1 j 8 1 = some [.int .i64 (p[j]'(by omega))] := fun X Y Z => rd_num rfl hp hgp
    have hih := ih (j + 1) (by omega) (r.set (p[j]'(by omega)).toNat (a[j]'(by omega))) (by simpa using hrl) he
    obtain ⟨q, hq⟩ : ∃ q : Nat, p[j]'(by omega) = (q : Int) := ⟨(p[j]'(by omega)).toNat, by omega⟩
    have hq8 : q < 8 := by omega
    have w1 : ∀ v X Y Z, wr [X, Y, Z, .mu (nums .i64 r) true] 3 q 8 [.int .i64 v] = some [X, Y, Z, .mu (nums .i64 (r.set q v)) true] := fun v X Y Z => by
      rw [wr_num (ex := true) rfl hrl hq8]; rfl
    rw [hq, Int.toNat_natCast] at hih
    rw [hq] at r1
    clear he ih hgp hga
    generalize a[j] = x at *
    have hql : (q : Int) < 8 := by omega
    rw [wpL_step]
    generalize hK' : loopQ RT f31_0m 4 f31_0 Q = KK
    simp [f31_0, List.replicate, hlt, r0, r1, hql, w1, hw]
    subst hK'
    simp [head, f31_0m, mask, trunc_len]
    simpa [f31_0m, List.replicate] using hih
/-- A monomial moved. -/
def movedL (p a : List Int) : List Int := scatter p a (List.replicate 8 0)
theorem run_moved {a p : List Int} (ha : a.length = 8) (hp : p.length = 8) (hpr : ∀ x ∈ p, 0 ≤ x ∧ x < 8) : callPure RT 31 [R8 a, R8 p] = some (R8 (movedL p a)) := by
  have lp := fun (Q : FQ) (B : Blk) h => moved_loop (Q := Q) (B := B) ha hp hpr h 8 0 rfl (List.replicate 8 0) (by simp) rfl
  have hml : (movedL p a).length = 8 := by unfold movedL; rw [scatter_len]; simp
  have htm : (nums .i64 (movedL p a)).take 8 = nums .i64 (movedL p a) := List.take_of_length_le (by simp [hml])
  have hz0 : nums .i64 [0, 0, 0, 0, 0, 0, 0, 0] = [.int .i64 0, .int .i64 0, .int .i64 0, .int .i64 0, .int .i64 0, .int .i64 0, .int .i64 0, .int .i64 0] := rfl
  unfold movedL at *
  generalize scatter p a (List.replicate 8 0) = R at *
  simp only [List.replicate, List.cons_append, List.nil_append, Int.natCast_zero, hz0] at lp
  refine callPure_of (wpF_of tab_31 rfl ?_)
  simp [f31, enter, ha, hp, wr, chk, splice, fillA]
  simp [head, f31_0m, mask, trunc_len]
  refine lp _ _ ?_
  intro tm ht t4 t5
  simp [ht, t4, t5, rd, wr, chk, splice, hml]
  rw [htm, htm, nums_fz]; rfl
end Go.AVM

/- Comparing by the rows alone. -/
set_option linter.unusedVariables false
set_option linter.unusedSimpArgs false
set_option linter.unusedSectionVars false
namespace Go.AVM
def rowsC : List (List Int) → List Int → List Int → Int
  | [], _, _ => 0
  | w :: o, a, b => if dotL w a b < 0 then -1 else if 0 < dotL w a b then 1 else rowsC o a b
set_option maxRecDepth 20000 in
set_option maxHeartbeats 2000000 in
theorem rows_inner {o : List (List Int)} {i : Nat} {w a b : List Int} (hget : o[i]? = some w) (hol : o.length < 1000000) (hw : w.length = 8) (ha : a.length = 8) (hb : b.length = 8) (hwB : Bd 1000 w) (haB : Bd 200000 a) (hbB : Bd 200000 b) {Q : FQ}
    (hQ : ∀ (tm : List AV) (hl : tm.length = 40), tm[0] = OR o → tm[4] = .mptr 0 0 8 → tm[5] = .mptr 1 0 8 → tm[7] = .int .i64 (i : Int) → tm[8] = .int .i64 (dotL w a b) → Q (.ex 2) ⟨tm, [.mu (nums .i64 a) true, .mu (nums .i64 b) true]⟩) :
    wpL RT f30_0m 2 f30_0 ⟨[OR o, .any, .any, .any, .mptr 0 0 8, .mptr 1 0 8, .any, .int .i64 (i : Int), .int .i64 0, .int .i64 0] ++ List.replicate 30 .any, [.mu (nums .i64 a) true, .mu (nums .i64 b) true]⟩ Q := by
  have hi := (List.getElem?_eq_some_iff.1 hget).1
  have hlt : (i : Int) < (o.length : Int) := by omega
  obtain ⟨a0, a1, a2, a3, a4, a5, a6, a7, rfl⟩ := len8 ha
  obtain ⟨b0, b1, b2, b3, b4', b5', b6, b7, rfl⟩ := len8 hb
  obtain ⟨w0, w1, w2, w3, w4, w5, w6, w7, rfl⟩ := len8 hw
  simp [Bd] at hwB haB hbB
  simp [wpL_step, head, f30_0m, f30_0, mask, rd, chk, List.replicate, trunc_len, hget, hlt]
  refine hQ _ rfl rfl rfl rfl rfl ?_
  have d0 := mul_bd (D := 400000) hwB.1 (show -400000 ≤ a0 - b0 ∧ a0 - b0 ≤ 400000 by omega)
  have d1 := mul_bd (D := 400000) hwB.2.1 (show -400000 ≤ a1 - b1 ∧ a1 - b1 ≤ 400000 by omega)
  have d2 := mul_bd (D := 400000) hwB.2.2.1 (show -400000 ≤ a2 - b2 ∧ a2 - b2 ≤ 400000 by omega)
  have d3 := mul_bd (D := 400000) hwB.2.2.2.1 (show -400000 ≤ a3 - b3 ∧ a3 - b3 ≤ 400000 by omega)
  have d4 := mul_bd (D := 400000) hwB.2.2.2.2.1 (show -400000 ≤ a4 - b4' ∧ a4 - b4' ≤ 400000 by omega)
  have d5 := mul_bd (D := 400000) hwB.2.2.2.2.2.1 (show -400000 ≤ a5 - b5' ∧ a5 - b5' ≤ 400000 by omega)
  have d6 := mul_bd (D := 400000) hwB.2.2.2.2.2.2.1 (show -400000 ≤ a6 - b6 ∧ a6 - b6 ≤ 400000 by omega)
  have d7 := mul_bd (D := 400000) hwB.2.2.2.2.2.2.2 (show -400000 ≤ a7 - b7 ∧ a7 - b7 ≤ 400000 by omega)
  simp
  simp (disch := omega) only [wrap_i64, dotL]
  omega
set_option maxRecDepth 20000 in
theorem rows_outer {o : List (List Int)} {a b : List Int} (ho : Rows o) (hol : o.length < 1000000) (ha : a.length = 8) (hb : b.length = 8) (haB : Bd 200000 a) (hbB : Bd 200000 b) {Q : FQ}
    (h1 : ∀ (tm : List AV) (hl : tm.length = 40) (S : Store), rowsC o a b = 0 → Q (.ex 0) ⟨tm, S⟩)
    (h2 : ∀ (tm : List AV) (hl : tm.length = 40) (S : Store), tm[6] = .int .i64 (rowsC o a b) → Q .ret ⟨tm, S⟩) :
    ∀ (m i : Nat), i + m = o.length → rowsC (o.drop i) a b = rowsC o a b →
    wpL RT f30_1m 2 f30_1 ⟨[OR o, .any, .any, .any, .mptr 0 0 8, .mptr 1 0 8, .any, .int .i64 (i : Int)] ++ List.replicate 32 .any, [.mu (nums .i64 a) true, .mu (nums .i64 b) true]⟩ Q := by
  intro m
  induction m with
  | zero =>
    intro i hi he
    have hi' : i = o.length := by omega
    subst hi'
    rw [List.drop_of_length_le (Nat.le_refl _)] at he
    rw [wpL_step]
    generalize hK' : loopQ RT f30_1m 2 f30_1 Q = KK
    simp [f30_1, List.replicate]
    subst hK'
    exact h1 _ rfl _ he.symm
  | succ m ih =>
    intro i hi he
    have hi1 : i < o.length := by omega
    have hlt : (i : Int) < (o.length : Int) := by omega
    have hw : IntKind.i64.wrap ((i : Int) + 1) = ((i + 1 : Nat) : Int) := wrap_i64 (by omega) (by omega)
    have hget : o[i]? = some o[i] := List.getElem?_eq_getElem hi1
    obtain ⟨hwl, hwB⟩ := ho o[i] (List.getElem_mem _)
    rw [List.drop_eq_getElem_cons hi1] at he
    simp only [rowsC] at he
    have hih := ih (i + 1) (by omega)
    generalize o[i] = w at *
    have inn := fun (Q : FQ) h => rows_inner (Q := Q) hget hol hwl ha hb hwB haB hbB h
    simp only [List.replicate, List.cons_append, List.nil_append] at inn
    rw [wpL_step]
    generalize hK' : loopQ RT f30_1m 2 f30_1 Q = KK
    simp [f30_1, List.replicate, hlt]
    simp [head, f30_0m, mask, trunc_len]
    refine inn _ ?_
    intro tm hl t0 t4 t5 t7 t8
    by_cases c1 : dotL w a b < 0
    · rw [if_pos c1] at he
      simp [hl, t0, t4, t5, t7, t8, c1]
      subst hK'
      exact h2 _ (by simp [hl]) _ (by simp [hl, he])
    · rw [if_neg c1] at he
      by_cases c2 : 0 < dotL w a b
      · rw [if_pos c2] at he
        simp [hl, t0, t4, t5, t7, t8, c1, c2]
        subst hK'
        exact h2 _ (by simp [hl]) _ (by simp [hl, he])
      · rw [if_neg c2] at he
        simp [hl, t0, t4, t5, t7, t8, c1, c2, hw]
        subst hK'
        simp only [loopQ_nrm, head]
        rw [mask_of (n := 40) (by simp [hl])]
        simp [f30_1m, hl, t0, t4, t5, t7, List.range_succ, trunc_len]
        simpa [f30_1m, List.replicate] using hih he
theorem run_rows {o : List (List Int)} {a b : List Int} (ho : Rows o) (hol : o.length < 1000000) (ha : a.length = 8) (hb : b.length = 8) (haB : Bd 200000 a) (hbB : Bd 200000 b) :
    callPure RT 30 [OR o, R8 a, R8 b] = some (.int .i64 (rowsC o a b)) := by
  refine callPure_of (wpF_of tab_30 rfl ?_)
  simp [f30, enter, ha, hb]
  simp [head, f30_1m, mask, trunc_len]
  refine rows_outer ho hol ha hb haB hbB ?_ ?_ o.length 0 (by simp) rfl
  · intro tm hl S h
    simp [hl, h]
  · intro tm hl S h
    simp [hl, h]
end Go.AVM

/- Shuffle: a permutation of a number. -/
set_option linter.unusedVariables false
set_option linter.unusedSimpArgs false
set_option linter.unusedSectionVars false
namespace Go.AVM
/-- A slice of numbers, frozen or in a block of its own. -/
def IntSl (S : Store) (v : AV) (L : List Int) : Prop :=
  (∃ t, v = .sl (nums .i64 L) 1 t) ∨ ∃ b, v = .msl b 0 L.length 1 L.length none ∧ S[b]? = some (.mu (nums .i64 L) false)
theorem nums_flatC (L : List Int) : (nums .i64 L).flatMap AV.cells = nums .i64 L := by
  induction L with
  | nil => rfl
  | cons x L ih =>
    have : nums .i64 (x :: L) = .int .i64 x :: nums .i64 L := rfl
    rw [this, List.flatMap_cons, ih]; rfl
/-- The front part of a slice of numbers, copied. -/
theorem IntSl.front {S : Store} {v : AV} {L : List Int} (h : IntSl S v L) (hL : L.length < 1000) {i : Nat} (hi : i ≤ L.length) :
    ∃ s v' S', sliceA 1 false true false v [.int .i64 (i : Int)] = some s ∧ appA 1 8 S (.sl [] 1 true) s = some (v', S') ∧
      ((i = 0 ∧ v' = .sl [] 1 true ∧ S' = S) ∨ (0 < i ∧ v' = .msl S.length 0 i 1 i none ∧ S' = S ++ [.mu (nums .i64 (L.take i)) false])) := by
  rcases h with ⟨t, rfl⟩ | ⟨b, rfl, hb⟩
  · refine ⟨.sl (nums .i64 (L.take i)) 1 (t && i == L.length), ?_⟩
    have hs : sliceA 1 false true false (.sl (nums .i64 L) 1 t) [.int .i64 (i : Int)] = some (.sl (nums .i64 (L.take i)) 1 (t && i == L.length)) := by
      have hbd : bound (nums .i64 L).length (.int .i64 (i : Int)) = some i := bound_ok (by simpa using hi)
      simp only [sliceA, bounds, hbd, Option.bind_some]
      rw [chk_pos trivial]
      simp [tightAt, nums_take]
    have hh : held S 1 (.sl (nums .i64 (L.take i)) 1 (t && i == L.length)) = some (i, nums .i64 (L.take i)) := by
      simp only [held]
      rw [chk_pos trivial, nums_flatC]; simp; omega
    by_cases h0 : i = 0
    · subst h0
      refine ⟨.sl [] 1 true, S, hs, ?_, .inl ⟨rfl, rfl, rfl⟩⟩
      unfold appA; rw [hh]
      simp only [Option.bind_some]
      rw [chk_pos trivial, if_pos trivial]
    · refine ⟨.msl S.length 0 i 1 i none, S ++ [.mu (nums .i64 (L.take i)) false], hs, ?_, .inr ⟨by omega, rfl, rfl⟩⟩
      unfold appA; rw [hh]
      simp only [Option.bind_some]
      rw [chk_pos trivial, if_neg h0, chk_pos ⟨trivial, by unfold room; simp; omega⟩]
      simp
  · refine ⟨.msl b 0 i 1 L.length none, ?_⟩
    have hs := slc_hi (bl := b) (n := L.length) (vl := L.length) (Nat.le_refl _) hi
    have hh : held S 1 (.msl b 0 i 1 L.length none) = some (i, nums .i64 (L.take i)) := by
      simp only [held]
      rw [chk_pos trivial, rd_mu hb (by simp) (by omega)]; simp [nums_take]
    by_cases h0 : i = 0
    · subst h0
      refine ⟨.sl [] 1 true, S, hs, ?_, .inl ⟨rfl, rfl, rfl⟩⟩
      unfold appA; rw [hh]
      simp only [Option.bind_some]
      rw [chk_pos trivial, if_pos trivial]
    · refine ⟨.msl S.length 0 i 1 i none, S ++ [.mu (nums .i64 (L.take i)) false], hs, ?_, .inr ⟨by omega, rfl, rfl⟩⟩
      unfold appA; rw [hh]
      simp only [Option.bind_some]
      rw [chk_pos trivial, if_neg h0, chk_pos ⟨trivial, by unfold room; simp; omega⟩]
      simp
theorem get_set_last {S : Store} {x y : Blk} : (S ++ [x]).set S.length y = S ++ [y] := by
  rw [List.set_append_right _ _ (Nat.le_refl _)]; simp
/-- A slice without one of its elements, copied. -/
theorem IntSl.cut {S : Store} {v : AV} {L : List Int} (h : IntSl S v L) (hL : L.length < 1000) {i : Nat} (hi : i < L.length) :
    ∃ s1 v1 S1 s2 v2 S2, sliceA 1 false true false v [.int .i64 (i : Int)] = some s1 ∧ appA 1 8 S (.sl [] 1 true) s1 = some (v1, S1) ∧
      sliceA 1 true false false v [.int .i64 ((i + 1 : Nat) : Int)] = some s2 ∧ appA 1 8 S1 v1 s2 = some (v2, S2) ∧ IntSl S2 v2 (L.eraseIdx i) ∧ (∀ b, b < S.length → S2[b]? = S[b]?) ∧ (nrc v2 = true ∨ lt1 S.length v2 = false) := by
  obtain ⟨s1, v1, S1, h1, h2, h3⟩ := h.front hL (Nat.le_of_lt hi)
  have he : L.eraseIdx i = L.take i ++ L.drop (i + 1) := List.eraseIdx_eq_take_drop_succ ..
  -- what the second slice holds
  obtain ⟨s2, h4, h5⟩ : ∃ s2, sliceA 1 true false false v [.int .i64 ((i + 1 : Nat) : Int)] = some s2 ∧ ∀ S', (∀ b, b < S.length → S'[b]? = S[b]?) → held S' 1 s2 = some (L.length - (i + 1), nums .i64 (L.drop (i + 1))) := by
    rcases h with ⟨t, rfl⟩ | ⟨b, rfl, hb⟩
    · refine ⟨.sl (nums .i64 (L.drop (i + 1))) 1 t, ?_, fun S' _ => ?_⟩
      · have hbd : bound (nums .i64 L).length (.int .i64 ((i + 1 : Nat) : Int)) = some (i + 1) := bound_ok (by simp; omega)
        simp only [sliceA, bounds, hbd, Option.bind_some]
        rw [chk_pos trivial, nums_drop, nums_take]
        simp [tightAt]
        rw [List.take_of_length_le (by simp)]
      · simp only [held]
        rw [chk_pos trivial, nums_flatC]; simp
    · refine ⟨.msl b (i + 1) (L.length - (i + 1)) 1 L.length none, slc_lo (Nat.le_refl _) (by omega), fun S' hk => ?_⟩
      have hb' : S'[b]? = some (.mu (nums .i64 L) false) := by rw [hk b (lt_of_get hb)]; exact hb
      simp only [held]
      rw [chk_pos trivial, rd_mu hb' (by simp) (by omega), nums_drop, nums_take, List.take_of_length_le (by simp)]
      rfl
  rcases h3 with ⟨rfl, rfl, rfl⟩ | ⟨h0, rfl, rfl⟩
  · have hh := h5 S1 (fun _ _ => rfl)
    by_cases hm : L.length - (0 + 1) = 0
    · have hd : L.drop 1 = [] := List.drop_of_length_le (by omega)
      refine ⟨s1, .sl [] 1 true, S1, s2, .sl [] 1 true, S1, h1, h2, h4, ?_, .inl ⟨true, ?_⟩, fun _ _ => rfl, .inl rfl⟩
      · unfold appA; rw [hh]
        simp only [Option.bind_some]
        rw [chk_pos trivial, if_pos hm]
      · rw [he]; simp [hd]
    · refine ⟨s1, .sl [] 1 true, S1, s2, .msl S1.length 0 (L.length - (0 + 1)) 1 (L.length - (0 + 1)) none, S1 ++ [.mu (nums .i64 (L.drop 1)) false], h1, h2, h4, ?_, .inr ⟨S1.length, ?_, ?_⟩, fun b hb => get_app hb, .inr (by simp [lt1, ltc])⟩
      · unfold appA; rw [hh]
        simp only [Option.bind_some]
        rw [chk_pos trivial, if_neg hm, chk_pos ⟨trivial, by unfold room; simp; omega⟩]
        simp
      · rw [he]; simp
      · rw [he, get_last]; simp
  · have hh := h5 (S ++ [.mu (nums .i64 (L.take i)) false]) (fun b hb => get_app hb)
    have hlt : (L.take i).length = i := by rw [List.length_take]; omega
    by_cases hm : L.length - (i + 1) = 0
    · have hd : L.drop (i + 1) = [] := List.drop_of_length_le (by omega)
      refine ⟨s1, _, _, s2, .msl S.length 0 i 1 i none, S ++ [.mu (nums .i64 (L.take i)) false], h1, h2, h4, ?_, .inr ⟨S.length, ?_, ?_⟩, fun b hb => get_app hb, .inr (by simp [lt1, ltc])⟩
      · unfold appA; rw [hh]
        simp only [Option.bind_some]
        rw [chk_pos trivial, if_pos hm]
      · rw [he, hd, List.append_nil, hlt]
      · rw [he, hd, List.append_nil, get_last]
    · refine ⟨s1, _, _, s2, .msl S.length 0 (i + (L.length - (i + 1))) 1 (i + (L.length - (i + 1))) none, S ++ [.mu (nums .i64 (L.take i ++ L.drop (i + 1))) false], h1, h2, h4, ?_, .inr ⟨S.length, ?_, ?_⟩, fun b hb => get_app hb, .inr (by simp [lt1, ltc])⟩
      · unfold appA; rw [hh]
        simp only [Option.bind_some]
        have hn : ¬ 0 + (i + (L.length - (i + 1))) * 1 ≤ i := by omega
        rw [chk_pos trivial, if_neg hm, if_neg hn, chk_pos (show room _ _ by unfold room; omega), get_last]
        simp only
        rw [chk_pos ⟨by simp; omega, trivial, by omega⟩, get_set_last, List.take_of_length_le (by simp; omega), ← nums_append]
        simp
      · rw [he, List.length_append, hlt, List.length_drop]
      · rw [he, get_last]
end Go.AVM

/- Shuffle: what it gives is a permutation. -/
set_option linter.unusedVariables false
set_option linter.unusedSimpArgs false
set_option linter.unusedSectionVars false
namespace Go.AVM
theorem IntSl.keep {S : Store} {v : AV} {L : List Int} {m n : Nat} {vs : List AV} (h : IntSl S v L) (hv : v ∈ vs) (hn : nrc v = true ∨ lt1 n v = false) (hm : m ≤ n) : IntSl (trunc m vs S) v L := by
  rcases h with ⟨t, rfl⟩ | ⟨b, rfl, hb⟩
  · exact .inl ⟨t, rfl⟩
  · refine .inr ⟨b, rfl, ?_⟩
    rcases hn with h | h
    · simp [nrc] at h
    · have hbn : n ≤ b := by simpa [lt1, ltc] using h
      rw [trunc_get (.inr ⟨_, hv, by simp [lt1, ltc]; omega⟩)]; exact hb
theorem perm_cut {L : List Int} {i : Nat} (h : i < L.length) : (L[i] :: L.eraseIdx i).Perm L := by
  rw [List.eraseIdx_eq_take_drop_succ]
  have e : L = L.take i ++ L[i] :: L.drop (i + 1) := by
    conv => lhs; rw [← List.take_append_drop i L, List.drop_eq_getElem_cons h]
  conv => rhs; rw [e]
  exact List.perm_middle.symm
def Perm8 : List Int := [0, 1, 2, 3, 4, 5, 6, 7]
theorem rem_nat (k n : Nat) : ((k : Int).tmod (n : Int)) = ((k % n : Nat) : Int) := rfl
theorem quo_nat (k n : Nat) : ((k : Int).tdiv (n : Int)) = ((k / n : Nat) : Int) := rfl
set_option maxRecDepth 20000 in
theorem shuf_loop {Z : List AV} (hZ : Z.length = 8) {Q : FQ}
    (h1 : ∀ (tm : List AV) (ht : tm.length = 41) (S : Store) (out : List Int), tm[2] = .mptr 0 0 8 → tm[4] = .mptr 1 0 8 → S[0]? = some (.mu Z true) → S[1]? = some (.mu (nums .i64 out) true) → out.length = 8 → out.Perm Perm8 → Q (.ex 0) ⟨tm, S⟩) :
    ∀ (m i : Nat), i + m = 8 → ∀ (S : Store) (v : AV) (L out : List Int) (k : Nat), k ≤ 65535 → S[0]? = some (.mu Z true) → S[1]? = some (.mu (nums .i64 out) true) → out.length = 8 → IntSl S v L → (nrc v = true ∨ lt1 2 v = false) → L.length = m → (out.take i ++ L).Perm Perm8 →
    wpL RT f27_0m 2 f27_0 ⟨[.any, .any, .mptr 0 0 8, v, .mptr 1 0 8, .int .i64 (k : Int), .int .i64 (i : Int)] ++ List.replicate 34 .any, S⟩ Q := by
  intro m
  induction m with
  | zero =>
    intro i hi S v L out k hk h0 h1' ho hIS hv hL hP
    have hi' : i = 8 := by omega
    subst hi'
    have hLn := List.length_eq_zero_iff.1 hL
    subst hLn
    rw [List.append_nil, List.take_of_length_le (by omega)] at hP
    rw [wpL_step]
    generalize hK' : loopQ RT f27_0m 2 f27_0 Q = KK
    simp [f27_0, List.replicate]
    subst hK'
    exact h1 _ rfl S out rfl rfl h0 h1' ho hP
  | succ m ih =>
    intro i hi S v L out k hk h0 h1' ho hIS hv hL hP
    have hi8 : i < 8 := by omega
    have hlt : (i : Int) < 8 := by omega
    have hw : IntKind.i64.wrap ((i : Int) + 1) = ((i + 1 : Nat) : Int) := wrap_i64 (by omega) (by omega)
    have hq : k % L.length < L.length := Nat.mod_lt _ (by omega)
    have hkd : k / L.length ≤ 65535 := Nat.le_trans (Nat.div_le_self _ _) hk
    have hS2l : 2 ≤ S.length := lt_of_get h1'
    have hLne : ¬ L = [] := fun h => by rw [h] at hL; simp at hL
    have hIS' : IntSl (S.set 1 (.mu (nums .i64 (out.set i (L[k % L.length]'hq))) true)) v L := by
      rcases hIS with ⟨t, rfl⟩ | ⟨b, rfl, hb⟩
      · exact .inl ⟨t, rfl⟩
      · refine .inr ⟨b, rfl, ?_⟩
        have hb2 : 2 ≤ b := by
          rcases hv with h | h
          · simp [nrc] at h
          · simpa [lt1, ltc] using h
        rw [List.getElem?_set_ne (by omega)]; exact hb
    obtain ⟨s1, v1, S1, s2, v2, S2, c1, c2, c3, c4, hIS2, hk2, hv2⟩ := hIS'.cut (by omega) hq
    have hkp0 : S2[0]? = some (.mu Z true) := by rw [hk2 0 (by simp; omega), List.getElem?_set_ne (by omega)]; exact h0
    have hkp1 : S2[1]? = some (.mu (nums .i64 (out.set i (L[k % L.length]'hq))) true) := by rw [hk2 1 (by simp; omega), set_get (by omega)]
    have hx : L[k % L.length]? = some (L[k % L.length]'hq) := List.getElem?_eq_getElem hq
    have hLl : (L.eraseIdx (k % L.length)).length = m := by rw [List.length_eraseIdx, if_pos hq]; omega
    have hP2 : ((out.set i (L[k % L.length]'hq)).take (i + 1) ++ L.eraseIdx (k % L.length)).Perm Perm8 := by
      rw [List.take_succ_eq_append_getElem (by simpa [ho] using hi8), List.take_set_of_le (Nat.le_refl _), List.getElem_set_self, List.append_assoc]
      exact (List.Perm.append_left _ (perm_cut hq)).trans hP
    have w1 := wr_num (v := L[k % L.length]'hq) h1' ho hi8
    have hrem := rem_nat k L.length
    have hquo := quo_nat k L.length
    have hLn0 : (L.length : Int) ≠ 0 := by omega
    have hwq : IntKind.i64.wrap ((k : Int) / (L.length : Int)) = ((k / L.length : Nat) : Int) := by
      rw [← Int.natCast_ediv]
      generalize k / L.length = kq at *
      exact wrap_i64 (by omega) (by omega)
    have hwq1 : IntKind.i64.wrap (((k % L.length : Nat) : Int) + 1) = ((k % L.length + 1 : Nat) : Int) := wrap_i64 (by omega) (by omega)
    rw [List.length_set] at hv2
    have hfin := fun vs (hvs : v2 ∈ vs) => ih (i + 1) (by omega) (trunc 2 vs S2) v2 (L.eraseIdx (k % L.length)) (out.set i (L[k % L.length]'hq)) (k / L.length) hkd (by rw [trunc_get (.inl (by omega))]; exact hkp0) (by rw [trunc_get (.inl (by omega))]; exact hkp1) (by simpa using ho)
      (hIS2.keep (n := S.length) hvs hv2 hS2l) (by
        rcases hv2 with h | h
        · exact .inl h
        · rcases hIS2 with ⟨t, rfl⟩ | ⟨b, rfl, hb⟩
          · exact .inl rfl
          · right; have : S.length ≤ b := by simpa [lt1, ltc] using h
            simp [lt1, ltc]; omega) hLl hP2
    generalize L[k % L.length]'hq = x at *
    generalize hat : k % L.length = at' at *
    have hatl : (at' : Int) < (L.length : Int) := by omega
    rw [wpL_step]
    generalize hK' : loopQ RT f27_0m 2 f27_0 Q = KK
    rcases hIS with ⟨t, rfl⟩ | ⟨b, rfl, hb⟩
    · have hgx : (nums .i64 L)[at']? = some (.int .i64 x) := by
        unfold nums; rw [List.getElem?_map, hx]; rfl
      simp only [Int.natCast_add, Int.natCast_one] at c3 hwq1
      simp [f27_0, List.replicate, hlt, hLne, hrem, hquo, hLn0, hwq, hatl, hgx, w1, hw, hwq1, chk, c1, c2, c3, c4]
      subst hK'
      simp [head, f27_0m, mask]
      simp only [List.replicate, List.cons_append, List.nil_append, Int.natCast_add, Int.natCast_one] at hfin
      refine hfin _ (by simp)
    · have r1 := rd_num hb rfl hx
      simp only [Int.natCast_add, Int.natCast_one] at c3 hwq1
      simp [f27_0, List.replicate, hlt, hLne, hrem, hquo, hLn0, hwq, hatl, r1, w1, hw, hwq1, chk, c1, c2, c3, c4]
      subst hK'
      simp [head, f27_0m, mask]
      simp only [List.replicate, List.cons_append, List.nil_append, Int.natCast_add, Int.natCast_one] at hfin
      refine hfin _ (by simp)
end Go.AVM

/- Shuffle, whole. -/
set_option linter.unusedVariables false
set_option linter.unusedSimpArgs false
set_option linter.unusedSectionVars false
namespace Go.AVM
theorem run_shuffle {n : Nat} (hn : n ≤ 65535) : ∃ p : List Int, callPure RT 27 [.int .u16 (n : Int)] = some (R8 p) ∧ p.length = 8 ∧ p.Perm Perm8 := by
  suffices h : ∃ r, callPure RT 27 [.int .u16 (n : Int)] = some r ∧ ∃ p : List Int, r = R8 p ∧ p.length = 8 ∧ p.Perm Perm8 by
    obtain ⟨_, hr, p, rfl, h1, h2⟩ := h
    exact ⟨p, hr, h1, h2⟩
  have hz0 : nums .i64 (List.replicate 8 0) = [.int .i64 0, .int .i64 0, .int .i64 0, .int .i64 0, .int .i64 0, .int .i64 0, .int .i64 0, .int .i64 0] := rfl
  have lp := fun (Q : FQ) h => shuf_loop (Q := Q) (Z := nums .i64 (List.replicate 8 0)) rfl h 8 0 rfl [.mu (nums .i64 (List.replicate 8 0)) true, .mu (nums .i64 (List.replicate 8 0)) true] (.sl (nums .i64 Perm8) 1 true) Perm8 (List.replicate 8 0) n hn rfl rfl rfl (.inl ⟨true, rfl⟩) (.inl rfl) rfl (List.Perm.refl _)
  rw [hz0] at lp
  have hp0 : nums .i64 Perm8 = [.int .i64 0, .int .i64 1, .int .i64 2, .int .i64 3, .int .i64 4, .int .i64 5, .int .i64 6, .int .i64 7] := rfl
  rw [hp0] at lp
  simp only [List.replicate, List.cons_append, List.nil_append, Int.natCast_zero] at lp
  have hw : IntKind.i64.wrap (n : Int) = (n : Int) := wrap_i64 (by omega) (by omega)
  refine callPure_ex (wpF_of tab_27 rfl ?_)
  simp [f27, enter, wr, chk, splice, fillA, opA_litn, fillE, elt, nr1, nrc, fzc, hw]
  simp [head, f27_0m, mask, trunc_len]
  refine lp _ ?_
  intro tm ht S out t2 t4 h0 h1 ho hP
  have hr1 : rd S 1 0 8 8 = some (nums .i64 out) := by
    rw [rd_mu (vl := 8) (off := 0) (n := 8) h1 (by simp [ho]) (by omega), List.drop_zero, List.take_of_length_le (by simp [ho])]
  have hw0 : wr S 0 0 8 (nums .i64 out) = some (S.set 0 (.mu (nums .i64 out) true)) := by
    rw [wr_mu (vl := 8) (off := 0) h0 rfl (by simp [ho])]
    congr 3
    unfold splice
    rw [List.drop_of_length_le (by simp [ho])]; simp
  have hr2 : rd (S.set 0 (.mu (nums .i64 out) true)) 0 0 8 8 = some (nums .i64 out) := by
    rw [rd_mu (vl := 8) (off := 0) (n := 8) (set_get (lt_of_get h0)) (by simp [ho]) (by omega), List.drop_zero, List.take_of_length_le (by simp [ho])]
  simp [ht, t2, t4, hr1, hw0, ho, hr2]
  exact ⟨out, rfl, ho, hP⟩
end Go.AVM

/- Plain laws of permutations and of what they move. -/
set_option linter.unusedVariables false
set_option linter.unusedSimpArgs false
set_option linter.unusedSectionVars false
namespace Go.AVM
theorem scat_other : ∀ (p w r : List Int) (q : Nat), (∀ x ∈ p, x.toNat ≠ q) → (scatter p w r)[q]? = r[q]?
  | k :: ks, w :: ws, r, q, h => by
    rw [scatter, scat_other ks ws _ q fun x hx => h x (by simp [hx]), List.getElem?_set_ne (h k (by simp))]
  | [], _, r, q, _ => by simp [scatter]
  | _ :: _, [], r, q, _ => by simp [scatter]
/-- Places that differ, all of them there. -/
def Perm0 (p : List Int) : Prop := p.length = 8 ∧ (∀ x ∈ p, 0 ≤ x ∧ x < 8) ∧ p.Nodup
theorem perm8_ok {p : List Int} (h : p.Perm Perm8) : Perm0 p := by
  refine ⟨h.length_eq, fun x hx => ?_, h.nodup_iff.2 (by decide)⟩
  have := h.mem_iff.1 hx
  simp [Perm8] at this; omega
theorem scat_get : ∀ (p w r : List Int), p.Nodup → (∀ x ∈ p, 0 ≤ x ∧ x.toNat < r.length) → ∀ (j : Nat) (x v : Int), p[j]? = some x → w[j]? = some v → (scatter p w r)[x.toNat]? = some v
  | k :: ks, u :: ws, r, hn, hr, 0, x, v, hx, hv => by
    simp at hx hv
    subst hx; subst hv
    obtain ⟨h1, h2⟩ := List.nodup_cons.1 hn
    have hk := hr k (by simp)
    rw [scatter, scat_other ks ws _ _ fun y hy h => h1 (by
      have := hr y (by simp [hy])
      have : y = k := by omega
      rw [← this]; exact hy)]
    rw [List.getElem?_set_self hk.2]
  | k :: ks, u :: ws, r, hn, hr, j + 1, x, v, hx, hv => by
    obtain ⟨h1, h2⟩ := List.nodup_cons.1 hn
    rw [scatter]
    exact scat_get ks ws _ h2 (fun y hy => by have := hr y (by simp [hy]); simpa using this) j x v (by simpa using hx) (by simpa using hv)
theorem permGo_ok : ∀ (p : List Int) (bs : List Bool), bs.length = 8 → p.Nodup → (∀ x ∈ p, 0 ≤ x ∧ x < 8 ∧ bs.getD x.toNat false = false) → permGo bs p = true
  | [], bs, _, _, _ => rfl
  | k :: ks, bs, hb, hn, hp => by
    obtain ⟨h1, h2⟩ := List.nodup_cons.1 hn
    rw [permGo, if_pos (hp k (by simp))]
    refine permGo_ok ks _ (by simpa using hb) h2 fun x hx => ?_
    obtain ⟨a, b, c⟩ := hp x (by simp [hx])
    refine ⟨a, b, ?_⟩
    have hne : k.toNat ≠ x.toNat := fun h => h1 (by
      have := hp k (by simp)
      have : k = x := by omega
      rw [this]; exact hx)
    rw [List.getD_eq_getElem?_getD, List.getElem?_set_ne hne, ← List.getD_eq_getElem?_getD]; exact c
theorem perm_go {p : List Int} (h : Perm0 p) : permGo (List.replicate 8 false) p = true :=
  permGo_ok p _ (by simp) h.2.2 fun x hx => ⟨(h.2.1 x hx).1, (h.2.1 x hx).2, by
    simp only [List.getD_eq_getElem?_getD, List.getElem?_replicate]; split <;> rfl⟩
end Go.AVM

/- Plain laws: unit rows, and rows moved. -/
set_option linter.unusedVariables false
set_option linter.unusedSimpArgs false
set_option linter.unusedSectionVars false
namespace Go.AVM
theorem qdot_unit {x : List Rat} (hx : x.length = 8) {k : Nat} (hk : k < 8) : qdot (toQ (unitL k)) x = x.getD k 0 := by
  obtain ⟨a0, a1, a2, a3, a4, a5, a6, a7, rfl⟩ := len8 hx
  match k, hk with
  | 0, _ => simp [unitL, toQ, qdot]; grind
  | 1, _ => simp [unitL, toQ, qdot]; grind
  | 2, _ => simp [unitL, toQ, qdot]; grind
  | 3, _ => simp [unitL, toQ, qdot]; grind
  | 4, _ => simp [unitL, toQ, qdot]; grind
  | 5, _ => simp [unitL, toQ, qdot]; grind
  | 6, _ => simp [unitL, toQ, qdot]; grind
  | 7, _ => simp [unitL, toQ, qdot]; grind
theorem units_ind {o : List (List Int)} (h8 : All8 o) (hu : ∀ k, k < 8 → unitL k ∈ o) : indR 8 0 (o.map toQ) = true := by
  rw [ker_ind 8 0 rfl _ (fun l hl => by obtain ⟨w, hw, rfl⟩ := List.mem_map.1 hl; rw [toQ_len]; exact h8 w hw)]
  intro x hx _ hr j
  by_cases hj : j < 8
  · rw [← qdot_unit hx hj]
    exact hr _ (List.mem_map.2 ⟨_, hu j hj, rfl⟩)
  · rw [List.getD_eq_getElem?_getD, List.getElem?_eq_none (by omega)]; rfl
theorem perm_surj {p : List Int} (h : p.Perm Perm8) {q : Nat} (hq : q < 8) : ∃ j, j < 8 ∧ p[j]? = some (q : Int) := by
  have hm : (q : Int) ∈ p := h.mem_iff.2 (by simp [Perm8]; omega)
  obtain ⟨j, hj, he⟩ := List.getElem_of_mem hm
  have hl : p.length = 8 := h.length_eq
  exact ⟨j, by omega, by rw [← he]; exact List.getElem?_eq_getElem hj⟩
/-- Two rows of eight that agree at all places of a permutation. -/
theorem ext_perm {p r s : List Int} (h : p.Perm Perm8) (hr : r.length = 8) (hs : s.length = 8) (he : ∀ j x, j < 8 → p[j]? = some x → r[x.toNat]? = s[x.toNat]?) : r = s := by
  apply List.ext_getElem?
  intro q
  by_cases hq : q < 8
  · obtain ⟨j, hj, hp⟩ := perm_surj h hq
    have := he j q hj hp
    simpa using this
  · rw [List.getElem?_eq_none (by omega), List.getElem?_eq_none (by omega)]
theorem movL_len (p r : List Int) : (movL p r).length = r.length := by unfold movL; rw [scatter_len]
theorem movL_get {p r : List Int} (h : p.Perm Perm8) (hr : r.length = 8) {j : Nat} {x : Int} (hj : j < 8) (hp : p[j]? = some x) : (movL p r)[x.toNat]? = r[j]? := by
  obtain ⟨_, h2, h3⟩ := perm8_ok h
  have hrj : r[j]? = some (r[j]'(by omega)) := List.getElem?_eq_getElem (by omega)
  rw [hrj]
  exact scat_get p r r h3 (fun y hy => by have := h2 y hy; omega) j x _ hp hrj
theorem unitL_get {k q : Nat} (hq : q < 8) (hk : k < 8) : (unitL k)[q]? = some (if q = k then 1 else 0) := by
  unfold unitL
  rw [List.getElem?_set]
  by_cases h : q = k
  · subst h; simp [hq]
  · rw [if_neg (by omega), List.getElem?_replicate, if_pos hq, if_neg h]
theorem movL_unit {p : List Int} (h : p.Perm Perm8) {k : Nat} {x : Int} (hk : k < 8) (hp : p[k]? = some x) : movL p (unitL k) = unitL x.toNat := by
  have hb := (perm8_ok h).2.1
  have hn := (perm8_ok h).2.2
  have hl := (perm8_ok h).1
  have hx := hb x (List.mem_of_getElem? hp)
  refine ext_perm h (by rw [movL_len, unitL_len]) (unitL_len _) fun j y hj hy => ?_
  have hyb := hb y (List.mem_of_getElem? hy)
  rw [movL_get h (unitL_len k) hj hy, unitL_get hj hk, unitL_get (by omega) (by omega)]
  congr 1
  by_cases e : j = k
  · subst e
    rw [hp] at hy; cases hy; simp
  · rw [if_neg e, if_neg]
    intro hxy
    have hxy' : y = x := by omega
    subst hxy'
    obtain ⟨h1, h2⟩ := List.getElem?_eq_some_iff.1 hy
    obtain ⟨h3, h4⟩ := List.getElem?_eq_some_iff.1 hp
    rcases Nat.lt_trichotomy j k with c | c | c
    · exact List.pairwise_iff_getElem.1 hn j k h1 h3 c (by rw [h2, h4])
    · exact e c
    · exact List.pairwise_iff_getElem.1 hn k j h3 h1 c (by rw [h2, h4])
end Go.AVM

/- Plain laws: moving back, and sums over a permutation. -/
set_option linter.unusedVariables false
set_option linter.unusedSimpArgs false
set_option linter.unusedSectionVars false
namespace Go.AVM
theorem move_back {p back r : List Int} (h : p.Perm Perm8) (hb : back.Perm Perm8) (hpb : ∀ (j : Nat) (x : Int), j < 8 → p[j]? = some x → back[x.toNat]? = some (j : Int)) (hr : r.length = 8) : movL back (movL p r) = r := by
  refine ext_perm hb (by rw [movL_len, movL_len, hr]) hr fun q y hq hy => ?_
  rw [movL_get hb (by rw [movL_len, hr]) hq hy]
  obtain ⟨j, hj, hpj⟩ := perm_surj h hq
  have h1 := hpb j q hj hpj
  rw [Int.toNat_natCast, hy] at h1
  have hyj : y = (j : Int) := by simpa using h1
  have h2 := movL_get h hr hj hpj
  rw [Int.toNat_natCast] at h2
  rw [h2, hyj, Int.toNat_natCast]
theorem sum_perm {l m : List Int} (h : l.Perm m) : l.sum = m.sum := by
  induction h with
  | nil => rfl
  | cons x _ ih => simp [ih]
  | swap x y l => simp; omega
  | trans _ _ h1 h2 => rw [h1, h2]
theorem dot_sum {w a b : List Int} (hw : w.length = 8) (ha : a.length = 8) (hb : b.length = 8) : dotL w a b = (Perm8.map fun q => w.getD q.toNat 0 * (a.getD q.toNat 0 - b.getD q.toNat 0)).sum := by
  obtain ⟨a0, a1, a2, a3, a4, a5, a6, a7, rfl⟩ := len8 ha
  obtain ⟨b0, b1, b2, b3, b4', b5', b6, b7, rfl⟩ := len8 hb
  obtain ⟨w0, w1, w2, w3, w4, w5, w6, w7, rfl⟩ := len8 hw
  simp [dotL, Perm8]
theorem movedL_len (p a : List Int) : (movedL p a).length = 8 := by unfold movedL; rw [scatter_len]; simp
theorem movedL_get {p a : List Int} (h : p.Perm Perm8) (ha : a.length = 8) {j : Nat} {x : Int} (hj : j < 8) (hp : p[j]? = some x) : (movedL p a)[x.toNat]? = a[j]? := by
  obtain ⟨_, h2, h3⟩ := perm8_ok h
  have haj : a[j]? = some (a[j]'(by omega)) := List.getElem?_eq_getElem (by omega)
  rw [haj]
  exact scat_get p a _ h3 (fun y hy => by have := h2 y hy; simp; omega) j x _ hp haj
theorem dot_moved {p w a b : List Int} (h : p.Perm Perm8) (hw : w.length = 8) (ha : a.length = 8) (hb : b.length = 8) : dotL (movL p w) (movedL p a) (movedL p b) = dotL w a b := by
  rw [dot_sum hw ha hb, dot_sum (by rw [movL_len, hw]) (movedL_len p a) (movedL_len p b)]
  rw [← sum_perm (h.map _)]
  have key : ∀ (j : Nat) (x : Int), j < 8 → p[j]? = some x → (movL p w).getD x.toNat 0 * ((movedL p a).getD x.toNat 0 - (movedL p b).getD x.toNat 0) = w.getD j 0 * (a.getD j 0 - b.getD j 0) := fun j x hj hp => by
    simp only [List.getD_eq_getElem?_getD]
    rw [movL_get h hw hj hp, movedL_get h ha hj hp, movedL_get h hb hj hp]
  have hl : p.length = 8 := h.length_eq
  generalize movL p w = w' at *
  generalize movedL p a = a' at *
  generalize movedL p b = b' at *
  obtain ⟨p0, p1, p2, p3, p4, p5, p6, p7, rfl⟩ := len8 hl
  simp only [Perm8, List.map_cons, List.map_nil]
  rw [key 0 p0 (by omega) rfl, key 1 p1 (by omega) rfl, key 2 p2 (by omega) rfl, key 3 p3 (by omega) rfl, key 4 p4 (by omega) rfl, key 5 p5 (by omega) rfl, key 6 p6 (by omega) rfl, key 7 p7 (by omega) rfl]
  rfl
end Go.AVM

/- Plain laws: comparing by the rows of a full order. -/
set_option linter.unusedVariables false
set_option linter.unusedSimpArgs false
set_option linter.unusedSectionVars false
namespace Go.AVM
theorem rows_ord {u : List (List Int)} {x y : List Int} (hu : rowsC u x y = cmpL x y) : ∀ o : List (List Int), rowsC (o ++ u) x y = ordCmp o x y
  | [] => hu
  | w :: o => by
    simp only [List.cons_append, rowsC, ordCmp]
    rw [rows_ord hu o]
theorem ord_of_rows {x y : List Int} : ∀ (F : List (List Int)), (rowsC F x y = 0 → cmpL x y = 0) → ordCmp F x y = rowsC F x y
  | [], h => h rfl
  | w :: F, h => by
    simp only [rowsC, ordCmp] at h ⊢
    by_cases c1 : dotL w x y < 0
    · simp [c1]
    · by_cases c2 : 0 < dotL w x y
      · simp [c1, c2]
      · simp only [c1, c2, if_false] at h ⊢
        exact ord_of_rows F h
theorem rows_units {x y : List Int} (hx : x.length = 8) (hy : y.length = 8) : rowsC (unitsL 8) x y = cmpL x y := by
  obtain ⟨a0, a1, a2, a3, a4, a5, a6, a7, rfl⟩ := len8 hx
  obtain ⟨b0, b1, b2, b3, b4', b5', b6, b7, rfl⟩ := len8 hy
  simp [unitsL, List.range_succ, unitL, rowsC, dotL, cmpL]
  have e : ∀ a b : Int, (a - b < 0) = (a < b) := fun a b => propext (by omega)
  simp only [e]
end Go.AVM

/- What OrderAdmissible says, of its telling. -/
set_option linter.unusedVariables false
set_option linter.unusedSimpArgs false
set_option linter.unusedSectionVars false
namespace Go.AVM
/-- What is made is valid. -/
theorem goV_ok : ∀ (o : List (List Int)) (bs : List Bool), bs.length = 8 → (∀ w ∈ o, w.length = 8 ∧ Bd 1000 w) → (∀ k, k < 8 → bs[k]? = some true ∨ colOk k o) → goV bs o = true
  | [], bs, _, _, _ => by cases bs <;> rfl
  | w :: o, bs, hb, ho, hc => by
    obtain ⟨hwl, hwB⟩ := ho w (by simp)
    have hrow : ∀ n, n ≤ 8 → rowOk (w.drop (8 - n)) (bs.drop (8 - n)) = true := by
      intro n
      induction n with
      | zero => intro _; rw [List.drop_of_length_le (by omega)]; rfl
      | succ n ih =>
        intro hn
        have hwk : w[8 - (n + 1)]? = some w[8 - (n + 1)] := List.getElem?_eq_getElem (by omega)
        have hbk : bs[8 - (n + 1)]? = some bs[8 - (n + 1)] := List.getElem?_eq_getElem (by omega)
        rw [rowOk_drop hwk hbk]
        have e : 8 - (n + 1) + 1 = 8 - n := by omega
        rw [e, ih (by omega), Bool.and_true]
        have hx := hwB _ (List.getElem_mem (l := w) (n := 8 - (n + 1)) (by omega))
        have hcol := hc (8 - (n + 1)) (by omega)
        have hgd : w.getD (8 - (n + 1)) 0 = w[8 - (n + 1)] := by rw [List.getD_eq_getElem?_getD, hwk]; rfl
        simp only [colOk, hgd] at hcol
        rw [hbk] at hcol
        unfold okW
        simp only [Bool.and_eq_true, Bool.or_eq_true, decide_eq_true_eq]
        refine ⟨hx.1, hx.2, ?_⟩
        rcases hcol with h | h | h
        · exact .inr (Option.some.inj h)
        · exact .inl (by omega)
        · exact .inl (by omega)
    have h8 := hrow 8 (Nat.le_refl _)
    simp only [Nat.sub_self, List.drop_zero] at h8
    simp only [goV, h8, Bool.true_and]
    refine goV_ok o _ (by rw [rowNext_len]; exact hb) (fun v hv => ho v (by simp [hv])) fun k hk => ?_
    have hwk : w[k]? = some w[k] := List.getElem?_eq_getElem (by omega)
    have hbk : bs[k]? = some bs[k] := List.getElem?_eq_getElem (by omega)
    have hgd : w.getD k 0 = w[k] := by rw [List.getD_eq_getElem?_getD, hwk]; rfl
    have hcol := hc k hk
    simp only [colOk, hgd] at hcol
    rw [rowNext_get w bs k _ _ hwk hbk]
    rw [hbk] at hcol
    unfold nextW
    rcases hcol with h | h | h
    · exact .inl (by rw [Option.some.inj h]; rfl)
    · exact .inl (by simp [h])
    · exact .inr h.2
theorem made_valid {o : List (List Int)} (h : MadeO o) : validB o = true := by
  unfold validB
  rw [goV_ok o _ rfl (fun w hw => h.rows w hw) (fun k hk => .inr (h.col k hk)), decide_eq_true (by have := h.len; omega)]; rfl
end Go.AVM

/- Plain laws: full orders and moved orders are valid, and compare alike. -/
set_option linter.unusedVariables false
set_option linter.unusedSimpArgs false
set_option linter.unusedSectionVars false
namespace Go.AVM
theorem colOk_app {k : Nat} {u : List (List Int)} (hu : colOk k u) : ∀ {o : List (List Int)}, colOk k o → colOk k (o ++ u)
  | [], _ => hu
  | w :: o, h => by
    rcases h with h | h
    · exact .inl h
    · exact .inr ⟨h.1, colOk_app hu h.2⟩
theorem colOk_units {k : Nat} (hk : k < 8) : ∀ l : List Nat, (∀ j ∈ l, j < 8) → colOk k (l.map unitL)
  | [], _ => trivial
  | j :: l, h => by
    have hj := h j (by simp)
    have e : (unitL j).getD k 0 = if k = j then 1 else 0 := by rw [List.getD_eq_getElem?_getD, unitL_get hk hj]; rfl
    simp only [List.map_cons, colOk, e]
    by_cases c : k = j
    · rw [if_pos c]; exact .inl (by decide)
    · rw [if_neg c]; exact .inr ⟨rfl, colOk_units hk l fun x hx => h x (by simp [hx])⟩
theorem colOk_moved {p : List Int} (h : p.Perm Perm8) {j : Nat} {x : Int} (hj : j < 8) (hp : p[j]? = some x) : ∀ {F : List (List Int)}, All8 F → colOk j F → colOk x.toNat (F.map (movL p))
  | [], _, _ => trivial
  | w :: F, h8, hc => by
    have e : (movL p w).getD x.toNat 0 = w.getD j 0 := by
      rw [List.getD_eq_getElem?_getD, movL_get h (h8 w (by simp)) hj hp, ← List.getD_eq_getElem?_getD]
    simp only [List.map_cons, colOk, e]
    rcases hc with hc | hc
    · exact .inl hc
    · exact .inr ⟨hc.1, colOk_moved h hj hp (fun y hy => h8 y (by simp [hy])) hc.2⟩
theorem rows_moved {p a b : List Int} (h : p.Perm Perm8) (ha : a.length = 8) (hb : b.length = 8) : ∀ {F : List (List Int)}, All8 F → rowsC (F.map (movL p)) (movedL p a) (movedL p b) = rowsC F a b
  | [], _ => rfl
  | w :: F, h8 => by
    simp only [List.map_cons, rowsC, dot_moved h (h8 w (by simp)) ha hb]
    rw [rows_moved h ha hb fun y hy => h8 y (by simp [hy])]
end Go.AVM

/- Plain laws: the permutation back. -/
set_option linter.unusedVariables false
set_option linter.unusedSimpArgs false
set_option linter.unusedSectionVars false
namespace Go.AVM
def backL (p : List Int) : List Int := movedL p Perm8
theorem perm8_get {j : Nat} (hj : j < 8) : Perm8[j]? = some (j : Int) := by
  match j, hj with
  | 0, _ => rfl
  | 1, _ => rfl
  | 2, _ => rfl
  | 3, _ => rfl
  | 4, _ => rfl
  | 5, _ => rfl
  | 6, _ => rfl
  | 7, _ => rfl
theorem back_get {p : List Int} (h : p.Perm Perm8) {j : Nat} {x : Int} (hj : j < 8) (hp : p[j]? = some x) : (backL p)[x.toNat]? = some (j : Int) := by
  unfold backL
  rw [movedL_get h rfl hj hp, perm8_get hj]
theorem back_perm {p : List Int} (h : p.Perm Perm8) : (backL p).Perm Perm8 := by
  have hl : (backL p).length = 8 := movedL_len _ _
  have hpl : p.length = 8 := h.length_eq
  have hn : (backL p).Nodup := by
    refine List.pairwise_iff_getElem.2 fun i j hi hj hij he => ?_
    obtain ⟨a, ha, hpa⟩ := perm_surj h (q := i) (by omega)
    obtain ⟨b, hb, hpb⟩ := perm_surj h (q := j) (by omega)
    have h1 := back_get h ha hpa
    have h2 := back_get h hb hpb
    rw [Int.toNat_natCast, List.getElem?_eq_getElem (by omega)] at h1 h2
    have e1 := Option.some.inj h1
    have e2 := Option.some.inj h2
    have hab : a = b := by omega
    subst hab
    rw [hpa] at hpb
    have := Option.some.inj hpb
    omega
  refine (List.perm_ext_iff_of_nodup hn (by decide)).2 fun x => ?_
  constructor
  · intro hx
    obtain ⟨q, hq, he⟩ := List.getElem_of_mem hx
    obtain ⟨a, ha, hpa⟩ := perm_surj h (q := q) (by omega)
    have h1 := back_get h ha hpa
    rw [Int.toNat_natCast, List.getElem?_eq_getElem (by omega), he] at h1
    rw [Option.some.inj h1]
    exact List.mem_of_getElem? (perm8_get ha)
  · intro hx
    obtain ⟨j, hj, he⟩ := List.getElem_of_mem hx
    have hj8 : j < 8 := hj
    have h2 := perm8_get hj8
    rw [List.getElem?_eq_getElem hj, he] at h2
    rw [Option.some.inj h2]
    exact List.mem_of_getElem? (back_get h hj8 (List.getElem?_eq_getElem (by omega)))
theorem full_made {o : List (List Int)} (h : MadeO o) : fullL o = o ++ unitsL 8 := by
  unfold fullL
  rw [few_ind 8 0 _ (by rw [List.length_map]; have := h.len; omega), if_neg (by simp)]
theorem full_moved {o : List (List Int)} {p : List Int} (h : MadeO o) (hp : p.Perm Perm8) : fullL ((o ++ unitsL 8).map (movL p)) = (o ++ unitsL 8).map (movL p) := by
  have h8 : All8 ((o ++ unitsL 8).map (movL p)) := fun x hx => by
    obtain ⟨w, hw, rfl⟩ := List.mem_map.1 hx
    rw [movL_len]
    rcases List.mem_append.1 hw with h1 | h1
    · exact (h.row w h1).1
    · obtain ⟨k, _, rfl⟩ := List.mem_map.1 h1; exact unitL_len k
  unfold fullL
  rw [if_pos]
  refine units_ind h8 fun q hq => ?_
  obtain ⟨j, hj, hpj⟩ := perm_surj hp hq
  refine List.mem_map.2 ⟨unitL j, List.mem_append_right _ (List.mem_map.2 ⟨j, List.mem_range.2 hj, rfl⟩), ?_⟩
  rw [movL_unit hp hj hpj, Int.toNat_natCast]
end Go.AVM

/- Plain laws: what OrderPermutes compares. -/
set_option linter.unusedVariables false
set_option linter.unusedSimpArgs false
set_option linter.unusedSectionVars false
namespace Go.AVM
theorem unit_bd (k : Nat) : Bd 1000 (unitL k) := fun x hx => by
  rcases List.mem_or_eq_of_mem_set hx with h | h
  · have := List.eq_of_mem_replicate h; omega
  · omega
theorem fullM_rows {o : List (List Int)} (h : MadeO o) : Rows (o ++ unitsL 8) := fun w hw => by
  rcases List.mem_append.1 hw with h1 | h1
  · exact h.rows w h1
  · obtain ⟨k, _, rfl⟩ := List.mem_map.1 h1; exact ⟨unitL_len k, unit_bd k⟩
theorem fullM_len {o : List (List Int)} (h : MadeO o) : (o ++ unitsL 8).length ≤ 24 := by
  have := h.len
  simp [unitsL]; omega
theorem fullM_col {o : List (List Int)} (h : MadeO o) {k : Nat} (hk : k < 8) : colOk k (o ++ unitsL 8) :=
  colOk_app (colOk_units hk _ fun j hj => List.mem_range.1 hj) (h.col k hk)
theorem fullM_valid {o : List (List Int)} (h : MadeO o) : validB (o ++ unitsL 8) = true := by
  unfold validB
  rw [goV_ok _ _ rfl (fullM_rows h) (fun k hk => .inr (fullM_col h hk)), decide_eq_true (fullM_len h)]; rfl
theorem scat_mem : ∀ (p w r : List Int) (x : Int), x ∈ scatter p w r → x ∈ w ∨ x ∈ r
  | k :: ks, u :: ws, r, x, h => by
    rw [scatter] at h
    rcases scat_mem ks ws _ x h with h | h
    · exact .inl (by simp [h])
    · rcases List.mem_or_eq_of_mem_set h with h | h
      · exact .inr h
      · exact .inl (by simp [h])
  | [], _, r, x, h => .inr (by simpa [scatter] using h)
  | _ :: _, [], r, x, h => .inr (by simpa [scatter] using h)
theorem movL_bd {b : Int} {p w : List Int} (h : Bd b w) : Bd b (movL p w) := fun x hx => by
  rcases scat_mem p w w x hx with h1 | h1 <;> exact h x h1
theorem movedL_bd {b : Int} {p a : List Int} (hb : 0 ≤ b) (h : Bd b a) : Bd b (movedL p a) := fun x hx => by
  rcases scat_mem p a _ x hx with h1 | h1
  · exact h x h1
  · have := List.eq_of_mem_replicate h1; omega
theorem moved_rows {p : List Int} {F : List (List Int)} (h : Rows F) : Rows (F.map (movL p)) := fun w hw => by
  obtain ⟨v, hv, rfl⟩ := List.mem_map.1 hw
  exact ⟨by rw [movL_len]; exact (h v hv).1, movL_bd (h v hv).2⟩
theorem moved_valid {o : List (List Int)} {p : List Int} (h : MadeO o) (hp : p.Perm Perm8) : validB ((o ++ unitsL 8).map (movL p)) = true := by
  unfold validB
  rw [goV_ok _ _ rfl (moved_rows (fullM_rows h)) (fun k hk => .inr ?_), decide_eq_true (by rw [List.length_map]; exact fullM_len h)]; rfl
  obtain ⟨j, hj, hpj⟩ := perm_surj hp hk
  have := colOk_moved hp hj hpj (fun w hw => (fullM_rows h w hw).1) (fullM_col h hj)
  simpa using this
theorem rows_full {o : List (List Int)} {a b : List Int} (ha : a.length = 8) (hb : b.length = 8) : rowsC (o ++ unitsL 8) a b = ordCmp o a b := rows_ord (rows_units ha hb) o
theorem ord_full {o : List (List Int)} {a b : List Int} (ha : a.length = 8) (hb : b.length = 8) : ordCmp (o ++ unitsL 8) a b = ordCmp o a b := by
  rw [ord_of_rows, rows_full ha hb]
  intro h0
  rw [rows_full ha hb] at h0
  rw [ordCmp_eq0 o (by omega) h0]; exact cmpL_self b
theorem ord_moved {o : List (List Int)} {p a b : List Int} (h : MadeO o) (hp : p.Perm Perm8) (ha : a.length = 8) (hb : b.length = 8) : ordCmp ((o ++ unitsL 8).map (movL p)) (movedL p a) (movedL p b) = ordCmp o a b := by
  have e := rows_moved hp ha hb (F := o ++ unitsL 8) (fun w hw => (fullM_rows h w hw).1)
  rw [rows_full ha hb] at e
  rw [ord_of_rows, e]
  intro h0
  rw [e] at h0
  rw [ordCmp_eq0 o (by omega) h0]; exact cmpL_self _
theorem full_back {o : List (List Int)} {p : List Int} (h : MadeO o) (hp : p.Perm Perm8) : ((o ++ unitsL 8).map (movL p)).map (movL (backL p)) = o ++ unitsL 8 := by
  rw [List.map_map]
  conv => rhs; rw [← List.map_id (o ++ unitsL 8)]
  refine List.map_congr_left fun w hw => ?_
  exact move_back hp (back_perm hp) (fun j x hj hx => back_get hp hj hx) (fullM_rows h w hw).1
end Go.AVM

/- What OrderPermutes says, of its telling. -/
set_option linter.unusedVariables false
set_option linter.unusedSimpArgs false
set_option linter.unusedSectionVars false
namespace Go.AVM
set_option maxRecDepth 20000 in
theorem back_loop {p : List Int} (hp : p.length = 8) (hpr : ∀ x ∈ p, 0 ≤ x ∧ x < 8) {A B C D : Blk} {x7 x8 : AV} {Q : FQ}
    (h1 : ∀ (tm : List AV) (ht : tm.length = 119), tm[7] = x7 → tm[8] = x8 → tm[9] = .mptr 2 0 8 → tm[10] = .mptr 3 0 8 → tm[11] = .mptr 4 0 8 → tm[12] = .mptr 5 0 8 →
      Q (.ex 0) ⟨tm, [A, B, C, D, .mu (nums .i64 p) true, .mu (nums .i64 (backL p)) true]⟩) :
    ∀ (m j : Nat), j + m = 8 → ∀ r : List Int, r.length = 8 → scatter (p.drop j) (Perm8.drop j) r = backL p →
    wpL RT f6_0m 6 f6_0 ⟨[.any, .any, .any, .any, .any, .any, .any, x7, x8, .mptr 2 0 8, .mptr 3 0 8, .mptr 4 0 8, .mptr 5 0 8, .int .i64 (j : Int)] ++ List.replicate 105 .any, [A, B, C, D, .mu (nums .i64 p) true, .mu (nums .i64 r) true]⟩ Q := by
  intro m
  induction m with
  | zero =>
    intro j hj r hrl he
    have hj' : j = 8 := by omega
    subst hj'
    rw [List.drop_of_length_le (by omega)] at he
    simp only [scatter] at he
    rw [he]
    rw [wpL_step]
    generalize hK' : loopQ RT f6_0m 6 f6_0 Q = KK
    simp [f6_0, List.replicate]
    subst hK'
    exact h1 _ rfl rfl rfl rfl rfl rfl rfl
  | succ m ih =>
    intro j hj r hrl he
    have hj8 : j < 8 := by omega
    have hlt : (j : Int) < 8 := by omega
    have hw : IntKind.i64.wrap ((j : Int) + 1) = ((j + 1 : Nat) : Int) := wrap_i64 (by omega) (by omega)
    have hgp : p[j]? = some (p[j]'(by omega)) := List.getElem?_eq_getElem (by omega)
    have hP8 : Perm8.length = 8 := rfl
    have hPj : Perm8[j]'(by omega) = (j : Int) := by
      have := perm8_get hj8
      rw [List.getElem?_eq_getElem (by omega)] at this
      exact Option.some.inj this
    rw [List.drop_eq_getElem_cons (l := p) (by omega), List.drop_eq_getElem_cons (l := Perm8) (by omega), hPj] at he
    simp only [scatter] at he
    obtain ⟨hx0, hx8⟩ := hpr p[j] (List.getElem_mem _)
    have r1 : ∀ Y, rd [A, B, C, D, .mu (nums .i64 p) true, Y] 4 j 8 1 = some [.int .i64 (p[j]'(by omega))] := fun Y => rd_num rfl hp hgp
    have hih := ih (j + 1) (by omega) (r.set (p[j]'(by omega)).toNat (j : Int)) (by simpa using hrl) he
    obtain ⟨q, hq⟩ : ∃ q : Nat, p[j]'(by omega) = (q : Int) := ⟨(p[j]'(by omega)).toNat, by omega⟩
    have hq8 : q < 8 := by omega
    have w1 : ∀ v Y, wr [A, B, C, D, Y, .mu (nums .i64 r) true] 5 q 8 [.int .i64 v] = some [A, B, C, D, Y, .mu (nums .i64 (r.set q v)) true] := fun v Y => by
      rw [wr_num (ex := true) rfl hrl hq8]; rfl
    rw [hq, Int.toNat_natCast] at hih
    rw [hq] at r1
    clear he ih hgp
    have hql : (q : Int) < 8 := by omega
    rw [wpL_step]
    generalize hK' : loopQ RT f6_0m 6 f6_0 Q = KK
    simp [f6_0, List.replicate, hlt, r1, hql, w1, hw]
    subst hK'
    simp [head, f6_0m, mask, trunc_len]
    simpa [f6_0m, List.replicate] using hih
end Go.AVM

/- What OrderPermutes says, of its telling, whole. -/
set_option linter.unusedVariables false
set_option linter.unusedSimpArgs false
set_option linter.unusedSectionVars false
namespace Go.AVM
set_option maxHeartbeats 4000000 in
set_option maxRecDepth 20000 in
theorem law_permutes (X : List (List Int)) (hX : RawOk X) (l : List (List Int)) (hl2 : l.length = 2) (hx : ∀ x ∈ l, x.length = 8 ∧ ∀ n ∈ x, 0 ≤ n ∧ n ≤ 65535) (k : Nat) (hk : k ≤ 65535) :
    callPure (run tab) 6 [.agg [RawR X], .agg (l.flatMap fun x => x.flatMap fun n => [.int .u16 n]), .int .u16 (k : Int)] = some (.bool true) := by
  obtain ⟨x, y, rfl⟩ : ∃ x y, l = [x, y] := by
    match l, hl2 with
    | [x, y], _ => exact ⟨x, y, rfl⟩
  obtain ⟨hx8, hxb⟩ := hx x (by simp)
  obtain ⟨hy8, hyb⟩ := hx y (by simp)
  have hfl : ∀ z : List Int, (z.flatMap fun n => [AV.int .u16 n]) = nums .u16 z := fun z => by
    induction z with
    | nil => rfl
    | cons n z ih => rw [List.flatMap_cons, ih]; rfl
  simp only [List.flatMap_cons, List.flatMap_nil, hfl, List.append_nil]
  have hm1 := run_mono hx8 hxb
  have hm2 := run_mono hy8 hyb
  have ha := monoL_len hx8
  have hb := monoL_len hy8
  have hAb := monoL_bd hxb
  have hBb := monoL_bd hyb
  have t1 : (nums .u16 x ++ nums .u16 y).take 8 = nums .u16 x := by
    rw [List.take_append_of_le_length (by simp [hx8])]; exact List.take_of_length_le (by simp [hx8])
  have t2 : (nums .u16 y).take 8 = nums .u16 y := List.take_of_length_le (by simp [hy8])
  generalize monoL x = a at *
  generalize monoL y = b at *
  obtain ⟨o, ho, hmo⟩ := run_made hX
  obtain ⟨p, hsh, hp8, hpp⟩ := run_shuffle hk
  obtain ⟨_, hpr, hpn⟩ := perm8_ok hpp
  have hbp := back_perm hpp
  obtain ⟨hb8, hbr, hbn⟩ := perm8_ok hbp
  have haB : Bd 200000 a := fun n hn => by have := hAb n hn; omega
  have hbB : Bd 200000 b := fun n hn => by have := hBb n hn; omega
  have hol : o.length < 1000000 := by have := hmo.len; omega
  have hF := fullM_rows hmo
  have hFl := fullM_len hmo
  have hFv := fullM_valid hmo
  have hM := moved_rows (p := p) hF
  have hMv := moved_valid hmo hpp
  have hfm := full_made hmo
  have hfv := full_moved hmo hpp
  have hne : o ++ unitsL 8 ≠ [] := by simp [unitsL]
  have hml : ((o ++ unitsL 8).map (movL p)).length ≤ 24 := by rw [List.length_map]; exact hFl
  have c1 := run_Cmp hmo.rows hol ha hb haB hbB
  have c2 := pure_full (o := o) (fun w hw => (hmo.row w hw).1) (fun w hw => (hmo.row w hw).2.mono (by decide)) hol (made_valid hmo) (by rw [hfm]; exact hFl) (by rw [hfm]; exact hne)
  have c3 := run_permute (o := o) (p := p) (fun w hw => (hmo.row w hw).1) (fun w hw => (hmo.row w hw).2.mono (by decide)) hol (made_valid hmo) (by rw [hfm]; exact hFl) (by rw [hfm]; exact hne) (by rw [hfm]; exact fun w hw => (hF w hw).1) hp8 hpr (perm_go ⟨hp8, hpr, hpn⟩)
  have c4 := run_valid (o := o ++ unitsL 8) (fun w hw => (hF w hw).1) (by omega)
  have c5 := run_valid (o := (o ++ unitsL 8).map (movL p)) (fun w hw => (hM w hw).1) (by omega)
  have c6 := run_rows hF (by omega) ha hb haB hbB
  have c7 := run_Cmp hF (by omega) ha hb haB hbB
  have c8 := run_permute (o := (o ++ unitsL 8).map (movL p)) (p := backL p) (fun w hw => (hM w hw).1) (fun w hw => (hM w hw).2.mono (by decide)) (by omega) hMv (by rw [hfv]; exact hml) (by rw [hfv]; simp [unitsL]) (by rw [hfv]; exact fun w hw => (hM w hw).1) hb8 hbr (perm_go ⟨hb8, hbr, hbn⟩)
  have c9 := run_moved ha hp8 hpr
  have c10 := run_moved hb hp8 hpr
  have c11 := run_Cmp hM (by omega) (movedL_len p a) (movedL_len p b) (movedL_bd (by decide) haB) (movedL_bd (by decide) hbB)
  have c12 := run_same (s := o ++ unitsL 8) (fun w hw => (hF w hw).1) (by omega)
  rw [hfm] at c2 c3
  rw [hfv, full_back hmo hpp] at c8
  rw [hFv] at c4
  rw [hMv] at c5
  rw [rows_full ha hb] at c6
  rw [ord_full ha hb] at c7
  rw [ord_moved hmo hpp ha hb] at c11
  have hma := movedL_len p a
  have hmb := movedL_len p b
  have hta : (nums .i64 a).take 8 = nums .i64 a := List.take_of_length_le (by simp [ha])
  have htb : (nums .i64 b).take 8 = nums .i64 b := List.take_of_length_le (by simp [hb])
  have htp : (nums .i64 p).take 8 = nums .i64 p := List.take_of_length_le (by simp [hp8])
  have htk : (nums .i64 (backL p)).take 8 = nums .i64 (backL p) := List.take_of_length_le (by simp [hb8])
  have hz : ∀ l : List Int, l.length = 8 → splice [.int .i64 0, .int .i64 0, .int .i64 0, .int .i64 0, .int .i64 0, .int .i64 0, .int .i64 0, .int .i64 0] 0 (nums .i64 l) = nums .i64 l := fun l hl => row_splice hl rfl
  have bl := fun (Q : FQ) (A B C D : Blk) (x7 x8 : AV) h => back_loop (Q := Q) (A := A) (B := B) (C := C) (D := D) (x7 := x7) (x8 := x8) hp8 hpr h 8 0 rfl (List.replicate 8 0) (by simp) rfl
  have hz0 : nums .i64 [0, 0, 0, 0, 0, 0, 0, 0] = [.int .i64 0, .int .i64 0, .int .i64 0, .int .i64 0, .int .i64 0, .int .i64 0, .int .i64 0, .int .i64 0] := rfl
  simp only [List.replicate, List.cons_append, List.nil_append, Int.natCast_zero, hz0] at bl
  clear hfm hfv hne hml hF hFl hFv hM hMv
  generalize hME : (o ++ unitsL 8).map (movL p) = M at *
  clear hME
  generalize o ++ unitsL 8 = F at *
  generalize movedL p a = a2 at *
  generalize movedL p b = b2 at *
  generalize ordCmp o a b = n at *
  refine callPure_of (wpF_of tab_6 rfl ?_)
  simp [f6, enter, run_examples5, after_nr, hx8, hy8, rd, wr, chk, t1, t2, ho, hm1, hm2, hsh, ha, hb, hp8, hz, fillA]
  simp [head, f6_0m, mask, trunc_len]
  refine bl _ _ _ _ _ _ _ ?_
  intro tm ht t7 t8 t9 t10 t11 t12
  simp [ht, t7, t8, t9, t10, t11, t12, after_nr, rd, chk, ha, hb, hp8, hb8, hta, htb, htp, htk, c1, c2, c3, c4, c5, c6, c7, c8, c9, c10, c11, c12, hma, hmb]
end Go.AVM

