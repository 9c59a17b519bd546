/- Integers: what the functions on rows of words compute (first part). -/
import Derived.Test.YtlpbjbgfgfjnlaaAvTab
import Derived.Test.YtlpbjbgfgfjnlaaAvBits
set_option linter.unusedVariables false
set_option linter.unusedSimpArgs false
set_option linter.unusedSectionVars false
namespace Go.AVM
noncomputable abbrev RT : RunF := run tab
def wds (ws : List Nat) : List AV := ws.map fun (w : Nat) => .int .u32 (w : Int)
@[simp] theorem wds_length (ws : List Nat) : (wds ws).length = ws.length := by simp [wds]
@[simp] theorem wds_get (ws : List Nat) (i : Nat) : (wds ws)[i]? = (ws[i]?).map fun (w : Nat) => AV.int .u32 (w : Int) := by simp [wds]
theorem wds_take (ws : List Nat) (n : Nat) : (wds ws).take n = wds (ws.take n) := by simp [wds, List.map_take]
theorem wds_drop (ws : List Nat) (n : Nat) : (wds ws).drop n = wds (ws.drop n) := by simp [wds, List.map_drop]
@[simp] theorem wds_cells (ws : List Nat) : (wds ws).flatMap AV.cells = wds ws := by
  induction ws with
  | nil => rfl
  | cons w ws ih => simpa [wds] using ih
@[simp] theorem wds_fzc (S : Store) (fuel : Nat) (ws : List Nat) : (wds ws).mapM (fzc S fuel) = some (wds ws) := by
  induction ws with
  | nil => rfl
  | cons w ws ih =>
    have : wds (w :: ws) = AV.int .u32 (w : Int) :: wds ws := rfl
    rw [this]
    cases fuel <;> simp [List.mapM_cons, fzc, ih]
@[simp] theorem wds_lt1 (ws : List Nat) (n : Nat) : (wds ws).all (lt1 n) = true := by simp [wds, lt1, ltc]
@[simp] theorem wds_ltc (ws : List Nat) (n : Nat) : (wds ws).all (ltc n) = true := by simp [wds, ltc]
theorem wds_set (ws : List Nat) (i w : Nat) : (wds ws).set i (.int .u32 (w : Int)) = wds (ws.set i w) := by simp [wds, List.map_set]
theorem wds_app (a b : List Nat) : wds a ++ wds b = wds (a ++ b) := by simp [wds]
/-- A row of words, frozen. -/
abbrev W (ws : List Nat) : AV := .sl (wds ws) 1 false
/-- A number. -/
abbrev N (n : Nat) : AV := W (dig n)

theorem norm_loop {ws : List Nat} {t : Bool} (hw : Wd ws) (hlen : ws.length < 9223372036854775808) {base : Nat} {Q : FQ} (hQ : ∀ (tm : List AV) (hl : tm.length = 22), tm[0] = .sl (wds ws) 1 t → tm[3] = .int .i64 ((dig (val ws)).length : Int) → Q (.ex 0) ⟨tm, []⟩) :
    ∀ n, n ≤ ws.length → (∀ w ∈ ws.drop n, w = 0) → wpL RT f91_0m base f91_0 ⟨[.sl (wds ws) 1 t, .any, .any, .int .i64 (n : Int), .any, .any, .any, .any, .any, .any, .any, .any, .any, .any, .any, .any, .any, .any, .any, .any, .any, .any], []⟩ Q := by
  intro n
  induction n with
  | zero =>
    intro hn hz
    have hcut := cut_dig hw hn hz (.inl rfl)
    rw [wpL_eq]
    generalize hK : (fun s' => wpL RT f91_0m base f91_0 (head f91_0m base s') Q) = K
    simp [f91_0]
    refine hQ _ rfl rfl ?_
    rw [← hcut]; simp
  | succ n ih =>
    intro hn hz
    have hnw : IntKind.i64.wrap (n : Int) = n := wrap_i64 (by omega) (by omega)
    obtain ⟨w, hget⟩ : ∃ w, ws[n]? = some w := ⟨ws[n], List.getElem?_eq_getElem (by omega)⟩
    rw [wpL_eq]
    generalize hK : (fun s' => wpL RT f91_0m base f91_0 (head f91_0m base s') Q) = K
    by_cases h0 : w = 0
    · subst h0
      simp [f91_0, hnw, hget]
      refine ⟨by omega, ?_⟩
      subst hK
      simp [head, f91_0m, mask, trunc]
      refine ih (by omega) fun v hv => ?_
      rw [List.drop_eq_getElem_cons (by omega)] at hv
      rcases List.mem_cons.1 hv with rfl | hv
      · rw [List.getElem?_eq_getElem (by omega)] at hget; exact Option.some.inj hget
      · exact hz v hv
    · have hcut := cut_dig hw hn hz (.inr ⟨w, hget, h0⟩)
      simp [f91_0, hnw, hget, h0]
      refine ⟨by omega, hQ _ rfl rfl ?_⟩
      have := congrArg List.length hcut
      simp at this
      rw [← this, Nat.min_eq_left hn]; rfl
theorem run_norm {ws : List Nat} {t : Bool} (hw : Wd ws) (hlen : ws.length < 9223372036854775808) : callPure RT 91 [.sl (wds ws) 1 t] = some (N (val ws)) := by
  refine callPure_of (wpF_of tab_91 rfl ?_)
  simp [f91, enter]
  simp [head, f91_0m, mask, trunc]
  refine norm_loop (t := t) hw hlen ?_ ws.length (Nat.le_refl _) (by simp)
  intro tm hl h0 h3
  obtain ⟨hcut, hle⟩ := norm_take hw
  simp [hl, h0, h3, sliceA, bounds, bound, hle, wds_take, hcut]

/-! ### Words -/
theorem run_at {ws : List Nat} {t : Bool} {i : Nat} (hlen : ws.length < 9223372036854775808) : callPure RT 104 [.sl (wds ws) 1 t, .int .i64 (i : Int)] = some (.int .u32 ((ws.getD i 0 : Nat) : Int)) := by
  refine callPure_of (wpF_of tab_104 rfl ?_)
  by_cases h : i < ws.length
  · have hg : ws[i]? = some ws[i] := List.getElem?_eq_getElem h
    have h' : (i : Int) < (ws.length : Int) := by omega
    simp [f104, enter, h', hg]
  · have h' : ¬ (i : Int) < (ws.length : Int) := by omega
    simp [f104, enter, h']
    rw [List.getElem?_eq_none (by omega)]; rfl
theorem fdiv_word (a : Int) : a.fdiv 4294967296 = a / 4294967296 := Int.fdiv_eq_ediv_of_nonneg _ (by decide)
theorem run_Add32 {x y c : Nat} (hx : x < B) (hy : y < B) (hc : c < B) : callPure RT 103 [.int .u32 (x : Int), .int .u32 (y : Int), .int .u32 (c : Int)] = some (.tup [.int .u32 (((x + y + c) % B : Nat) : Int), .int .u32 (((x + y + c) / B : Nat) : Int)]) := by
  refine callPure_of (wpF_of tab_103 rfl ?_)
  simp [f103, enter, wrap_u64, wrap_u32, IntKind.bits, fdiv_word]
  have e : B = 4294967296 := rfl
  omega
theorem run_Sub32 {x y b : Nat} (hx : x < B) (hy : y < B) (hb : b ≤ 1) : callPure RT 105 [.int .u32 (x : Int), .int .u32 (y : Int), .int .u32 (b : Int)] =
    some (.tup [.int .u32 (((x + 2 * B - y - b) % B : Nat) : Int), .int .u32 ((if x < y + b then 1 else 0 : Nat) : Int)]) := by
  refine callPure_of (wpF_of tab_105 rfl ?_)
  have hlast := borrow_bits hx hy hb rfl
  generalize hd : (x + 2 * B - y - b) % B = d at hlast ⊢
  have hB : B = 4294967296 := rfl
  have e1 : (((x : Int) - y) % 4294967296 - b) % 4294967296 = (d : Int) := by
    rw [hB] at hx hy hd; omega
  have hdB : d < 2 ^ IntKind.u32.bits := by rw [← hd]; exact Nat.mod_lt _ (by decide)
  have hF : (4294967295 : Nat) < 2 ^ 32 := by decide
  have hx' : x < 2 ^ IntKind.u32.bits := hx
  have hy' : y < 2 ^ IntKind.u32.bits := hy
  have hxy : x ^^^ y < 2 ^ IntKind.u32.bits := Nat.xor_lt_two_pow hx' hy'
  have h1 : 4294967295 ^^^ x < 2 ^ IntKind.u32.bits := Nat.xor_lt_two_pow hF hx
  have h2 : 4294967295 ^^^ (x ^^^ y) < 2 ^ IntKind.u32.bits := Nat.xor_lt_two_pow hF hxy
  have h3 : (4294967295 ^^^ x) &&& y < 2 ^ IntKind.u32.bits := Nat.lt_of_le_of_lt Nat.and_le_left h1
  have h4 : (4294967295 ^^^ (x ^^^ y)) &&& d < 2 ^ IntKind.u32.bits := Nat.lt_of_le_of_lt Nat.and_le_left h2
  have hv := Nat.or_lt_two_pow h3 h4
  simp only [f105, enter]
  simp [wrap_u32, e1]
  rw [not_u32 hx]
  simp
  rw [and_nat rfl h1 hy']
  simp
  rw [xor_nat rfl hx' hy']
  simp
  rw [not_u32 hxy]
  simp
  rw [and_nat rfl h2 hdB]
  simp
  rw [or_nat rfl h3 h4]
  simp
  have e2 : Int.fdiv ((((4294967295 ^^^ x) &&& y ||| (4294967295 ^^^ (x ^^^ y)) &&& d : Nat) : Int)) (2 ^ min 31 IntKind.u32.bits) = ((if x < y + b then 1 else 0 : Nat) : Int) := by
    rw [← hlast, Int.fdiv_eq_ediv_of_nonneg _ (by decide)]
    rfl
  simp [e2]

/-! ### Comparing -/
theorem run_isNaN (n : Int) : callPure RT 70 [.int .i64 n] = some (.bool false) := by
  refine callPure_of (wpF_of tab_70 rfl ?_)
  simp [f70, enter]
theorem run_isNaN32 (n : Int) : callPure RT 108 [.int .u32 n] = some (.bool false) := by
  refine callPure_of (wpF_of tab_108 rfl ?_)
  simp [f108, enter]
def cmpI (a b : Int) : Int := if a < b then -1 else if b < a then 1 else 0
theorem run_cmpI (a b : Int) : callPure RT 51 [.int .i64 a, .int .i64 b] = some (.int .i64 (cmpI a b)) := by
  refine callPure_of (wpF_of tab_51 rfl ?_)
  simp [f51, enter, run_isNaN, after_nr]
  unfold cmpI
  by_cases h1 : a < b
  · simp [h1]
  · by_cases h2 : b < a
    · simp [h1, h2]
    · simp [h1, h2]
theorem run_cmp32 (a b : Int) : callPure RT 106 [.int .u32 a, .int .u32 b] = some (.int .i64 (cmpI a b)) := by
  refine callPure_of (wpF_of tab_106 rfl ?_)
  simp [f106, enter, run_isNaN32, after_nr]
  unfold cmpI
  by_cases h1 : a < b
  · simp [h1]
  · by_cases h2 : b < a
    · simp [h1, h2]
    · simp [h1, h2]
end Go.AVM
