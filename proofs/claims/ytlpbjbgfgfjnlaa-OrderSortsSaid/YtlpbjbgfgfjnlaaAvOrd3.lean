/- Orders: comparing. -/
import Derived.Test.YtlpbjbgfgfjnlaaAvOrd2
import Derived.Test.YtlpbjbgfgfjnlaaAvEval
import Derived.KernelRfl
set_option linter.unusedVariables false
set_option linter.unusedSimpArgs false
set_option linter.unusedSectionVars false
namespace Go.AVM
/-- The rows of an order. -/
abbrev OR (o : List (List Int)) : AV := .sl (o.map R8) 8 false
def Rows (o : List (List Int)) : Prop := ∀ w ∈ o, w.length = 8 ∧ Bd 1000 w
/-- What comparing in an order gives. -/
def ordCmp : List (List Int) → List Int → List Int → Int
  | [], a, b => cmpL a b
  | w :: o, a, b => if dotL w a b < 0 then -1 else if 0 < dotL w a b then 1 else ordCmp o a b
theorem dotL_self : ∀ (w a : List Int), dotL w a a = 0
  | [], _ => by simp [dotL]
  | _ :: _, [] => by simp [dotL]
  | w :: ws, a :: as => by simp [dotL, dotL_self ws as]
theorem cmpL_self : ∀ a : List Int, cmpL a a = 0
  | [] => rfl
  | a :: l => by simp [cmpL, cmpL_self l]
theorem ordCmp_self (o : List (List Int)) (a : List Int) : ordCmp o a a = 0 := by
  induction o with
  | nil => exact cmpL_self a
  | cons w o ih => simp [ordCmp, dotL_self, ih]
theorem row_splice {l : List Int} {z : List AV} (h : l.length = 8) (hz : z.length = 8) : splice z 0 (nums .i64 l) = nums .i64 l := by
  unfold splice
  rw [List.drop_eq_nil_of_le (by simp [h, hz])]; simp
set_option maxRecDepth 20000 in
theorem cmp_outer {o : List (List Int)} {a b : List Int} (ho : Rows o) (hol : o.length < 1000000) (ha : a.length = 8) (hb : b.length = 8) (haB : Bd 200000 a) (hbB : Bd 200000 b) {Q : FQ}
    (h1 : ∀ (tm : List AV) (hl : tm.length = 48), tm[4] = .mptr 0 0 8 → tm[5] = .mptr 1 0 8 → ordCmp o a b = cmpL a b → Q (.ex 0) ⟨tm, [.mu (nums .i64 a) true, .mu (nums .i64 b) true]⟩)
    (h2 : ∀ (tm : List AV) (hl : tm.length = 48) (S : Store), tm[6] = .int .i64 (ordCmp o a b) → Q .ret ⟨tm, S⟩) :
    ∀ (m i : Nat), i + m = o.length → ordCmp (o.drop i) a b = ordCmp o a b →
    wpL RT f13_1m 2 f13_1 ⟨[.any, .any, .any, .any, .mptr 0 0 8, .mptr 1 0 8, .any, .any, .any, .any, .any, .any, .any, .any, .any, OR o, .int .i64 (o.length : Int), .int .i64 (i : Int)] ++ List.replicate 30 .any, [.mu (nums .i64 a) true, .mu (nums .i64 b) true]⟩ Q := by
  intro m
  induction m with
  | zero =>
    intro i hi he
    have hi' : i = o.length := by omega
    subst hi'
    rw [wpL_step]
    generalize hK : loopQ RT f13_1m 2 f13_1 Q = K
    simp [f13_1, List.replicate]
    subst hK
    refine h1 _ rfl rfl rfl ?_
    rw [← he]; simp [ordCmp]
  | succ m ih =>
    intro i hi he
    have hi1 : i < o.length := by omega
    rw [List.drop_eq_getElem_cons hi1] at he
    obtain ⟨hwl, hwB⟩ := ho o[i] (List.getElem_mem hi1)
    have hget : o[i]? = some o[i] := List.getElem?_eq_getElem hi1
    generalize o[i] = w at *
    have hw : IntKind.i64.wrap ((i : Int) + 1) = ((i + 1 : Nat) : Int) := wrap_i64 (by omega) (by omega)
    have hlt : (i : Int) < (o.length : Int) := by omega
    rw [wpL_step]
    generalize hK : loopQ RT f13_1m 2 f13_1 Q = K
    have hwl' := hwl
    obtain ⟨w0, w1, w2, w3, w4, w5, w6, w7, rfl⟩ := len8 hwl
    simp [f13_1, List.replicate, hlt, hget, wr, chk, splice, rd]
    simp [head, f13_0m, mask, trunc_len]
    refine dot_loop (S := [.mu (nums .i64 a) true, .mu (nums .i64 b) true, .mu (nums .i64 [w0, w1, w2, w3, w4, w5, w6, w7]) true]) (b4 := 0) (b5 := 1) hwl ha hb hwB haB hbB rfl rfl ?_
    intro tm hl h4 h5 h9 h15 h16 h17
    simp only [ordCmp] at he
    by_cases hn : dotL [w0, w1, w2, w3, w4, w5, w6, w7] a b < 0
    · rw [if_pos hn] at he
      simp [hl, h4, h5, h9, h15, h16, h17, hn]
      subst hK
      refine h2 _ (by simp [hl]) _ ?_
      simp [hl, he]
    · rw [if_neg hn] at he
      by_cases hp : 0 < dotL [w0, w1, w2, w3, w4, w5, w6, w7] a b
      · rw [if_pos hp] at he
        simp [hl, h4, h5, h9, h15, h16, h17, hn, hp]
        subst hK
        refine h2 _ (by simp [hl]) _ ?_
        simp [hl, he]
      · rw [if_neg hp] at he
        simp [hl, h4, h5, h9, h15, h16, h17, hn, hp, hw]
        subst hK
        have := ih (i + 1) (by omega) he
        simp only [loopQ_nrm, head]
        rw [mask_of (n := 48) (by simp [hl])]
        simp [f13_1m, hl, h4, h5, h15, h16, List.range_succ, trunc, lt1, ltc, Blk.lt]
        simpa [f13_1m, List.replicate] using this
theorem eqcs_nums (k : IntKind) : ∀ {a b : List Int}, a.length = b.length → eqcs (some k) (nums k a) (nums k b) = some (decide (a = b))
  | [], [], _ => rfl
  | x :: a, y :: b, h => by
    have ih := eqcs_nums k (a := a) (b := b) (by simpa using h)
    simp [eqcs, eqc, chk, ih]
    by_cases h1 : x = y <;> simp [h1]
theorem run_Cmp {o : List (List Int)} {a b : List Int} (ho : Rows o) (hol : o.length < 1000000) (ha : a.length = 8) (hb : b.length = 8) (haB : Bd 200000 a) (hbB : Bd 200000 b) :
    callPure RT 13 [OR o, R8 a, R8 b] = some (.int .i64 (ordCmp o a b)) := by
  refine callPure_of (wpF_of tab_13 rfl ?_)
  have hab : (nums .i64 a).take 8 = nums .i64 a := List.take_of_length_le (by simp [ha])
  have hbb : (nums .i64 b).take 8 = nums .i64 b := List.take_of_length_le (by simp [hb])
  have he := eqcs_nums .i64 (a := a) (b := b) (by omega)
  by_cases hE : a = b
  · subst hE
    simp [f13, enter, ha, hb, rd, chk, hab, hbb, he, ordCmp_self]
  · simp [f13, enter, ha, hb, rd, chk, hab, hbb, he, hE, head, mask, f13_1m, trunc_len]
    refine cmp_outer ho hol ha hb haB hbB ?_ ?_ o.length 0 (by simp) rfl
    · intro tm hl h4 h5 hc
      simp [hl, h4, h5, rd, ha, hb, chk, hab, hbb, run_mcmp ha hb, after_nr, hc]
    · intro tm hl S h6
      simp [hl, h6]
def gradO : List (List Int) := [[1, 1, 1, 1, 1, 1, 1, 1]]
theorem run_graded : callPure RT 20 [] = some (OR gradO) := pureIs_run (O := noneE) (n := 30) noneE_sound (by kernel_rfl)
def revO : List (List Int) := [[1,1,1,1,1,1,1,1], [0,0,0,0,0,0,0,-1], [0,0,0,0,0,0,-1,0], [0,0,0,0,0,-1,0,0], [0,0,0,0,-1,0,0,0], [0,0,0,-1,0,0,0,0], [0,0,-1,0,0,0,0,0], [0,-1,0,0,0,0,0,0]]
theorem run_reverse : callPure RT 21 [] = some (OR revO) := pureIs_run (O := noneE) (n := 30) noneE_sound (by kernel_rfl)
theorem last_loop {a b : List Int} (ha : a.length = 8) (hb : b.length = 8) {Q : FQ}
    (h1 : ∀ (tm : List AV) (hl : tm.length = 24) (S : Store), cmpL a.reverse b.reverse = 0 → Q (.ex 0) ⟨tm, S⟩)
    (h2 : ∀ (tm : List AV) (hl : tm.length = 24) (S : Store), tm[4] = .int .i64 (-(cmpL a.reverse b.reverse)) → Q .ret ⟨tm, S⟩) :
    ∀ (i : Nat), i ≤ 8 → cmpL (a.take i).reverse (b.take i).reverse = cmpL a.reverse b.reverse →
    wpL RT f18_0m 2 f18_0 ⟨[.any, .any, .mptr 0 0 8, .mptr 1 0 8, .any, .int .i64 ((i : Int) - 1)] ++ List.replicate 18 .any, [.mu (nums .i64 a) true, .mu (nums .i64 b) true]⟩ Q := by
  intro i
  induction i with
  | zero =>
    intro hi he
    rw [wpL_step]
    generalize hK : loopQ RT f18_0m 2 f18_0 Q = K
    simp [f18_0, List.replicate]
    subst hK
    refine h1 _ rfl _ ?_
    rw [← he]; simp [cmpL]
  | succ i ih =>
    intro hi he
    have hi1 : i < a.length := by omega
    have hi2 : i < b.length := by omega
    rw [List.take_add_one, List.take_add_one, List.getElem?_eq_getElem hi1, List.getElem?_eq_getElem hi2] at he
    simp only [Option.toList_some, List.reverse_append, List.reverse_cons, List.reverse_nil, List.nil_append, List.cons_append, cmpL] at he
    have hg1 : a[i]? = some a[i] := List.getElem?_eq_getElem hi1
    have hg2 : b[i]? = some b[i] := List.getElem?_eq_getElem hi2
    generalize a[i] = x at *
    generalize b[i] = y at *
    have hw : IntKind.i64.wrap ((i : Int) - 1) = (i : Int) - 1 := wrap_i64 (by omega) (by omega)
    have hi8 : (i : Int) < 8 := by omega
    rw [wpL_step]
    generalize hK : loopQ RT f18_0m 2 f18_0 Q = K
    have hln : i + 1 ≤ 8 := by omega
    by_cases c1 : x < y
    · rw [if_pos c1] at he
      simp [f18_0, List.replicate, hi8, rd, chk, ha, hb, hln, hg1, hg2, c1]
      subst hK
      refine h2 _ rfl _ ?_
      simp [← he]
    · rw [if_neg c1] at he
      by_cases c2 : y < x
      · rw [if_pos c2] at he
        simp [f18_0, List.replicate, hi8, rd, chk, ha, hb, hln, hg1, hg2, c1, c2]
        subst hK
        refine h2 _ rfl _ ?_
        simp [← he]
      · rw [if_neg c2] at he
        have := ih (by omega) he
        simp [f18_0, List.replicate, hi8, rd, chk, ha, hb, hln, hg1, hg2, c1, c2, hw]
        subst hK
        simp [head, f18_0m, mask, trunc_len]
        simpa [f18_0m, List.replicate] using this
theorem run_last {a b : List Int} (ha : a.length = 8) (hb : b.length = 8) : callPure RT 18 [R8 a, R8 b] = some (.int .i64 (-(cmpL a.reverse b.reverse))) := by
  refine callPure_of (wpF_of tab_18 rfl ?_)
  simp [f18, enter, ha, hb, head, mask, f18_0m, trunc_len]
  refine last_loop ha hb ?_ ?_ 8 (by omega) (by rw [List.take_of_length_le (by omega), List.take_of_length_le (by omega)])
  · intro tm hl S hc
    simp [hl, hc]
  · intro tm hl S h4
    simp [hl, h4]
end Go.AVM
