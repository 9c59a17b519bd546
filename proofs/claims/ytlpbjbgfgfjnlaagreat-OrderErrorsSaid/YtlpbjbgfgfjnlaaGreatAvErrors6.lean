/- Texts joined: AvInd2, AvInd3, AvInd4, AvInd5, AvInd6, AvInd7, AvInd8, AvInd9, AvInd10, AvElim2, AvElim3, AvEx5, AvOrd4, AvOrd5, AvAdm1, AvSort1, AvSort2, AvSort3, AvSort4, AvSort5, AvOrd7, AvFull, AvRo1, AvRo2, AvPerm1, AvRo3, AvRef1, AvRef2, AvRef3, AvRef4, AvRef5, AvRef6, AvRef7. -/
import Derived.Test.YtlpbjbgfgfjnlaaGreatAvErrors5
import Derived.Test.YtlpbjbgfgfjnlaaGreatAvErrors4
import Derived.KernelRfl
set_option linter.unusedVariables false
set_option linter.unusedSimpArgs false
set_option linter.unusedSectionVars false
namespace Go.AVM
theorem bound_ok {k : IntKind} {hi n : Nat} (h : n ≤ hi) : bound hi (.int k (n : Int)) = some n := by
  have : (0 : Int) ≤ (n : Int) ∧ (n : Int) ≤ (hi : Int) := by omega
  simp only [bound]
  rw [chk_pos this]; simp
theorem slc_lo {bl n vl i : Nat} (hn : n ≤ vl) (hi : i ≤ n) : sliceA 1 true false false (.msl bl 0 n 1 vl none) [.int .i64 (i : Int)] = some (.msl bl i (n - i) 1 vl none) := by
  simp only [sliceA, bounds, bound_ok hi, Option.bind_some]
  rw [chk_pos (by simp)]
  rw [chk_pos (by omega)]
  simp [capAt]
theorem slc_hi {bl n vl i : Nat} (hn : n ≤ vl) (hi : i ≤ n) : sliceA 1 false true false (.msl bl 0 n 1 vl none) [.int .i64 (i : Int)] = some (.msl bl 0 i 1 vl none) := by
  have : i ≤ (Option.none.getD ((vl - 0) / 1) : Nat) := by simp; omega
  simp only [sliceA, bounds, bound_ok this, Option.bind_some]
  rw [chk_pos (by simp)]
  rw [chk_pos (by omega)]
  simp [capAt]
theorem slc_lh {bl n vl i j : Nat} (hn : n ≤ vl) (hi : i ≤ j) (hj : j ≤ vl) : sliceA 1 true true false (.msl bl 0 n 1 vl none) [.int .i64 (i : Int), .int .i64 (j : Int)] = some (.msl bl i (j - i) 1 vl none) := by
  have : j ≤ (Option.none.getD ((vl - 0) / 1) : Nat) := by simp; omega
  simp only [sliceA, bounds, bound_ok this, Option.bind_some, bound_ok hi]
  rw [chk_pos (by simp)]
  rw [chk_pos (by omega)]
  simp [capAt]
theorem slc_lhm {bl n vl i j m : Nat} (hn : n ≤ vl) (hi : i ≤ j) (hj : j ≤ m) (hm : m ≤ vl) : sliceA 1 true true true (.msl bl 0 n 1 vl none) [.int .i64 (i : Int), .int .i64 (j : Int), .int .i64 (m : Int)] = some (.msl bl i (j - i) 1 vl (some (m - i))) := by
  have : m ≤ (Option.none.getD ((vl - 0) / 1) : Nat) := by simp; omega
  simp only [sliceA, bounds, bound_ok this, Option.bind_some, bound_ok hi, bound_ok hj]
  rw [chk_pos (by simp)]
  rw [chk_pos (by omega)]
  simp [capAt]
theorem app_in {S : Store} {bl i m o vl : Nat} {cs : List AV} {ex : Bool} (hS : S[bl]? = some (.mu cs ex)) (hl : cs.length = vl) (hm : i + m ≤ vl) (ho : o + m ≤ vl) (hm0 : m ≠ 0) :
    appA 1 24 S (.msl bl 0 i 1 vl none) (.msl bl o m 1 vl none) = some (.msl bl 0 (i + m) 1 vl none, S.set bl (.mu (splice cs i ((cs.drop o).take m)) ex)) := by
  have h1 : held S 1 (.msl bl o m 1 vl none) = some (m, (cs.drop o).take m) := by
    simp only [held]
    rw [chk_pos trivial, rd_mu hS hl (by omega)]; simp
  unfold appA
  rw [h1]
  simp only [Option.bind_some]
  rw [chk_pos trivial, if_neg hm0, if_pos (by omega)]
  rw [wr_mu hS hl (by rw [List.length_take, List.length_drop]; omega)]
  simp
theorem app_in0 {S : Store} {bl i o vl : Nat} {cs : List AV} {ex : Bool} (hS : S[bl]? = some (.mu cs ex)) (hl : cs.length = vl) (ho : o ≤ vl) :
    appA 1 24 S (.msl bl 0 i 1 vl none) (.msl bl o 0 1 vl none) = some (.msl bl 0 i 1 vl none, S) := by
  have h1 : held S 1 (.msl bl o 0 1 vl none) = some (0, (cs.drop o).take 0) := by
    simp only [held]
    rw [chk_pos trivial, rd_mu hS hl (by omega)]; simp
  unfold appA
  rw [h1]
  simp only [Option.bind_some]
  rw [chk_pos trivial, if_pos trivial]
theorem run_Delete {S : Store} {bl n vl i : Nat} {cs : List AV} {ex : Bool} (hS : S[bl]? = some (.mu cs ex)) (hl : cs.length = vl) (hn : n ≤ vl) (hi : i < n) (hv : vl < 1000000) :
    wpF RT 56 [.msl bl 0 n 1 vl none, .int .i64 (i : Int), .int .i64 ((i + 1 : Nat) : Int)] S fun r S' => r = .msl bl 0 (n - 1) 1 vl none ∧ S'.length = S.length ∧ (∀ b, b ≠ bl → S'[b]? = S[b]?) ∧ ∃ cs', S'[bl]? = some (.mu cs' ex) ∧ cs'.length = vl ∧ cs'.take (n - 1) = (cs.take n).eraseIdx i := by
  have hlt := lt_of_get hS
  have hne : ¬ (i : Int) = (i : Int) + 1 := by omega
  have s1 := slc_lhm (bl := bl) hn (i := i) (j := i + 1) (m := n) (by omega) (by omega) hn
  have s2 := slc_hi (bl := bl) hn (i := i) (by omega)
  have s3 := slc_lo (bl := bl) hn (i := i + 1) (by omega)
  have s4 := slc_lh (bl := bl) (n := n - 1) (i := n - 1) (j := n) (vl := vl) (by omega) (by omega) hn
  have hn1 : n - (n - 1) = 1 := by omega
  rw [hn1] at s4
  have hgoal : ∀ cs2 : List AV, cs2.length = vl → cs2.take (n - 1) = (cs.take n).eraseIdx i →
      (splice cs2 (n - 1) [AV.sl [] 1 true]).length = vl := by
    intro cs2 h1 h2
    unfold splice
    simp; omega
  -- what the appending gives
  obtain ⟨cs2, happ, hc2, ht2⟩ : ∃ cs2, (appA 1 24 S (.msl bl 0 i 1 vl none) (.msl bl (i + 1) (n - (i + 1)) 1 vl none) = some (.msl bl 0 (n - 1) 1 vl none, S.set bl (.mu cs2 ex))) ∧ cs2.length = vl ∧ cs2.take (n - 1) = (cs.take n).eraseIdx i := by
    by_cases h0 : n - (i + 1) = 0
    · refine ⟨cs, ?_, hl, ?_⟩
      · rw [h0, app_in0 hS hl (by omega)]
        have : i = n - 1 := by omega
        have hset : S.set bl (.mu cs ex) = S := by
          apply List.ext_getElem?
          intro b
          by_cases hb : b = bl
          · subst hb; rw [List.getElem?_set_self hlt, hS]
          · rw [List.getElem?_set_ne (by omega)]
        rw [hset, this]
      · have : i = n - 1 := by omega
        rw [this, List.eraseIdx_eq_take_drop_succ, List.take_take, List.drop_of_length_le (by simp; omega)]
        simp
    · refine ⟨splice cs i ((cs.drop (i + 1)).take (n - (i + 1))), ?_, ?_, ?_⟩
      · have e : i + (n - (i + 1)) = n - 1 := by omega
        have := app_in hS hl (i := i) (m := n - (i + 1)) (o := i + 1) (by omega) (by omega) h0
        rw [e] at this
        exact this
      · unfold splice; simp; omega
      · unfold splice
        rw [List.eraseIdx_eq_take_drop_succ, List.take_take, List.drop_take]
        have e1 : (cs.take i).length = i := by rw [List.length_take]; omega
        have e2 : ((cs.drop (i + 1)).take (n - (i + 1))).length = n - (i + 1) := by rw [List.length_take, List.length_drop]; omega
        rw [List.take_append, e1, List.take_append, e2, List.take_of_length_le (l := cs.take i) (by omega), List.take_of_length_le (l := (cs.drop (i + 1)).take (n - (i + 1))) (by omega)]
        have e3 : n - 1 - i - (n - (i + 1)) = 0 := by omega
        rw [e3, List.take_zero, List.append_nil]
        congr 1
        rw [Nat.min_eq_left (by omega)]
  have hS2 : (S.set bl (.mu cs2 ex))[bl]? = some (.mu cs2 ex) := set_get hlt
  have hwr := wr_mu (vs := [AV.sl [] 4 true]) (off := n - 1) hS2 hc2 (by simp; omega)
  rw [List.set_set] at hwr
  refine wpF_of tab_56 rfl ?_
  have hfin : (∀ b, b ≠ bl → (S.set bl (Blk.mu (splice cs2 (n - 1) [AV.sl [] 4 true]) ex))[b]? = S[b]?) := fun b hb => List.getElem?_set_ne (by omega)
  have hlen : (splice cs2 (n - 1) [AV.sl [] 4 true]).length = vl := by unfold splice; simp; omega
  have htk : (splice cs2 (n - 1) [AV.sl [] 4 true]).take (n - 1) = (cs.take n).eraseIdx i := by
    rw [← ht2]; unfold splice
    have e1 : (cs2.take (n - 1)).length = n - 1 := by rw [List.length_take]; omega
    rw [List.take_append, e1, Nat.sub_self, List.take_zero, List.append_nil, List.take_take, Nat.min_self]
  clear hgoal
  simp only [Int.natCast_add, Int.natCast_one] at s1 s3
  have hn2 : n - i - 1 = n - (i + 1) := by omega
  have hclr : opA RT (K.clr 1 [AV.sl [] 4 true]) [AV.msl bl (n - 1) 1 1 vl none] (S.set bl (.mu cs2 ex)) = some (.tup [], S.set bl (Blk.mu (splice cs2 (n - 1) [AV.sl [] 4 true]) ex)) := by
    show chk _ _ = _
    rw [chk_pos ⟨rfl, rfl⟩]
    show Option.bind (wr (S.set bl (.mu cs2 ex)) bl (n - 1) vl [AV.sl [] 4 true]) _ = _
    rw [hwr]; rfl
  simp [f56, enter, hclr, hne, s1, s2, s3, happ, s4, hwr]
  exact ⟨hfin, _, set_get hlt, hlen, htk⟩
def qc (q : Rat) : List AV := Zc q.num ++ Zc (q.den : Int)
theorem qc_nr (q : Rat) : (qc q).all nrc = true := rfl
theorem qc_fz (q : Rat) (S : Store) : (qc q).mapM (fzc S 5) = some (qc q) := rfl
def qcells (l : List Rat) : List AV := l.flatMap qc
theorem QR_qc (q : Rat) : QR q = .agg (qc q) := rfl
theorem qc_len (q : Rat) : (qc q).length = 4 := rfl
theorem qcells_len : ∀ (l : List Rat), (qcells l).length = 4 * l.length
  | [] => rfl
  | q :: l => by
    have := qcells_len l
    unfold qcells at this ⊢
    rw [List.flatMap_cons, List.length_append, this, qc_len, List.length_cons]; omega
theorem qcells_append (a b : List Rat) : qcells (a ++ b) = qcells a ++ qcells b := by
  unfold qcells; rw [List.flatMap_append]
theorem qcells_cons (q : Rat) (l : List Rat) : qcells (q :: l) = qc q ++ qcells l := rfl
theorem qcells_split {l : List Rat} {n : Nat} (h : n < l.length) : qcells l = qcells (l.take n) ++ (qc l[n] ++ qcells (l.drop (n + 1))) := by
  conv => lhs; rw [← List.take_append_drop n l, List.drop_eq_getElem_cons h]
  rw [qcells_append, qcells_cons]
theorem qtake_len {l : List Rat} {n : Nat} (h : n < l.length) : (qcells (l.take n)).length = 4 * n := by
  rw [qcells_len, List.length_take, Nat.min_eq_left (Nat.le_of_lt h)]
theorem rd_q {S : Store} {b : Nat} {l : List Rat} {ex : Bool} {n vl : Nat} (hS : S[b]? = some (.mu (qcells l) ex)) (hl : 4 * l.length = vl) (h : n < l.length) : rd S b (n * 4) vl 4 = some (qc l[n]) := by
  rw [rd_mu hS (by rw [qcells_len]; exact hl) (by omega), qcells_split h]
  congr 1
  have e : n * 4 = (qcells (l.take n)).length := by rw [qtake_len h]; omega
  rw [e, List.drop_left, List.take_append_of_le_length (by rw [qc_len]; exact Nat.le_refl _), List.take_of_length_le (by rw [qc_len]; exact Nat.le_refl _)]
theorem wr_q {S : Store} {b : Nat} {l : List Rat} {ex : Bool} {n vl : Nat} {q : Rat} (hS : S[b]? = some (.mu (qcells l) ex)) (hl : 4 * l.length = vl) (h : n < l.length) : wr S b (n * 4) vl (qc q) = some (S.set b (.mu (qcells (l.set n q)) ex)) := by
  rw [wr_mu hS (by rw [qcells_len]; exact hl) (by rw [qc_len]; omega)]
  congr 3
  have e : n * 4 = (qcells (l.take n)).length := by rw [qtake_len h]; omega
  have e2 : (n + 1) * 4 = (qcells (l.take n ++ [l[n]])).length := by rw [qcells_append, List.length_append, ← e, qcells_cons, List.length_append, qc_len]; simp [qcells]; omega
  unfold splice
  rw [qc_len]
  have e3 : n * 4 + 4 = (n + 1) * 4 := by omega
  rw [e3]
  conv => lhs; rw [qcells_split h]
  have e4 : qcells (l.take n) ++ (qc l[n] ++ qcells (l.drop (n + 1))) = qcells (l.take n ++ [l[n]]) ++ qcells (l.drop (n + 1)) := by
    rw [qcells_append, qcells_cons]; simp [qcells]
  conv => lhs; arg 2; arg 2; rw [e4, e2, List.drop_left]
  conv => lhs; arg 1; rw [e, List.take_left]
  rw [List.set_eq_take_append_cons_drop, if_pos h, qcells_append, qcells_cons]
def lessRow (c : Rat) (p l : List Rat) : List Rat := List.zipWith (fun x y => x - c * y) l p
def partRow (c : Rat) (p l : List Rat) (n : Nat) : List Rat := (lessRow c p l).take n ++ l.drop n
theorem lessRow_len {c : Rat} {p l : List Rat} {n : Nat} (hl : l.length = n) (hp : p.length = n) : (lessRow c p l).length = n := by simp [lessRow, hl, hp]
theorem partRow_len {c : Rat} {p l : List Rat} {m n : Nat} (hl : l.length = m) (hp : p.length = m) (hn : n ≤ m) : (partRow c p l n).length = m := by
  simp [partRow, lessRow_len hl hp, hl]; omega
theorem partRow_get {c : Rat} {p l : List Rat} {m n : Nat} (hl : l.length = m) (hp : p.length = m) (hn : n < m) : (partRow c p l n)[n]'(by rw [partRow_len hl hp (by omega)]; exact hn) = l[n] := by
  unfold partRow
  rw [List.getElem_append_right (by simp [lessRow_len hl hp]; omega)]
  simp [lessRow_len hl hp]
  congr 1; omega
theorem partRow_set {c : Rat} {p l : List Rat} {m n : Nat} (hl : l.length = m) (hp : p.length = m) (hn : n < m) : (partRow c p l n).set n (l[n] - c * p[n]) = partRow c p l (n + 1) := by
  have hL := lessRow_len (c := c) hl hp
  unfold partRow
  have e : ((lessRow c p l).take n).length = n := by rw [List.length_take, hL]; omega
  rw [List.set_append_right _ _ (by omega), e, Nat.sub_self, List.drop_eq_getElem_cons (by omega : n < l.length), List.set_cons_zero]
  rw [List.take_succ_eq_append_getElem (by omega), List.append_assoc]
  simp [lessRow]
theorem partRow_full {c : Rat} {p l : List Rat} {m : Nat} (hl : l.length = m) (hp : p.length = m) : partRow c p l m = lessRow c p l := by
  unfold partRow
  rw [List.take_of_length_le (by rw [lessRow_len hl hp]; exact Nat.le_refl _), List.drop_of_length_le (by omega), List.append_nil]
set_option maxRecDepth 20000 in
theorem ind_row {l p : List Rat} {c : Rat} (hl : l.length = 8) (hp : p.length = 8) {K : Nat} (hRl : ∀ q ∈ l, RB q K) (hRp : ∀ q ∈ p, RB q K) (hRc : RB c (2 * K)) (hK : 64 * K ≤ Lim)
    {S0 : Store} {base lb pb cb : Nat} {exl exp exc : Bool} (hlb : lb < base) (hpb : pb < base) (hcb : cb < base) (hne1 : pb ≠ lb) (hne2 : cb ≠ lb)
    (hSp : S0[pb]? = some (.mu (qcells p) exp)) (hSc : S0[cb]? = some (.mu (qc c) exc)) {v3 v9 v38 v55 v56 v57 : AV} {Q : FQ}
    (h1 : ∀ (tm : List AV) (ht : tm.length = 95) (S' : Store), tm[3] = v3 → tm[9] = v9 → tm[11] = .msl pb 0 8 4 32 none → tm[38] = v38 → tm[55] = v55 → tm[56] = v56 → tm[57] = v57 →
      S'[lb]? = some (.mu (qcells (lessRow c p l)) exl) → (∀ b, b < base → b ≠ lb → S'[b]? = S0[b]?) → Q (.ex 8) ⟨tm, S'⟩) :
    ∀ (m n : Nat), n + m = 8 → ∀ (S : Store), S[lb]? = some (.mu (qcells (partRow c p l n)) exl) → (∀ b, b < base → b ≠ lb → S[b]? = S0[b]?) →
    wpL RT f45_2m base f45_2 ⟨[.any, .any, .any, v3, .any, .any, .any, .any, .any, v9, .any, .msl pb 0 8 4 32 none, .any, .msl lb 0 8 4 32 none, .mptr cb 0 4] ++ List.replicate 23 .any ++ [v38] ++ List.replicate 16 .any ++ [v55, v56, v57] ++ List.replicate 16 .any ++ [.int .i64 8, .int .i64 (n : Int)] ++ List.replicate 19 .any, S⟩ Q := by
  intro m
  induction m with
  | zero =>
    intro n hn S hS hk
    have hn' : n = 8 := by omega
    subst hn'
    rw [partRow_full hl hp] at hS
    rw [wpL_step]
    generalize hK' : loopQ RT f45_2m base f45_2 Q = KK
    simp [f45_2, List.replicate]
    subst hK'
    exact h1 _ rfl S rfl rfl rfl rfl rfl rfl rfl hS hk
  | succ m ih =>
    intro n hn S hS hk
    have hn8 : n < 8 := by omega
    have hlt : (n : Int) < 8 := by omega
    have hw : IntKind.i64.wrap ((n : Int) + 1) = ((n + 1 : Nat) : Int) := wrap_i64 (by omega) (by omega)
    have hpl := partRow_len (c := c) hl hp (n := n) (by omega)
    have r1 := rd_q (n := n) (vl := 32) hS (by omega) (by omega)
    rw [partRow_get hl hp hn8] at r1
    have hSp' : S[pb]? = some (.mu (qcells p) exp) := by rw [hk pb hpb hne1]; exact hSp
    have hSc' : S[cb]? = some (.mu (qc c) exc) := by rw [hk cb hcb hne2]; exact hSc
    have r2 := rd_q (n := n) (vl := 32) hSp' (by omega) (by omega)
    have r3 : rd S cb 0 4 4 = some (qc c) := by rw [rd_mu (vl := 4) hSc' rfl (by omega)]; rfl
    have hRpn := hRp p[n] (List.getElem_mem (by omega))
    have hRln := hRl l[n] (List.getElem_mem (by omega))
    have m1 := run_rMul (a := c) (b := p[n]) (k := 2 * K) hRc (hRpn.mono (by omega)) (by omega)
    have hm := RB.mul hRc (hRpn.mono (l := 2 * K) (by omega))
    have m2 := run_rSub (a := l[n]) (b := c * p[n]) (k := 4 * K) (hRln.mono (by omega)) (hm.mono (by omega)) (by have : Lim = 1099511627776 := rfl; omega)
    have w1 := wr_q (n := n) (vl := 32) (q := l[n] - c * p[n]) hS (by omega) (by omega)
    rw [partRow_set hl hp hn8] at w1
    have hih := ih (n + 1) (by omega)
    rw [QR_qc, QR_qc] at m1 m2
    rw [QR_qc] at m1 m2
    have g1 := qc_nr c
    have g2 := qc_nr p[n]
    have g3 := qc_nr l[n]
    have g4 := qc_nr (c * p[n])
    have f1 := qc_fz c S
    have f2 := qc_fz p[n] S
    have f3 := qc_fz l[n] S
    have f4 := qc_fz (c * p[n]) S
    have q1 := qc_len c
    have q2 := qc_len p[n]
    have q3 := qc_len l[n]
    have q4 := qc_len (l[n] - c * p[n])
    generalize qc (l[n] - c * p[n]) = z at *
    generalize qc (c * p[n]) = y at *
    generalize qc l[n] = x1 at *
    generalize qc p[n] = x2 at *
    generalize qc c = x3 at *
    rw [wpL_step]
    generalize hK' : loopQ RT f45_2m base f45_2 Q = KK
    simp [f45_2, List.replicate, hlt, r1, r2, r3, m1, m2, w1, hw, f1, f2, f3, f4, after_nr, nr1, g1, g2, g3, g4, q1, q2, q3, q4]
    subst hK'
    simp [head, f45_2m, mask]
    have hltS : lb < S.length := lt_of_get hS
    have key : ∀ vs X, (trunc base vs (S.set lb X))[lb]? = some X ∧ ∀ b, b < base → b ≠ lb → (trunc base vs (S.set lb X))[b]? = S0[b]? := fun vs X =>
      ⟨by rw [trunc_get (.inl hlb), set_get hltS], fun b hb hn => by rw [trunc_get (.inl hb), List.getElem?_set_ne (by omega), hk b hb hn]⟩
    generalize hT : trunc base _ (S.set lb _) = S2
    simpa [f45_2m, List.replicate] using hih S2 (by rw [← hT]; exact (key _ _).1) (by rw [← hT]; exact (key _ _).2)
def rowAV (b : Nat) : AV := .msl b 0 8 4 32 none
structure RowsAt (S : Store) (rb : List Nat) (rows : List (List Rat)) : Prop where
  len : rb.length = rows.length
  at' : ∀ (i b : Nat) (l : List Rat), rb[i]? = some b → rows[i]? = some l → S[b]? = some (.mu (qcells l) false)
def clearRow (k : Nat) (p l : List Rat) : List Rat := lessRow (l.getD k 0 / p.getD k 0) p l
def partRows (k : Nat) (p : List Rat) (rows : List (List Rat)) (n : Nat) : List (List Rat) := (rows.map (clearRow k p)).take n ++ rows.drop n
theorem partRows_len {k : Nat} {p : List Rat} {rows : List (List Rat)} {n : Nat} (h : n ≤ rows.length) : (partRows k p rows n).length = rows.length := by
  simp [partRows]; omega
theorem partRows_get {k : Nat} {p : List Rat} {rows : List (List Rat)} {n i : Nat} (h : n ≤ rows.length) : (partRows k p rows n)[i]? = if i < n then (rows[i]?).map (clearRow k p) else rows[i]? := by
  unfold partRows
  have e : ((rows.map (clearRow k p)).take n).length = n := by rw [List.length_take, List.length_map]; omega
  by_cases hi : i < n
  · rw [if_pos hi, List.getElem?_append_left (by omega), List.getElem?_take, if_pos hi, List.getElem?_map]
  · rw [if_neg hi, List.getElem?_append_right (by omega), e, List.getElem?_drop]
    congr 1; omega
theorem rd_rowAV {S : Store} {lb : Nat} {lcs : List AV} {rb : List Nat} {vl i b : Nat} (hS : S[lb]? = some (.mu lcs false)) (hl : lcs.length = vl) (ht : lcs.take rb.length = rb.map rowAV) (hb : rb[i]? = some b) : rd S lb i vl 1 = some [rowAV b] := by
  have hi : i < rb.length := (List.getElem?_eq_some_iff.1 hb).1
  have hn : rb.length ≤ vl := by
    have := congrArg List.length ht
    rw [List.length_take, List.length_map] at this; omega
  have h1 : lcs[i]? = some (rowAV b) := by
    have : (lcs.take rb.length)[i]? = some (rowAV b) := by rw [ht, List.getElem?_map, hb]; rfl
    rw [List.getElem?_take, if_pos hi] at this; exact this
  rw [rd_mu hS hl (by omega)]
  obtain ⟨hlt, h2⟩ := List.getElem?_eq_some_iff.1 h1
  rw [List.drop_eq_getElem_cons hlt, h2]; rfl
set_option maxRecDepth 20000 in
theorem ind_rows {rows : List (List Rat)} {p : List Rat} {k : Nat} (hk8 : k < 8) (hr8 : ∀ l ∈ rows, l.length = 8) (hp : p.length = 8) (hpk : p.getD k 0 ≠ 0) {K : Nat} (hRr : ∀ l ∈ rows, ∀ q ∈ l, RB q K) (hRp : ∀ q ∈ p, RB q K) (hK : 64 * K ≤ Lim) (hK1 : 1 ≤ K)
    {base lb pb kb vl : Nat} {rb : List Nat} {lcs : List AV} {exk : Bool} (hlb : lb < base) (hpb : pb < base) (hkb : kb < base) (hrb : ∀ b ∈ rb, b < base) (hnd : rb.Nodup) (hpn : pb ∉ rb) (hkn : kb ∉ rb) (hln : lb ∉ rb)
    (hlcs : lcs.length = vl) (hlt : lcs.take rb.length = rb.map rowAV) (hlen : rb.length = rows.length) (hrl : rows.length < 1000000) {Q : FQ}
    (h1 : ∀ (tm : List AV) (ht : tm.length = 95) (S' : Store), tm[3] = .msl lb 0 rb.length 1 vl none → tm[38] = .int .i64 (k : Int) →
      S'[lb]? = some (.mu lcs false) → RowsAt S' rb (rows.map (clearRow k p)) → Q (.ex 6) ⟨tm, S'⟩) :
    ∀ (m n : Nat), n + m = rows.length → ∀ (S : Store), S[lb]? = some (.mu lcs false) → S[pb]? = some (.mu (qcells p) false) → S[kb]? = some (.mu [.int .i64 (k : Int)] exk) → RowsAt S rb (partRows k p rows n) →
    wpL RT f45_3m base f45_3 ⟨[.any, .any, .any, .msl lb 0 rb.length 1 vl none, .any, .any, .any, .any, .any, .mptr kb 0 1, .any, .msl pb 0 8 4 32 none] ++ List.replicate 26 .any ++ [.int .i64 (k : Int)] ++ List.replicate 16 .any ++ [.msl lb 0 rb.length 1 vl none, .int .i64 (rows.length : Int), .int .i64 (n : Int)] ++ List.replicate 37 .any, S⟩ Q := by
  intro m
  induction m with
  | zero =>
    intro n hn S hS1 hS2 hS3 hR
    have hn' : n = rows.length := by omega
    subst hn'
    have e : partRows k p rows rows.length = rows.map (clearRow k p) := by
      unfold partRows
      rw [List.take_of_length_le (by simp), List.drop_of_length_le (Nat.le_refl _), List.append_nil]
    rw [e] at hR
    rw [wpL_step]
    generalize hK' : loopQ RT f45_3m base f45_3 Q = KK
    simp [f45_3, List.replicate]
    subst hK'
    exact h1 _ rfl S rfl rfl hS1 hR
  | succ m ih =>
    intro n hn S hS1 hS2 hS3 hR
    have hn1 : n < rows.length := by omega
    have hlt' : (n : Int) < (rows.length : Int) := by omega
    have hw : IntKind.i64.wrap ((n : Int) + 1) = ((n + 1 : Nat) : Int) := wrap_i64 (by omega) (by omega)
    have hvl : rb.length ≤ vl := by
      have := congrArg List.length hlt
      rw [List.length_take, List.length_map] at this; omega
    have hb := List.getElem?_eq_getElem (l := rb) (i := n) (by omega)
    have hbm : rb[n] ∈ rb := List.getElem_mem _
    have hr := List.getElem?_eq_getElem hn1
    have hrm : rows[n] ∈ rows := List.getElem_mem _
    have hrow := hR.at' n rb[n] rows[n] hb (by rw [partRows_get (by omega), if_neg (by omega), hr])
    have hl8 := hr8 _ hrm
    have hRl := hRr _ hrm
    have rd1 := rd_rowAV hS1 hlcs hlt hb
    have hinj : ∀ i, rb[i]? = some rb[n] → i = n := fun i hi => by
      obtain ⟨hi1, hi2⟩ := List.getElem?_eq_some_iff.1 hi
      rcases Nat.lt_trichotomy i n with h | h | h
      · exact absurd hi2 (List.pairwise_iff_getElem.1 hnd i n hi1 (by omega) h)
      · exact h
      · exact absurd hi2.symm (List.pairwise_iff_getElem.1 hnd n i (by omega) hi1 h)
    have hset : ∀ S', S'[rb[n]]? = some (.mu (qcells (clearRow k p rows[n])) false) → (∀ b, b ∈ rb → b ≠ rb[n] → S'[b]? = S[b]?) → RowsAt S' rb (partRows k p rows (n + 1)) := fun S' hs1 hs2 => by
      refine ⟨by rw [partRows_len (by omega)]; exact hlen, fun i b l hib hil => ?_⟩
      rw [partRows_get (by omega)] at hil
      by_cases hi : i = n
      · subst hi
        rw [if_pos (by omega), hr] at hil
        rw [hb] at hib
        cases hib; cases hil; exact hs1
      · have hbn : b ≠ rb[n] := fun hc => hi (hinj i (by rw [hib, hc]))
        rw [hs2 b (List.mem_of_getElem? hib) hbn]
        refine hR.at' i b l hib ?_
        rw [partRows_get (by omega)]
        by_cases hi2 : i < n
        · rw [if_pos hi2]; rw [if_pos (by omega)] at hil; exact hil
        · rw [if_neg hi2]; rw [if_neg (by omega)] at hil; exact hil
    have hbb : rb[n] < base := hrb _ hbm
    have hrS : ∀ b, b ∈ rb → b < S.length := fun b hb => by
      obtain ⟨i, hi, he⟩ := List.getElem_of_mem hb
      have hi2 : i < (partRows k p rows n).length := by rw [← hR.len]; exact hi
      exact lt_of_get (hR.at' i b _ (by rw [← he]; exact List.getElem?_eq_getElem hi) (List.getElem?_eq_getElem hi2))
    have n1 : pb ≠ rb[n] := fun h => hpn (h ▸ hbm)
    have n2 : kb ≠ rb[n] := fun h => hkn (h ▸ hbm)
    have n3 : lb ≠ rb[n] := fun h => hln (h ▸ hbm)
    have hih := ih (n + 1) (by omega)
    clear ih hR hinj hb hbm
    unfold clearRow at hset
    generalize rb[n] = b at *
    generalize rows[n] = l at *
    have hlk : l.getD k 0 = l[k]'(by omega) := by rw [List.getD_eq_getElem?_getD, List.getElem?_eq_getElem (by omega)]; rfl
    have hpk' : p.getD k 0 = p[k]'(by omega) := by rw [List.getD_eq_getElem?_getD, List.getElem?_eq_getElem (by omega)]; rfl
    have hRa : RB (l.getD k 0) K := by rw [hlk]; exact hRl _ (List.getElem_mem _)
    have hRb : RB (p.getD k 0) K := by rw [hpk']; exact hRp _ (List.getElem_mem _)
    have hLim : Lim = 1099511627776 := rfl
    have d1 := run_rDiv hRa hRb (by omega) hpk
    have hRc := RB.div hRa hRb
    have l1 := rd_app (x := .mu [.bool false, .sl [] 1 true, .bool false, .sl [] 1 true] true) (off := 0) (vl := 1) (n := 1) (lt_of_get hS3)
    have l2 := rd_app (x := .mu [.bool false, .sl [] 1 true, .bool false, .sl [] 1 true] true) (off := k * 4) (vl := 32) (n := 4) (lt_of_get hrow)
    have l3 := rd_app (x := .mu [.bool false, .sl [] 1 true, .bool false, .sl [] 1 true] true) (off := k * 4) (vl := 32) (n := 4) (lt_of_get hS2)
    rw [rd_mu (vl := 1) (off := 0) (n := 1) hS3 rfl (by omega)] at l1
    rw [rd_q hrow (by omega) (by omega), ← hlk] at l2
    rw [rd_q hS2 (by omega) (by omega), ← hpk'] at l3
    have hkk : (k : Int) < 8 := by omega
    have row := fun (Q : FQ) => ind_row (Q := Q) (l := l) (p := p) (c := l.getD k 0 / p.getD k 0) hl8 hp hRl hRp hRc hK (S0 := S ++ [.mu (qc (l.getD k 0 / p.getD k 0)) true]) (base := S.length + 1) (lb := b) (pb := pb) (cb := S.length) (exl := false) (exp := false) (exc := true)
      (Nat.lt_succ_of_lt (lt_of_get hrow)) (Nat.lt_succ_of_lt (lt_of_get hS2)) (Nat.lt_succ_self _) n1 (Nat.ne_of_gt (lt_of_get hrow)) (by rw [get_app (lt_of_get hS2)]; exact hS2) get_last
      (v3 := .msl lb 0 rb.length 1 vl none) (v9 := .mptr kb 0 1) (v38 := .int .i64 (k : Int)) (v55 := .msl lb 0 rb.length 1 vl none) (v56 := .int .i64 (rows.length : Int)) (v57 := .int .i64 (n : Int))
    rw [QR_qc, QR_qc, QR_qc] at d1
    have f1 := qc_fz (l.getD k 0) (S ++ [.mu [.bool false, .sl [] 1 true, .bool false, .sl [] 1 true] true])
    have f2 := qc_fz (p.getD k 0) (S ++ [.mu [.bool false, .sl [] 1 true, .bool false, .sl [] 1 true] true])
    have g1 := qc_nr (l.getD k 0)
    have g2 := qc_nr (p.getD k 0)
    have q1 := qc_len (l.getD k 0)
    have q2 := qc_len (p.getD k 0)
    have q3 := qc_len (l.getD k 0 / p.getD k 0)
    generalize l.getD k 0 / p.getD k 0 = c at *
    generalize l.getD k 0 = a at *
    generalize p.getD k 0 = a' at *
    generalize qc c = cc at *
    generalize qc a = ac at *
    generalize qc a' = ac' at *
    have hbS := lt_of_get hrow
    have hpS := lt_of_get hS2
    have hkS := lt_of_get hS3
    have hlS := lt_of_get hS1
    rw [wpL_step]
    generalize hK' : loopQ RT f45_3m base f45_3 Q = KK
    simp [f45_3, List.replicate, hlt', rd1, hlen, rowAV, hkk, l1, l2, l3, d1, f1, f2, after_nr, nr1, g1, g2, q1, q2, q3, chk, splice]
    have hT : ∀ vs, trunc (S.length + 1) vs (S ++ [.mu cc true]) = S ++ [.mu cc true] := fun vs => trunc_len (by simp)
    simp [head, f45_2m, mask, hT]
    rw [hlen] at row
    have r2 := fun Q h => row Q h 8 0 rfl (S ++ [.mu cc true]) (by rw [get_app hbS]; exact hrow) (fun _ _ _ => rfl)
    clear row
    simp only [List.replicate, List.cons_append, List.nil_append, Int.natCast_zero] at r2
    refine r2 _ ?_
    intro tm ht S' t3 t9 t11 t38 t55 t56 t57 hs1 hs2
    simp [ht, t3, t9, t11, t38, t55, t56, t57, hw]
    subst hK'
    simp only [loopQ_nrm, head]
    rw [mask_of (n := 95) (by simp [ht])]
    simp [f45_3m, ht, t3, t9, t11, t38, t55, t56, t57, List.range_succ]
    generalize hT2 : trunc base _ S' = S2
    have k1 : ∀ b0, b0 < base → b0 < S.length → b0 ≠ b → S2[b0]? = S[b0]? := fun b0 h1 h2 h3 => by
      rw [← hT2, trunc_get (.inl h1), hs2 b0 (by omega) h3, get_app h2]
    have k2 : S2[b]? = some (.mu (qcells (lessRow c p l)) false) := by rw [← hT2, trunc_get (.inl hbb), hs1]
    have r3 := hih S2 (by rw [k1 lb hlb hlS n3]; exact hS1) (by rw [k1 pb hpb hpS n1]; exact hS2) (by rw [k1 kb hkb hkS n2]; exact hS3) (hset S2 k2 fun b' h1 h2 => k1 b' (hrb b' h1) (hrS b' h1) h2)
    simpa [f45_3m, List.replicate, hlen] using r3
theorem idxG_eq {α : Type} (p : α → Bool) : ∀ (l : List α) (n : Nat), idxG p l n = match l.findIdx? p with | none => -1 | some i => ((n + i : Nat) : Int)
  | [], n => rfl
  | a :: l, n => by
    rw [idxG, List.findIdx?_cons]
    cases h : p a with
    | true => simp
    | false =>
      rw [if_neg (by simp), idxG_eq p l (n + 1)]
      cases l.findIdx? p with
      | none => simp
      | some i =>
        show ((n + 1 + i : Nat) : Int) = ((n + (i + 1) : Nat) : Int)
        congr 1; omega
def indR : Nat → Nat → List (List Rat) → Bool
  | 0, _, _ => true
  | m + 1, k, rows => match rows.findIdx? (qnz k) with
    | none => false
    | some i => indR m (k + 1) ((rows.eraseIdx i).map (clearRow k (rows.getD i [])))
theorem qcells_fz (S : Store) (f : Nat) : ∀ (l : List Rat), (qcells l).mapM (fzc S f) = some (qcells l)
  | [] => rfl
  | q :: l => by
    rw [qcells_cons, List.mapM_append, qcells_fz S f l]
    have : (qc q).mapM (fzc S f) = some (qc q) := by cases f <;> rfl
    rw [this]; rfl
theorem qcells_chunk : ∀ (l : List Rat), chunk 4 l.length (qcells l) = l.map QR
  | [] => rfl
  | q :: l => by
    rw [List.length_cons, chunk, if_neg (by decide), qcells_cons]
    have h1 : (qc q ++ qcells l).take 4 = qc q := List.take_left' (qc_len q)
    have h2 : (qc q ++ qcells l).drop 4 = qcells l := List.drop_left' (qc_len q)
    rw [h1, h2, qcells_chunk l, List.map_cons, QR_qc]
theorem fz_row {S : Store} {b f : Nat} {l : List Rat} {ex : Bool} (hS : S[b]? = some (.mu (qcells l) ex)) (hl : l.length = 8) : fzc S (f + 1) (rowAV b) = some (QRow l) := by
  have e : (qcells l).length = 32 := by rw [qcells_len, hl]
  unfold rowAV
  rw [fzc, rd_mu hS e (by omega)]
  simp only [Option.bind_some, List.drop_zero]
  rw [List.take_of_length_le (by omega), qcells_fz]
  have := qcells_chunk l
  rw [hl] at this
  simp only [Option.bind_some, this]; rfl
theorem mapM_each {α β : Type} {f : α → Option β} : ∀ {l : List α} {r : List β}, l.length = r.length → (∀ (i : Nat) (a : α) (b : β), l[i]? = some a → r[i]? = some b → f a = some b) → l.mapM f = some r
  | [], [], _, _ => rfl
  | a :: l, b :: r, hl, h => by
    have h0 := h 0 a b rfl rfl
    have := mapM_each (l := l) (r := r) (by simpa using hl) fun i x y hx hy => h (i + 1) x y (by simpa using hx) (by simpa using hy)
    rw [List.mapM_cons, h0, this]; rfl
theorem chunk_one : ∀ (l : List AV), chunk 1 l.length l = l
  | [] => rfl
  | a :: l => by
    rw [List.length_cons, chunk, if_pos rfl]
    simp [chunk_one l]
theorem fz_rows {S : Store} {lb vl : Nat} {lcs : List AV} {rb : List Nat} {rows : List (List Rat)} (hS : S[lb]? = some (.mu lcs false)) (hl : lcs.length = vl) (ht : lcs.take rb.length = rb.map rowAV) (hR : RowsAt S rb rows) (h8 : ∀ l ∈ rows, l.length = 8) :
    fz1 S (.msl lb 0 rb.length 1 vl none) = some (QRows rows) := by
  have hn : rb.length ≤ vl := by
    have := congrArg List.length ht
    rw [List.length_take, List.length_map] at this; omega
  show fzc S 6 _ = _
  rw [fzc, rd_mu hS hl (by omega), List.drop_zero, Nat.mul_one, ht]
  simp only [Option.bind_some]
  rw [mapM_each (r := rows.map QRow) (by simp [hR.len])]
  · simp only [Option.bind_some]
    have e : rb.length = (rows.map QRow).length := by simp [hR.len]
    rw [e, chunk_one]; rfl
  · intro i a b ha hb
    rw [List.getElem?_map] at ha hb
    cases h1 : rb[i]? with
    | none => rw [h1] at ha; cases ha
    | some x =>
      cases h2 : rows[i]? with
      | none => rw [h2] at hb; cases hb
      | some l =>
        rw [h1] at ha; rw [h2] at hb
        cases ha; cases hb
        exact fz_row (hR.at' i x l h1 h2) (h8 l (List.mem_of_getElem? h2))
theorem RowsAt.erase {S : Store} {rb : List Nat} {rows : List (List Rat)} (h : RowsAt S rb rows) (i : Nat) : RowsAt S (rb.eraseIdx i) (rows.eraseIdx i) := by
  refine ⟨by rw [List.length_eraseIdx, List.length_eraseIdx, h.len], fun j b l hb hl => ?_⟩
  rw [List.getElem?_eraseIdx] at hb hl
  split at hb
  · rename_i c; rw [if_pos c] at hl; exact h.at' _ b l hb hl
  · rename_i c; rw [if_neg c] at hl; exact h.at' _ b l hb hl
theorem RowsAt.keep {S S' : Store} {rb : List Nat} {rows : List (List Rat)} (h : RowsAt S rb rows) (hk : ∀ b ∈ rb, S'[b]? = S[b]?) : RowsAt S' rb rows :=
  ⟨h.len, fun i b l hb hl => by rw [hk b (List.mem_of_getElem? hb)]; exact h.at' i b l hb hl⟩
theorem RowsAt.lt {S : Store} {rb : List Nat} {rows : List (List Rat)} (h : RowsAt S rb rows) : ∀ b ∈ rb, b < S.length := fun b hb => by
  obtain ⟨i, hi, he⟩ := List.getElem_of_mem hb
  have hi2 : i < rows.length := by rw [← h.len]; exact hi
  exact lt_of_get (h.at' i b _ (by rw [← he]; exact List.getElem?_eq_getElem hi) (List.getElem?_eq_getElem hi2))
theorem nodup_erase {α : Type} {l : List α} (h : l.Nodup) {i : Nat} (hi : i < l.length) : l[i] ∉ l.eraseIdx i := fun hm => by
  obtain ⟨j, hj, he⟩ := List.getElem_of_mem hm
  rw [List.length_eraseIdx, if_pos hi] at hj
  rw [List.getElem_eraseIdx] at he
  split at he
  · exact List.pairwise_iff_getElem.1 h j i (by omega) hi (by omega) he
  · exact List.pairwise_iff_getElem.1 h i (j + 1) hi (by omega) (by omega) he.symm
theorem RB_less {l p : List Rat} {c : Rat} {K : Nat} (hl : ∀ q ∈ l, RB q K) (hp : ∀ q ∈ p, RB q K) (hc : RB c (2 * K)) : ∀ q ∈ lessRow c p l, RB q (8 * K + 1) := fun q hq => by
  unfold lessRow at hq
  obtain ⟨i, hi, he⟩ := List.getElem_of_mem hq
  rw [List.getElem_zipWith] at he
  rw [List.length_zipWith] at hi
  rw [← he]
  have h1 := hl l[i] (List.getElem_mem _)
  have h2 := hp p[i] (List.getElem_mem _)
  have := RB.sub (h1.mono (l := 4 * K) (by omega)) ((RB.mul hc (h2.mono (l := 2 * K) (by omega))).mono (l := 4 * K) (by omega))
  exact this.mono (by omega)
theorem RB_clear {l p : List Rat} {k K : Nat} (hkl : k < l.length) (hkp : k < p.length) (hl : ∀ q ∈ l, RB q K) (hp : ∀ q ∈ p, RB q K) : ∀ q ∈ clearRow k p l, RB q (8 * K + 1) := by
  refine RB_less hl hp (RB.div ?_ ?_)
  · rw [List.getD_eq_getElem?_getD, List.getElem?_eq_getElem hkl]; exact hl _ (List.getElem_mem _)
  · rw [List.getD_eq_getElem?_getD, List.getElem?_eq_getElem hkp]; exact hp _ (List.getElem_mem _)
theorem map_erase {α β : Type} (f : α → β) : ∀ (l : List α) (i : Nat), (l.map f).eraseIdx i = (l.eraseIdx i).map f
  | [], i => rfl
  | a :: l, 0 => rfl
  | a :: l, i + 1 => by simp [map_erase f l i]
set_option maxRecDepth 20000 in
theorem ind_cols {base lb vl : Nat} (hlb : lb < base) (hvl : vl < 1000000) {Q : FQ} :
    ∀ (m k : Nat), k + m = 8 → ∀ (rows : List (List Rat)) (rb : List Nat) (lcs : List AV) (K : Nat) (S : Store), (∀ l ∈ rows, l.length = 8) → (∀ l ∈ rows, ∀ q ∈ l, RB q K) → 1 ≤ K → 64 * (K * 16 ^ m) ≤ Lim →
    S[lb]? = some (.mu lcs false) → lcs.length = vl → lcs.take rb.length = rb.map rowAV → RowsAt S rb rows → (∀ b ∈ rb, b < base) → rb.Nodup → lb ∉ rb →
    (∀ (tm : List AV) (ht : tm.length = 95) (S' : Store), indR m k rows = true → Q (.ex 4) ⟨tm, S'⟩) →
    (∀ (tm : List AV) (ht : tm.length = 95) (S' : Store), tm[2] = .bool false → indR m k rows = false → Q .ret ⟨tm, S'⟩) →
    wpL RT f45_4m base f45_4 ⟨[.any, .any, .any, .msl lb 0 rb.length 1 vl none] ++ List.replicate 34 .any ++ [.int .i64 (k : Int)] ++ List.replicate 56 .any, S⟩ Q := by
  intro m
  induction m with
  | zero =>
    intro k hk rows rb lcs K S h8 hB hK1 hK hS hl ht hR hrb hnd hln q1 q2
    have hk' : k = 8 := by omega
    subst hk'
    rw [wpL_step]
    generalize hK' : loopQ RT f45_4m base f45_4 Q = KK
    simp [f45_4, List.replicate]
    subst hK'
    exact q1 _ rfl S rfl
  | succ m ih =>
    intro k hk rows rb lcs K S h8 hB hK1 hK hS hl ht hR hrb hnd hln q1 q2
    have hk8 : k < 8 := by omega
    have hlt' : (k : Int) < 8 := by omega
    have hw : IntKind.i64.wrap ((k : Int) + 1) = ((k + 1 : Nat) : Int) := wrap_i64 (by omega) (by omega)
    have hn : rb.length ≤ vl := by
      have := congrArg List.length ht
      rw [List.length_take, List.length_map] at this; omega
    have hlS := lt_of_get hS
    have hlen := hR.len
    have hpow : (16 : Nat) ^ (m + 1) = 16 * 16 ^ m := by rw [Nat.pow_succ]; omega
    have hpos : 1 ≤ (16 : Nat) ^ m := Nat.pow_pos (by omega)
    rw [hpow] at hK
    have hK64 : 64 * K ≤ Lim := by
      have : K * 1 ≤ K * (16 * 16 ^ m) := Nat.mul_le_mul_left K (by omega)
      omega
    have hKn : 64 * ((8 * K + 1) * 16 ^ m) ≤ Lim := by
      have : (8 * K + 1) * 16 ^ m ≤ (K * 16) * 16 ^ m := Nat.mul_le_mul_right _ (by omega)
      rw [Nat.mul_assoc] at this; omega
    -- the store with k's cell
    have hS1 : (S ++ [Blk.mu [.int .i64 (k : Int)] true])[lb]? = some (.mu lcs false) := by rw [get_app hlS]; exact hS
    have hR1 : RowsAt (S ++ [Blk.mu [.int .i64 (k : Int)] true]) rb rows := hR.keep fun b hb => get_app (hR.lt b hb)
    have hz : fzc _ 6 _ = _ := fz_rows hS1 hl ht hR1 h8
    have hzf : fzc (S ++ [Blk.mu [.int .i64 (k : Int)] true]) 5 (.mptr S.length 0 1) = some (.fptr [.int .i64 (k : Int)]) := by
      rw [fzc, rd_last]
      simp [fzc, chk]
    have hpv := run_pivot h8 (by omega) hk8
    rw [idxG_eq] at hpv
    simp only [indR] at q1 q2
    cases hf : rows.findIdx? (qnz k) with
    | none =>
      rw [hf] at hpv q1 q2
      simp only at hpv
      rw [wpL_step]
      generalize hK' : loopQ RT f45_4m base f45_4 Q = KK
      simp [f45_4, List.replicate, hlt', wr_last, chk, splice, hz, hzf, hpv]
      subst hK'
      exact q2 _ rfl _ rfl rfl
    | some i =>
      rw [hf] at hpv q1 q2
      simp only [Nat.zero_add] at hpv q1 q2
      obtain ⟨hi, hpi, _⟩ := List.findIdx?_eq_some_iff_getElem.1 hf
      have hi' : i < rb.length := by omega
      have hget := List.getElem?_eq_getElem hi'
      have rd1 := rd_rowAV hS1 hl ht hget
      have hi0 : ¬ (i : Int) < 0 := by omega
      have hil : (i : Int) < (rb.length : Int) := by omega
      have hw2 : IntKind.i64.wrap ((i : Int) + 1) = ((i + 1 : Nat) : Int) := wrap_i64 (by omega) (by omega)
      have del := run_Delete hS1 hl hn hi' hvl
      rw [wpL_step]
      generalize hK' : loopQ RT f45_4m base f45_4 Q = KK
      simp [f45_4, List.replicate, hlt', wr_last, chk, splice, hz, hzf, hpv, rd1, hi0, hil, hw2]
      refine contQ_sh (wpF_mono del ?_)
      rintro r S2 ⟨rfl, hL, hk2, lcs2, hS2, hl2, ht2⟩
      rw [trunc_len (Nat.le_of_eq hL)]
      have hlL : lb < S2.length := lt_of_get hS2
      have hLen : S2.length = S.length + 1 := by rw [hL]; simp
      have hrl2 : (rb.eraseIdx i).length = rb.length - 1 := by rw [List.length_eraseIdx, if_pos hi']
      have hrows2 : (rows.eraseIdx i).length = rb.length - 1 := by rw [List.length_eraseIdx, if_pos hi, hlen]
      have ht3 : lcs2.take (rb.eraseIdx i).length = (rb.eraseIdx i).map rowAV := by rw [hrl2, ht2, ht, map_erase]
      have hR2 : RowsAt S2 rb rows := hR1.keep fun b hb => hk2 b fun h => hln (h ▸ hb)
      have hR3 := hR2.erase i
      have hp8 := h8 rows[i] (List.getElem_mem _)
      have hpB := hB rows[i] (List.getElem_mem _)
      have hpk : rows[i].getD k 0 ≠ 0 := of_decide_eq_true hpi
      have hge : rows.getD i [] = rows[i] := by rw [List.getD_eq_getElem?_getD, List.getElem?_eq_getElem hi]; rfl
      rw [hge] at q1 q2
      have h8e : ∀ l ∈ rows.eraseIdx i, l.length = 8 := fun l hl => h8 l (List.mem_of_mem_eraseIdx hl)
      have hBe : ∀ l ∈ rows.eraseIdx i, ∀ q ∈ l, RB q K := fun l hl => hB l (List.mem_of_mem_eraseIdx hl)
      have hrbe : ∀ b ∈ rb.eraseIdx i, b ∈ rb := fun b hb => List.mem_of_mem_eraseIdx hb
      have hpS : S2[rb[i]]? = some (.mu (qcells rows[i]) false) := hR2.at' i _ _ hget (List.getElem?_eq_getElem hi)
      have hkS : S2[S.length]? = some (.mu [.int .i64 (k : Int)] true) := by rw [hk2 _ (Nat.ne_of_gt hlS)]; exact get_last
      have cols := fun (Q : FQ) => ind_rows (Q := Q) hk8 h8e hp8 hpk hBe hpB hK64 hK1 (base := S2.length) (lb := lb) (pb := rb[i]) (kb := S.length) (vl := vl) (rb := rb.eraseIdx i) (lcs := lcs2) (exk := true)
        hlL (lt_of_get hpS) (lt_of_get hkS) (fun b hb => hR2.lt b (hrbe b hb)) (hnd.sublist (List.eraseIdx_sublist _ _)) (nodup_erase hnd hi') (fun hm => Nat.lt_irrefl _ (hR.lt _ (hrbe _ hm))) (fun hm => hln (hrbe _ hm)) hl2 ht3 (by rw [hrl2, hrows2]) (by omega)
      have r2 := fun Q h => cols Q h (rb.length - 1) 0 (by rw [hrows2]; omega) S2 hS2 hpS hkS (by unfold partRows; simpa using hR3)
      clear cols
      rw [hrl2, hrows2] at r2
      simp only [List.replicate, List.cons_append, List.nil_append, Int.natCast_zero] at r2
      have hT : ∀ vs, trunc S2.length vs S2 = S2 := fun vs => trunc_len (Nat.le_refl _)
      simp [head, f45_3m, mask, hT]
      unfold rowAV
      refine r2 _ ?_
      intro tm htm S3 t3 t38 hs3 hR4
      simp [htm, t3, t38, hw]
      subst hK'
      simp only [loopQ_nrm, head]
      rw [mask_of (n := 95) (by simp [htm])]
      simp [f45_4m, htm, t3, t38, List.range_succ]
      generalize hT4 : trunc base _ S3 = S4
      have k4 : ∀ b0, b0 < base → S4[b0]? = S3[b0]? := fun b0 h1 => by rw [← hT4, trunc_get (.inl h1)]
      have fin := ih (k + 1) (by omega) ((rows.eraseIdx i).map (clearRow k rows[i])) (rb.eraseIdx i) lcs2 (8 * K + 1) S4
        (fun l hl => by
          obtain ⟨l0, h0, rfl⟩ := List.mem_map.1 hl
          exact lessRow_len (h8e l0 h0) hp8)
        (fun l hl => by
          obtain ⟨l0, h0, rfl⟩ := List.mem_map.1 hl
          exact RB_clear (by rw [h8e l0 h0]; exact hk8) (by rw [hp8]; exact hk8) (hBe l0 h0) hpB)
        (by omega) hKn (by rw [k4 lb hlb]; exact hs3) hl2 ht3 (hR4.keep fun b hb => k4 b (hrb b (hrbe b hb))) (fun b hb => hrb b (hrbe b hb))
        (hnd.sublist (List.eraseIdx_sublist _ _)) (fun hm => hln (hrbe _ hm)) q1 q2
      simpa [f45_4m, List.replicate, hrl2] using fin
theorem app_new {sz bytes : Nat} {S : Store} {x : AV} {xs : List AV} (hx : held S sz x = some (1, xs)) (hr : bytes ≤ 140737488355328) :
    appA sz bytes S (.sl [] sz true) x = some (.msl S.length 0 1 sz (1 * sz) none, S ++ [.mu xs false]) := by
  unfold appA
  rw [hx]
  simp only [Option.bind_some]
  rw [chk_pos trivial, if_neg (by decide), chk_pos ⟨trivial, by unfold room; simpa using hr⟩]
  simp
theorem app_more {sz bytes n b : Nat} {S : Store} {x : AV} {cs xs : List AV} (hsz : 0 < sz) (hx : held S sz x = some (1, xs)) (hr : (n + 1) * bytes ≤ 140737488355328) (hS : S[b]? = some (.mu cs false)) (hl : cs.length = n * sz) :
    appA sz bytes S (.msl b 0 n sz (n * sz) none) x = some (.msl b 0 (n + 1) sz ((n + 1) * sz) none, S.set b (.mu (cs ++ xs) false)) := by
  unfold appA
  rw [hx]
  simp only [Option.bind_some]
  have h1 : ¬ 0 + (n + 1) * sz ≤ n * sz := by rw [Nat.succ_mul]; omega
  rw [chk_pos trivial, if_neg (by decide), if_neg h1, chk_pos (show room (n + 1) bytes from hr), hS]
  simp only
  rw [chk_pos ⟨hl, trivial, Nat.le_refl _⟩, List.take_of_length_le (by omega)]
def toQ (w : List Int) : List Rat := w.map fun (n : Int) => ((n : Int) : Rat)
theorem toQ_len (w : List Int) : (toQ w).length = w.length := by simp [toQ]
set_option maxRecDepth 20000 in
theorem ind_conv {w : List Int} (hw8 : w.length = 8) (hwb : Bd 1000000 w) {S0 : Store} {v3 v17 v18 v19 : AV} {Q : FQ}
    (h1 : ∀ (tm : List AV) (ht : tm.length = 95) (S' : Store), tm[3] = v3 → tm[6] = .msl S0.length 0 8 4 32 none → tm[17] = v17 → tm[18] = v18 → tm[19] = v19 →
      S'[S0.length]? = some (.mu (qcells (toQ w)) false) → (∀ b, b < S0.length → S'[b]? = S0[b]?) → Q (.ex 2) ⟨tm, S'⟩) :
    ∀ (m j : Nat), j + m = 8 → ∀ (S : Store) (v6 : AV), (j = 0 ∧ S = S0 ∧ v6 = .sl [] 4 true) ∨ (v6 = .msl S0.length 0 j 4 (j * 4) none ∧ S[S0.length]? = some (.mu (qcells (toQ (w.take j))) false) ∧ ∀ b, b < S0.length → S[b]? = S0[b]?) →
    wpL RT f45_0m S0.length f45_0 ⟨[.any, .any, .any, v3, .any, .any, v6, .any, .any, .any, .any, .any, .any, .any, .any, .any, .any, v17, v18, v19, .any, .any, .any, R8 w, .int .i64 (j : Int)] ++ List.replicate 70 .any, S⟩ Q := by
  intro m
  induction m with
  | zero =>
    intro j hj S v6 hc
    have hj' : j = 8 := by omega
    subst hj'
    rcases hc with ⟨h, _⟩ | ⟨rfl, hS, hk⟩
    · omega
    rw [List.take_of_length_le (by omega)] at hS
    rw [wpL_step]
    generalize hK' : loopQ RT f45_0m S0.length f45_0 Q = KK
    simp [f45_0, List.replicate]
    subst hK'
    exact h1 _ rfl S rfl rfl rfl rfl rfl hS hk
  | succ m ih =>
    intro j hj S v6 hc
    have hj8 : j < 8 := by omega
    have hlt : (j : Int) < 8 := by omega
    have hw : IntKind.i64.wrap ((j : Int) + 1) = ((j + 1 : Nat) : Int) := wrap_i64 (by omega) (by omega)
    have hget : (nums .i64 w)[j]? = some (.int .i64 (w[j]'(by omega))) := by
      rw [List.getElem?_eq_getElem (by simpa [hw8] using hj8), nums_getElem]
    have hbd := hwb w[j] (List.getElem_mem _)
    have hwh := run_Whole (n := w[j]) (by omega) (by omega)
    have htk : toQ (w.take (j + 1)) = toQ (w.take j) ++ [(w[j] : Rat)] := by
      unfold toQ
      rw [List.take_succ_eq_append_getElem (by omega), List.map_append]; rfl
    have hx : ∀ S, held S 4 (.sl [QR (w[j] : Rat)] 4 true) = some (1, qc (w[j] : Rat)) := fun S => by
      simp only [held]
      rw [chk_pos trivial]
      rw [QR_qc]; simp [AV.cells]
    obtain ⟨S1, ha, hS1, hk1⟩ : ∃ S1, appA 4 64 S v6 (.sl [QR (w[j] : Rat)] 4 true) = some (.msl S0.length 0 (j + 1) 4 ((j + 1) * 4) none, S1) ∧ S1[S0.length]? = some (.mu (qcells (toQ (w.take (j + 1)))) false) ∧ ∀ b, b < S0.length → S1[b]? = S0[b]? := by
      rcases hc with ⟨rfl, rfl, rfl⟩ | ⟨rfl, hS, hk⟩
      · refine ⟨S ++ [.mu (qc (w[0] : Rat)) false], app_new (hx S) (by omega), ?_, fun b hb => get_app hb⟩
        rw [get_last, htk]; simp [toQ, qcells]
      · refine ⟨S.set S0.length (.mu (qcells (toQ (w.take j)) ++ qc (w[j] : Rat)) false), app_more (by omega) (hx S) (by omega) hS (by rw [qcells_len, toQ_len, List.length_take]; omega), ?_, fun b hb => ?_⟩
        · rw [set_get (lt_of_get hS), htk, qcells_append]; simp [qcells]
        · rw [List.getElem?_set_ne (by omega)]; exact hk b hb
    have hih := fun v S h => ih (j + 1) (by omega) S v (.inr h)
    rw [QR_qc] at hwh ha
    have q1 := qc_len (w[j] : Rat)
    have g1 := qc_nr (w[j] : Rat)
    have f1 := fun S => qc_fz (w[j] : Rat) S
    clear hx htk
    generalize qc (w[j] : Rat) = cc at *
    generalize w[j] = x at *
    rw [wpL_step]
    generalize hK' : loopQ RT f45_0m S0.length f45_0 Q = KK
    simp [f45_0, List.replicate, hlt, hget, hw8, hwh, after_nr, opA_litn, fillE, elt, nr1, q1, g1, f1, chk, ha, hw]
    subst hK'
    simp [head, f45_0m, mask]
    generalize hT : trunc S0.length _ S1 = S2
    have k2 : ∀ b, S2[b]? = S1[b]? := fun b => by
      rw [← hT, trunc_get (.inr ⟨.msl S0.length 0 (j + 1) 4 ((j + 1) * 4) none, by simp, by simp [lt1, ltc]⟩)]
    simpa [f45_0m, List.replicate] using hih _ S2 ⟨rfl, by rw [k2, hS1], fun b hb => by rw [k2, hk1 b hb]⟩
def Made45 (o : List (List Int)) (i : Nat) (S : Store) (v : AV) : Prop :=
  (i = 0 ∧ S = [] ∧ v = .sl [] 1 true) ∨ ∃ lb rb, v = .msl lb 0 i 1 i none ∧ S[lb]? = some (.mu (rb.map rowAV) false) ∧ rb.length = i ∧ RowsAt S rb ((o.take i).map toQ) ∧ rb.Nodup ∧ lb ∉ rb ∧ 0 < i
theorem held_row (S : Store) (b : Nat) : held S 1 (.tl [.msl b 0 8 4 32 none] 1) = some (1, [rowAV b]) := by
  simp only [held]
  rw [chk_pos trivial]
  simp [AV.cells, rowAV]
theorem lit_row (R : RunF) (S : Store) (z : AV) (b : Nat) : opA R (.lit 1 z 1 [0]) [.msl b 0 8 4 32 none] S = some (.tl [.msl b 0 8 4 32 none] 1, S) := rfl
set_option maxRecDepth 20000 in
theorem ind_made {o : List (List Int)} (ho : ∀ w ∈ o, w.length = 8 ∧ Bd 1000000 w) (hol : o.length < 1000000) {Q : FQ}
    (h1 : ∀ (tm : List AV) (ht : tm.length = 95) (S' : Store) (v : AV), tm[3] = v → Made45 o o.length S' v → Q (.ex 0) ⟨tm, S'⟩) :
    ∀ (m i : Nat), i + m = o.length → ∀ (S : Store) (v : AV), Made45 o i S v →
    wpL RT f45_1m 0 f45_1 ⟨[.any, .any, .any, v] ++ List.replicate 13 .any ++ [OR o, .int .i64 (o.length : Int), .int .i64 (i : Int)] ++ List.replicate 75 .any, S⟩ Q := by
  intro m
  induction m with
  | zero =>
    intro i hi S v hM
    have hi' : i = o.length := by omega
    subst hi'
    rw [wpL_step]
    generalize hK' : loopQ RT f45_1m 0 f45_1 Q = KK
    simp [f45_1, List.replicate]
    subst hK'
    exact h1 _ rfl S v rfl hM
  | succ m ih =>
    intro i hi S v hM
    have hi1 : i < o.length := by omega
    have hlt : (i : Int) < (o.length : Int) := by omega
    have hget := List.getElem?_eq_getElem hi1
    have hw : IntKind.i64.wrap ((i : Int) + 1) = ((i + 1 : Nat) : Int) := wrap_i64 (by omega) (by omega)
    obtain ⟨hw8, hwb⟩ := ho o[i] (List.getElem_mem _)
    have htk : (o.take (i + 1)).map toQ = (o.take i).map toQ ++ [toQ o[i]] := by
      rw [List.take_succ_eq_append_getElem hi1, List.map_append]; rfl
    have hih := ih (i + 1) (by omega)
    -- what is left to say of the appending
    have happ : ∀ S', S'[S.length + 1]? = some (.mu (qcells (toQ o[i])) false) → (∀ b, b < S.length + 1 → S'[b]? = (S ++ [.mu (nums .i64 o[i]) true])[b]?) →
        ∃ lb rb S2, appA 1 24 S' v (.tl [.msl (S.length + 1) 0 8 4 32 none] 1) = some (.msl lb 0 (i + 1) 1 (i + 1) none, S2) ∧ S2[lb]? = some (.mu (rb.map rowAV) false) ∧ rb.length = i + 1 ∧ RowsAt S2 rb ((o.take (i + 1)).map toQ) ∧ rb.Nodup ∧ lb ∉ rb := by
      intro S' hs1 hs2
      rcases hM with ⟨rfl, rfl, rfl⟩ | ⟨lb, rb, rfl, hS, hl, hR, hnd, hln, h0⟩
      · have hnS := lt_of_get hs1
        refine ⟨S'.length, [1], S' ++ [.mu [rowAV 1] false], app_new (held_row S' _) (by omega), get_last, rfl, ?_, by simp, ?_⟩
        · refine ⟨by rw [htk]; simp, fun j b l hb hl => ?_⟩
          rw [htk] at hl
          match j, hb, hl with
          | 0, hb, hl =>
            simp at hb hl
            subst hb; subst hl
            rw [get_app (by simpa using hnS)]; simpa using hs1
        · simp at hnS ⊢; omega
      · have hnS := lt_of_get hs1
        have hlS := lt_of_get hS
        have hS' : S'[lb]? = some (.mu (rb.map rowAV) false) := by rw [hs2 lb (by omega), get_app hlS, hS]
        have hR' : RowsAt S' rb ((o.take i).map toQ) := hR.keep fun b hb => by rw [hs2 b (by have := hR.lt b hb; omega), get_app (hR.lt b hb)]
        have hap := app_more (sz := 1) (bytes := 24) (n := i) (b := lb) (by omega) (held_row S' (S.length + 1)) (by omega) hS' (by simp [hl])
        simp only [Nat.mul_one] at hap
        refine ⟨lb, rb ++ [S.length + 1], S'.set lb (.mu (rb.map rowAV ++ [rowAV (S.length + 1)]) false), hap, ?_, by simp [hl], ?_, ?_, ?_⟩
        · rw [set_get (lt_of_get hS')]; simp
        · refine ⟨by rw [htk]; simp [hl]; omega, fun j b l hb hll => ?_⟩
          rw [htk] at hll
          have hel : ((o.take i).map toQ).length = i := by simp; omega
          by_cases hj : j < i
          · rw [List.getElem?_append_left (by omega)] at hb hll
            have hbm : b ∈ rb := List.mem_of_getElem? hb
            rw [List.getElem?_set_ne (fun hc => hln (by rw [hc]; exact hbm))]
            exact hR'.at' j b l hb hll
          · rw [List.getElem?_append_right (by omega)] at hb hll
            rw [hl] at hb; rw [hel] at hll
            match hje : j - i, hb, hll with
            | 0, hb, hll =>
              simp at hb hll
              subst hb; subst hll
              rw [List.getElem?_set_ne (by omega)]; exact hs1
        · rw [List.nodup_append]
          refine ⟨hnd, by simp, fun a ha b hb => ?_⟩
          have := hR.lt a ha
          simp at hb; omega
        · intro hm
          rcases List.mem_append.1 hm with h | h
          · exact hln h
          · simp at h; omega
    have conv := fun (Q : FQ) => ind_conv (Q := Q) hw8 hwb (S0 := S ++ [.mu (nums .i64 o[i]) true]) (v3 := v) (v17 := OR o) (v18 := .int .i64 (o.length : Int)) (v19 := .int .i64 (i : Int))
    have r2 := fun Q h => conv Q h 8 0 rfl (S ++ [.mu (nums .i64 o[i]) true]) (.sl [] 4 true) (.inl ⟨rfl, rfl, rfl⟩)
    clear conv htk
    have ht8 : (nums .i64 o[i]).take 8 = nums .i64 o[i] := List.take_of_length_le (by simp [hw8])
    have hlen2 : (S ++ [Blk.mu (nums .i64 o[i]) true]).length = S.length + 1 := by simp
    rw [hlen2] at r2
    simp only [List.replicate, List.cons_append, List.nil_append, Int.natCast_zero] at r2
    generalize o[i] = w at *
    rw [wpL_step]
    generalize hK' : loopQ RT f45_1m 0 f45_1 Q = KK
    have hrs := row_splice (z := List.replicate 8 (.int .i64 0)) hw8 (by simp)
    simp only [List.replicate] at hrs
    simp [f45_1, List.replicate, hlt, hget, hw8, ht8, chk, hrs]
    have hT : ∀ vs, trunc (S.length + 1) vs (S ++ [Blk.mu (nums .i64 w) true]) = S ++ [.mu (nums .i64 w) true] := fun vs => trunc_len (by simp)
    simp [head, f45_0m, mask, hT]
    refine r2 _ ?_
    intro tm ht S' t3 t6 t17 t18 t19 hs1 hs2
    obtain ⟨lb, rb, S2, ha, hS2, hl2, hR2, hnd2, hln2⟩ := happ S' hs1 hs2
    simp [ht, t3, t6, t17, t18, t19, hw, lit_row, ha]
    subst hK'
    simp only [loopQ_nrm, head]
    rw [mask_of (n := 95) (by simp [ht])]
    simp [f45_1m, ht, t3, t17, t18, t19, List.range_succ]
    generalize hT2 : trunc 0 _ S2 = S3
    have k3 : ∀ b, S3[b]? = S2[b]? := fun b => by
      rw [← hT2, trunc_get (.inr ⟨.msl lb 0 (i + 1) 1 (i + 1) none, by simp, by simp [lt1, ltc]⟩)]
    have fin := hih S3 (.msl lb 0 (i + 1) 1 (i + 1) none) (.inr ⟨lb, rb, rfl, by rw [k3, hS2], hl2, hR2.keep fun b _ => k3 b, hnd2, hln2, by omega⟩)
    simpa [f45_1m, List.replicate] using fin
theorem RB_int {n : Int} (h : -1000000 ≤ n ∧ n ≤ 1000000) : RB (n : Rat) 1 := by
  refine ⟨?_, ?_⟩
  · rw [Rat.num_intCast]
    exact size_le (by show n.natAbs < 4294967296 ^ 1; omega)
  · rw [Rat.den_intCast]
    exact size_le (by show 1 < 4294967296 ^ 1; omega)
set_option maxRecDepth 20000 in
theorem run_indep {o : List (List Int)} (ho : ∀ w ∈ o, w.length = 8 ∧ Bd 1000000 w) (hol : o.length < 1000000) : callPure RT 45 [OR o] = some (.bool (indR 8 0 (o.map toQ))) := by
  refine callPure_of (wpF_of tab_45 rfl ?_)
  have mk := fun (Q : FQ) h => ind_made (Q := Q) ho hol h o.length 0 (by simp) [] (.sl [] 1 true) (.inl ⟨rfl, rfl, rfl⟩)
  simp only [List.replicate, List.cons_append, List.nil_append, Int.natCast_zero] at mk
  have hT0 : ∀ vs, trunc 0 vs [] = [] := fun vs => trunc_len (by simp)
  simp [f45, enter]
  simp [head, f45_1m, mask, hT0]
  refine mk _ ?_
  intro tm ht S v t3 hM
  simp [ht]
  have hT : ∀ vs, trunc S.length vs S = S := fun vs => trunc_len (Nat.le_refl _)
  simp only [head, hT]
  rw [mask_of (n := 95) (by simp [ht])]
  simp [f45_4m, ht, t3, List.range_succ]
  rcases hM with ⟨h0, rfl, rfl⟩ | ⟨lb, rb, rfl, hS, hl, hR, hnd, hln, h0⟩
  · have ho0 : o = [] := List.length_eq_zero_iff.1 h0
    subst ho0
    have hpv := run_pivot (o := []) (k := 0) (by simp) (by simp) (by omega)
    simp [QRows, idxG] at hpv
    rw [wpL_step]
    generalize hK' : loopQ _ _ _ f45_4 _ = KK
    have hzf : fzc [Blk.mu [.int .i64 0] true] 5 (.mptr 0 0 1) = some (.fptr [.int .i64 0]) := by simp [fzc, rd, chk]
    simp [f45_4, List.replicate, wr, chk, splice, fzc, hzf, hpv, rd]
    subst hK'
    simp [indR]
  · rw [List.take_of_length_le (Nat.le_refl _)] at hR
    have hLim : Lim = 1099511627776 := rfl
    have fin := fun (Q : FQ) => ind_cols (Q := Q) (base := S.length) (lb := lb) (vl := o.length) (lt_of_get hS) hol 8 0 rfl (o.map toQ) rb (rb.map rowAV) 1 S
      (fun l hl => by obtain ⟨w, hw, rfl⟩ := List.mem_map.1 hl; rw [toQ_len]; exact (ho w hw).1)
      (fun l hl q hq => by
        obtain ⟨w, hw, rfl⟩ := List.mem_map.1 hl
        obtain ⟨n, hn, rfl⟩ := List.mem_map.1 hq
        exact RB_int ((ho w hw).2 n hn))
      (Nat.le_refl _) (by rw [hLim]; decide) hS (by simp [hl]) (by rw [List.take_of_length_le (by simp)]) hR (fun b hb => hR.lt b hb) hnd hln
    rw [hl] at fin
    simp only [List.replicate, List.cons_append, List.nil_append, Int.natCast_zero] at fin
    refine fin _ ?_ ?_
    · intro tm2 ht2 S' he
      simp [ht2, he]
    · intro tm2 ht2 S' t2 he
      simp [ht2, t2, he]
def qdot : List Rat → List Rat → Rat
  | a :: l, x :: xs => a * x + qdot l xs
  | _, _ => 0
theorem qdot_less {c : Rat} : ∀ {l p x : List Rat} {n : Nat}, l.length = n → p.length = n → x.length = n → qdot (lessRow c p l) x = qdot l x - c * qdot p x
  | [], [], [], n, _, _, _ => by simp [lessRow, qdot]; grind
  | a :: l, b :: p, y :: x, n + 1, hl, hp, hx => by
    have := qdot_less (c := c) (l := l) (p := p) (x := x) (n := n) (by simpa using hl) (by simpa using hp) (by simpa using hx)
    unfold lessRow at this
    simp only [lessRow, List.zipWith_cons_cons, qdot, this]
    grind
theorem qdot_set : ∀ {l x : List Rat} {k n : Nat} {v : Rat}, l.length = n → x.length = n → k < n → qdot l (x.set k v) = qdot l x + l.getD k 0 * (v - x.getD k 0)
  | a :: l, y :: x, 0, n + 1, v, _, _, _ => by simp only [List.set_cons_zero, qdot, List.getD_cons_zero]; grind
  | a :: l, y :: x, k + 1, n + 1, v, hl, hx, hk => by
    have := qdot_set (l := l) (x := x) (k := k) (n := n) (v := v) (by simpa using hl) (by simpa using hx) (by omega)
    simp only [List.set_cons_succ, qdot, this, List.getD_cons_succ]; grind
theorem qdot_zero : ∀ {l x : List Rat}, (∀ j, x.getD j 0 = 0) → qdot l x = 0
  | [], _, _ => by simp [qdot]
  | _ :: _, [], _ => by simp [qdot]
  | a :: l, y :: x, h => by
    have h0 := h 0
    have := qdot_zero (l := l) (x := x) fun j => by have := h (j + 1); simpa using this
    simp only [List.getD_cons_zero] at h0
    simp only [qdot, this, h0]; grind
def KerT (k : Nat) (rows : List (List Rat)) : Prop := ∀ x : List Rat, x.length = 8 → (∀ j, j < k → x.getD j 0 = 0) → (∀ l ∈ rows, qdot l x = 0) → ∀ j, x.getD j 0 = 0
theorem mem_erase {α : Type} {rows : List α} {i : Nat} (hi : i < rows.length) {l : α} (h : l ∈ rows) : l = rows[i] ∨ l ∈ rows.eraseIdx i := by
  obtain ⟨j, hj, rfl⟩ := List.getElem_of_mem h
  by_cases e : j = i
  · subst e; exact .inl rfl
  · right
    rw [List.mem_eraseIdx_iff_getElem?]
    exact ⟨j, e, List.getElem?_eq_getElem hj⟩
theorem getD_set {x : List Rat} {k j : Nat} {v : Rat} (hk : k < x.length) : (x.set k v).getD j 0 = if j = k then v else x.getD j 0 := by
  simp only [List.getD_eq_getElem?_getD, List.getElem?_set]
  by_cases h : j = k
  · subst h; simp [hk]
  · rw [if_neg (by omega), if_neg h]
theorem ker_ind : ∀ (m k : Nat), k + m = 8 → ∀ rows : List (List Rat), (∀ l ∈ rows, l.length = 8) → (indR m k rows = true ↔ KerT k rows) := by
  intro m
  induction m with
  | zero =>
    intro k hk rows h8
    simp only [indR, true_iff]
    intro x hx hz _ j
    by_cases hj : j < k
    · exact hz j hj
    · rw [List.getD_eq_getElem?_getD, List.getElem?_eq_none (by omega)]; rfl
  | succ m ih =>
    intro k hk rows h8
    have hk8 : k < 8 := by omega
    simp only [indR]
    cases hf : rows.findIdx? (qnz k) with
    | none =>
      simp only [Bool.false_eq_true, false_iff]
      intro hK
      have hz : ∀ l ∈ rows, l.getD k 0 = 0 := fun l hl => by
        have := List.findIdx?_eq_none_iff.1 hf l hl
        simpa [qnz] using this
      have := hK ((List.replicate 8 0).set k 1) (by simp) (fun j hj => by
        rw [getD_set (by simpa using hk8), if_neg (by omega)]
        simp only [List.getD_eq_getElem?_getD, List.getElem?_replicate]; split <;> rfl) (fun l hl => by
        rw [qdot_set (h8 l hl) (by simp) hk8, hz l hl, qdot_zero fun j => by simp only [List.getD_eq_getElem?_getD, List.getElem?_replicate]; split <;> rfl]
        grind) k
      rw [getD_set (by simpa using hk8), if_pos rfl] at this
      exact absurd this (by decide)
    | some i =>
      obtain ⟨hi, hpi, _⟩ := List.findIdx?_eq_some_iff_getElem.1 hf
      have hge : rows.getD i [] = rows[i] := by rw [List.getD_eq_getElem?_getD, List.getElem?_eq_getElem hi]; rfl
      have hp8 := h8 rows[i] (List.getElem_mem _)
      have hpk : rows[i].getD k 0 ≠ 0 := of_decide_eq_true hpi
      have hpm : rows[i] ∈ rows := List.getElem_mem _
      have hmem := fun l (h : l ∈ rows) => mem_erase hi h
      have h8e : ∀ l ∈ rows.eraseIdx i, l.length = 8 := fun l hl => h8 l (List.mem_of_mem_eraseIdx hl)
      simp only [hge]
      rw [ih (k + 1) (by omega) _ (fun l hl => by
        obtain ⟨l0, h0, rfl⟩ := List.mem_map.1 hl
        exact lessRow_len (h8e l0 h0) hp8)]
      generalize rows[i] = p at *
      constructor
      · intro hK x hx hz hr
        have hx' := hK (x.set k 0) (by simpa using hx) (fun j hj => by
          rw [getD_set (by omega)]
          split
          · rfl
          · exact hz j (by omega)) (fun l hl => by
          obtain ⟨l0, h0, rfl⟩ := List.mem_map.1 hl
          unfold clearRow
          rw [qdot_less (h8e l0 h0) hp8 (by simpa using hx), qdot_set (h8e l0 h0) hx hk8, qdot_set hp8 hx hk8, hr p hpm, hr l0 (List.mem_of_mem_eraseIdx h0)]
          grind)
        have hp0 := hr p hpm
        have e := qdot_set (v := 0) hp8 hx hk8
        rw [qdot_zero hx', hp0] at e
        have hxk : x.getD k 0 = 0 := by grind
        intro j
        by_cases hj : j = k
        · rw [hj]; exact hxk
        · have := hx' j
          rw [getD_set (by omega), if_neg hj] at this
          exact this
      · intro hK x hx hz hr
        have hxk := hz k (by omega)
        have hy := hK (x.set k (-(qdot p x) / p.getD k 0)) (by simpa using hx) (fun j hj => by
          rw [getD_set (by omega), if_neg (by omega)]
          exact hz j (by omega)) (fun l hl => by
          rcases hmem l hl with rfl | hl
          · rw [qdot_set hp8 hx hk8, hxk]; grind
          · have := hr _ (List.mem_map.2 ⟨l, hl, rfl⟩)
            unfold clearRow at this
            rw [qdot_less (h8e l hl) hp8 hx] at this
            rw [qdot_set (h8e l hl) hx hk8, hxk]; grind)
        intro j
        by_cases hj : j = k
        · rw [hj]; exact hxk
        · have := hy j
          rw [getD_set (by omega), if_neg hj] at this
          exact this
theorem few_ind : ∀ (m k : Nat) (rows : List (List Rat)), rows.length < m → indR m k rows = false
  | 0, k, rows, h => by omega
  | m + 1, k, rows, h => by
    simp only [indR]
    cases hf : rows.findIdx? (qnz k) with
    | none => rfl
    | some i =>
      obtain ⟨hi, _⟩ := List.findIdx?_eq_some_iff_getElem.1 hf
      exact few_ind m (k + 1) _ (by rw [List.length_map, List.length_eraseIdx, if_pos hi]; omega)
end Go.AVM
namespace Go.AVM
end Go.AVM
namespace Go.AVM
end Go.AVM
set_option maxRecDepth 100000
namespace Go.AVM
def rat0 : AV := .agg [.bool false, .sl [] 1 false, .bool false, .sl [.int .u32 1] 1 false]
def rat1 : AV := .agg [.bool false, .sl [.int .u32 1] 1 false, .bool false, .sl [.int .u32 1] 1 false]
def ratM : AV := .agg [.bool true, .sl [.int .u32 1] 1 false, .bool false, .sl [.int .u32 1] 1 false]
theorem ex_s0 : callPure (run tab) 58 [rat0, rat0] = some rat0 := pureIs_run (O := noneE) (n := 30) noneE_sound (by kernel_rfl)
theorem ex_s1 : callPure (run tab) 58 [ratM, rat0] = some ratM := pureIs_run (O := noneE) (n := 30) noneE_sound (by kernel_rfl)
theorem ex_m0 : callPure (run tab) 59 [rat0, rat0] = some rat0 := pureIs_run (O := noneE) (n := 30) noneE_sound (by kernel_rfl)
theorem ex_m1 : callPure (run tab) 59 [rat0, rat1] = some rat0 := pureIs_run (O := noneE) (n := 30) noneE_sound (by kernel_rfl)
theorem ex_m2 : callPure (run tab) 59 [rat0, ratM] = some rat0 := pureIs_run (O := noneE) (n := 30) noneE_sound (by kernel_rfl)
theorem ex_w0 : callPure (run tab) 52 [.int .i64 0] = some rat0 := pureIs_run (O := noneE) (n := 30) noneE_sound (by kernel_rfl)
theorem ex_w1 : callPure (run tab) 52 [.int .i64 1] = some rat1 := pureIs_run (O := noneE) (n := 30) noneE_sound (by kernel_rfl)
theorem ex_w2 : callPure (run tab) 52 [.int .i64 (-1)] = some ratM := pureIs_run (O := noneE) (n := 30) noneE_sound (by kernel_rfl)
theorem ex_g0 : callPure (run tab) 55 [rat0] = some (.int .i64 0) := pureIs_run (O := noneE) (n := 30) noneE_sound (by kernel_rfl)
theorem ex_g1 : callPure (run tab) 55 [rat1] = some (.int .i64 1) := pureIs_run (O := noneE) (n := 30) noneE_sound (by kernel_rfl)
theorem ex_g2 : callPure (run tab) 55 [ratM] = some (.int .i64 (-1)) := pureIs_run (O := noneE) (n := 30) noneE_sound (by kernel_rfl)
theorem ex_d1 : callPure (run tab) 57 [rat0, rat1] = some (.tup [rat0, .int .i64 0]) := pureIs_run (O := noneE) (n := 30) noneE_sound (by kernel_rfl)
theorem ex_d2 : callPure (run tab) 57 [rat0, ratM] = some (.tup [rat0, .int .i64 0]) := pureIs_run (O := noneE) (n := 30) noneE_sound (by kernel_rfl)
def ratKnown : Known := [(58, [rat0, rat0], rat0), (58, [ratM, rat0], ratM), (59, [rat0, rat0], rat0), (59, [rat0, rat1], rat0), (59, [rat0, ratM], rat0), (52, [.int .i64 0], rat0), (52, [.int .i64 1], rat1), (52, [.int .i64 (-1)], ratM),
  (55, [rat0], .int .i64 0), (55, [rat1], .int .i64 1), (55, [ratM], .int .i64 (-1)), (57, [rat0, rat1], .tup [rat0, .int .i64 0]), (57, [rat0, ratM], .tup [rat0, .int .i64 0])]
theorem ratKnown_sound : ∀ f a r, askE ratKnown f a = some r → callPure (run tab) f a = some r := askE_sound fun e he => by
  simp only [ratKnown, List.mem_cons, List.not_mem_nil, or_false] at he
  rcases he with rfl | rfl | rfl | rfl | rfl | rfl | rfl | rfl | rfl | rfl | rfl | rfl | rfl
  · exact ex_s0
  · exact ex_s1
  · exact ex_m0
  · exact ex_m1
  · exact ex_m2
  · exact ex_w0
  · exact ex_w1
  · exact ex_w2
  · exact ex_g0
  · exact ex_g1
  · exact ex_g2
  · exact ex_d1
  · exact ex_d2
def exRow (l : List Int) : AV := .agg (l.map (AV.int .i64))
def exRev : AV := .sl [exRow [1,1,1,1,1,1,1,1], exRow [0,0,0,0,0,0,0,-1], exRow [0,0,0,0,0,0,-1,0], exRow [0,0,0,0,0,-1,0,0], exRow [0,0,0,0,-1,0,0,0], exRow [0,0,0,-1,0,0,0,0], exRow [0,0,-1,0,0,0,0,0], exRow [0,-1,0,0,0,0,0,0]] 8 false
theorem ex_i0 : callPure (run tab) 45 [.sl [] 8 false] = some (.bool false) := pureIs_run (n := 30) ratKnown_sound (by kernel_rfl)
theorem ex_i1 : callPure (run tab) 45 [.sl [exRow [1,1,1,1,1,1,1,1]] 8 false] = some (.bool false) := pureIs_run (n := 30) ratKnown_sound (by kernel_rfl)
theorem ex_i2 : callPure (run tab) 45 [exRev] = some (.bool true) := pureIs_run (n := 30) ratKnown_sound (by kernel_rfl)
def indKnown : Known := [(45, [.sl [] 8 false], .bool false), (45, [.sl [exRow [1,1,1,1,1,1,1,1]] 8 false], .bool false), (45, [exRev], .bool true)]
theorem indKnown_sound : ∀ f a r, askE indKnown f a = some r → callPure (run tab) f a = some r := askE_sound fun e he => by
  simp only [indKnown, List.mem_cons, List.not_mem_nil, or_false] at he
  rcases he with rfl | rfl | rfl
  · exact ex_i0
  · exact ex_i1
  · exact ex_i2
theorem run_examples5 : callPure (run tab) 8 [] = some (.bool true) := pureIs_run (n := 30) indKnown_sound (by kernel_rfl)
end Go.AVM
namespace Go.AVM
end Go.AVM
namespace Go.AVM
end Go.AVM
namespace Go.AVM
theorem cmpL_anti : ∀ a b : List Int, cmpL b a = -(cmpL a b)
  | [], [] => rfl
  | [], _ :: _ => rfl
  | _ :: _, [] => rfl
  | x :: a, y :: b => by
    simp only [cmpL]
    rcases Int.lt_trichotomy x y with h | h | h
    · rw [if_pos h, if_neg (by omega), if_pos h]; rfl
    · rw [if_neg (by omega), if_neg (by omega), if_neg (by omega), if_neg (by omega), cmpL_anti a b]
    · simp [h, Int.not_lt.2 (Int.le_of_lt h)]
theorem cmpL_vals : ∀ a b : List Int, cmpL a b = -1 ∨ cmpL a b = 0 ∨ cmpL a b = 1
  | [], [] => .inr (.inl rfl)
  | [], _ :: _ => .inr (.inl rfl)
  | _ :: _, [] => .inr (.inl rfl)
  | x :: a, y :: b => by
    simp only [cmpL]
    split
    · exact .inl rfl
    · split
      · exact .inr (.inr rfl)
      · exact cmpL_vals a b
theorem cmpL_eq0 : ∀ {a b : List Int}, a.length = b.length → cmpL a b = 0 → a = b
  | [], [], _, _ => rfl
  | [], _ :: _, h, _ => by simp at h
  | _ :: _, [], h, _ => by simp at h
  | x :: a, y :: b, h, h0 => by
    simp only [cmpL] at h0
    split at h0
    · cases h0
    · split at h0
      · cases h0
      · have := cmpL_eq0 (by simpa using h) h0
        have hxy : x = y := by omega
        rw [hxy, this]
theorem dotL_anti : ∀ w a b : List Int, dotL w b a = -(dotL w a b)
  | [], _, _ => by simp [dotL]
  | _ :: _, [], [] => by simp [dotL]
  | _ :: _, [], _ :: _ => by simp [dotL]
  | _ :: _, _ :: _, [] => by simp [dotL]
  | w :: ws, a :: as, b :: bs => by
    simp only [dotL, dotL_anti ws as bs, Int.mul_sub]; omega
theorem ordCmp_anti (o : List (List Int)) (a b : List Int) : ordCmp o b a = -(ordCmp o a b) := by
  induction o with
  | nil => exact cmpL_anti a b
  | cons w o ih =>
    simp only [ordCmp, dotL_anti w a b]
    rcases Int.lt_trichotomy (dotL w a b) 0 with h | h | h
    · rw [if_neg (by omega), if_pos (by omega), if_pos h]; rfl
    · rw [if_neg (by omega), if_neg (by omega), if_neg (by omega), if_neg (by omega), ih]
    · rw [if_pos (by omega), if_neg (by omega), if_pos h]
theorem ordCmp_vals (o : List (List Int)) (a b : List Int) : ordCmp o a b = -1 ∨ ordCmp o a b = 0 ∨ ordCmp o a b = 1 := by
  induction o with
  | nil => exact cmpL_vals a b
  | cons w o ih =>
    simp only [ordCmp]
    split
    · exact .inl rfl
    · split
      · exact .inr (.inr rfl)
      · exact ih
theorem ordCmp_eq0 (o : List (List Int)) {a b : List Int} (h : a.length = b.length) (h0 : ordCmp o a b = 0) : a = b := by
  induction o with
  | nil => exact cmpL_eq0 h h0
  | cons w o ih =>
    simp only [ordCmp] at h0
    split at h0
    · cases h0
    · split at h0
      · cases h0
      · exact ih h0
@[simp] theorem nr1_fn (f : Nat) (cs : List AV) : nr1 (.fn f cs) = cs.all nrc := rfl
def All8 (L : List (List Int)) : Prop := ∀ r ∈ L, r.length = 8
theorem flat_row : ∀ {L : List (List Int)} {j : Nat} {r : List Int}, All8 L → L[j]? = some r → (L.flatten.drop (j * 8)).take 8 = r
  | [], _, _, _, h => by simp at h
  | x :: L, 0, r, h8, h => by
    simp at h; subst h
    have hx := h8 x (by simp)
    rw [Nat.zero_mul, List.drop_zero, List.flatten_cons, List.take_append_of_le_length (by omega), List.take_of_length_le (by omega)]
  | x :: L, j + 1, r, h8, h => by
    have hx := h8 x (by simp)
    have e : (j + 1) * 8 = x.length + j * 8 := by omega
    rw [e, List.flatten_cons, List.drop_append, List.drop_of_length_le (by omega), List.nil_append]
    have e2 : x.length + j * 8 - x.length = j * 8 := by omega
    rw [e2]
    exact flat_row (fun r hr => h8 r (by simp [hr])) (by simpa using h)
section
variable {S : Store} {b j n : Nat} {ex : Bool} {L : List (List Int)} {r : List Int}
theorem rd_row (h : S[b]? = some (.mu (nums .i64 L.flatten) ex)) (h8 : All8 L) (hn : L.length = n) (hj : L[j]? = some r) : rd S b (j * 8) (8 * n) 8 = some (nums .i64 r) := by
  have hjl := (List.getElem?_eq_some_iff.1 hj).1
  have hl := flat_len h8
  rw [rd_mu h (by simp [hl, hn]) (by omega), nums_drop, nums_take, flat_row h8 hj]
end
theorem All8.set {L : List (List Int)} (h : All8 L) {j : Nat} {r : List Int} (hr : r.length = 8) : All8 (L.set j r) := fun x hx => by
  rcases List.mem_or_eq_of_mem_set hx with h' | rfl
  · exact h x h'
  · exact hr
abbrev Dec (o : List (List Int)) (L : List (List Int)) : Prop := L.Pairwise fun a b => 0 ≤ ordCmp o a b
structure Mono8 (L : List (List Int)) : Prop where
  len : All8 L
  bd : ∀ r ∈ L, Bd 200000 r
end Go.AVM
namespace Go.AVM
end Go.AVM
namespace Go.AVM
@[simp] theorem opA_clr {R : RunF} {S : Store} {sz b off n sz' vl : Nat} {cap : Option Nat} {z : List AV} : opA R (.clr sz z) [.msl b off n sz' vl cap] S = chk (sz = sz' ∧ z.length = sz) ((wr S b off vl (List.replicate n z).flatten).bind fun S' => some (.tup [], S')) := rfl
abbrev SDec (o : List (List Int)) (D : List (List Int)) : Prop := D.Pairwise fun a b => ordCmp o a b = 1
theorem take_snoc {α : Type} {L : List α} {p : Nat} {x : α} (hx : L[p]? = some x) : L.take (p + 1) = L.take p ++ [x] := by rw [List.take_add_one, hx]; rfl
theorem dec_to {o L : List (List Int)} (hd : Dec o L) {p : Nat} {x d : List Int} (hx : L[p]? = some x) (hm : d ∈ L.take p) : 0 ≤ ordCmp o d x := by
  have h := hd
  rw [← List.take_append_drop p L] at h
  have hp := (List.getElem?_eq_some_iff.1 hx)
  refine (List.pairwise_append.1 h).2.2 d hm x ?_
  rw [List.drop_eq_getElem_cons hp.1, hp.2]
  exact List.mem_cons_self ..
theorem sdec_snoc {o L D : List (List Int)} {p : Nat} {x y : List Int} (hd : Dec o L) (h8 : All8 L) (hx : L[p + 1]? = some x) (hy : L[p]? = some y) (hxy : x ≠ y) (hD : SDec o D) (hm : ∀ d, d ∈ D ↔ d ∈ L.take (p + 1)) :
    SDec o (D ++ [x]) ∧ ∀ d, d ∈ D ++ [x] ↔ d ∈ L.take (p + 2) := by
  have ht := take_snoc hx
  refine ⟨List.pairwise_append.2 ⟨hD, List.pairwise_singleton _ _, fun d hdD z hz => ?_⟩, fun d => ?_⟩
  · have hz' : z = x := by simpa using hz
    subst hz'
    have hdm := (hm d).1 hdD
    have h1 := dec_to hd hx hdm
    have hd8 := h8 d (List.mem_of_mem_take hdm)
    have hx8 := h8 z (List.mem_of_getElem? hx)
    have hy8 := h8 y (List.mem_of_getElem? hy)
    have hne : ordCmp o d z ≠ 0 := fun h0 => by
      have hdz := ordCmp_eq0 o (by omega) h0
      subst hdz
      have hyx : 0 ≤ ordCmp o y d := dec_to hd hx (by rw [take_snoc hy]; simp)
      rw [take_snoc hy] at hdm
      rcases List.mem_append.1 hdm with h | h
      · have h2 := dec_to hd hy h
        have h3 := ordCmp_anti o d y
        exact hxy (ordCmp_eq0 o (by omega) (by omega))
      · have : d = y := by simpa using h
        exact hxy this
    have := ordCmp_vals o d z
    omega
  · rw [ht]
    simp only [List.mem_append, hm d]
theorem mem_same {L D : List (List Int)} {p : Nat} {x : List Int} (hx : L[p + 1]? = some x) (hy : L[p]? = some x) (hm : ∀ d, d ∈ D ↔ d ∈ L.take (p + 1)) : ∀ d, d ∈ D ↔ d ∈ L.take (p + 2) := by
  intro d
  rw [take_snoc hx, hm d]
  constructor
  · exact fun h => List.mem_append.2 (.inl h)
  · intro h
    rcases List.mem_append.1 h with h | h
    · exact h
    · have : d = x := by simpa using h
      rw [this, take_snoc hy]; simp
structure Comp (o L : List (List Int)) (n k p : Nat) (A : List (List Int)) : Prop where
  all : All8 A
  len : A.length = n
  le : k ≤ p
  dec : SDec o (A.take k)
  mem : ∀ d, d ∈ A.take k ↔ d ∈ L.take (p + 1)
  rest : ∀ i, p ≤ i → A[i]? = L[i]?
theorem Comp.skip {o L A : List (List Int)} {n k p : Nat} {x : List Int} (h : Comp o L n k p A) (hx : L[p + 1]? = some x) (hy : L[p]? = some x) : Comp o L n k (p + 1) A :=
  ⟨h.all, h.len, by have := h.le; omega, h.dec, mem_same hx hy h.mem, fun i hi => h.rest i (by omega)⟩
theorem Comp.put {o L A : List (List Int)} {n k p : Nat} {x y : List Int} (hd : Dec o L) (h8 : All8 L) (hL : L.length = n) (h : Comp o L n k p A) (hx : L[p + 1]? = some x) (hy : L[p]? = some y) (hxy : x ≠ y) : Comp o L n (k + 1) (p + 1) (A.set k x) := by
  have hpn := (List.getElem?_eq_some_iff.1 hx).1
  have hkl : k < A.length := by have := h.le; have := h.len; omega
  have e : (A.set k x).take (k + 1) = A.take k ++ [x] := by
    rw [take_snoc (p := k) (x := x) (by simp [hkl])]
    congr 1
    rw [List.take_set_of_le (by omega)]
  have hs := sdec_snoc hd h8 hx hy hxy h.dec h.mem
  refine ⟨h.all.set (h8 x (List.mem_of_getElem? hx)), by simp [h.len], by have := h.le; omega, ?_, ?_, fun i hi => ?_⟩
  · rw [e]; exact hs.1
  · rw [e]; exact hs.2
  · have := h.le
    rw [List.getElem?_set_ne (by omega), h.rest i (by omega)]
end Go.AVM
namespace Go.AVM
end Go.AVM
namespace Go.AVM
end Go.AVM
namespace Go.AVM
def Grow0 (S : Store) (v : AV) (F : List (List Int)) : Prop := All8 F ∧ ((v = .sl [] 8 true ∧ F = []) ∨ ∃ b, F ≠ [] ∧ v = .msl b 0 F.length 8 (8 * F.length) none ∧ S[b]? = some (.mu (nums .i64 F.flatten) false))
theorem Grow0.app {S : Store} {v : AV} {F : List (List Int)} {r : List Int} (h : Grow0 S v F) (hr : r.length = 8) (hn : F.length < 1000) : ∃ v' S', appA 8 64 S v (.sl [R8 r] 8 true) = some (v', S') ∧ Grow0 S' v' (F ++ [r]) := by
  obtain ⟨h8, ⟨rfl, rfl⟩ | ⟨b, hne, rfl, hg⟩⟩ := h
  · refine ⟨.msl S.length 0 1 8 8 none, S ++ [.mu (nums .i64 r) false], ?_, ⟨fun x hx => ?_, .inr ⟨S.length, by simp, rfl, ?_⟩⟩⟩
    · have : room 1 64 := by decide
      simp [appA, held, chk, this]
    · have : x = r := by simpa using hx
      rw [this]; exact hr
    · simp [get_last]
  · have hl := flat_len h8
    have hroom : room (F.length + 1) 64 := by unfold room; omega
    have h1 : ¬ (F.length + 1) * 8 ≤ 8 * F.length := by omega
    have h2 : F.length * 8 ≤ 8 * F.length := by omega
    have hlt := lt_of_get hg
    refine ⟨.msl b 0 (F.length + 1) 8 (8 * (F.length + 1)) none, S.set b (.mu (nums .i64 (F ++ [r]).flatten) false), ?_, ⟨fun x hx => ?_, .inr ⟨b, by simp, by simp, by simp [hlt]⟩⟩⟩
    · have ht : (nums .i64 F.flatten).take (F.length * 8) = nums .i64 F.flatten := List.take_of_length_le (by simp only [nums_length, hl]; omega)
      have hfl : (F ++ [r]).flatten = F.flatten ++ r := by simp
      rw [hfl, ← nums_append]
      generalize hG : nums .i64 F.flatten = G at *
      have hGl : G.length = 8 * F.length := by rw [← hG, nums_length, hl]
      simp [appA, held, chk, hroom, h1, hg, hGl, h2, ht]
      omega
    · rcases List.mem_append.1 hx with h | h
      · exact h8 x h
      · have : x = r := by simpa using h
        rw [this]; exact hr
theorem Grow0.keep {S : Store} {v : AV} {F : List (List Int)} {vs : List AV} (h : Grow0 S v F) (hv : v ∈ vs) : Grow0 (trunc 0 vs S) v F := by
  obtain ⟨h8, h | ⟨b, hne, rfl, hg⟩⟩ := h
  · exact ⟨h8, .inl h⟩
  · refine ⟨h8, .inr ⟨b, hne, rfl, ?_⟩⟩
    rw [trunc_get (.inr ⟨_, hv, by simp [lt1, ltc]⟩), hg]
theorem nodup_len {α : Type} : ∀ {s m : List α}, s.Nodup → (∀ d, d ∈ s → d ∈ m) → s.length ≤ m.length
  | [], m, _, _ => by simp
  | x :: s, m, hn, h => by
    obtain ⟨a, b, rfl⟩ := List.append_of_mem (h x (by simp))
    have hn' := List.nodup_cons.1 hn
    have := nodup_len (s := s) (m := a ++ b) hn'.2 (fun d hd => by
      have h1 := h d (by simp [hd])
      rcases List.mem_append.1 h1 with h2 | h2
      · exact List.mem_append.2 (.inl h2)
      · rcases List.mem_cons.1 h2 with rfl | h2
        · exact absurd hd hn'.1
        · exact List.mem_append.2 (.inr h2))
    simp at this ⊢; omega
def unitL (k : Nat) : List Int := (List.replicate 8 0).set k 1
def unitsL (n : Nat) : List (List Int) := (List.range n).map unitL
theorem run_unit {k : Nat} (hk : k < 8) : callPure RT 41 [.int .i64 (k : Int), .int .i64 1] = some (R8 (unitL k)) := by
  match k, hk with
  | 0, _ => exact pureIs_run (O := noneE) (n := 30) noneE_sound (by kernel_rfl)
  | 1, _ => exact pureIs_run (O := noneE) (n := 30) noneE_sound (by kernel_rfl)
  | 2, _ => exact pureIs_run (O := noneE) (n := 30) noneE_sound (by kernel_rfl)
  | 3, _ => exact pureIs_run (O := noneE) (n := 30) noneE_sound (by kernel_rfl)
  | 4, _ => exact pureIs_run (O := noneE) (n := 30) noneE_sound (by kernel_rfl)
  | 5, _ => exact pureIs_run (O := noneE) (n := 30) noneE_sound (by kernel_rfl)
  | 6, _ => exact pureIs_run (O := noneE) (n := 30) noneE_sound (by kernel_rfl)
  | 7, _ => exact pureIs_run (O := noneE) (n := 30) noneE_sound (by kernel_rfl)
theorem unitL_len (k : Nat) : (unitL k).length = 8 := by simp [unitL]
theorem Grow0.clone {S : Store} {o : List (List Int)} (h8 : All8 o) (hl : o.length < 1000) : ∃ v S', appA 8 64 S (.sl [] 8 true) (OR o) = some (v, S') ∧ Grow0 S' v o := by
  have hx : held S 8 (OR o) = some (o.length, nums .i64 o.flatten) := by
    simp only [held]
    rw [chk_pos trivial, rows_cells]; simp
  unfold appA
  rw [hx]
  simp only [Option.bind_some]
  rw [chk_pos trivial]
  by_cases h0 : o = []
  · subst h0
    exact ⟨.sl [] 8 true, S, rfl, h8, .inl ⟨rfl, rfl⟩⟩
  · have hne : ¬ o.length = 0 := fun h => h0 (List.length_eq_zero_iff.1 h)
    rw [if_neg hne, chk_pos ⟨trivial, by unfold room; simp; omega⟩]
    refine ⟨_, _, rfl, h8, .inr ⟨S.length, h0, ?_, ?_⟩⟩
    · simp; omega
    · simp
theorem Grow0.keepn {S : Store} {v : AV} {F : List (List Int)} {vs : List AV} {k : Nat} (h : Grow0 S v F) (hv : v ∈ vs) : Grow0 (trunc k vs S) v F := by
  obtain ⟨h8, h | ⟨b, hne, rfl, hg⟩⟩ := h
  · exact ⟨h8, .inl h⟩
  · refine ⟨h8, .inr ⟨b, hne, rfl, ?_⟩⟩
    by_cases hb : b < k
    · rw [trunc_get (.inl hb), hg]
    · rw [trunc_get (.inr ⟨_, hv, by simp [lt1, ltc]; omega⟩), hg]
set_option maxRecDepth 20000 in
theorem full_loop {base : Nat} {o : List (List Int)} (ho : All8 o) (hol : o.length < 900) {Q : FQ}
    (h1 : ∀ (tm : List AV) (ht : tm.length = 27) (S' : Store) (v : AV), tm[4] = v → Grow0 S' v (o ++ unitsL 8) → Q (.ex 0) ⟨tm, S'⟩) :
    ∀ (m j : Nat), j + m = 8 → ∀ (S : Store) (v : AV), Grow0 S v (o ++ unitsL j) →
    wpL RT f28_0m base f28_0 ⟨[.any, .any, .any, .any, v, .any, .any, .any, .any, .any, .any, .any, .any, .any, .int .i64 (j : Int)] ++ List.replicate 12 .any, S⟩ Q := by
  intro m
  induction m with
  | zero =>
    intro j hj S v hG
    have hj' : j = 8 := by omega
    subst hj'
    rw [wpL_step]
    generalize hK' : loopQ RT f28_0m base f28_0 Q = KK
    simp [f28_0, List.replicate]
    subst hK'
    exact h1 _ rfl S v rfl hG
  | succ m ih =>
    intro j hj S v hG
    have hj8 : j < 8 := by omega
    have hlt : (j : Int) < 8 := by omega
    have hw : IntKind.i64.wrap ((j : Int) + 1) = ((j + 1 : Nat) : Int) := wrap_i64 (by omega) (by omega)
    have hu := run_unit hj8
    obtain ⟨v', S', ha, hG'⟩ := hG.app (unitL_len j) (by simp [unitsL]; omega)
    have hul : o ++ unitsL j ++ [unitL j] = o ++ unitsL (j + 1) := by
      unfold unitsL
      rw [List.append_assoc, List.range_succ, List.map_append]; rfl
    rw [hul] at hG'
    have hlen := unitL_len j
    have hih := fun S v h => ih (j + 1) (by omega) S v h
    clear hul hG
    generalize unitL j = u at *
    rw [wpL_step]
    generalize hK' : loopQ RT f28_0m base f28_0 Q = KK
    simp [f28_0, List.replicate, hlt, hu, after_nr, opA_litn, fillE, elt, hlen, ha, hw]
    subst hK'
    simp [head, f28_0m, mask]
    have := hih (trunc base _ S') v' (hG'.keepn (vs := [.any, .any, .any, .any, v', .any, .any, .any, .any, .any, .any, .any, .any, .any, .int .i64 ((j : Int) + 1)] ++ List.replicate 12 .any) (by simp))
    simpa [f28_0m, List.replicate] using this
def fullL (o : List (List Int)) : List (List Int) := if indR 8 0 (o.map toQ) then o else o ++ unitsL 8
def FullR (o : List (List Int)) (r : AV) (S : Store) : Prop :=
  if validB o then (if (fullL o).length ≤ 24 then ∃ v, r = .tup [v, .int .i64 0] ∧ Grow0 S v (fullL o) else r = .tup [.sl [] 8 true, .int .i64 2]) else r = .tup [.sl [] 8 true, .int .i64 50]
theorem valid_bd {o : List (List Int)} (h : validB o = true) : o.length ≤ 24 := by
  unfold validB at h
  simp at h; exact h.1
set_option maxRecDepth 20000 in
theorem run_full {o : List (List Int)} (ho : ∀ w ∈ o, w.length = 8) (hb : validB o = true → ∀ w ∈ o, Bd 1000000 w) (hol : o.length < 1000000) : wpF RT 28 [OR o] [] (FullR o) := by
  have hv := run_valid ho hol
  refine wpF_of tab_28 rfl ?_
  cases hvb : validB o with
  | false =>
    rw [hvb] at hv
    simp [f28, enter, hv]
    simp [FullR, hvb]
  | true =>
    rw [hvb] at hv
    have hl24 := valid_bd hvb
    have hi := run_indep (fun w hw => ⟨ho w hw, hb hvb w hw⟩) hol
    obtain ⟨v, S, hcl, hG⟩ := Grow0.clone (S := []) ho (by omega)
    cases hib : indR 8 0 (o.map toQ) with
    | true =>
      rw [hib] at hi
      simp [f28, enter, hv, hcl, hi]
      have hf : fullL o = o := by unfold fullL; rw [if_pos hib]
      unfold FullR
      rw [if_pos hvb, hf, if_pos hl24]
      exact ⟨v, rfl, hG⟩
    | false =>
      rw [hib] at hi
      have hf : fullL o = o ++ unitsL 8 := by unfold fullL; rw [if_neg (by simp [hib])]
      have lp := fun (Q : FQ) h => full_loop (Q := Q) (base := S.length) ho (by omega) h 8 0 rfl S v (by simpa [unitsL] using hG)
      simp only [List.replicate, List.cons_append, List.nil_append, Int.natCast_zero] at lp
      have hT : ∀ vs, trunc S.length vs S = S := fun vs => trunc_len (Nat.le_refl _)
      simp [f28, enter, hv, hcl, hi]
      simp [head, f28_0m, mask, hT]
      refine lp _ ?_
      intro tm ht S' v' t4 hG'
      have hlen : (o ++ unitsL 8).length = o.length + 8 := by simp [unitsL]
      obtain ⟨h8, ⟨rfl, hF⟩ | ⟨b, hne, rfl, hg⟩⟩ := hG'
      · rw [hF] at hlen; simp at hlen
      · by_cases hc : o.length + 8 ≤ 24
        · have hc' : ¬ (24 : Int) < (o.length : Int) + 8 := by omega
          simp [ht, t4, hlen, hc']
          unfold FullR
          rw [if_pos hvb, hf, if_pos (by rw [hlen]; exact hc)]
          refine ⟨_, rfl, h8, .inr ⟨b, hne, ?_, hg⟩⟩
          rw [hlen]
        · have hc' : (24 : Int) < (o.length : Int) + 8 := by omega
          simp [ht, t4, hlen, hc']
          unfold FullR
          rw [if_pos hvb, hf, if_neg (by rw [hlen]; exact hc)]
theorem run_unit5 {k : Nat} (hk : k < 8) : callPure RT 142 [.int .i64 (k : Int), .int .i64 1] = some (R8 (unitL k)) := by
  have h : k = 0 ∨ k = 1 ∨ k = 2 ∨ k = 3 ∨ k = 4 ∨ k = 5 ∨ k = 6 ∨ k = 7 := by omega
  rcases h with rfl | rfl | rfl | rfl | rfl | rfl | rfl | rfl
  all_goals exact pureIs_run (O := noneE) (n := 30) noneE_sound (by kernel_rfl)
def colV (k : Nat) : Int → List (List Int) → Bool
  | a, [] => decide (0 ≤ a)
  | a, w :: o => if w.getD k 0 < -1000 ∨ 1000 < w.getD k 0 then false else colV k (if a = 0 then w.getD k 0 else a) o
set_option maxRecDepth 20000 in
theorem colv_loop {o : List (List Int)} {k : Nat} (ho : ∀ w ∈ o, w.length = 8) (hol : o.length < 1000000) (hk : k < 8) {Q : FQ}
    (h1 : ∀ (tm : List AV) (hl : tm.length = 45) (a : Int), tm[0] = OR o → tm[3] = .int .i64 (k : Int) → tm[4] = .int .i64 a → colV k 0 o = decide (0 ≤ a) → Q (.ex 2) ⟨tm, []⟩)
    (h2 : ∀ (tm : List AV) (hl : tm.length = 45), tm[2] = .bool false → colV k 0 o = false → Q .ret ⟨tm, []⟩) :
    ∀ (m i : Nat), i + m = o.length → ∀ a : Int, colV k a (o.drop i) = colV k 0 o →
    wpL RT f138_0m 0 f138_0 ⟨[OR o, .any, .any, .int .i64 (k : Int), .int .i64 a, .int .i64 (i : Int)] ++ List.replicate 39 .any, []⟩ Q := by
  intro m
  induction m with
  | zero =>
    intro i hi a he
    have hi' : i = o.length := by omega
    subst hi'
    rw [List.drop_of_length_le (Nat.le_refl _)] at he
    rw [wpL_step]
    generalize hK : loopQ RT f138_0m 0 f138_0 Q = K
    simp [f138_0, List.replicate]
    subst hK
    exact h1 _ rfl a rfl rfl rfl he.symm
  | succ m ih =>
    intro i hi a he
    have hi1 : i < o.length := by omega
    rw [List.drop_eq_getElem_cons hi1] at he
    have hwl := ho o[i] (List.getElem_mem hi1)
    have hget : o[i]? = some o[i] := List.getElem?_eq_getElem hi1
    generalize o[i] = w at *
    have hwk : w[k]? = some (w.getD k 0) := by rw [List.getD_eq_getElem?_getD, List.getElem?_eq_getElem (by omega)]; rfl
    simp only [colV] at he
    have hln : k + 1 ≤ 8 := by omega
    have hkl : (k : Int) < 8 := by omega
    have hkk : 1 ≤ 8 - k := by omega
    generalize w.getD k 0 = x at *
    have hw : IntKind.i64.wrap ((i : Int) + 1) = ((i + 1 : Nat) : Int) := wrap_i64 (by omega) (by omega)
    have hlt : (i : Int) < (o.length : Int) := by omega
    rw [wpL_step]
    generalize hK : loopQ RT f138_0m 0 f138_0 Q = K
    by_cases c1 : x < -1000
    · rw [if_pos (.inl c1)] at he
      simp [f138_0, List.replicate, hlt, hget, chk, hwl, hkl, hwk, hln, hkk, c1]
      subst hK
      exact h2 _ rfl rfl he.symm
    · by_cases c2 : 1000 < x
      · rw [if_pos (.inr c2)] at he
        simp [f138_0, List.replicate, hlt, hget, chk, hwl, hkl, hwk, hln, hkk, c1, c2]
        subst hK
        exact h2 _ rfl rfl he.symm
      · rw [if_neg (by omega)] at he
        by_cases c3 : a = 0
        · subst c3
          rw [if_pos rfl] at he
          have := ih (i + 1) (by omega) x he
          simp [f138_0, List.replicate, hlt, hget, chk, hwl, hkl, hwk, hln, hkk, c1, c2, hw]
          subst hK
          simp [head, f138_0m, mask, trunc_len]
          simpa [f138_0m, List.replicate] using this
        · rw [if_neg c3] at he
          have := ih (i + 1) (by omega) a he
          simp [f138_0, List.replicate, hlt, hget, chk, hwl, hkl, hwk, hln, hkk, c1, c2, c3, hw]
          subst hK
          simp [head, f138_0m, mask, trunc_len]
          simpa [f138_0m, List.replicate] using this
set_option maxRecDepth 20000 in
theorem colsv_loop {o : List (List Int)} (ho : ∀ w ∈ o, w.length = 8) (hol : o.length < 1000000) {Q : FQ}
    (h1 : ∀ (tm : List AV) (hl : tm.length = 45), (∀ k, k < 8 → colV k 0 o = true) → Q (.ex 0) ⟨tm, []⟩)
    (h2 : ∀ (tm : List AV) (hl : tm.length = 45), tm[2] = .bool false → (∃ k, k < 8 ∧ colV k 0 o = false) → Q .ret ⟨tm, []⟩) :
    ∀ (m k : Nat), k + m = 8 → (∀ k', k' < k → colV k' 0 o = true) →
    wpL RT f138_1m 0 f138_1 ⟨[OR o, .any, .any, .int .i64 (k : Int)] ++ List.replicate 41 .any, []⟩ Q := by
  intro m
  induction m with
  | zero =>
    intro k hk hp
    have hk' : k = 8 := by omega
    subst hk'
    rw [wpL_step]
    generalize hK : loopQ RT f138_1m 0 f138_1 Q = K
    simp [f138_1, List.replicate]
    subst hK
    exact h1 _ rfl hp
  | succ m ih =>
    intro k hk hp
    have hk8 : k < 8 := by omega
    have hlt : (k : Int) < 8 := by omega
    have hw : IntKind.i64.wrap ((k : Int) + 1) = ((k + 1 : Nat) : Int) := wrap_i64 (by omega) (by omega)
    rw [wpL_step]
    generalize hK : loopQ RT f138_1m 0 f138_1 Q = K
    simp [f138_1, List.replicate, hlt]
    simp [head, f138_0m, mask, trunc_len]
    refine colv_loop ho hol hk8 ?_ ?_ o.length 0 (by simp) 0 rfl
    · intro tm hl a h0 h3 h4 he
      by_cases c : a < 0
      · simp [hl, h0, h3, h4, c]
        subst hK
        exact h2 _ (by simp [hl]) (by simp [hl]) ⟨k, hk8, by rw [he]; simp; omega⟩
      · have hck : colV k 0 o = true := by rw [he]; simp; omega
        have := ih (k + 1) (by omega) fun k' hk' => by
          by_cases e : k' = k
          · rw [e]; exact hck
          · exact hp k' (by omega)
        simp [hl, h0, h3, h4, c, hw]
        subst hK
        simp only [loopQ_nrm, head]
        rw [mask_of (n := 45) (by simp [hl])]
        simp [f138_1m, hl, h0, List.range_succ, trunc_len]
        simpa [f138_1m, List.replicate] using this
    · intro tm hl hb hf
      simp [hl, hb]
      subst hK
      exact h2 _ hl hb ⟨k, hk8, hf⟩
def ColP (k : Nat) (o : List (List Int)) : Prop := (∀ w ∈ o, -1000 ≤ w.getD k 0 ∧ w.getD k 0 ≤ 1000) ∧ colOk k o
theorem colV_pos {k : Nat} : ∀ {o : List (List Int)} {a : Int}, a ≠ 0 → (colV k a o = true ↔ (∀ w ∈ o, -1000 ≤ w.getD k 0 ∧ w.getD k 0 ≤ 1000) ∧ 0 < a)
  | [], a, h => by simp [colV]; omega
  | w :: o, a, h => by
    simp only [colV]
    by_cases c : w.getD k 0 < -1000 ∨ 1000 < w.getD k 0
    · rw [if_pos c]
      simp only [Bool.false_eq_true, List.mem_cons, forall_eq_or_imp, false_iff]
      omega
    · rw [if_neg c, if_neg h, colV_pos (o := o) h]
      simp only [List.mem_cons, forall_eq_or_imp]
      have : -1000 ≤ w.getD k 0 ∧ w.getD k 0 ≤ 1000 := by omega
      simp only [this, true_and, and_true]
theorem colV_iff {k : Nat} : ∀ {o : List (List Int)}, colV k 0 o = true ↔ ColP k o
  | [] => by simp [colV, ColP, colOk]
  | w :: o => by
    simp only [colV, ColP, colOk]
    by_cases c : w.getD k 0 < -1000 ∨ 1000 < w.getD k 0
    · rw [if_pos c]
      simp only [Bool.false_eq_true, List.mem_cons, forall_eq_or_imp, false_iff]
      omega
    · rw [if_neg c]
      simp only [if_true]
      have hb : -1000 ≤ w.getD k 0 ∧ w.getD k 0 ≤ 1000 := by omega
      by_cases h0 : w.getD k 0 = 0
      · rw [h0, colV_iff]
        simp only [ColP, List.mem_cons, forall_eq_or_imp, h0]
        simp
      · rw [colV_pos h0]
        simp only [List.mem_cons, forall_eq_or_imp, hb, true_and, h0, false_and, or_false, and_true]
theorem rowOk_iff : ∀ (w : List Int) (bs : List Bool), w.length = bs.length → (rowOk w bs = true ↔ ∀ k, k < w.length → okW (w.getD k 0) (bs.getD k false) = true)
  | [], [], _ => by simp [rowOk]
  | x :: w, b :: bs, h => by
    have ih := rowOk_iff w bs (by simpa using h)
    simp only [rowOk, Bool.and_eq_true, ih]
    constructor
    · rintro ⟨h1, h2⟩ k hk
      cases k with
      | zero => simpa using h1
      | succ k => simpa using h2 k (by simpa using hk)
    · intro h
      exact ⟨by simpa using h 0 (by simp), fun k hk => by simpa using h (k + 1) (by simpa using hk)⟩
  | [], _ :: _, h => by simp at h
  | _ :: _, [], h => by simp at h
theorem goV_iff : ∀ (o : List (List Int)) (bs : List Bool), bs.length = 8 → (∀ w ∈ o, w.length = 8) → (goV bs o = true ↔ ∀ k, k < 8 → (∀ w ∈ o, -1000 ≤ w.getD k 0 ∧ w.getD k 0 ≤ 1000) ∧ (bs.getD k false = true ∨ colOk k o))
  | [], bs, _, _ => by
    have : goV bs [] = true := by cases bs <;> rfl
    simp [this, colOk]
  | w :: o, bs, hb, ho => by
    have hwl := ho w (by simp)
    have hn : (rowNext w bs).length = 8 := by rw [rowNext_len]; exact hb
    have ih := goV_iff o (rowNext w bs) hn (fun v hv => ho v (by simp [hv]))
    have hg : goV bs (w :: o) = (rowOk w bs && goV (rowNext w bs) o) := by cases bs <;> rfl
    rw [hg, Bool.and_eq_true, ih, rowOk_iff w bs (by omega), hwl]
    have hnx : ∀ k, k < 8 → (rowNext w bs).getD k false = nextW (w.getD k 0) (bs.getD k false) := fun k hk => by
      have h1 : w[k]? = some (w.getD k 0) := by rw [List.getD_eq_getElem?_getD, List.getElem?_eq_getElem (by omega)]; rfl
      have h2 : bs[k]? = some (bs.getD k false) := by rw [List.getD_eq_getElem?_getD, List.getElem?_eq_getElem (by omega)]; rfl
      rw [List.getD_eq_getElem?_getD, rowNext_get w bs k _ _ h1 h2]; rfl
    have key : ∀ k, k < 8 → ((okW (w.getD k 0) (bs.getD k false) = true ∧ (∀ v ∈ o, -1000 ≤ v.getD k 0 ∧ v.getD k 0 ≤ 1000) ∧ ((rowNext w bs).getD k false = true ∨ colOk k o)) ↔ ((∀ v ∈ w :: o, -1000 ≤ v.getD k 0 ∧ v.getD k 0 ≤ 1000) ∧ (bs.getD k false = true ∨ colOk k (w :: o)))) := fun k hk => by
      rw [hnx k hk]
      simp only [List.mem_cons, forall_eq_or_imp, colOk, okW, nextW, Bool.and_eq_true, Bool.or_eq_true, decide_eq_true_eq]
      generalize w.getD k 0 = x
      generalize bs.getD k false = b
      cases b with
      | true => simp
      | false =>
        simp only [Bool.false_eq_true, or_false, false_or]
        constructor
        · rintro ⟨⟨h1, h2, h3⟩, h4, h5⟩
          refine ⟨⟨⟨h1, h2⟩, h4⟩, ?_⟩
          rcases h5 with h | h
          · exact .inl h
          · by_cases h0 : x = 0
            · exact .inr ⟨h0, h⟩
            · exact .inl (by omega)
        · rintro ⟨⟨⟨h1, h2⟩, h4⟩, h5⟩
          refine ⟨⟨h1, h2, by omega⟩, h4, ?_⟩
          rcases h5 with h | ⟨_, h⟩
          · exact .inl h
          · exact .inr h
    constructor
    · rintro ⟨h1, h2⟩ k hk
      exact (key k hk).1 ⟨h1 k hk, h2 k hk⟩
    · intro h
      exact ⟨fun k hk => ((key k hk).2 (h k hk)).1, fun k hk => ((key k hk).2 (h k hk)).2⟩
theorem validB_iff {o : List (List Int)} (ho : ∀ w ∈ o, w.length = 8) : validB o = true ↔ o.length ≤ 24 ∧ ∀ k, k < 8 → ColP k o := by
  unfold validB ColP
  rw [Bool.and_eq_true, decide_eq_true_eq, goV_iff o _ (by simp) ho]
  have : ∀ k, k < 8 → (List.replicate 8 false).getD k false = false := fun k hk => by
    rw [List.getD_eq_getElem?_getD, List.getElem?_replicate]; simp [hk]
  constructor
  · rintro ⟨h1, h2⟩
    exact ⟨h1, fun k hk => ⟨(h2 k hk).1, (h2 k hk).2.resolve_left (by rw [this k hk]; decide)⟩⟩
  · rintro ⟨h1, h2⟩
    exact ⟨h1, fun k hk => ⟨(h2 k hk).1, .inr (h2 k hk).2⟩⟩
theorem run_valid5 {o : List (List Int)} (ho : ∀ w ∈ o, w.length = 8) (hol : o.length < 1000000) : callPure RT 138 [OR o] = some (.bool (validB o)) := by
  have hiff := validB_iff ho
  refine callPure_of (wpF_of tab_138 rfl ?_)
  by_cases c : o.length ≤ 24
  · have c' : ¬ (24 : Int) < (o.length : Int) := by omega
    simp [f138, enter, c']
    simp [head, f138_1m, mask, trunc_len]
    refine colsv_loop ho hol ?_ ?_ 8 0 rfl (fun k' h => by omega)
    · intro tm hl h
      have : validB o = true := hiff.2 ⟨c, fun k hk => colV_iff.1 (h k hk)⟩
      simp [hl, this]
    · intro tm hl h2 ⟨k, hk, h⟩
      have : validB o = false := by
        cases hv : validB o with
        | false => rfl
        | true => rw [colV_iff.2 ((hiff.1 hv).2 k hk)] at h; cases h
      simp [hl, h2, this]
  · have c' : (24 : Int) < (o.length : Int) := by omega
    have : validB o = false := by
      cases hv : validB o with
      | false => rfl
      | true => exact absurd (hiff.1 hv).1 c
    simp [f138, enter, c', this]
def permGo : List Bool → List Int → Bool
  | _, [] => true
  | bs, k :: ks => if 0 ≤ k ∧ k < 8 ∧ bs.getD k.toNat false = false then permGo (bs.set k.toNat true) ks else false
set_option maxRecDepth 20000 in
theorem perm_loop {p : List Int} {vo : AV} (hp : p.length = 8) (hpb : ∀ x ∈ p, -9223372036854775808 ≤ x ∧ x < 9223372036854775808) {Q : FQ}
    (h1 : ∀ (tm : List AV) (ht : tm.length = 65) (bs : List Bool), tm[0] = vo → tm[3] = .mptr 0 0 8 → permGo (List.replicate 8 false) p = true → Q (.ex 0) ⟨tm, [.mu (nums .i64 p) true, .mu (bools bs) true]⟩)
    (h2 : ∀ (tm : List AV) (ht : tm.length = 65) (S : Store), tm[4] = .sl [] 8 true → tm[5] = .int .i64 1 → permGo (List.replicate 8 false) p = false → Q .ret ⟨tm, S⟩) :
    ∀ (m i : Nat), i + m = 8 → ∀ bs : List Bool, bs.length = 8 → permGo bs (p.drop i) = permGo (List.replicate 8 false) p →
    wpL RT f29_0m 2 f29_0 ⟨[vo, .any, .any, .mptr 0 0 8, .any, .any, .mptr 1 0 8, .any, .any, .any, .any, .any, .any, .any, .any, .any, .any, .any, R8 p, .int .i64 (i : Int)] ++ List.replicate 45 .any, [.mu (nums .i64 p) true, .mu (bools bs) true]⟩ Q := by
  intro m
  induction m with
  | zero =>
    intro i hi bs hbs he
    have hi' : i = 8 := by omega
    subst hi'
    rw [List.drop_of_length_le (by omega)] at he
    rw [wpL_step]
    generalize hK' : loopQ RT f29_0m 2 f29_0 Q = KK
    simp [f29_0, List.replicate]
    subst hK'
    exact h1 _ rfl bs rfl rfl he.symm
  | succ m ih =>
    intro i hi bs hbs he
    have hi8 : i < 8 := by omega
    have hlt : (i : Int) < 8 := by omega
    have hw : IntKind.i64.wrap ((i : Int) + 1) = ((i + 1 : Nat) : Int) := wrap_i64 (by omega) (by omega)
    have hget : (nums .i64 p)[i]? = some (.int .i64 (p[i]'(by omega))) := by
      rw [List.getElem?_eq_getElem (by simpa [hp] using hi8), nums_getElem]
    rw [List.drop_eq_getElem_cons (by omega)] at he
    simp only [permGo] at he
    have hbd := hpb p[i] (List.getElem_mem _)
    have hih := ih (i + 1) (by omega)
    generalize p[i] = x at *
    rw [wpL_step]
    generalize hK' : loopQ RT f29_0m 2 f29_0 Q = KK
    by_cases c1 : x < 0
    · rw [if_neg (by omega)] at he
      simp [f29_0, List.replicate, hlt, hget, hp, c1]
      subst hK'
      exact h2 _ rfl _ rfl rfl he.symm
    · by_cases c2 : 8 ≤ x
      · rw [if_neg (by omega)] at he
        simp [f29_0, List.replicate, hlt, hget, hp, c1, c2]
        subst hK'
        exact h2 _ rfl _ rfl rfl he.symm
      · obtain ⟨q, rfl⟩ : ∃ q : Nat, x = (q : Int) := ⟨x.toNat, by omega⟩
        have hq : q < 8 := by omega
        have hql : (q : Int) < 8 := by omega
        have hgb : bs[q]? = some (bs.getD q false) := by rw [List.getD_eq_getElem?_getD, List.getElem?_eq_getElem (by omega)]; rfl
        have r1 : rd [.mu (nums .i64 p) true, .mu (bools bs) true] 1 q 8 1 = some [.bool (bs.getD q false)] := rd_bool rfl hbs hgb
        have w1 : wr [.mu (nums .i64 p) true, .mu (bools bs) true] 1 q 8 [.bool true] = some [.mu (nums .i64 p) true, .mu (bools (bs.set q true)) true] := wr_bool rfl hbs hq
        simp only [Int.toNat_natCast] at he
        have hih2 := hih (bs.set q true) (by simpa using hbs)
        generalize bs.getD q false = b at *
        cases b with
        | true =>
          rw [if_neg (by simp)] at he
          simp [f29_0, List.replicate, hlt, hget, hp, c1, c2, hql, r1]
          subst hK'
          exact h2 _ rfl _ rfl rfl he.symm
        | false =>
          rw [if_pos ⟨by omega, hql, rfl⟩] at he
          have := hih2 he
          simp [f29_0, List.replicate, hlt, hget, hp, c1, c2, hql, r1, w1, hw]
          subst hK'
          simp [head, f29_0m, mask, trunc_len]
          simpa [f29_0m, List.replicate] using this
set_option maxRecDepth 20000 in
theorem permn_loop {p : List Int} (hp : p.length = 8) {Q : FQ}
    (h1 : ∀ (tm : List AV) (ht : tm.length = 31) (S : Store), permGo (List.replicate 8 false) p = true → Q (.ex 0) ⟨tm, S⟩)
    (h2 : ∀ (tm : List AV) (ht : tm.length = 31) (S : Store), tm[2] = .bool false → permGo (List.replicate 8 false) p = false → Q .ret ⟨tm, S⟩) :
    ∀ (m i : Nat), i + m = 8 → ∀ bs : List Bool, bs.length = 8 → permGo bs (p.drop i) = permGo (List.replicate 8 false) p →
    wpL RT f143_0m 2 f143_0 ⟨[.any, .mptr 0 0 8, .any, .mptr 1 0 8, .int .i64 (i : Int)] ++ List.replicate 26 .any, [.mu (nums .i64 p) true, .mu (bools bs) true]⟩ Q := by
  intro m
  induction m with
  | zero =>
    intro i hi bs hbs he
    have hi' : i = 8 := by omega
    subst hi'
    rw [List.drop_of_length_le (by omega)] at he
    rw [wpL_step]
    generalize hK' : loopQ RT f143_0m 2 f143_0 Q = KK
    simp [f143_0, List.replicate]
    subst hK'
    exact h1 _ rfl _ he.symm
  | succ m ih =>
    intro i hi bs hbs he
    have hi8 : i < 8 := by omega
    have hlt : (i : Int) < 8 := by omega
    have hw : IntKind.i64.wrap ((i : Int) + 1) = ((i + 1 : Nat) : Int) := wrap_i64 (by omega) (by omega)
    have hgp : p[i]? = some (p[i]'(by omega)) := List.getElem?_eq_getElem (by omega)
    rw [List.drop_eq_getElem_cons (by omega)] at he
    simp only [permGo] at he
    have hih := ih (i + 1) (by omega)
    generalize p[i] = x at *
    have r0 : ∀ bs : List Bool, rd [.mu (nums .i64 p) true, .mu (bools bs) true] 0 i 8 1 = some [.int .i64 x] := fun bs => rd_num rfl hp hgp
    rw [wpL_step]
    generalize hK' : loopQ RT f143_0m 2 f143_0 Q = KK
    by_cases c1 : x < 0
    · rw [if_neg (by omega)] at he
      simp [f143_0, List.replicate, hlt, r0, hp, c1]
      subst hK'
      exact h2 _ rfl _ rfl he.symm
    · by_cases c2 : 7 < x
      · rw [if_neg (by omega)] at he
        simp [f143_0, List.replicate, hlt, r0, hp, c1, c2]
        subst hK'
        exact h2 _ rfl _ rfl he.symm
      · obtain ⟨q, rfl⟩ : ∃ q : Nat, x = (q : Int) := ⟨x.toNat, by omega⟩
        have hq : q < 8 := by omega
        have hql : (q : Int) < 8 := by omega
        have hgb : bs[q]? = some (bs.getD q false) := by rw [List.getD_eq_getElem?_getD, List.getElem?_eq_getElem (by omega)]; rfl
        have r1 : rd [.mu (nums .i64 p) true, .mu (bools bs) true] 1 q 8 1 = some [.bool (bs.getD q false)] := rd_bool rfl hbs hgb
        have w1 : wr [.mu (nums .i64 p) true, .mu (bools bs) true] 1 q 8 [.bool true] = some [.mu (nums .i64 p) true, .mu (bools (bs.set q true)) true] := wr_bool rfl hbs hq
        simp only [Int.toNat_natCast] at he
        have hih2 := hih (bs.set q true) (by simpa using hbs)
        generalize bs.getD q false = b at *
        cases b with
        | true =>
          rw [if_neg (by simp)] at he
          simp [f143_0, List.replicate, hlt, r0, hp, c1, c2, hql, r1]
          subst hK'
          exact h2 _ rfl _ rfl he.symm
        | false =>
          rw [if_pos ⟨by omega, hql, rfl⟩] at he
          have := hih2 he
          simp [f143_0, List.replicate, hlt, r0, hp, c1, c2, hql, r1, w1, hw]
          subst hK'
          simp [head, f143_0m, mask, trunc_len]
          simpa [f143_0m, List.replicate] using this
theorem run_permn {p : List Int} (hp : p.length = 8) : callPure RT 143 [R8 p] = some (.bool (permGo (List.replicate 8 false) p)) := by
  refine callPure_of (wpF_of tab_143 rfl ?_)
  have key := fun (Q : FQ) h1 h2 => permn_loop (Q := Q) hp h1 h2 8 0 rfl (List.replicate 8 false) (by simp) rfl
  simp only [bools, List.map_replicate] at key
  simp [f143, enter, hp, fillA, wr, chk, splice]
  simp [head, f143_0m, mask, trunc_len]
  simp [List.replicate, f143_0m] at key
  refine key _ ?_ ?_
  · intro tm ht S h
    have h' : permGo (List.replicate 8 false) p = true := h
    simp [ht, h, h']
  · intro tm ht S hb h
    have h' : permGo (List.replicate 8 false) p = false := h
    simp [ht, hb, h, h']
theorem trim_loop {ws : List Nat} {t : Bool} (hw : Wd ws) (hlen : ws.length < 9223372036854775808) {base : Nat} {Q : FQ} (hQ : ∀ (tm : List AV) (hl : tm.length = 21), tm[0] = .sl (wds ws) 1 t → tm[3] = .int .i64 ((dig (val ws)).length : Int) → Q (.ex 0) ⟨tm, []⟩) :
    ∀ n, n ≤ ws.length → (∀ w ∈ ws.drop n, w = 0) → wpL RT f163_0m base f163_0 ⟨[.sl (wds ws) 1 t, .any, .any, .int .i64 (n : Int), .any, .any, .any, .any, .any, .any, .any, .any, .any, .any, .any, .any, .any, .any, .any, .any, .any], []⟩ Q := by
  intro n
  induction n with
  | zero =>
    intro hn hz
    have hcut := cut_dig hw hn hz (.inl rfl)
    rw [wpL_eq]
    generalize hK : (fun s' => wpL RT f163_0m base f163_0 (head f163_0m base s') Q) = K
    simp [f163_0]
    refine hQ _ rfl rfl ?_
    rw [← hcut]; simp
  | succ n ih =>
    intro hn hz
    have hnw : IntKind.i64.wrap (n : Int) = n := wrap_i64 (by omega) (by omega)
    obtain ⟨w, hget⟩ : ∃ w, ws[n]? = some w := ⟨ws[n], List.getElem?_eq_getElem (by omega)⟩
    rw [wpL_eq]
    generalize hK : (fun s' => wpL RT f163_0m base f163_0 (head f163_0m base s') Q) = K
    by_cases h0 : w = 0
    · subst h0
      simp [f163_0, hnw, hget]
      refine ⟨by omega, ?_⟩
      subst hK
      simp [head, f163_0m, mask, trunc]
      refine ih (by omega) fun v hv => ?_
      rw [List.drop_eq_getElem_cons (by omega)] at hv
      rcases List.mem_cons.1 hv with rfl | hv
      · rw [List.getElem?_eq_getElem (by omega)] at hget; exact Option.some.inj hget
      · exact hz v hv
    · have hcut := cut_dig hw hn hz (.inr ⟨w, hget, h0⟩)
      simp [f163_0, hnw, hget, h0]
      refine ⟨by omega, hQ _ rfl rfl ?_⟩
      have := congrArg List.length hcut
      simp at this
      rw [← this, Nat.min_eq_left hn]; rfl
theorem run_trim {ws : List Nat} {t : Bool} (hw : Wd ws) (hlen : ws.length < 9223372036854775808) : callPure RT 163 [.sl (wds ws) 1 t] = some (N (val ws)) := by
  refine callPure_of (wpF_of tab_163 rfl ?_)
  simp [f163, enter]
  simp [head, f163_0m, mask, trunc]
  refine trim_loop (t := t) hw hlen ?_ ws.length (Nat.le_refl _) (by simp)
  intro tm hl h0 h3
  obtain ⟨hcut, hle⟩ := norm_take hw
  simp [hl, h0, h3, sliceA, bounds, bound, hle, wds_take, hcut]
theorem run_made1 {ws : List Nat} {t neg : Bool} (hw : Wd ws) (hlen : ws.length ≤ Lim) : callPure RT 155 [.bool neg, .sl (wds ws) 1 t] = some (.agg [.bool (neg && decide (val ws ≠ 0)), N (val ws)]) := by
  refine callPure_of (wpF_of tab_155 rfl ?_)
  have hL : Lim = 1099511627776 := rfl
  have hn := run_trim (t := false) hw (by omega)
  have hd := dig_len_le hw
  by_cases h0 : val ws = 0
  · cases neg
    · simp [f155, enter, hn, h0, after_nr, held, chk, fillA, splice, wr, rd]
    · simp [f155, enter, hn, h0, after_nr, held, chk, fillA, splice, wr, rd]
  · have h1 : (dig (val ws)).length ≠ 0 := fun h => h0 (dig_nil.1 (List.eq_nil_of_length_eq_zero h))
    have h2 : 0 < (dig (val ws)).length := by omega
    cases neg
    · simp [f155, enter, hn, h0, h1, h2, after_nr, held, chk, fillA, splice, wr, rd]
    · simp [f155, enter, hn, h0, h1, h2, after_nr, held, chk, fillA, splice, wr, rd]
theorem run_madeN {n : Nat} {t neg : Bool} (h : size n ≤ Lim) : callPure RT 155 [.bool neg, .sl (wds (dig n)) 1 t] = some (Z (if neg then -(n : Int) else n)) := by
  rw [run_made1 (dig_wd n) h, val_dig, Z_of]
theorem run_words {n : Nat} (h : n < 18446744073709551616) : callPure RT 156 [.int .u64 (n : Int)] = some (N n) := by
  refine callPure_of (wpF_of tab_156 rfl ?_)
  obtain ⟨lo, hlo⟩ : ∃ lo, lo = n % 4294967296 := ⟨_, rfl⟩
  obtain ⟨hi, hhi⟩ : ∃ hi, hi = n / 4294967296 := ⟨_, rfl⟩
  have e1 : ((n : Int).tmod 4294967296) % 4294967296 = (lo : Int) := by
    rw [Int.tmod_eq_emod_of_nonneg (by omega)]; omega
  have e2 : ((n : Int).tdiv 4294967296) % 18446744073709551616 % 4294967296 = (hi : Int) := by
    rw [Int.tdiv_eq_ediv_of_nonneg (by omega)]; omega
  have e3 : (n : Int) / 4294967296 % 4294967296 = (hi : Int) := by omega
  have hw : Wd [lo, hi] := Wd.mk (show lo < 4294967296 by omega) (Wd.mk (show hi < 4294967296 by omega) Wd.nil)
  have hn := run_trim (t := false) hw (by simp)
  have hv : val [lo, hi] = n := by
    simp only [val]
    have : B = 4294967296 := rfl
    rw [this]; omega
  rw [hv, wds_cons, wds_one] at hn
  simp [f156, enter, wrap_u32, wrap_u64, opA_litn, fillE, elt, e1, e2, e3, hn, after_nr]
theorem run_word1 {ws : List Nat} {t : Bool} {i : Nat} (hw : Wd ws) (hlen : ws.length < 9223372036854775808) : callPure RT 173 [.sl (wds ws) 1 t, .int .i64 (i : Int)] = some (.int .u64 ((ws.getD i 0 : Nat) : Int)) := by
  refine callPure_of (wpF_of tab_173 rfl ?_)
  by_cases h : i < ws.length
  · have hg : ws[i]? = some ws[i] := List.getElem?_eq_getElem h
    have h' : (i : Int) < (ws.length : Int) := by omega
    have hb : ws[i] < 4294967296 := hw.get hg
    have e : ((ws[i] : Nat) : Int) % 18446744073709551616 = ((ws[i] : Nat) : Int) := by omega
    simp [f173, enter, h', hg, wrap_u64, e]
  · have h' : ¬ (i : Int) < (ws.length : Int) := by omega
    simp [f173, enter, h']
    rw [List.getElem?_eq_none (by omega)]; rfl
theorem run_number {n : Nat} (h : n < 18446744073709551616) : callPure RT 171 [N n] = some (.int .u64 (n : Int)) := by
  refine callPure_of (wpF_of tab_171 rfl ?_)
  have hs : (dig n).length ≤ 2 := size_le (k := 2) (by have : B = 4294967296 := rfl; rw [this]; omega)
  have h1 := run_word1 (t := false) (i := 1) (dig_wd n) (by omega)
  have h0 := run_word1 (t := false) (i := 0) (dig_wd n) (by omega)
  have hv := val_dig n
  have e : (dig n).getD 0 0 + 4294967296 * (dig n).getD 1 0 = n := by
    match hd : dig n, hs with
    | [], _ => rw [hd] at hv; simpa [val] using hv
    | [a], _ => rw [hd] at hv; simpa [val] using hv
    | [a, b], _ => rw [hd] at hv; simpa [val] using hv
    | _ :: _ :: _ :: _, hs => simp at hs
  generalize (dig n).getD 0 0 = a at *
  generalize (dig n).getD 1 0 = b at *
  have e1 : ((b : Int) * 4294967296 % 18446744073709551616 + a) % 18446744073709551616 = (n : Int) := by omega
  have h1' : callPure RT 173 [.sl (wds (dig n)) 1 false, .int .i64 1] = some (.int .u64 (b : Int)) := h1
  have h0' : callPure RT 173 [.sl (wds (dig n)) 1 false, .int .i64 0] = some (.int .u64 (a : Int)) := h0
  simp [f171, enter, h1', h0', wrap_u64, e1]
theorem run_Sign1 (i : Int) : callPure RT 151 [Z i] = some (.int .i64 i.sign) := by
  refine callPure_of (wpF_of tab_151 rfl ?_)
  rcases Int.lt_trichotomy i 0 with h | h | h
  · have hs : i.sign = -1 := Int.sign_eq_neg_one_iff_neg.2 h
    simp [f151, enter, Z_cells, h, hs, loadA, rd, chk]
  · subst h
    simp [f151, enter, Z_cells, loadA, rd, chk, minA]
  · have hs : i.sign = 1 := Int.sign_eq_one_iff_pos.2 h
    have h1 : ¬ i < 0 := by omega
    have h2 : (dig i.natAbs).length ≠ 0 := fun h => by
      have := dig_nil.1 (List.eq_nil_of_length_eq_zero h)
      omega
    have h3 : ¬ ((dig i.natAbs).length : Int) ≤ 1 ∨ ((dig i.natAbs).length : Int) = 1 := by omega
    simp [f151, enter, Z_cells, h1, hs, loadA, rd, chk]
    omega
theorem run_Of1 {n : Int} (h1 : -9223372036854775808 ≤ n) (h2 : n < 9223372036854775808) : callPure RT 149 [.int .i64 n] = some (Z n) := by
  refine callPure_of (wpF_of tab_149 rfl ?_)
  by_cases h : n < 0
  · have e1 : IntKind.i64.wrap (n + 1) = n + 1 := wrap_i64 (by omega) (by omega)
    obtain ⟨k, hk⟩ : ∃ k : Nat, (k : Int) = -(n + 1) := ⟨(-(n + 1)).toNat, by omega⟩
    have e2 : IntKind.i64.wrap (-(n + 1)) = (k : Int) := by rw [wrap_i64 (by omega) (by omega), hk]
    have e3 : ((k : Int) + 1) % 18446744073709551616 = ((n.natAbs : Nat) : Int) := by omega
    have hw := run_words (n := n.natAbs) (by omega)
    have hs : size n.natAbs ≤ Lim := Nat.le_trans (size_le (k := 2) (by have : B = 4294967296 := rfl; rw [this]; omega)) (by decide)
    have hm := run_madeN (t := false) (neg := true) hs
    have e4 : (if true = true then -((n.natAbs : Nat) : Int) else (n.natAbs : Nat)) = n := by simp; omega
    rw [e4] at hm
    simp [f149, enter, h, e1, e2, wrap_u64, e3, hw, hm, after_nr, Z_cells, wr, splice, rd, chk]
  · have e3 : n % 18446744073709551616 = ((n.natAbs : Nat) : Int) := by omega
    have hw := run_words (n := n.natAbs) (by omega)
    have hs : size n.natAbs ≤ Lim := Nat.le_trans (size_le (k := 2) (by have : B = 4294967296 := rfl; rw [this]; omega)) (by decide)
    have hm := run_madeN (t := false) (neg := false) hs
    have e4 : (if false = true then -((n.natAbs : Nat) : Int) else (n.natAbs : Nat)) = n := by simp; omega
    rw [e4] at hm
    simp [f149, enter, h, wrap_u64, e3, hw, hm, after_nr, Z_cells, wr, splice, rd, chk]
theorem run_Neg1 {i : Int} (h : zsize i ≤ Lim) : callPure RT 160 [Z i] = some (Z (-i)) := by
  refine callPure_of (wpF_of tab_160 rfl ?_)
  have hm := run_madeN (t := false) (neg := !decide (i < 0)) h
  have e4 : (if (!decide (i < 0)) = true then -((i.natAbs : Nat) : Int) else (i.natAbs : Nat)) = -i := by
    by_cases h : i < 0 <;> simp [h] <;> omega
  rw [e4] at hm
  simp [f160, enter, hm, after_nr, Z_cells i, Z_cells (-i), wr, splice, rd, chk]
theorem getD_wd {xs : List Nat} (hx : Wd xs) (i : Nat) : xs.getD i 0 < B := by
  rw [List.getD_eq_getElem?_getD]
  cases h : xs[i]? with
  | none => decide
  | some w => exact hx.get h
theorem tmod_word (s : Nat) : (s : Int).tmod 4294967296 = ((s % 4294967296 : Nat) : Int) := by
  rw [Int.tmod_eq_emod_of_nonneg (by omega)]; omega
theorem tdiv_word (s : Nat) : (s : Int).tdiv 4294967296 = ((s / 4294967296 : Nat) : Int) := by
  rw [Int.tdiv_eq_ediv_of_nonneg (by omega)]; omega
theorem added_loop {xs ys : List Nat} (hx : Wd xs) (hy : Wd ys) (hlx : xs.length ≤ Lim) (hly : ys.length ≤ Lim) {n : Nat} (hn : n = max xs.length ys.length + 1) {Q : FQ}
    (hQ : ∀ (tm : List AV) (hl : tm.length = 42) (ds : List Nat) (c : Nat), tm[6] = .msl 0 0 n 1 n none → ds.length = n → Wd ds → val ds + B ^ n * c = val xs + val ys → Q (.ex 0) ⟨tm, [.mu (wds ds) true]⟩) :
    ∀ (m i : Nat), i + m = n → ∀ (ds : List Nat) (c : Nat), ds.length = i → Wd ds → c ≤ 1 → val ds + B ^ i * c = val (xs.take i) + val (ys.take i) →
    wpL RT f167_0m 1 f167_0 ⟨[.sl (wds xs) 1 false, .sl (wds ys) 1 false, .any, .any, .any, .int .i64 (n : Int), .msl 0 0 n 1 n none, .int .u64 (c : Int), .int .i64 (i : Int), .any, .any, .any, .any, .any, .any, .any, .any, .any, .any, .any, .any, .any, .any, .any, .any, .any, .any, .any, .any, .any, .any, .any, .any, .any, .any, .any, .any, .any, .any, .any, .any, .any],
      [.mu (wds (ds ++ List.replicate m 0)) true]⟩ Q := by
  have hL : Lim = 1099511627776 := rfl
  intro m
  induction m with
  | zero =>
    intro i hi ds c hds hwd hc he
    have hi' : i = n := by omega
    subst hi'
    rw [wpL_step]
    generalize hK : loopQ RT f167_0m 1 f167_0 Q = K
    simp [f167_0]
    subst hK
    rw [List.take_of_length_le (by omega), List.take_of_length_le (by omega)] at he
    simp
    exact hQ _ rfl ds c rfl hds hwd he
  | succ m ih =>
    intro i hi ds c hds hwd hc he
    rw [wpL_step]
    generalize hK : loopQ RT f167_0m 1 f167_0 Q = K
    have hlt : (i : Int) < (n : Int) := by omega
    have ha1 := run_word1 (ws := xs) (t := false) (i := i) hx (by omega)
    have ha2 := run_word1 (ws := ys) (t := false) (i := i) hy (by omega)
    have hbx := getD_wd hx i
    have hby := getD_wd hy i
    have e1 := val_take_succ xs i
    have e2 := val_take_succ ys i
    generalize xs.getD i 0 = a at *
    generalize ys.getD i 0 = b at *
    obtain ⟨s, hs⟩ : ∃ s, s = (a + b + c) % B := ⟨_, rfl⟩
    obtain ⟨d, hd⟩ : ∃ d, d = (a + b + c) / B := ⟨_, rfl⟩
    have hsB : s < B := by rw [hs]; exact Nat.mod_lt _ (by decide)
    have hBe : B = 4294967296 := rfl
    have g1 : ((a : Int) + b + c) % 18446744073709551616 = ((a + b + c : Nat) : Int) := by rw [hBe] at hbx hby; omega
    have g2 := tmod_word (a + b + c)
    have g3 := tdiv_word (a + b + c)
    rw [← hBe, ← hs] at g2
    rw [← hBe, ← hd] at g3
    have g4 : (s : Int) % 4294967296 = (s : Int) := by rw [hBe] at hsB; omega
    have g5 : (d : Int) % 18446744073709551616 = (d : Int) := by rw [hBe] at hbx hby hd; omega
    have g6 : ((a + b + c : Nat) : Int) / 4294967296 % 18446744073709551616 = (d : Int) := by rw [hBe] at hbx hby hd; omega
    have hwr := wr_word (S := [.mu (wds (ds ++ List.replicate (m + 1) 0)) true]) (b := 0) (i := i) (vl := n) (w := s) rfl (by simp; omega) (by simp; omega)
    have hset : (ds ++ List.replicate (m + 1) 0).set i s = (ds ++ [s]) ++ List.replicate m 0 := by
      rw [List.set_append_right _ _ (by omega), hds, Nat.sub_self, List.replicate_succ, List.set_cons_zero]
      simp
    rw [hset] at hwr
    have hwi : IntKind.i64.wrap ((i : Int) + 1) = ((i + 1 : Nat) : Int) := wrap_i64 (by omega) (by omega)
    have hdl : d ≤ 1 := by rw [hBe] at hbx hby hd; omega
    generalize ht : a + b + c = t at *
    simp [f167_0, hlt, ha1, ha2, after_nr, wrap_u64, wrap_u32, g1, g2, g3, g4, g5]
    rw [hwr]
    simp [hwi, wrap_u64, g6]
    subst hK
    simp [head, f167_0m, mask]
    have := ih (i + 1) (by omega) (ds ++ [s]) d (by simp [hds]) (Wd.app hwd (Wd.mk hsB Wd.nil)) hdl (by
      rw [val_append, hds, e1, e2]
      have hdm := Nat.mod_add_div t B
      rw [← hs, ← hd] at hdm
      simp only [val, Nat.pow_succ]
      have e3 : B ^ i * (s + B * 0) + B ^ i * B * d = B ^ i * (a + b + c) := by
        rw [ht, ← hdm, Nat.mul_assoc, ← Nat.mul_add]; simp
      simp only [Nat.mul_zero, Nat.add_zero, Nat.mul_add] at e3 ⊢
      omega)
    simpa [f167_0m] using this
theorem run_added {x y : Nat} (hx : size x < Lim) (hy : size y < Lim) : callPure RT 167 [N x, N y] = some (N (x + y)) := by
  refine callPure_of (wpF_of tab_167 rfl ?_)
  have hL : Lim = 1099511627776 := rfl
  have hxs := lt_size x
  have hys := lt_size y
  unfold size at hx hy hxs hys
  obtain ⟨n, hn⟩ : ∃ n, n = max (dig x).length (dig y).length + 1 := ⟨_, rfl⟩
  have hmax : (if (dig x).length < (dig y).length then ((dig y).length : Int) else ((dig x).length : Int)) = ((n - 1 : Nat) : Int) := by
    split <;> omega
  have hwn : IntKind.i64.wrap (((n - 1 : Nat) : Int) + 1) = (n : Int) := by rw [wrap_i64 (by omega) (by omega)]; omega
  have hroom : room n 4 := by unfold room; omega
  have hln : (n : Int) ≤ 281474976710656 := by omega
  simp only [f167, enter_eq]
  simp [hmax, hwn, hln, hroom]
  simp [head, mask, f167_0m]
  have hst : List.replicate n (AV.int .u32 0) = wds ([] ++ List.replicate n 0) := wds_rep n 0
  rw [hst]
  refine added_loop (dig_wd x) (dig_wd y) (by omega) (by omega) hn ?_ n 0 (by omega) [] 0 rfl Wd.nil (by omega) (by simp [val])
  intro tm hl ds c h6 hds hwd he
  rw [val_dig, val_dig] at he
  have hv : val ds = x + y := by
    have h1 : B ^ (dig x).length ≤ B ^ (n - 1) := Nat.pow_le_pow_right (by decide) (by omega)
    have h2 : B ^ (dig y).length ≤ B ^ (n - 1) := Nat.pow_le_pow_right (by decide) (by omega)
    have h3 : B ^ n = B ^ (n - 1) * B := by rw [← Nat.pow_succ]; congr 1; omega
    have h4 : B ^ (n - 1) * 2 ≤ B ^ (n - 1) * B := Nat.mul_le_mul_left _ (by decide)
    rcases Nat.eq_zero_or_pos c with h | h
    · subst h; simpa using he
    · have : B ^ n * 1 ≤ B ^ n * c := Nat.mul_le_mul_left _ h
      generalize B ^ n = P at *
      omega
  have hnorm := run_trim (t := false) hwd (by omega)
  rw [hv] at hnorm
  have hfz : fzc [.mu (wds ds) true] (5 + 1) (.msl 0 0 n 1 n none) = some (W ds) := by
    have := fzc_mslv (S := [.mu (wds ds) true]) (b := 0) (n := n) (vl := n) (cap := none) (fuel := 5) rfl (by simp [hds]) (by simp [hds])
    rwa [List.take_of_length_le (by simp [hds])] at this
  simp [hl, h6, hfz, hnorm, after_row (S := [.mu (wds ds) true]) (b := 0) rfl (show (N (x + y)).bare = false from rfl)]
theorem taken_loop {xs ys : List Nat} (hx : Wd xs) (hy : Wd ys) (hlx : xs.length ≤ Lim) (hly : ys.length ≤ Lim) {n : Nat} (hn : n = xs.length) {Q : FQ}
    (hQ : ∀ (tm : List AV) (hl : tm.length = 41) (ds : List Nat) (c : Nat), tm[5] = .msl 0 0 n 1 n none → ds.length = n → Wd ds → c ≤ 1 → val ds + val (ys.take n) = val xs + B ^ n * c → Q (.ex 0) ⟨tm, [.mu (wds ds) true]⟩) :
    ∀ (m i : Nat), i + m = n → ∀ (ds : List Nat) (c : Nat), ds.length = i → Wd ds → c ≤ 1 → val ds + val (ys.take i) = val (xs.take i) + B ^ i * c →
    wpL RT f169_0m 1 f169_0 ⟨[.sl (wds xs) 1 false, .sl (wds ys) 1 false, .any, .any, .any, .msl 0 0 n 1 n none, .int .u64 (c : Int), .int .i64 (i : Int), .any, .any, .any, .any, .any, .any, .any, .any, .any, .any, .any, .any, .any, .any, .any, .any, .any, .any, .any, .any, .any, .any, .any, .any, .any, .any, .any, .any, .any, .any, .any, .any, .any],
      [.mu (wds (ds ++ List.replicate m 0)) true]⟩ Q := by
  have hL : Lim = 1099511627776 := rfl
  intro m
  induction m with
  | zero =>
    intro i hi ds c hds hwd hc he
    have hi' : i = n := by omega
    subst hi'
    rw [wpL_step]
    generalize hK : loopQ RT f169_0m 1 f169_0 Q = K
    simp [f169_0, hn]
    subst hK
    rw [List.take_of_length_le (l := xs) (by omega)] at he
    simp
    exact hQ _ rfl ds c (by simp [hn]) hds hwd hc he
  | succ m ih =>
    intro i hi ds c hds hwd hc he
    rw [wpL_step]
    generalize hK : loopQ RT f169_0m 1 f169_0 Q = K
    have hlt : (i : Int) < (xs.length : Int) := by omega
    have hlt2 : (i : Int) < (n : Int) := by omega
    obtain ⟨a, hget⟩ : ∃ a, xs[i]? = some a := ⟨xs[i], List.getElem?_eq_getElem (by omega)⟩
    have hbx : a < B := hx.get hget
    have ha2 := run_word1 (ws := ys) (t := false) (i := i) hy (by omega)
    have hby := getD_wd hy i
    have e1 := val_take_succ xs i
    have hga : xs.getD i 0 = a := by rw [List.getD_eq_getElem?_getD, hget]; rfl
    rw [hga] at e1
    have e2 := val_take_succ ys i
    generalize ys.getD i 0 = b at *
    have hBe : B = 4294967296 := rfl
    obtain ⟨t, ht⟩ : ∃ t, t = 4294967296 + a - b - c := ⟨_, rfl⟩
    obtain ⟨s, hs⟩ : ∃ s, s = t % B := ⟨_, rfl⟩
    obtain ⟨d, hd⟩ : ∃ d, d = 1 - t / B := ⟨_, rfl⟩
    have hsB : s < B := by rw [hs]; exact Nat.mod_lt _ (by decide)
    rw [hBe] at hbx hby
    have g0 : (a : Int) % 18446744073709551616 = (a : Int) := by omega
    have g0' : (4294967296 + (a : Int)) % 18446744073709551616 = 4294967296 + (a : Int) := by omega
    have g1 : (4294967296 + (a : Int) - (b : Int) - (c : Int)) % 18446744073709551616 = (t : Int) := by omega
    have g1' : (4294967296 + (a : Int) - (b : Int)) % 18446744073709551616 = 4294967296 + (a : Int) - (b : Int) := by omega
    have g2 := tmod_word t
    have g3 := tdiv_word t
    rw [← hBe, ← hs] at g2
    have g4 : (s : Int) % 4294967296 = (s : Int) := by rw [hBe] at hsB; omega
    have g5 : (1 - (t : Int) / 4294967296 % 18446744073709551616) % 18446744073709551616 = (d : Int) := by rw [hd, hBe]; omega
    have g6 : (1 - (t : Int) / 4294967296) % 18446744073709551616 = (d : Int) := by rw [hd, hBe]; omega
    have hwr := wr_word (S := [.mu (wds (ds ++ List.replicate (m + 1) 0)) true]) (b := 0) (i := i) (vl := n) (w := s) rfl (by simp; omega) (by simp; omega)
    have hset : (ds ++ List.replicate (m + 1) 0).set i s = (ds ++ [s]) ++ List.replicate m 0 := by
      rw [List.set_append_right _ _ (by omega), hds, Nat.sub_self, List.replicate_succ, List.set_cons_zero]
      simp
    rw [hset] at hwr
    have hwi : IntKind.i64.wrap ((i : Int) + 1) = ((i + 1 : Nat) : Int) := wrap_i64 (by omega) (by omega)
    have hdl : d ≤ 1 := by omega
    simp [f169_0, hlt, hlt2, hget, ha2, after_nr, wrap_u64, wrap_u32, g0, g0', g1, g1', g2, g4]
    rw [hwr]
    simp [hwi, wrap_u64, g5, g6]
    subst hK
    simp [head, f169_0m, mask]
    have := ih (i + 1) (by omega) (ds ++ [s]) d (by simp [hds]) (Wd.app hwd (Wd.mk hsB Wd.nil)) hdl (by
      rw [val_append, hds, e1, e2]
      have hdm : s + b + c = a + B * d := by
        rw [hs, hd, hBe]
        have := Nat.mod_add_div t 4294967296
        rcases (show t / 4294967296 = 0 ∨ t / 4294967296 = 1 by omega) with h | h
        · rw [h] at this ⊢; omega
        · rw [h] at this ⊢; omega
      simp only [val, Nat.pow_succ]
      have e3 : B ^ i * (s + b + c) = B ^ i * (a + B * d) := by rw [hdm]
      simp only [Nat.mul_zero, Nat.add_zero, Nat.mul_add, Nat.mul_assoc] at e3 ⊢
      omega)
    simpa [f169_0m] using this
theorem run_taken {x y : Nat} (hx : size x ≤ Lim) (hyx : y ≤ x) : callPure RT 169 [N x, N y] = some (N (x - y)) := by
  refine callPure_of (wpF_of tab_169 rfl ?_)
  have hL : Lim = 1099511627776 := rfl
  have hy : size y ≤ size x := size_mono hyx
  unfold size at hx hy
  obtain ⟨n, hn⟩ : ∃ n, n = (dig x).length := ⟨_, rfl⟩
  have hroom : room n 4 := by unfold room; omega
  have hln : (n : Int) ≤ 281474976710656 := by omega
  simp only [f169, enter_eq]
  simp [← hn, hroom]
  refine ⟨by omega, ?_⟩
  simp [head, mask, f169_0m]
  have hst : List.replicate n (AV.int .u32 0) = wds ([] ++ List.replicate n 0) := wds_rep n 0
  rw [hst]
  refine taken_loop (dig_wd x) (dig_wd y) hx (by omega) hn ?_ n 0 (by omega) [] 0 rfl Wd.nil (by omega) (by simp [val])
  intro tm hl ds b h5 hds hwd hb he
  rw [List.take_of_length_le (by omega), val_dig, val_dig] at he
  have hlt := val_lt hwd
  rw [hds] at hlt
  have hb0 : b = 0 := by
    rcases Nat.lt_or_ge b 1 with h | h
    · omega
    · have : b = 1 := by omega
      subst this
      simp only [Nat.mul_one] at he
      omega
  subst hb0
  have hv : val ds = x - y := by simp only [Nat.mul_zero, Nat.add_zero] at he; omega
  have hnorm := run_trim (t := false) hwd (by omega)
  rw [hv] at hnorm
  have hfz : fzc [.mu (wds ds) true] (5 + 1) (.msl 0 0 n 1 n none) = some (W ds) := by
    have := fzc_mslv (S := [.mu (wds ds) true]) (b := 0) (n := n) (vl := n) (cap := none) (fuel := 5) rfl (by simp [hds]) (by simp [hds])
    rwa [List.take_of_length_le (by simp [hds])] at this
  simp [hl, h5, hfz, hnorm, after_row (S := [.mu (wds ds) true]) (b := 0) rfl (show (N (x - y)).bare = false from rfl)]
theorem compared_loop {xs ys : List Nat} (hx : Wd xs) (hy : Wd ys) (hlx : xs.length ≤ Lim) {n : Nat} (hnx : xs.length = n) (hny : ys.length = n) {Q : FQ}
    (hQe : ∀ (tm : List AV) (hl : tm.length = 41), xs = ys → Q (.ex 0) ⟨tm, []⟩) (hQr : ∀ (tm : List AV) (hl : tm.length = 41), tm[4] = .int .i64 (cmpI (val xs) (val ys)) → Q .ret ⟨tm, []⟩) :
    ∀ (m : Nat), m ≤ n → xs.drop m = ys.drop m →
    wpL RT f168_0m 0 f168_0 ⟨[.sl (wds xs) 1 false, .sl (wds ys) 1 false, .any, .any, .any, .int .i64 ((m : Int) - 1), .any, .any, .any, .any, .any, .any, .any, .any, .any, .any, .any, .any, .any, .any, .any, .any, .any, .any, .any, .any, .any, .any, .any, .any, .any, .any, .any, .any, .any, .any, .any, .any, .any, .any, .any], []⟩ Q := by
  have hL : Lim = 1099511627776 := rfl
  intro m
  induction m with
  | zero =>
    intro hi hd
    rw [wpL_step]
    generalize hK : loopQ RT f168_0m 0 f168_0 Q = K
    simp [f168_0]
    subst hK
    simp
    exact hQe _ rfl (by simpa using hd)
  | succ m ih =>
    intro hi hd
    rw [wpL_step]
    generalize hK : loopQ RT f168_0m 0 f168_0 Q = K
    have hge : (0 : Int) ≤ (m : Int) := by omega
    have hlt : (m : Int) < (xs.length : Int) := by omega
    have hlt2 : (m : Int) < (ys.length : Int) := by omega
    have hm1 : ((m + 1 : Nat) : Int) - 1 = (m : Int) := by omega
    rw [hm1]
    obtain ⟨a, ha⟩ : ∃ a, xs[m]? = some a := ⟨xs[m], List.getElem?_eq_getElem (by omega)⟩
    obtain ⟨b, hb⟩ : ∃ b, ys[m]? = some b := ⟨ys[m], List.getElem?_eq_getElem (by omega)⟩
    have hw1 : IntKind.i64.wrap ((m : Int) - 1) = (m : Int) - 1 := wrap_i64 (by omega) (by omega)
    rcases Nat.lt_trichotomy a b with h | h | h
    · have h' : (a : Int) < (b : Int) := by omega
      have hv := cmp_at hx ha hb hd h
      simp [f168_0, hlt, hlt2, ha, hb, h]
      subst hK
      simp
      exact hQr _ rfl (by simp [cmpI]; omega)
    · subst h
      simp [f168_0, hlt, hlt2, ha, hb, hw1]
      subst hK
      simp [head, f168_0m, mask]
      refine ih (by omega) ?_
      rw [List.drop_eq_getElem_cons (by omega : m < xs.length), List.drop_eq_getElem_cons (by omega : m < ys.length), hd]
      rw [List.getElem?_eq_getElem (by omega)] at ha hb
      rw [Option.some.inj ha, Option.some.inj hb]
    · have h' : (b : Int) < (a : Int) := by omega
      have h'' : ¬ a < b := by omega
      have hv := cmp_at hy hb ha hd.symm h
      simp [f168_0, hlt, hlt2, ha, hb, h, h'']
      subst hK
      simp
      exact hQr _ rfl (by simp [cmpI]; omega)
theorem run_compared {x y : Nat} (hx : size x ≤ Lim) : callPure RT 168 [N x, N y] = some (.int .i64 (cmpI x y)) := by
  refine callPure_of (wpF_of tab_168 rfl ?_)
  have hL : Lim = 1099511627776 := rfl
  unfold size at hx
  rcases Nat.lt_trichotomy (dig x).length (dig y).length with h | h | h
  · have hxy := size_lt (x := x) (y := y) h
    simp [f168, enter, h, cmpI]
    omega
  · have hw1 : IntKind.i64.wrap (((dig y).length : Int) - 1) = ((dig y).length : Int) - 1 := wrap_i64 (by omega) (by omega)
    simp [f168, enter, h, hw1]
    simp [head, f168_0m, mask]
    refine compared_loop (dig_wd x) (dig_wd y) hx h rfl ?_ ?_ (dig y).length (by omega) (by rw [List.drop_of_length_le (by omega), List.drop_of_length_le (by omega)])
    · intro tm hl he
      have hxy : x = y := by rw [← val_dig x, he, val_dig]
      subst hxy
      simp [hl, cmpI]
    · intro tm hl h4
      rw [val_dig, val_dig] at h4
      simp [hl, h4]
  · have hxy := size_lt (x := y) (y := x) h
    have h' : ¬ (dig x).length < (dig y).length := by omega
    simp [f168, enter, h, h', cmpI]
    omega
theorem times_inner {xs ys : List Nat} (hx : Wd xs) (hy : Wd ys) (hlx : xs.length ≤ Lim) (hly : ys.length ≤ Lim) {i a L : Nat} (hai : xs[i]? = some a) (hL' : L ≤ 2 * Lim) (hiL : i + ys.length < L) {out0 : List Nat} (hl0 : out0.length = L) {Q : FQ}
    (hQ : ∀ (tm : List AV) (hl : tm.length = 69) (out : List Nat) (c : Nat), tm[0] = .sl (wds xs) 1 false → tm[1] = .sl (wds ys) 1 false → tm[5] = .msl 0 0 L 1 L none → tm[6] = .int .i64 (i : Int) → tm[7] = .int .u64 (c : Int) →
      out.length = L → Wd out → c < B → val out + B ^ (i + ys.length) * c = val out0 + B ^ i * (a * val ys) → (∀ j, i + ys.length ≤ j → out[j]? = out0[j]?) → Q (.ex 2) ⟨tm, [.mu (wds out) true]⟩) :
    ∀ (m k : Nat), k + m = ys.length → ∀ (out : List Nat) (c : Nat), out.length = L → Wd out → c < B → val out + B ^ (i + k) * c = val out0 + B ^ i * (a * val (ys.take k)) → (∀ j, i + k ≤ j → out[j]? = out0[j]?) →
    wpL RT f162_0m 1 f162_0 ⟨[.sl (wds xs) 1 false, .sl (wds ys) 1 false, .any, .any, .any, .msl 0 0 L 1 L none, .int .i64 (i : Int), .int .u64 (c : Int), .int .i64 (k : Int),
      .any, .any, .any, .any, .any, .any, .any, .any, .any, .any, .any, .any, .any, .any, .any, .any, .any, .any, .any, .any, .any, .any, .any, .any, .any, .any, .any, .any, .any, .any, .any, .any, .any, .any, .any, .any, .any, .any, .any, .any, .any, .any, .any, .any, .any, .any, .any, .any, .any, .any, .any, .any, .any, .any, .any, .any, .any, .any, .any, .any], [.mu (wds out) true]⟩ Q := by
  have hL : Lim = 1099511627776 := rfl
  intro m
  induction m with
  | zero =>
    intro k hk out c hlo hwo hc he hsame
    have hk' : k = ys.length := by omega
    subst hk'
    rw [wpL_step]
    generalize hK : loopQ RT f162_0m 1 f162_0 Q = K
    simp [f162_0]
    subst hK
    rw [List.take_of_length_le (Nat.le_refl _)] at he
    simp
    exact hQ _ rfl out c rfl rfl rfl rfl rfl hlo hwo hc he hsame
  | succ m ih =>
    intro k hk out c hlo hwo hc he hsame
    rw [wpL_step]
    generalize hK : loopQ RT f162_0m 1 f162_0 Q = K
    have hlt : (k : Int) < (ys.length : Int) := by omega
    obtain ⟨b, hb⟩ : ∃ b, ys[k]? = some b := ⟨ys[k], List.getElem?_eq_getElem (by omega)⟩
    have hbB : b < B := hy.get hb
    have ha : a < B := hx.get hai
    have hil := (List.getElem?_eq_some_iff.1 hai).1
    have hlti : (i : Int) < (xs.length : Int) := by omega
    obtain ⟨w, hw⟩ : ∃ w, out[i + k]? = some w := ⟨out[i + k], List.getElem?_eq_getElem (by omega)⟩
    have hwB : w < B := hwo.get hw
    have hwik : IntKind.i64.wrap ((i : Int) + (k : Int)) = ((i + k : Nat) : Int) := wrap_i64 (by omega) (by omega)
    have hwk : IntKind.i64.wrap ((k : Int) + 1) = ((k + 1 : Nat) : Int) := wrap_i64 (by omega) (by omega)
    have hab : a * b ≤ (B - 1) * (B - 1) := Nat.mul_le_mul (by omega) (by omega)
    have hB : B = 4294967296 := rfl
    rw [hB] at hab ha hbB hwB hc
    have hrd := rd_word (S := [.mu (wds out) true]) (b := 0) (i := i + k) (vl := L) rfl hlo.symm (by omega)
    have hwe : out[i + k] = w := by rw [List.getElem?_eq_getElem (by omega)] at hw; exact Option.some.inj hw
    rw [hwe] at hrd
    obtain ⟨s, hs⟩ : ∃ s, s = c + (a * b + w) := ⟨_, rfl⟩
    obtain ⟨lo, hlo'⟩ : ∃ lo, lo = s % 4294967296 := ⟨_, rfl⟩
    obtain ⟨hi, hhi⟩ : ∃ hi, hi = s / 4294967296 := ⟨_, rfl⟩
    obtain ⟨p, hp⟩ : ∃ p, p = a * b := ⟨_, rfl⟩
    have hpz : (a : Int) * (b : Int) = (p : Int) := by rw [hp]; push_cast; rfl
    rw [← hp] at hab hs
    have ea : (a : Int) % 18446744073709551616 = a := by omega
    have eb : (b : Int) % 18446744073709551616 = b := by omega
    have ew : (w : Int) % 18446744073709551616 = w := by omega
    have e1 : (p : Int) % 18446744073709551616 = (p : Int) := by omega
    have e2 : ((p : Int) + w) % 18446744073709551616 = (p : Int) + w := by omega
    have e3 : ((p : Int) + w + (c : Int)) % 18446744073709551616 = (s : Int) := by omega
    have e4 := tmod_word s
    rw [← hlo'] at e4
    have e4' : (lo : Int) % 4294967296 = (lo : Int) := by omega
    have e5 : (s : Int) / 4294967296 % 18446744073709551616 = (hi : Int) := by omega
    have e5' : (s : Int) / 4294967296 = (hi : Int) := by omega
    have e5'' : (hi : Int) % 18446744073709551616 = (hi : Int) := by omega
    have hwr := wr_word (S := [.mu (wds out) true]) (b := 0) (i := i + k) (vl := L) (w := lo) rfl hlo.symm (by omega)
    have htn : ((i : Int) + (k : Int)).toNat = i + k := by omega
    have hb1 : (0 : Int) ≤ (i : Int) + (k : Int) := by omega
    have hb2 : (i : Int) + (k : Int) < (L : Int) := by omega
    simp [f162_0, hlt, hlti, hai, hb, hwik, hwk, wrap_u64, wrap_u32, ea, eb, hpz, e1, ew, e2, e3, e4, e4', e5', htn, hb1, hb2, hrd]
    rw [hwr]
    simp [hwk, wrap_u64, e5', e5'']
    subst hK
    simp [head, f162_0m, mask]
    have hsB : lo < B := by rw [hB]; omega
    have hval := val_set (w' := lo) hw
    have e6 := val_take_succ ys k
    have hgb : ys.getD k 0 = b := by rw [List.getD_eq_getElem?_getD, hb]; rfl
    rw [hgb] at e6
    have := ih (k + 1) (by omega) (out.set (i + k) lo) hi (by simp [hlo]) (hwo.set hsB) (by rw [hB]; omega) (by
      rw [e6]
      have hdm : lo + B * hi = c + (p + w) := by rw [hB]; omega
      have e7 : B ^ (i + k) * (lo + B * hi) = B ^ (i + k) * (c + (p + w)) := by rw [hdm]
      rw [hp] at e7
      simp only [Nat.mul_add, Nat.pow_add, Nat.pow_succ, Nat.pow_zero, Nat.one_mul, Nat.mul_one] at e7 he hval ⊢
      have e8 : B ^ i * (a * (B ^ k * b)) = B ^ i * B ^ k * (a * b) := by
        rw [Nat.mul_assoc (B ^ i), Nat.mul_left_comm a]
      rw [e8]
      have e9 : B ^ i * (B ^ k * B) * hi = B ^ i * B ^ k * (B * hi) := by
        rw [← Nat.mul_assoc (B ^ i), Nat.mul_assoc (B ^ i * B ^ k)]
      rw [e9]
      omega) (fun j hj => by rw [List.getElem?_set_ne (by omega)]; exact hsame j (by omega))
    simpa [f162_0m] using this
theorem times_outer {xs ys : List Nat} (hx : Wd xs) (hy : Wd ys) (hlx : xs.length ≤ Lim) (hly : ys.length ≤ Lim) {L n : Nat} (hn : n = xs.length) (hLe : L = n + ys.length) {Q : FQ}
    (hQ : ∀ (tm : List AV) (hl : tm.length = 69) (out : List Nat), tm[5] = .msl 0 0 L 1 L none → out.length = L → Wd out → val out = val xs * val ys → Q (.ex 0) ⟨tm, [.mu (wds out) true]⟩) :
    ∀ (m i : Nat), i + m = n → ∀ (out : List Nat), out.length = L → Wd out → val out = val (xs.take i) * val ys →
    wpL RT f162_1m 1 f162_1 ⟨[.sl (wds xs) 1 false, .sl (wds ys) 1 false, .any, .any, .any, .msl 0 0 L 1 L none, .int .i64 (i : Int), .any, .any,
      .any, .any, .any, .any, .any, .any, .any, .any, .any, .any, .any, .any, .any, .any, .any, .any, .any, .any, .any, .any, .any, .any, .any, .any, .any, .any, .any, .any, .any, .any, .any, .any, .any, .any, .any, .any, .any, .any, .any, .any, .any, .any, .any, .any, .any, .any, .any, .any, .any, .any, .any, .any, .any, .any, .any, .any, .any, .any, .any, .any], [.mu (wds out) true]⟩ Q := by
  have hL : Lim = 1099511627776 := rfl
  intro m
  induction m with
  | zero =>
    intro i hi out hlo hwo he
    have hi' : i = n := by omega
    subst hi'
    rw [wpL_step]
    generalize hK : loopQ RT f162_1m 1 f162_1 Q = K
    simp [f162_1, hn]
    subst hK
    rw [List.take_of_length_le (by omega)] at he
    simp
    exact hQ _ rfl out rfl hlo hwo he
  | succ m ih =>
    intro i hi out hlo hwo he
    rw [wpL_step]
    generalize hK : loopQ RT f162_1m 1 f162_1 Q = K
    have hlt : (i : Int) < (xs.length : Int) := by omega
    obtain ⟨a, hget⟩ : ∃ a, xs[i]? = some a := ⟨xs[i], List.getElem?_eq_getElem (by omega)⟩
    have haB : a < B := hx.get hget
    have hwi : IntKind.i64.wrap ((i : Int) + 1) = ((i + 1 : Nat) : Int) := wrap_i64 (by omega) (by omega)
    simp [f162_1, hlt]
    simp [head, mask, f162_0m]
    have hin := fun (Q' : FQ) => times_inner (xs := xs) (Q := Q') hx hy hlx hly (i := i) (a := a) (L := L) hget (by omega) (by omega) hlo
    refine hin _ ?_ ys.length 0 (by omega) out 0 hlo hwo (by decide) (by simp [val]) (fun j _ => rfl)
    intro tm hl out2 c h0 h1 h5 h6 h7 hlo2 hwo2 hc he2 hsame
    have hwil : IntKind.i64.wrap ((i : Int) + (ys.length : Int)) = (i : Int) + (ys.length : Int) := wrap_i64 (by omega) (by omega)
    have htn : ((i : Int) + (ys.length : Int)).toNat = i + ys.length := by omega
    have hb1 : (0 : Int) ≤ (i : Int) + (ys.length : Int) := by omega
    have hb2 : (i : Int) + (ys.length : Int) < (L : Int) := by omega
    have hB : B = 4294967296 := rfl
    have ec : (c : Int) % 4294967296 = (c : Int) := by rw [hB] at hc; omega
    have hwr := wr_word (S := [.mu (wds out2) true]) (b := 0) (i := i + ys.length) (vl := L) (w := c) rfl hlo2.symm (by omega)
    simp [hl, h0, h1, h5, h6, h7, hwil, wrap_u32, ec, htn, hb1, hb2]
    rw [hwr]
    simp [hl, h0, h1, h5, h6, h7, hwi]
    subst hK
    simp only [loopQ_nrm, head]
    rw [mask_of (n := 69) (by simp [hl])]
    simp [f162_1m, hl, h0, h1, h5, List.range_succ]
    obtain ⟨w0, hw0⟩ : ∃ w0, out2[i + ys.length]? = some w0 := ⟨out2[i + ys.length], List.getElem?_eq_getElem (by omega)⟩
    have hw00 : w0 = 0 := by
      have h1' := hsame (i + ys.length) (Nat.le_refl _)
      rw [hw0] at h1'
      have h2 := val_ge h1'.symm
      have h3 := val_take_lt hx (k := i) (by omega)
      have h4 := val_lt hy
      have h5' : val out < B ^ (i + ys.length) := by
        rw [he, Nat.pow_add]
        exact Nat.mul_lt_mul'' h3 h4
      refine Classical.byContradiction fun hne => ?_
      have : B ^ (i + ys.length) * 1 ≤ B ^ (i + ys.length) * w0 := Nat.mul_le_mul_left _ (by omega)
      omega
    subst hw00
    have hvs := val_set (w' := c) hw0
    have e6 := val_take_succ xs i
    have hga : xs.getD i 0 = a := by rw [List.getD_eq_getElem?_getD, hget]; rfl
    rw [hga] at e6
    have := ih (i + 1) (by omega) (out2.set (i + ys.length) c) (by simp [hlo2]) (hwo2.set hc) (by
      rw [e6, Nat.add_mul, ← he, Nat.mul_assoc]
      omega)
    simpa [f162_1m] using this
theorem run_times {x y : Nat} (hx : size x ≤ Lim) (hy : size y ≤ Lim) : callPure RT 162 [N x, N y] = some (N (x * y)) := by
  refine callPure_of (wpF_of tab_162 rfl ?_)
  have hL : Lim = 1099511627776 := rfl
  unfold size at hx hy
  obtain ⟨n, hn⟩ : ∃ n, n = (dig x).length := ⟨_, rfl⟩
  obtain ⟨L, hLe⟩ : ∃ L, L = n + (dig y).length := ⟨_, rfl⟩
  have hw : IntKind.i64.wrap ((n : Int) + ((dig y).length : Int)) = (L : Int) := by
    have : (n : Int) + ((dig y).length : Int) = L := by omega
    rw [this]; exact wrap_i64 (by omega) (by omega)
  have hroom : room L 4 := by unfold room; omega
  have hln : (L : Int) ≤ 281474976710656 := by omega
  simp only [f162, enter_eq]
  simp [← hn, hw, hroom]
  refine ⟨by omega, ?_⟩
  simp [head, mask, f162_1m]
  have hst : List.replicate L (AV.int .u32 0) = wds (List.replicate L 0) := wds_rep L 0
  rw [hst]
  refine times_outer (dig_wd x) (dig_wd y) hx hy hn hLe ?_ n 0 (by omega) (List.replicate L 0) (by simp) (Wd.rep (by decide)) (by simp [val, val_rep0])
  intro tm hl out h5 hlo hwo he
  rw [val_dig, val_dig] at he
  have hnorm := run_trim (t := false) hwo (by omega)
  rw [he] at hnorm
  have hfz : fzc [.mu (wds out) true] (5 + 1) (.msl 0 0 L 1 L none) = some (W out) := by
    have := fzc_mslv (S := [.mu (wds out) true]) (b := 0) (n := L) (vl := L) (cap := none) (fuel := 5) rfl hlo.symm (by omega)
    rwa [List.take_of_length_le (by omega)] at this
  simp [hl, h5, hfz, hnorm, after_row (S := [.mu (wds out) true]) (b := 0) rfl (show (N (x * y)).bare = false from rfl)]
theorem run_Mul1 {i j : Int} (hi : 2 * zsize i ≤ Lim) (hj : 2 * zsize j ≤ Lim) : callPure RT 154 [Z i, Z j] = some (Z (i * j)) := by
  refine callPure_of (wpF_of tab_154 rfl ?_)
  unfold zsize at hi hj
  have hm := run_times (x := i.natAbs) (y := j.natAbs) (by omega) (by omega)
  have hsz : size (i.natAbs * j.natAbs) ≤ Lim := by
    have := size_mul_le (x := i.natAbs) (y := j.natAbs)
    omega
  have hs := run_madeN (t := false) (neg := decide (i < 0) != decide (j < 0)) hsz
  have hz : (if (decide (i < 0) != decide (j < 0)) = true then -((i.natAbs * j.natAbs : Nat) : Int) else ((i.natAbs * j.natAbs : Nat) : Int)) = i * j := by
    rw [← Int.natAbs_mul]
    rcases Int.lt_or_le i 0 with h1 | h1 <;> rcases Int.lt_or_le j 0 with h2 | h2
    · have := Int.mul_pos_of_neg_of_neg h1 h2
      simp [h1, h2]; omega
    · have := Int.mul_nonneg (show 0 ≤ -i by omega) h2
      rw [Int.neg_mul] at this
      have h3 : ¬ j < 0 := by omega
      simp [h1, h3]; omega
    · have := Int.mul_nonneg h1 (show 0 ≤ -j by omega)
      rw [Int.mul_neg] at this
      have h3 : ¬ i < 0 := by omega
      simp [h2, h3]; omega
    · have := Int.mul_nonneg h1 h2
      have h3 : ¬ j < 0 := by omega
      have h4 : ¬ i < 0 := by omega
      simp [h3, h4]; omega
  rw [hz] at hs
  simp only [f154, enter_eq]
  simp [Z_cells i, Z_cells j, rd, wr, chk, splice]
  simp [hm, after_nr, rd, wr, chk, splice]
  simp [hs, Z_cells, after_nr, rd, wr, chk, splice]
theorem run_Add1 {i j : Int} (hi : zsize i < Lim) (hj : zsize j < Lim) : callPure RT 164 [Z i, Z j] = some (Z (i + j)) := by
  refine callPure_of (wpF_of tab_164 rfl ?_)
  have hL : Lim = 1099511627776 := rfl
  unfold zsize at hi hj
  have hadd := run_added (x := i.natAbs) (y := j.natAbs) (by omega) (by omega)
  have hcmp := run_compared (x := i.natAbs) (y := j.natAbs) (by omega)
  have hsz : size (i.natAbs + j.natAbs) ≤ Lim := by
    have := size_add_le (x := i.natAbs) (y := j.natAbs) (k := Lim - 1) (by omega) (by omega)
    omega
  simp only [f164, enter_eq]
  by_cases hs : decide (i < 0) = decide (j < 0)
  · have hsg := run_madeN (t := false) (neg := decide (j < 0)) hsz
    have hz : (if decide (j < 0) = true then -((i.natAbs + j.natAbs : Nat) : Int) else ((i.natAbs + j.natAbs : Nat) : Int)) = i + j := by
      by_cases h1 : i < 0 <;> by_cases h2 : j < 0 <;> simp [h1, h2] at hs ⊢ <;> omega
    rw [hz] at hsg
    simp [Z_cells, hs, rd, wr, chk, splice]
    simp [hadd, after_nr, rd, wr, chk, splice]
    simp [hsg, Z_cells, after_nr, rd, wr, chk, splice]
  · by_cases hlt : i.natAbs < j.natAbs
    · have hc : cmpI i.natAbs j.natAbs < 0 := by unfold cmpI; rw [if_pos (by omega)]; decide
      have hsub := run_taken (x := j.natAbs) (y := i.natAbs) (by omega) (by omega)
      have hsg := run_madeN (t := false) (neg := decide (j < 0)) (n := j.natAbs - i.natAbs) (Nat.le_trans (size_mono (Nat.sub_le _ _)) (by omega))
      have hz : (if decide (j < 0) = true then -((j.natAbs - i.natAbs : Nat) : Int) else ((j.natAbs - i.natAbs : Nat) : Int)) = i + j := by
        by_cases h1 : i < 0 <;> by_cases h2 : j < 0 <;> simp [h1, h2] at hs ⊢ <;> omega
      rw [hz] at hsg
      have hs' : (decide (i < 0) == decide (j < 0)) = false := by simpa using hs
      simp [Z_cells, rd, wr, chk, splice]
      simp [hs', hcmp, hc, after_nr, rd, wr, chk, splice]
      simp [hsub, after_nr, rd, wr, chk, splice]
      simp [hsg, Z_cells, after_nr, rd, wr, chk, splice]
    · have hc : ¬ cmpI i.natAbs j.natAbs < 0 := by unfold cmpI; rw [if_neg (by omega)]; split <;> decide
      have hsub := run_taken (x := i.natAbs) (y := j.natAbs) (by omega) (by omega)
      have hsg := run_madeN (t := false) (neg := decide (i < 0)) (n := i.natAbs - j.natAbs) (Nat.le_trans (size_mono (Nat.sub_le _ _)) (by omega))
      have hz : (if decide (i < 0) = true then -((i.natAbs - j.natAbs : Nat) : Int) else ((i.natAbs - j.natAbs : Nat) : Int)) = i + j := by
        by_cases h1 : i < 0 <;> by_cases h2 : j < 0 <;> simp [h1, h2] at hs ⊢ <;> omega
      rw [hz] at hsg
      have hs' : (decide (i < 0) == decide (j < 0)) = false := by simpa using hs
      simp [Z_cells, rd, wr, chk, splice]
      simp [hs', hcmp, hc, after_nr, rd, wr, chk, splice]
      simp [hsub, after_nr, rd, wr, chk, splice]
      simp [hsg, Z_cells, after_nr, rd, wr, chk, splice]
theorem tmod_nat (a b : Nat) : (a : Int).tmod (b : Int) = ((a % b : Nat) : Int) := by
  rw [Int.tmod_eq_emod_of_nonneg (by omega)]; push_cast; rfl
theorem tdiv_nat (a b : Nat) : (a : Int).tdiv (b : Int) = ((a / b : Nat) : Int) := by
  rw [Int.tdiv_eq_ediv_of_nonneg (by omega)]; push_cast; rfl
theorem euclid_loop {Q : FQ} {x0 y0 : Nat} (hQ : ∀ (tm : List AV) (hl : tm.length = 14), tm[0] = .int .u64 ((Nat.gcd x0 y0 : Nat) : Int) → Q (.ex 0) ⟨tm, []⟩) :
    ∀ (y x : Nat), Nat.gcd x y = Nat.gcd x0 y0 →
    wpL RT f170_0m 0 f170_0 ⟨[.int .u64 (x : Int), .int .u64 (y : Int)] ++ List.replicate 12 .any, []⟩ Q := by
  intro y
  induction y using Nat.strongRecOn with
  | _ y ih =>
    intro x hg
    by_cases h0 : y = 0
    · subst h0
      rw [Nat.gcd_zero_right] at hg
      rw [wpL_step]
      generalize hK : loopQ RT f170_0m 0 f170_0 Q = K
      simp [f170_0, List.replicate]
      subst hK
      exact hQ _ rfl (by simp [hg])
    · have hlt : x % y < y := Nat.mod_lt _ (by omega)
      have hih := ih (x % y) hlt y (by rw [← hg, Nat.gcd_comm x y, Nat.gcd_rec y x, Nat.gcd_comm])
      have hp : (0 : Int) < (y : Int) := by omega
      have hm := tmod_nat x y
      generalize x % y = r at *
      rw [wpL_step]
      generalize hK : loopQ RT f170_0m 0 f170_0 Q = K
      have hp2 : 0 < y := by omega
      simp [f170_0, List.replicate, hp2, h0, hm]
      subst hK
      simp [head, f170_0m, mask, trunc_len]
      simpa [f170_0m, List.replicate] using hih
theorem run_euclid (x y : Nat) : callPure RT 170 [.int .u64 (x : Int), .int .u64 (y : Int)] = some (.int .u64 ((Nat.gcd x y : Nat) : Int)) := by
  refine callPure_of (wpF_of tab_170 rfl ?_)
  simp [f170, enter]
  simp [head, f170_0m, mask]
  refine euclid_loop (x0 := x) (y0 := y) ?_ y x rfl
  intro tm hl h0
  simp [hl, h0]
theorem shortly_loop {xs : List Nat} (hx : Wd xs) (hlx : xs.length ≤ Lim) {n d : Nat} (hn : n = xs.length) (hd : d ≤ B) (hd0 : 0 < d) {Q : FQ}
    (hQ : ∀ (tm : List AV) (hl : tm.length = 41) (ds : List Nat) (r : Nat), tm[6] = .msl 0 0 n 1 n none → tm[7] = .int .u64 (r : Int) → ds.length = n → Wd ds → r < d → val ds * d + r = val xs → Q (.ex 0) ⟨tm, [.mu (wds ds) true]⟩) :
    ∀ (m i : Nat), i + m = n → ∀ (ds : List Nat) (r : Nat), ds.length = i → Wd ds → r < d → val ds * d + r = val (xs.drop m) →
    wpL RT f174_0m 1 f174_0 ⟨[.sl (wds xs) 1 false, .int .u64 (d : Int), .any, .any, .any, .any, .msl 0 0 n 1 n none, .int .u64 (r : Int), .int .i64 ((m : Int) - 1), .any, .any, .any, .any, .any,
      .any, .any, .any, .any, .any, .any, .any, .any, .any, .any, .any, .any, .any, .any, .any, .any, .any, .any, .any, .any, .any, .any, .any, .any, .any, .any, .any], [.mu (wds (List.replicate m 0 ++ ds)) true]⟩ Q := by
  have hL : Lim = 1099511627776 := rfl
  intro m
  induction m with
  | zero =>
    intro i hi ds r hds hwd hr he
    have hi' : i = n := by omega
    subst hi'
    rw [wpL_step]
    generalize hK : loopQ RT f174_0m 1 f174_0 Q = K
    simp [f174_0]
    subst hK
    exact hQ _ rfl ds r rfl rfl hds hwd hr (by simpa using he)
  | succ m ih =>
    intro i hi ds r hds hwd hr he
    rw [wpL_step]
    generalize hK : loopQ RT f174_0m 1 f174_0 Q = K
    have hB : B = 4294967296 := rfl
    have hm1 : ((m + 1 : Nat) : Int) - 1 = (m : Int) := by omega
    rw [hm1]
    have hlt : (m : Int) < (xs.length : Int) := by omega
    have hlt2 : (m : Int) < (n : Int) := by omega
    obtain ⟨a, hget⟩ : ∃ a, xs[m]? = some a := ⟨xs[m], List.getElem?_eq_getElem (by omega)⟩
    have haB : a < B := hx.get hget
    have hw1 : IntKind.i64.wrap ((m : Int) - 1) = (m : Int) - 1 := wrap_i64 (by omega) (by omega)
    obtain ⟨t, ht⟩ : ∃ t, t = r * B + a := ⟨_, rfl⟩
    have hrB : (r + 1) * B ≤ d * B := Nat.mul_le_mul_right _ hr
    have hdB : d * B ≤ B * B := Nat.mul_le_mul_right _ hd
    rw [Nat.succ_mul] at hrB
    have htB : t < d * B := by omega
    obtain ⟨q, hq⟩ : ∃ q, q = t / d := ⟨_, rfl⟩
    obtain ⟨r', hr'⟩ : ∃ r', r' = t % d := ⟨_, rfl⟩
    have hqB : q < B := by
      rw [hq]
      exact Nat.div_lt_of_lt_mul htB
    have htd := tdiv_nat t d
    have htm := tmod_nat t d
    have hdiv : (t : Int) / (d : Int) = (q : Int) := by rw [hq]; push_cast; rfl
    rw [← hq] at htd
    rw [← hr'] at htm
    have g0 : (a : Int) % 18446744073709551616 = (a : Int) := by rw [hB] at haB; omega
    have g1 : (r : Int) * 4294967296 % 18446744073709551616 = (r : Int) * 4294967296 := by rw [hB] at hrB hdB htB; omega
    have g2 : ((r : Int) * 4294967296 + (a : Int)) % 18446744073709551616 = (t : Int) := by rw [hB] at ht hrB hdB htB; omega
    have g3 : (q : Int) % 18446744073709551616 = (q : Int) := by rw [hB] at hqB; omega
    have g4 : (q : Int) % 4294967296 = (q : Int) := by rw [hB] at hqB; omega
    have hwr := wr_word (S := [.mu (wds (List.replicate (m + 1) 0 ++ ds)) true]) (b := 0) (i := m) (vl := n) (w := q) rfl (by simp; omega) (by simp; omega)
    have hset : (List.replicate (m + 1) 0 ++ ds).set m q = List.replicate m 0 ++ (q :: ds) := by
      rw [List.replicate_succ', List.append_assoc, List.set_append_right _ _ (by simp)]
      simp
    rw [hset] at hwr
    have hd0' : ¬ d = 0 := by omega
    simp [f174_0, hlt, hlt2, hget, wrap_u64, wrap_u32, g0, g1, g2, htd, hdiv, g3, g4, hd0']
    rw [hwr]
    simp [hw1, hd0', htm]
    subst hK
    simp [head, f174_0m, mask]
    have hdm := Nat.div_add_mod t d
    rw [← hq, ← hr'] at hdm
    have := ih (i + 1) (by omega) (q :: ds) r' (by simp [hds]) (Wd.mk hqB hwd) (by rw [hr']; exact Nat.mod_lt _ hd0) (by
      rw [List.drop_eq_getElem_cons (show m < xs.length by omega)]
      have e1 : xs[m] = a := (List.getElem?_eq_some_iff.1 hget).2
      rw [e1]
      simp only [val]
      rw [← he, Nat.add_mul, Nat.mul_add, Nat.mul_assoc, Nat.mul_comm B r, Nat.mul_comm q d]
      omega)
    simpa [f174_0m] using this
theorem run_shortly {x d : Nat} (hx : size x ≤ Lim) (hd : d ≤ B) (hd0 : 0 < d) : callPure RT 174 [N x, .int .u64 (d : Int)] = some (.tup [N (x / d), .int .u64 ((x % d : Nat) : Int)]) := by
  obtain ⟨r0, hr0⟩ : ∃ r0, r0 = x % d := ⟨_, rfl⟩
  rw [← hr0]
  refine callPure_of (wpF_of tab_174 rfl ?_)
  have hL : Lim = 1099511627776 := rfl
  unfold size at hx
  obtain ⟨n, hn⟩ : ∃ n, n = (dig x).length := ⟨_, rfl⟩
  have hroom : room n 4 := by unfold room; omega
  have hw1 : IntKind.i64.wrap ((n : Int) - 1) = (n : Int) - 1 := wrap_i64 (by omega) (by omega)
  simp only [f174, enter_eq]
  simp [← hn, hroom, hw1]
  refine ⟨by omega, ?_⟩
  simp [head, mask, f174_0m]
  have hst : List.replicate n (AV.int .u32 0) = wds (List.replicate n 0 ++ []) := by rw [List.append_nil]; exact wds_rep n 0
  rw [hst]
  refine shortly_loop (dig_wd x) hx hn hd hd0 ?_ n 0 (by omega) [] 0 rfl Wd.nil hd0 (by rw [List.drop_of_length_le (by omega)]; simp [val])
  intro tm hl ds r h6 h7 hds hwd hr he
  rw [val_dig] at he
  have hq : val ds = x / d := by
    rw [← he, Nat.mul_comm, Nat.mul_add_div hd0, Nat.div_eq_of_lt hr, Nat.add_zero]
  have hr2 : r = x % d := by
    rw [← he, Nat.mul_comm, Nat.mul_add_mod, Nat.mod_eq_of_lt hr]
  have hnorm := run_trim (t := false) hwd (by omega)
  rw [hq] at hnorm
  have hfz : fzc [.mu (wds ds) true] (5 + 1) (.msl 0 0 n 1 n none) = some (W ds) := by
    have := fzc_mslv (S := [.mu (wds ds) true]) (b := 0) (n := n) (vl := n) (cap := none) (fuel := 5) rfl hds.symm (by omega)
    rwa [List.take_of_length_le (by omega)] at this
  rw [hr0, ← hr2]
  generalize x / d = z at *
  simp [hl, h6, h7, hfz, hnorm, after_row (S := [.mu (wds ds) true]) (b := 0) rfl (show (N z).bare = false from rfl)]
theorem guess_hi {g vt v2 rest xt x2 X V P vl xl Bv : Nat} (hB : 0 < Bv) (hg : g < Bv) (hv2 : v2 < Bv) (hx : g * vt + rest = xt) (hc : Bv ≤ rest ∨ g * v2 ≤ rest * Bv + x2) (hvt : 0 < vt)
    (hV : V = (vt * Bv + v2) * P + vl) (hvl : vl < P) (hX : X = (xt * Bv + x2) * P + xl) : g ≤ X / V + 1 := by
  have h1 : g * v2 ≤ rest * Bv + x2 := by
    rcases hc with h | h
    · have a1 : g * v2 ≤ Bv * Bv := Nat.mul_le_mul (Nat.le_of_lt hg) (Nat.le_of_lt hv2)
      have a2 : Bv * Bv ≤ rest * Bv := Nat.mul_le_mul_right _ h
      omega
    · exact h
  have h2 : g * (vt * Bv + v2) ≤ xt * Bv + x2 := by
    rw [Nat.mul_add, ← Nat.mul_assoc, ← hx, Nat.add_mul]; omega
  have h3 : g * (vt * Bv + v2) * P ≤ (xt * Bv + x2) * P := Nat.mul_le_mul_right _ h2
  have h4 : g * V = g * (vt * Bv + v2) * P + g * vl := by rw [hV, Nat.mul_add, Nat.mul_assoc]
  have h5 : g * vl ≤ Bv * vl := Nat.mul_le_mul_right _ (Nat.le_of_lt hg)
  have h6 : Bv * vl < Bv * P := Nat.mul_lt_mul_of_pos_left hvl hB
  have h7 : Bv * P ≤ (vt * Bv + v2) * P := Nat.mul_le_mul_right _ (by
    have : 1 * Bv ≤ vt * Bv := Nat.mul_le_mul_right _ hvt
    omega)
  have hVp : 0 < V := by omega
  have h8 : g * V < X + V := by omega
  have h9 : X < (X / V + 1) * V := by
    rw [Nat.succ_mul, Nat.mul_comm]; have := Nat.div_add_mod X V; have := Nat.mod_lt X hVp; omega
  refine Classical.byContradiction fun h => ?_
  have h10 : (X / V + 1 + 1) * V ≤ g * V := Nat.mul_le_mul_right _ (by omega)
  rw [Nat.succ_mul (X / V + 1)] at h10
  omega
set_option maxHeartbeats 2000000 in
set_option maxRecDepth 20000 in
theorem guess_loop {us vs : List Nat} {k X V xt vt v2 x2 vl xl : Nat} (hvs : Wd vs) (hn : vs.length = k + 2) (hul : us.length = k + 3) (hlen : us.length ≤ 2 * Lim)
    (hvt : vs[k + 1]? = some vt) (hv2 : vs[k]? = some v2) (hx2 : us[k]? = some x2) (hvt0 : 0 < vt) (hvtB : vt < B) (hv2B : v2 < B) (hx2B : x2 < B)
    (hV : V = (vt * B + v2) * B ^ k + vl) (hvl : vl < B ^ k) (hX : X = (xt * B + x2) * B ^ k + xl) (hxl : xl < B ^ k) (hXV : X < B * V) (hxt : xt < vt * B + B) (hxM : xt < 18446744073709551616) {Q : FQ}
    (hQ : ∀ (tm : List AV) (hl : tm.length = 75) (g : Nat), tm[7] = .int .u64 (g : Int) → X / V ≤ g → g ≤ X / V + 1 → g < B → Q (.ex 0) ⟨tm, []⟩) :
    ∀ (N g rest : Nat), g ≤ N → g * vt + rest = xt → X / V ≤ g → rest < B →
    wpL RT f175_0m 0 f175_0 ⟨[.sl (wds us) 1 false, .sl (wds vs) 1 false, .any, .any, .any, .int .i64 ((k + 2 : Nat) : Int), .any, .int .u64 (g : Int), .int .u64 (rest : Int)] ++ List.replicate 66 .any, []⟩ Q := by
  have hL : Lim = 1099511627776 := rfl
  have hB : B = 4294967296 := rfl
  have hVp : 0 < V := by
    rw [hV]
    have : 0 < (vt * B + v2) * B ^ k := Nat.mul_pos (Nat.lt_of_lt_of_le (Nat.mul_pos hvt0 (by decide)) (Nat.le_add_right _ _)) (Nat.pow_pos (by decide))
    omega
  have hV' : (vt * B + v2) * B ^ k ≤ V := by omega
  have hX' : X < (xt * B + x2 + 1) * B ^ k := by rw [Nat.succ_mul]; omega
  have hqB : X / V < B := (Nat.div_lt_iff_lt_mul hVp).2 hXV
  have hpos : 0 < vt * B + v2 := Nat.lt_of_lt_of_le (Nat.mul_pos hvt0 (by decide)) (Nat.le_add_right _ _)
  have e1 : IntKind.i64.wrap ((k : Int) + 2 - 2) = (k : Int) := by rw [wrap_i64 (by omega) (by omega)]; omega
  have e1' : IntKind.i64.wrap (k : Int) = (k : Int) := wrap_i64 (by omega) (by omega)
  have e1b : IntKind.i64.wrap ((k : Int) + 2 - 1) = (k : Int) + 1 := by rw [wrap_i64 (by omega) (by omega)]; omega
  have e1b' : IntKind.i64.wrap ((k : Int) + 1) = (k : Int) + 1 := wrap_i64 (by omega) (by omega)
  have hv2' : vs[k] = v2 := (List.getElem?_eq_some_iff.1 hv2).2
  have hvt' : vs[k + 1] = vt := (List.getElem?_eq_some_iff.1 hvt).2
  have hx2' : us[k]'(by omega) = x2 := (List.getElem?_eq_some_iff.1 hx2).2
  have f1 : (v2 : Int) % 18446744073709551616 = v2 := by omega
  have f1b : (vt : Int) % 18446744073709551616 = vt := by omega
  have f2 : (x2 : Int) % 18446744073709551616 = x2 := by omega
  have e4 : (k : Int) < (k : Int) + 3 := by omega
  have e5 : (k : Int) < (k : Int) + 2 := by omega
  have e6 : (k : Int) + 1 < (k : Int) + 2 := by omega
  have e7 : ((k : Int) + 1).toNat = k + 1 := by omega
  have e8 : (0 : Int) ≤ (k : Int) + 1 := by omega
  intro N
  induction N with
  | zero =>
    intro g rest hgN hx hge hrB
    have hg0 : g = 0 := by omega
    subst hg0
    have hfin := fun tm hl h7 => hQ tm hl 0 h7 hge (Nat.zero_le _) (by decide)
    obtain ⟨z, hz⟩ : ∃ z, z = rest * 4294967296 := ⟨_, rfl⟩
    have f3 : (rest : Int) * 4294967296 % 18446744073709551616 = (z : Int) := by rw [hB] at hrB; omega
    have f4 : ((z : Int) + (x2 : Int)) % 18446744073709551616 = ((z + x2 : Nat) : Int) := by rw [hB] at hrB hx2B; omega
    have f5 : ¬ (z : Int) + (x2 : Int) < 0 := by omega
    have f5' : ¬ (((z + x2 : Nat) : Int)) < 0 := by omega
    rw [wpL_step]
    generalize hK : loopQ RT f175_0m 0 f175_0 Q = K
    generalize hy : z + x2 = y at *
    simp [f175_0, List.replicate, e1, e1', hn, hul, hv2', hx2', wrap_u64, f1, f2, f3, f4, e4, e5, f5']
    subst hK
    exact hfin _ rfl rfl
  | succ N ih =>
    intro g rest hgN hx hge hrB
    have hgM : g < 18446744073709551616 := by
      have : g * 1 ≤ g * vt := Nat.mul_le_mul_left _ hvt0
      omega
    -- a round that takes one away
    have step : 1 ≤ g → X / V ≤ g - 1 → (rest + vt < B → wpL RT f175_0m 0 f175_0 ⟨[.sl (wds us) 1 false, .sl (wds vs) 1 false, .any, .any, .any, .int .i64 ((k + 2 : Nat) : Int), .any, .int .u64 ((g - 1 : Nat) : Int), .int .u64 ((rest + vt : Nat) : Int)] ++ List.replicate 66 .any, []⟩ Q) ∧
        (B ≤ rest + vt → ∀ (tm : List AV) (hl : tm.length = 75), tm[7] = .int .u64 ((g - 1 : Nat) : Int) → Q (.ex 0) ⟨tm, []⟩) := by
      intro hg1 hge1
      have hx1 : (g - 1) * vt + (rest + vt) = xt := by rw [← hx, pred_mul' (vt := vt) hg1, Nat.add_assoc, Nat.add_comm vt rest]
      refine ⟨fun h => ih (g - 1) (rest + vt) (by omega) hx1 hge1 h, fun h tm hl h7 => ?_⟩
      have hgB : g - 1 < B := by
        refine Classical.byContradiction fun hc => ?_
        have : B * vt ≤ (g - 1) * vt := Nat.mul_le_mul_right _ (by omega)
        rw [Nat.mul_comm B vt] at this
        omega
      exact hQ tm hl (g - 1) h7 hge1 (guess_hi (by decide) hgB hv2B hx1 (.inl h) hvt0 hV hvl hX) hgB
    by_cases c : g < B
    · rw [hB] at hrB hx2B hv2B
      obtain ⟨z, hz⟩ : ∃ z, z = rest * 4294967296 := ⟨_, rfl⟩
      obtain ⟨y, hy⟩ : ∃ y, y = z + x2 := ⟨_, rfl⟩
      have f3 : (rest : Int) * 4294967296 % 18446744073709551616 = (z : Int) := by omega
      have f4 : ((z : Int) + (x2 : Int)) % 18446744073709551616 = (y : Int) := by omega
      have hgv : g * v2 ≤ (B - 1) * (B - 1) := Nat.mul_le_mul (by omega) (by omega)
      rw [hB] at hgv
      obtain ⟨w, hw⟩ : ∃ w, w = g * v2 := ⟨_, rfl⟩
      rw [← hw] at hgv
      have f5 : (g : Int) * (v2 : Int) % 18446744073709551616 = (w : Int) := by
        have : (g : Int) * (v2 : Int) = (w : Int) := by rw [hw]; push_cast; rfl
        rw [this]; omega
      have hc1 : ¬ 4294967296 ≤ (g : Int) := by rw [hB] at c; omega
      have hc1' : ¬ 4294967296 ≤ g := by rw [hB] at c; omega
      by_cases c2 : y < w
      · have hg1 : 1 ≤ g := by
          refine Classical.byContradiction fun h => ?_
          have : g = 0 := by omega
          rw [this, Nat.zero_mul] at hw; omega
        have hzB : z = rest * B := by rw [hB]; exact hz
        have hst := est_step (Bv := B) hx hzB hy hw c2
        have hlt : X / V < g := est_lt hV' hX' hpos hst
        have st := step hg1 (by omega)
        have f7 : ((rest : Int) + (vt : Int)) % 18446744073709551616 = ((rest + vt : Nat) : Int) := by rw [hB] at hvtB; omega
        have f8 : ((g : Int) - 1) % 18446744073709551616 = ((g - 1 : Nat) : Int) := by omega
        have f9 : (y : Int) < (w : Int) := by omega
        generalize rest + vt = rv at *
        generalize g - 1 = g1 at *
        rw [wpL_step]
        generalize hK : loopQ RT f175_0m 0 f175_0 Q = K
        by_cases c3 : rv < B
        · have c3' : ¬ (4294967296 : Int) ≤ (rv : Int) := by rw [hB] at c3; omega
          simp [f175_0, List.replicate, hc1, hc1', e1, e1', e1b, e1b', hn, hul, hv2', hx2', hvt', wrap_u64, f1, f1b, f2, f3, f4, f5, e4, e5, e6, e7, e8, f7, f8, c2, c3']
          subst hK
          simp [head, f175_0m, mask, trunc_len]
          simpa [f175_0m, List.replicate] using st.1 c3
        · have c3' : (4294967296 : Int) ≤ (rv : Int) := by rw [hB] at c3; omega
          simp [f175_0, List.replicate, hc1, hc1', e1, e1', e1b, e1b', hn, hul, hv2', hx2', hvt', wrap_u64, f1, f1b, f2, f3, f4, f5, e4, e5, e6, e7, e8, f7, f8, c2, c3']
          subst hK
          exact st.2 (by omega) _ rfl rfl
      · have hfin := fun tm hl h7 => hQ tm hl g h7 hge (guess_hi (by decide) c (by rw [hB]; exact hv2B) hx (.inr (by rw [hB]; omega)) hvt0 hV hvl hX) c
        rw [wpL_step]
        generalize hK : loopQ RT f175_0m 0 f175_0 Q = K
        simp [f175_0, List.replicate, hc1, hc1', e1, e1', e1b, e1b', hn, hul, hv2', hx2', hvt', wrap_u64, f1, f1b, f2, f3, f4, f5, e4, e5, c2]
        subst hK
        exact hfin _ rfl rfl
    · have hg1 : 1 ≤ g := by omega
      have st := step hg1 (by omega)
      have f7 : ((rest : Int) + (vt : Int)) % 18446744073709551616 = ((rest + vt : Nat) : Int) := by rw [hB] at hvtB hrB; omega
      have f8 : ((g : Int) - 1) % 18446744073709551616 = ((g - 1 : Nat) : Int) := by omega
      have hc1' : (4294967296 : Int) ≤ (g : Int) := by rw [hB] at c; omega
      generalize rest + vt = rv at *
      generalize g - 1 = g1 at *
      rw [wpL_step]
      generalize hK : loopQ RT f175_0m 0 f175_0 Q = K
      by_cases c3 : rv < B
      · have c3' : ¬ (4294967296 : Int) ≤ (rv : Int) := by rw [hB] at c3; omega
        simp [f175_0, List.replicate, hc1', e1b, e1b', hn, hul, hvt', wrap_u64, f1b, e6, e7, e8, f7, f8, c3']
        subst hK
        simp [head, f175_0m, mask, trunc_len]
        simpa [f175_0m, List.replicate] using st.1 c3
      · have c3' : (4294967296 : Int) ≤ (rv : Int) := by rw [hB] at c3; omega
        simp [f175_0, List.replicate, hc1', e1b, e1b', hn, hul, hvt', wrap_u64, f1b, e6, e7, e8, f7, f8, c3']
        subst hK
        exact st.2 (by omega) _ rfl rfl
theorem val_two {vs : List Nat} {k vt v2 : Nat} (hn : vs.length = k + 2) (h1 : vs[k + 1]? = some vt) (h2 : vs[k]? = some v2) : val vs = (vt * B + v2) * B ^ k + val (vs.take k) := by
  have e1 := val_take_succ vs k
  have e2 := val_take_succ vs (k + 1)
  rw [List.getD_eq_getElem?_getD, h2] at e1
  rw [List.getD_eq_getElem?_getD, h1] at e2
  rw [List.take_of_length_le (by omega)] at e2
  simp only [Option.getD_some] at e1 e2
  rw [e2, e1, Nat.pow_succ, Nat.mul_comm (vt * B + v2), Nat.mul_add, Nat.mul_comm vt B, Nat.mul_assoc]
  omega
theorem val_three {vs : List Nat} {k v3 vt v2 : Nat} (hn : vs.length = k + 3) (h0 : vs[k + 2]? = some v3) (h1 : vs[k + 1]? = some vt) (h2 : vs[k]? = some v2) : val vs = ((v3 * B + vt) * B + v2) * B ^ k + val (vs.take k) := by
  have e1 := val_take_succ vs k
  have e2 : val (vs.take (k + 2)) = val (vs.take (k + 1)) + B ^ (k + 1) * vs.getD (k + 1) 0 := val_take_succ vs (k + 1)
  have e3 : val (vs.take (k + 3)) = val (vs.take (k + 2)) + B ^ (k + 2) * vs.getD (k + 2) 0 := val_take_succ vs (k + 2)
  rw [List.getD_eq_getElem?_getD, h2] at e1
  rw [List.getD_eq_getElem?_getD, h1] at e2
  rw [List.getD_eq_getElem?_getD, h0] at e3
  rw [List.take_of_length_le (by omega)] at e3
  simp only [Option.getD_some] at e1 e2 e3
  have p1 : B ^ (k + 1) = B ^ k * B := by rw [Nat.pow_succ]
  have p2 : B ^ (k + 2) = B ^ k * B * B := by rw [Nat.pow_succ, Nat.pow_succ]
  rw [p1] at e2
  rw [p2] at e3
  rw [e3, e2, e1]
  generalize B ^ k = P
  have : ((v3 * B + vt) * B + v2) * P = P * B * B * v3 + P * B * vt + P * v2 := by
    simp only [Nat.add_mul]
    simp only [Nat.mul_comm, Nat.mul_left_comm, Nat.mul_assoc]
  rw [this]; omega
theorem top_le {xn x1 x2 vt v2 P Bv V X vl xl : Nat} (hV : V = (vt * Bv + v2) * P + vl) (hX : X = ((xn * Bv + x1) * Bv + x2) * P + xl) (hvl : vl < P) (hv2 : v2 < Bv) (h : X < Bv * V) : xn ≤ vt := by
  refine Classical.byContradiction fun hc => ?_
  have h1 : (vt * Bv + v2 + 1) * P ≤ (vt * Bv + Bv) * P := Nat.mul_le_mul_right _ (by omega)
  have h2 : V < (vt + 1) * Bv * P := by
    rw [hV]
    rw [Nat.succ_mul (vt * Bv + v2)] at h1
    rw [Nat.succ_mul vt]; omega
  have h3 : Bv * V < Bv * ((vt + 1) * Bv * P) := Nat.mul_lt_mul_of_pos_left h2 (by omega)
  have h4 : (vt + 1) * Bv * Bv ≤ (xn * Bv + x1) * Bv := Nat.mul_le_mul_right _ (by
    have : (vt + 1) * Bv ≤ xn * Bv := Nat.mul_le_mul_right _ (by omega)
    omega)
  have h5 : (vt + 1) * Bv * Bv * P ≤ ((xn * Bv + x1) * Bv + x2) * P := Nat.mul_le_mul_right _ (by omega)
  have h6 : Bv * ((vt + 1) * Bv * P) = (vt + 1) * Bv * Bv * P := by
    simp only [Nat.mul_comm, Nat.mul_left_comm, Nat.mul_assoc]
  omega
theorem top_lt {xt x2 P Bv X xl : Nat} (hX : X = (xt * Bv + x2) * P + xl) (hxl : xl < P) (hx2 : x2 < Bv) : X < (xt + 1) * (P * Bv) := by
  have h1 : (x2 + 1) * P ≤ Bv * P := Nat.mul_le_mul_right _ hx2
  rw [Nat.succ_mul] at h1
  have h2 : (xt + 1) * (P * Bv) = xt * Bv * P + Bv * P := by
    rw [Nat.succ_mul, Nat.mul_comm P Bv, Nat.mul_assoc]
  rw [h2, hX, Nat.add_mul]
  omega
theorem top_ge {vt v2 P Bv V vl : Nat} (hV : V = (vt * Bv + v2) * P + vl) : vt * (P * Bv) ≤ V := by
  rw [hV, Nat.add_mul, Nat.mul_assoc, Nat.mul_comm P Bv]; omega
theorem top_xt {xn x1 vt Bv : Nat} (h : xn ≤ vt) (hx : x1 < Bv) : xn * Bv + x1 < vt * Bv + Bv := by
  have : xn * Bv ≤ vt * Bv := Nat.mul_le_mul_right _ h
  omega
set_option maxHeartbeats 2000000 in
set_option maxRecDepth 20000 in
theorem run_guess {us vs : List Nat} {k vt : Nat} (hus : Wd us) (hvs : Wd vs) (hn : vs.length = k + 2) (hul : us.length = k + 3) (hlen : us.length ≤ 2 * Lim) (hvt : vs[k + 1]? = some vt) (hvt0 : 0 < vt) (hXV : val us < B * val vs) :
    ∃ g : Nat, callPure RT 175 [.sl (wds us) 1 false, .sl (wds vs) 1 false] = some (.int .u64 (g : Int)) ∧ val us / val vs ≤ g ∧ g ≤ val us / val vs + 1 ∧ g < B := by
  have hL : Lim = 1099511627776 := rfl
  have hB : B = 4294967296 := rfl
  obtain ⟨v2, hv2⟩ : ∃ w, vs[k]? = some w := ⟨vs[k], List.getElem?_eq_getElem (by omega)⟩
  obtain ⟨x2, hx2⟩ : ∃ w, us[k]? = some w := ⟨us[k], List.getElem?_eq_getElem (by omega)⟩
  obtain ⟨x1, hx1⟩ : ∃ w, us[k + 1]? = some w := ⟨us[k + 1], List.getElem?_eq_getElem (by omega)⟩
  obtain ⟨xn, hxn⟩ : ∃ w, us[k + 2]? = some w := ⟨us[k + 2], List.getElem?_eq_getElem (by omega)⟩
  have hV := val_two hn hvt hv2
  have hX := val_three hul hxn hx1 hx2
  have hvl := val_take_lt hvs (k := k) (by omega)
  have hxl := val_take_lt hus (k := k) (by omega)
  have hvtB := hvs.get hvt
  have hv2B := hvs.get hv2
  have hx2B := hus.get hx2
  have hx1B := hus.get hx1
  have hxnB := hus.get hxn
  have hxnle : xn ≤ vt := top_le hV hX hvl hv2B hXV
  obtain ⟨xt, hxt⟩ : ∃ xt, xt = xn * B + x1 := ⟨_, rfl⟩
  rw [← hxt] at hX
  have hxtB : xt < vt * B + B := by rw [hxt]; exact top_xt hxnle hx1B
  have hxtM : xt < 18446744073709551616 := by
    have : xn * B ≤ (B - 1) * B := Nat.mul_le_mul_right _ (by omega)
    rw [hB] at this hx1B hxt; omega
  obtain ⟨q0, hq0⟩ : ∃ q, q = xt / vt := ⟨_, rfl⟩
  obtain ⟨r0, hr0⟩ : ∃ q, q = xt % vt := ⟨_, rfl⟩
  have htd := tdiv_nat xt vt
  have htm := tmod_nat xt vt
  have hdiv : (xt : Int) / (vt : Int) = (q0 : Int) := by rw [hq0]; push_cast; rfl
  rw [← hq0] at htd
  rw [← hr0] at htm
  have hq0M : q0 ≤ xt := by rw [hq0]; exact Nat.div_le_self _ _
  have hdm : q0 * vt + r0 = xt := by rw [hq0, hr0, Nat.mul_comm]; exact Nat.div_add_mod xt vt
  have hr0B : r0 < B := by rw [hr0]; exact Nat.lt_trans (Nat.mod_lt _ hvt0) hvtB
  have hge0 : val us / val vs ≤ q0 := by
    rw [hq0]
    refine est_le (k := k + 1) ?_ ?_ hvt0
    · rw [Nat.pow_succ]; exact top_ge hV
    · rw [Nat.pow_succ]; exact top_lt hX hxl hx2B
  have key := fun (Q' : FQ) hQ' => guess_loop (us := us) (vs := vs) (k := k) (X := val us) (V := val vs) (xt := xt) (vt := vt) (v2 := v2) (x2 := x2) hvs hn hul hlen hvt hv2 hx2 hvt0 hvtB hv2B hx2B hV hvl hX hxl hXV hxtB hxtM (Q := Q') hQ' q0 q0 r0 (Nat.le_refl _) hdm hge0 hr0B
  generalize val us / val vs = qq at *
  refine callPure_ex (P := fun r => ∃ g : Nat, r = .int .u64 (g : Int) ∧ qq ≤ g ∧ g ≤ qq + 1 ∧ g < B) ?_ |>.elim fun r h => h.2.elim fun g hg => ⟨g, by rw [h.1, hg.1], hg.2⟩
  refine wpF_of tab_175 rfl ?_
  have e1b : IntKind.i64.wrap ((k : Int) + 2 - 1) = (k : Int) + 1 := by rw [wrap_i64 (by omega) (by omega)]; omega
  have e1b' : IntKind.i64.wrap ((k : Int) + 1) = (k : Int) + 1 := wrap_i64 (by omega) (by omega)
  have hvt' : vs[k + 1] = vt := (List.getElem?_eq_some_iff.1 hvt).2
  have hx1' : us[k + 1]'(by omega) = x1 := (List.getElem?_eq_some_iff.1 hx1).2
  have hxn' : us[k + 2]'(by omega) = xn := (List.getElem?_eq_some_iff.1 hxn).2
  have e5 : (k : Int) + 2 < (k : Int) + 3 := by omega
  have e6 : (k : Int) + 1 < (k : Int) + 2 := by omega
  have e6' : (k : Int) + 1 < (k : Int) + 3 := by omega
  have e7 : ((k : Int) + 1).toNat = k + 1 := by omega
  have e7' : ((k : Int) + 2).toNat = k + 2 := by omega
  have e8 : (0 : Int) ≤ (k : Int) + 1 := by omega
  have e8' : (0 : Int) ≤ (k : Int) + 2 := by omega
  have f1 : (vt : Int) % 18446744073709551616 = vt := by rw [hB] at hvtB; omega
  have f2 : (x1 : Int) % 18446744073709551616 = x1 := by rw [hB] at hx1B; omega
  have f3 : (xn : Int) % 18446744073709551616 = xn := by rw [hB] at hxnB; omega
  have f4 : (xn : Int) * 4294967296 % 18446744073709551616 = (xn : Int) * 4294967296 := by rw [hB] at hxnB; omega
  have f5 : ((xn : Int) * 4294967296 + (x1 : Int)) % 18446744073709551616 = (xt : Int) := by rw [hB] at hxt; omega
  have f6 : (q0 : Int) % 18446744073709551616 = (q0 : Int) := by omega
  have hd0 : ¬ vt = 0 := by omega
  simp [f175, enter, List.replicate, hn, hul, e1b, e1b', hvt', hx1', hxn', e5, e6, e6', e7, e7', e8, e8', wrap_u64, f1, f2, f3, f4, f5, hdiv, htm, f6, hd0]
  simp [head, f175_0m, mask, trunc_len]
  simp [f175_0m, List.replicate] at key
  refine key _ ?_
  intro tm hl g h7 k1 k2 k3
  simp [hl, h7]
  exact ⟨g, rfl, k1, k2, k3⟩
end Go.AVM
