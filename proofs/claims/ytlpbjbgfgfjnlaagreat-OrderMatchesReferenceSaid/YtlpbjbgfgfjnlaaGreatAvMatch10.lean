/- Texts joined: AvRo8. -/
import Derived.Test.YtlpbjbgfgfjnlaaGreatAvMatch9
import Derived.Test.YtlpbjbgfgfjnlaaGreatAvMatch7
set_option linter.unusedVariables false
set_option linter.unusedSimpArgs false
set_option linter.unusedSectionVars false
namespace Go.AVM
theorem fullRes_form {o : List (List Int)} (ho : ∀ w ∈ o, w.length = 8) (hol : o.length < 900000) : ∃ F e, fullRes o = .tup [OR F, .int .i64 e] ∧ All8 F ∧ F.length < 1000000 := by
  unfold fullRes
  have h0 : All8 [] := fun x hx => by cases hx
  split
  · split
    · rename_i hl
      exact ⟨_, _, rfl, fullL_8 ho, by omega⟩
    · exact ⟨[], _, rfl, h0, by simp⟩
  · exact ⟨[], _, rfl, h0, by simp⟩
theorem permRes_form {o : List (List Int)} {p : List Int} (ho : ∀ w ∈ o, w.length = 8) : ∃ F e, permRes o p = .tup [OR F, .int .i64 e] ∧ All8 F ∧ F.length < 1000000 := by
  unfold permRes
  have h0 : All8 [] := fun x hx => by cases hx
  split
  · split
    · split
      · rename_i hl
        refine ⟨_, _, rfl, fun x hx => ?_, by rw [List.length_map]; omega⟩
        obtain ⟨r, hr, rfl⟩ := List.mem_map.1 hx
        unfold movL; rw [scatter_len]; exact fullL_8 ho r hr
      · exact ⟨[], _, rfl, h0, by simp⟩
    · exact ⟨[], _, rfl, h0, by simp⟩
  · exact ⟨[], _, rfl, h0, by simp⟩
theorem wsum_pow {w : List Int} {i : Nat} (hw : w.length = 8) (hi : i < 8) (n : Int) : wsum w (powL i n) = w.getD i 0 * n := by
  obtain ⟨w0, w1, w2, w3, w4, w5, w6, w7, rfl⟩ := len8 hw
  have h : i = 0 ∨ i = 1 ∨ i = 2 ∨ i = 3 ∨ i = 4 ∨ i = 5 ∨ i = 6 ∨ i = 7 := by omega
  rcases h with rfl | rfl | rfl | rfl | rfl | rfl | rfl | rfl <;> simp [wsum, powL]
theorem pair_nil : ∀ i, i < 8 → ∀ j, j < 8 → i ≠ j → decide (i ≤ j) = decide (0 ≤ cmpL (powL i 1) (powL j 65535)) := by decide +kernel
theorem pair_ref {i j : Nat} (hi : i < 8) (hj : j < 8) (hij : i ≠ j) : ∀ {o : List (List Int)}, (∀ w ∈ o, w.length = 8 ∧ Bd 1000 w) → colOk i o → colOk j o → pairOk i j o = decide (0 ≤ ordCmp o (powL i 1) (powL j 65535))
  | [], _, _, _ => pair_nil i hi j hj hij
  | w :: o, ho, ci, cj => by
    obtain ⟨hw8, hwB⟩ := ho w (by simp)
    have hd : dotL w (powL i 1) (powL j 65535) = w.getD i 0 - w.getD j 0 * 65535 := by
      rw [wsum_dot _ _ _ (by rw [powL_len, powL_len]), wsum_pow hw8 hi, wsum_pow hw8 hj, Int.mul_one]
    have hbi := hwB (w.getD i 0) (by rw [List.getD_eq_getElem?_getD, List.getElem?_eq_getElem (by omega)]; exact List.getElem_mem _)
    simp only [colOk] at ci cj
    simp only [pairOk, ordCmp, hd]
    by_cases c : w.getD i 0 = 0 ∧ w.getD j 0 = 0
    · have hocc : occ i j w = false := by unfold occ; rw [c.1, c.2]; rfl
      have ci' : colOk i o := ci.elim (fun h => absurd h (by omega)) fun h => h.2
      have cj' : colOk j o := cj.elim (fun h => absurd h (by omega)) fun h => h.2
      have := pair_ref hi hj hij (fun v hv => ho v (by simp [hv])) ci' cj'
      rw [hocc, c.1, c.2]
      simpa using this
    · have hx : 0 ≤ w.getD i 0 := by omega
      have hy : 0 ≤ w.getD j 0 := by omega
      have hocc : occ i j w = true := by
        unfold occ
        rw [Bool.or_eq_true, decide_eq_true_eq, decide_eq_true_eq]; omega
      rw [if_pos hocc]
      by_cases h0 : w.getD j 0 = 0
      · rw [if_neg (by omega), if_pos (by omega), decide_eq_true h0]; rfl
      · rw [if_pos (by omega), decide_eq_false h0]; rfl
theorem elim_ref {o : List (List Int)} (h : MadeO o) (m : Nat) : elimB o m ↔ refB o m := by
  have key : ∀ i, i < 8 → ∀ j, j < 8 → elimOk o m i j = refOk o m i j := fun i hi j hj => by
    unfold elimOk refOk
    cases c1 : m.testBit i with
    | false => rfl
    | true =>
      cases c2 : m.testBit j with
      | true => rfl
      | false =>
        have hij : i ≠ j := fun e => by rw [e, c2] at c1; cases c1
        rw [pair_ref hi hj hij h.rows (h.col i hi) (h.col j hj)]
  unfold elimB refB
  constructor
  · intro h1 i hi j hj
    rw [← key i hi j hj]; exact h1 i hi j hj
  · intro h1 i hi j hj
    rw [key i hi j hj]; exact h1 i hi j hj
set_option maxRecDepth 20000 in
theorem match_loop {o m : List (List Int)} (ho : Rows o) (hol : o.length < 1000000) (hm : Mono8 m) (hml : m.length < 1000000) {S : Store} {x5 x7 x10 : AV} {Q : FQ}
    (hQ : ∀ (tm : List AV) (ht : tm.length = 143), tm[5] = x5 → tm[7] = x7 → tm[8] = OR o → tm[9] = OR m → tm[10] = x10 → Q (.ex 0) ⟨tm, S⟩) :
    ∀ (k i : Nat), i + k = m.length → wpL RT f127_0m S.length f127_0 ⟨[.any, .any, .any, .any, .any, x5, .any, x7, OR o, OR m, x10, .int .i64 (i : Int)] ++ List.replicate 131 .any, S⟩ Q := by
  intro k
  induction k with
  | zero =>
    intro i hi
    have hi' : i = m.length := by omega
    subst hi'
    rw [wpL_step]
    generalize hK' : loopQ RT f127_0m S.length f127_0 Q = KK
    simp [f127_0, List.replicate]
    subst hK'
    exact hQ _ rfl rfl rfl rfl rfl rfl
  | succ k ih =>
    intro i hi
    have hi1 : i < m.length := by omega
    have hlt : (i : Int) < (m.length : Int) := by omega
    have hw1 : IntKind.i64.wrap ((i : Int) + 1) = ((i + 1 : Nat) : Int) := wrap_i64 (by omega) (by omega)
    have hget : m[i]? = some m[i] := List.getElem?_eq_getElem hi1
    have hx8 := hm.len m[i] (List.getElem_mem hi1)
    have hxb := hm.bd m[i] (List.getElem_mem hi1)
    have h0 : 0 < m.length := by omega
    have hget0 : m[0]? = some m[0] := List.getElem?_eq_getElem h0
    have hy8 := hm.len m[0] (List.getElem_mem h0)
    have hyb := hm.bd m[0] (List.getElem_mem h0)
    have c1 := run_Cmp ho hol hy8 hx8 hyb hxb
    have c2 := run_rord ho hol hy8 hx8 hyb hxb
    have hih := ih (i + 1) (by omega)
    have htx : (nums .i64 m[i]).take 8 = nums .i64 m[i] := List.take_of_length_le (by simp [hx8])
    have hty : (nums .i64 m[0]).take 8 = nums .i64 m[0] := List.take_of_length_le (by simp [hy8])
    generalize m[i] = x at *
    generalize ordCmp o m[0] x = c at *
    rw [wpL_step]
    generalize hK' : loopQ RT f127_0m S.length f127_0 Q = KK
    simp [f127_0, List.replicate, hlt, h0, hget, hget0, hx8, hy8, htx, hty, chk, c1, c2, after_nr, hw1]
    subst hK'
    simp [head, f127_0m, mask, trunc_len]
    simpa [f127_0m, List.replicate] using hih
theorem wrap_u8_nat (k : Nat) : IntKind.u8.wrap (k : Int) = ((k % 256 : Nat) : Int) := by rw [wrap_u8]; omega
open Classical in
theorem elim_both {o : List (List Int)} (hmo : MadeO o) (m : Nat) : ∃ bb : Bool, callPure RT 22 [OR o, .int .u8 (m : Int)] = some (.bool bb) ∧ callPure RT 133 [OR o, .int .u8 (m : Int)] = some (.bool bb) := by
  have hol : o.length < 1000000 := by have := hmo.len; omega
  have ho8 : ∀ w ∈ o, w.length = 8 := fun w hw => (hmo.row w hw).1
  have e1 := run_eliminates ho8 hol m
  have e2 := run_relim hmo.rows hol m
  have hed : decide (elimB o m) = decide (refB o m) := decide_eq_decide.2 (elim_ref hmo _)
  rw [hed] at e1
  exact ⟨_, e1, e2⟩
set_option maxHeartbeats 4000000 in
set_option maxRecDepth 40000 in
theorem law_match (X : List (List Int)) (hX : RawOk X) (l : List (List Int)) (hl : ExOk l) (k0 k1 : Nat) (hk1 : k1 ≤ 65535) : callPure (run tab) 127 [.agg [RawR X], ExR l, .agg [.int .u16 (k0 : Int), .int .u16 (k1 : Int)]] = some (.bool true) := by
  obtain ⟨o, hmade, hmo⟩ := run_made hX
  have hol : o.length < 1000000 := by have := hmo.len; omega
  have ho8 : ∀ w ∈ o, w.length = 8 := fun w hw => (hmo.row w hw).1
  have hmon := run_monos hl
  have hm : Mono8 ((l.take 8).map monoL) := by
    constructor
    · intro r hr
      obtain ⟨x, hx, rfl⟩ := List.mem_map.1 hr
      exact monoL_len (hl x (List.mem_of_mem_take hx)).1
    · intro r hr
      obtain ⟨x, hx, rfl⟩ := List.mem_map.1 hr
      intro n hn
      have := monoL_bd (hl x (List.mem_of_mem_take hx)).2 n hn
      omega
  have hml : ((l.take 8).map monoL).length ≤ 8 := by rw [List.length_map, List.length_take]; omega
  generalize (l.take 8).map monoL = m at *
  obtain ⟨s, hs, hsd, hsm⟩ := run_sort hmo.rows hol hm (by omega)
  obtain ⟨s2, hs2, hsd2, hsm2⟩ := run_rsort hmo.rows hol hm (by omega)
  have hEq : s2 = s := sdec_unique hsd2 hsd fun d => by rw [hsm2 d, hsm d]
  subst hEq
  have hs8 : Mono8 s2 := ⟨fun r hr => hm.len r ((hsm r).1 hr), fun r hr => hm.bd r ((hsm r).1 hr)⟩
  have hnd : s2.Nodup := hsd.imp fun {a b} hab hE => by
    rw [hE, ordCmp_self] at hab; omega
  have hsl : s2.length ≤ 12 := by
    have := nodup_len hnd (fun d hd => (hsm d).1 hd)
    omega
  have hal := run_alike hs8.len (by omega)
  obtain ⟨p, hsh, hp8, hpp⟩ := run_shuffle hk1
  have hpb : ∀ x ∈ p, -9223372036854775808 ≤ x ∧ x < 9223372036854775808 := fun x hx => by
    have := (perm8_ok hpp).2.1 x hx; omega
  have f1 := run_full_p ho8 hol
  have f2 := run_full5 ho8 hol
  have p1 := run_perm_p ho8 hol hp8 hpb
  have p2 := run_perm5 ho8 hol hp8
  obtain ⟨F, e, hF, hF8, hFl⟩ := fullRes_form ho8 (by have := hmo.len; omega)
  obtain ⟨G, e', hG, hG8, hGl⟩ := permRes_form (p := p) ho8
  rw [hF] at f1 f2
  rw [hG] at p1 p2
  have s1 := run_same hF8 hFl
  have s2' := run_same hG8 hGl
  obtain ⟨bb, e1, e2⟩ := elim_both hmo (k0 % 256)
  have n1 := run_eliminating (k0 % 256)
  have n2 := run_eliming5 (k0 % 256)
  have hwu := wrap_u8_nat k0
  have a8 : ∀ o' : List (List Int), Rows o' → All8 o' := fun o' h w hw => (h w hw).1
  have sN := run_same (a8 _ (elimO_rows (k0 % 256))) (by simp [elimO, revO])
  have sL := run_same (a8 _ rows_nil) (by simp)
  have sG := run_same (a8 _ rows_graded) (by simp [gradO])
  have sR := run_same (a8 _ rows_rev) (by simp [revO])
  have hlex : callPure (run tab) 19 [] = some (.sl [] 8 false) := run_lex
  have sL' : callPure (run tab) 32 [.sl [] 8 false, .sl [] 8 false] = some (.bool true) := sL
  have lp := fun (S : Store) (x5 x7 x10 : AV) (Q : FQ) h => match_loop hmo.rows hol hm (by omega) (S := S) (x5 := x5) (x7 := x7) (x10 := x10) (Q := Q) h m.length 0 (by omega)
  have htp : (nums .i64 p).take 8 = nums .i64 p := List.take_of_length_le (by simp [hp8])
  have hzp : ∀ z : List AV, z.length = 8 → splice z 0 (nums .i64 p) = nums .i64 p := fun z hz => row_splice hp8 hz
  have h10 := run_graded
  have h11 := run_graded5
  have h12 := run_reverse
  have h13 := run_reverse5
  have h14 : callPure (run tab) 134 [] = some (.sl [] 8 false) := run_lex5
  generalize k0 % 256 = mk at *
  generalize elimO mk = EO at *
  generalize revO = RO at *
  generalize gradO = GO at *
  refine callPure_of (wpF_of tab_127 rfl ?_)
  simp [f127, enter, run_examples5, after_nr, rd, chk, hmade, hmon, hwu]
  unfold head
  rw [mask_G (n := 143) (by simp)]
  simp [f127_0m, maskG_t, maskG_f, maskG_nil, trunc_len]
  simp [List.replicate, f127_0m] at lp
  refine lp [_, _] _ _ _ _ ?_
  intro tm ht t5 t7 t8 t9 t10
  simp [ht, t5, t7, t8, t9, t10, rd, wr, chk, hsh, after_nr, hp8, hzp]
  simp [ht, t5, t7, t8, t9, t10, rd, chk, f1, f2, p1, p2, hp8, htp, s1, s2', hs, hs2, hal, e1, e2, after_nr]
  simp [ht, t5, t7, t8, t9, t10, n1, n2, sN, sL', sG, sR, hlex, h10, h11, h12, h13, h14, after_nr]
end Go.AVM
