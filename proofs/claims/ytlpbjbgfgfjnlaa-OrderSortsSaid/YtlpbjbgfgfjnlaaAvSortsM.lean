/- Texts joined: AvSort1, AvSort2, AvSort3, AvSort4, AvSort5, AvOrd7. -/
import Derived.Test.YtlpbjbgfgfjnlaaAvAdm1
import Derived.Test.YtlpbjbgfgfjnlaaAvInt7
/- Sorting by insertion. -/
set_option linter.unusedVariables false
set_option linter.unusedSimpArgs false
set_option linter.unusedSectionVars false
namespace Go.AVM
/-! ### Rows in the store -/
def All8 (L : List (List Int)) : Prop := ∀ r ∈ L, r.length = 8
theorem flat_row : ∀ {L : List (List Int)} {j : Nat} {r : List Int}, All8 L → L[j]? = some r → (L.flatten.drop (j * 8)).take 8 = r
  | [], _, _, _, h => by simp at h
  | x :: L, 0, r, h8, h => by
    simp at h; subst h
    have hx := h8 x (by simp)
    rw [Nat.zero_mul, List.drop_zero, List.flatten_cons, List.take_append_of_le_length (by omega), List.take_of_length_le (by omega)]
  | x :: L, j + 1, r, h8, h => by
    have hx := h8 x (by simp)
    have e : (j + 1) * 8 = x.length + j * 8 := by omega
    rw [e, List.flatten_cons, List.drop_append, List.drop_of_length_le (by omega), List.nil_append]
    have e2 : x.length + j * 8 - x.length = j * 8 := by omega
    rw [e2]
    exact flat_row (fun r hr => h8 r (by simp [hr])) (by simpa using h)
theorem flat_setrow : ∀ {L : List (List Int)} {j : Nat} {r : List Int}, All8 L → r.length = 8 → j < L.length → L.flatten.take (j * 8) ++ (r ++ L.flatten.drop (j * 8 + 8)) = (L.set j r).flatten
  | [], _, _, _, _, h => by simp at h
  | x :: L, 0, r, h8, hr, h => by
    have hx := h8 x (by simp)
    rw [Nat.zero_mul, List.take_zero, List.nil_append, List.set_cons_zero, List.flatten_cons, List.flatten_cons, List.drop_append, List.drop_of_length_le (by omega), List.nil_append]
    have e2 : 0 + 8 - x.length = 0 := by omega
    rw [e2, List.drop_zero]
  | x :: L, j + 1, r, h8, hr, h => by
    have hx := h8 x (by simp)
    have e : (j + 1) * 8 = x.length + j * 8 := by omega
    have ih := flat_setrow (L := L) (j := j) (r := r) (fun r hr => h8 r (by simp [hr])) hr (by simpa using h)
    rw [List.set_cons_succ, List.flatten_cons, List.flatten_cons, e, List.take_append, List.take_of_length_le (by omega), List.drop_append, List.drop_of_length_le (by omega), List.nil_append]
    have e2 : x.length + j * 8 - x.length = j * 8 := by omega
    have e3 : x.length + j * 8 + 8 - x.length = j * 8 + 8 := by omega
    rw [e2, e3, List.append_assoc, ih]
section
variable {S : Store} {b j n : Nat} {ex : Bool} {L : List (List Int)} {r : List Int}
theorem rd_row (h : S[b]? = some (.mu (nums .i64 L.flatten) ex)) (h8 : All8 L) (hn : L.length = n) (hj : L[j]? = some r) : rd S b (j * 8) (8 * n) 8 = some (nums .i64 r) := by
  have hjl := (List.getElem?_eq_some_iff.1 hj).1
  have hl := flat_len h8
  rw [rd_mu h (by simp [hl, hn]) (by omega), nums_drop, nums_take, flat_row h8 hj]
theorem wr_row (h : S[b]? = some (.mu (nums .i64 L.flatten) ex)) (h8 : All8 L) (hn : L.length = n) (hj : j < n) (hr : r.length = 8) : wr S b (j * 8) (8 * n) (nums .i64 r) = some (S.set b (.mu (nums .i64 (L.set j r).flatten) ex)) := by
  have hl := flat_len h8
  rw [wr_mu h (by simp [hl, hn]) (by simp [hr]; omega)]
  congr 3
  unfold splice
  rw [← flat_setrow h8 hr (by omega), nums_length, hr, nums_take, nums_drop, nums_append, nums_append]
end
theorem All8.set {L : List (List Int)} (h : All8 L) {j : Nat} {r : List Int} (hr : r.length = 8) : All8 (L.set j r) := fun x hx => by
  rcases List.mem_or_eq_of_mem_set hx with h' | rfl
  · exact h x h'
  · exact hr
/-! ### The closure that compares -/
theorem run_less {o : List (List Int)} {x y : List Int} (ho : Rows o) (hol : o.length < 1000000) (hx : x.length = 8) (hy : y.length = 8) (hxB : Bd 200000 x) (hyB : Bd 200000 y) :
    callPure RT 37 [R8 x, R8 y, .fptr [OR o]] = some (.int .i64 (ordCmp o y x)) := by
  have hc := run_Cmp ho hol hy hx hyB hxB
  have htx : (nums .i64 x).take 8 = nums .i64 x := List.take_of_length_le (by simp [hx])
  have hty : (nums .i64 y).take 8 = nums .i64 y := List.take_of_length_le (by simp [hy])
  refine callPure_of (wpF_of tab_37 rfl ?_)
  simp [f37, enter, hx, hy, rd, chk, htx, hty, hc, after_nr]
theorem run_Len {n : Nat} (h : n < 256) : ∃ k : Nat, callPure RT 50 [.int .u64 (n : Int)] = some (.int .i64 (k : Int)) := by
  obtain ⟨b, hb, hb8, _, _⟩ := tab_get h
  have hlen : callPure RT 69 [.int .u64 (n : Int)] = some (.int .i64 (b.toNat : Int)) := by
    refine callPure_of (wpF_of tab_69 rfl ?_)
    have h1 : ¬ (4294967296 : Int) ≤ (n : Int) := by omega
    have h2 : ¬ (65536 : Int) ≤ (n : Int) := by omega
    have h3 : ¬ (256 : Int) ≤ (n : Int) := by omega
    have h4 : IntKind.u8.wrap (n : Int) = n := by rw [wrap_u8]; omega
    have h5 : IntKind.i64.wrap (b.toNat : Int) = b.toNat := wrap_i64 (by omega) (by omega)
    simp [f69, enter, h1, h2, h3, h4, opA, hb, h5, chk]
  refine ⟨b.toNat, callPure_of (wpF_of tab_50 rfl ?_)⟩
  simp [f50, enter, hlen, after_nr]
/-! ### Insertion -/
/-- What stands before does not come after. -/
abbrev Dec (o : List (List Int)) (L : List (List Int)) : Prop := L.Pairwise fun a b => 0 ≤ ordCmp o a b
structure Mono8 (L : List (List Int)) : Prop where
  len : All8 L
  bd : ∀ r ∈ L, Bd 200000 r
theorem swap_rows {pre mid : List (List Int)} {x y : List Int} {j : Nat} (hj : pre.length = j) : ((pre ++ y :: x :: mid).set (j + 1) y).set j x = pre ++ x :: y :: mid := by
  subst hj
  rw [List.set_append_right _ _ (by omega)]
  have e : pre.length + 1 - pre.length = 1 := by omega
  rw [e, List.set_cons_succ, List.set_cons_zero, List.set_append_right _ _ (by omega), Nat.sub_self, List.set_cons_zero]
set_option maxRecDepth 20000 in
theorem ins_inner {o : List (List Int)} (ho : Rows o) (hol : o.length < 1000000) {n : Nat} (hn : n ≤ 1000) {L0 : List (List Int)} (hL0 : L0.length = n) (hM : Mono8 L0) {rest : List (List Int)} {i : Nat} {Q : FQ}
    (hQ : ∀ (tm : List AV) (hl : tm.length = 53) (L : List (List Int)), tm[0] = .msl 1 0 n 8 (8 * n) none → tm[1] = .int .i64 0 → tm[2] = .int .i64 (n : Int) → tm[3] = .fn 37 [.mptr 0 0 1] → tm[8] = .int .i64 (i : Int) → (L ++ rest).Perm L0 → Dec o L → L.length = i + 1 → Q (.ex 2) ⟨tm, [.mu [OR o] true, .mu (nums .i64 (L ++ rest).flatten) false]⟩) :
    ∀ (j : Nat) (pre : List (List Int)) (x : List Int) (mid : List (List Int)), pre.length = j → j + mid.length = i → (pre ++ x :: mid ++ rest).Perm L0 → Dec o (pre ++ mid) → Dec o (x :: mid) →
    wpL RT f60_0m 2 f60_0 ⟨[.msl 1 0 n 8 (8 * n) none, .int .i64 0, .int .i64 (n : Int), .fn 37 [.mptr 0 0 1], .any, .any, .any, .any, .int .i64 (i : Int), .int .i64 (j : Int)] ++ List.replicate 43 .any, [.mu [OR o] true, .mu (nums .i64 (pre ++ x :: mid ++ rest).flatten) false]⟩ Q := by
  intro j
  induction j with
  | zero =>
    intro pre x mid hpl hji hperm hd1 hd2
    have hp : pre = [] := List.eq_nil_of_length_eq_zero hpl
    subst hp
    have e0 : ([] : List (List Int)) ++ x :: mid ++ rest = (x :: mid) ++ rest := rfl
    rw [e0] at hperm ⊢
    have hfin := fun tm hl h0 h1 h2 h3 h8 => hQ tm hl (x :: mid) h0 h1 h2 h3 h8 hperm hd2 (by simp; omega)
    generalize (x :: mid) ++ rest = T at *
    rw [wpL_step]
    generalize hK : loopQ RT f60_0m 2 f60_0 Q = K
    simp [f60_0, List.replicate]
    subst hK
    exact hfin _ rfl rfl rfl rfl rfl rfl
  | succ j ih =>
    intro pre x mid hpl hji hperm hd1 hd2
    have hne : pre ≠ [] := fun h => by rw [h] at hpl; simp at hpl
    obtain ⟨pre', y, rfl⟩ : ∃ p y, pre = p ++ [y] := ⟨pre.dropLast, pre.getLast hne, (List.dropLast_concat_getLast hne).symm⟩
    have hpl' : pre'.length = j := by simp at hpl; exact hpl
    have e1 : pre' ++ [y] ++ x :: mid ++ rest = pre' ++ y :: x :: (mid ++ rest) := by simp
    have hperm1 := hperm
    rw [e1] at hperm1 ⊢
    have hall : Mono8 (pre' ++ y :: x :: (mid ++ rest)) := ⟨fun r hr => hM.len r (hperm1.mem_iff.1 hr), fun r hr => hM.bd r (hperm1.mem_iff.1 hr)⟩
    have hlen : (pre' ++ y :: x :: (mid ++ rest)).length = n := by rw [hperm1.length_eq, hL0]
    have hgy : (pre' ++ y :: x :: (mid ++ rest))[j]? = some y := by rw [List.getElem?_append_right (by omega)]; simp [hpl']
    have hgx : (pre' ++ y :: x :: (mid ++ rest))[j + 1]? = some x := by rw [List.getElem?_append_right (by omega)]; simp [hpl']
    have hy8 := hall.len y (List.mem_of_getElem? hgy)
    have hx8 := hall.len x (List.mem_of_getElem? hgx)
    have hless := run_less ho hol hx8 hy8 (hall.bd x (List.mem_of_getElem? hgx)) (hall.bd y (List.mem_of_getElem? hgy))
    have hjn : j + 1 < n := by rw [← hlen]; exact (List.getElem?_eq_some_iff.1 hgx).1
    have hanti := ordCmp_anti o y x
    have hsw := swap_rows (mid := mid ++ rest) (x := x) (y := y) hpl'
    generalize hT : pre' ++ y :: x :: (mid ++ rest) = T at *
    have rx : rd [.mu [OR o] true, .mu (nums .i64 T.flatten) false] 1 ((j + 1) * 8) (8 * n) 8 = some (nums .i64 x) := rd_row (S := [.mu [OR o] true, .mu (nums .i64 T.flatten) false]) rfl hall.len hlen hgx
    have ry : rd [.mu [OR o] true, .mu (nums .i64 T.flatten) false] 1 (j * 8) (8 * n) 8 = some (nums .i64 y) := rd_row (S := [.mu [OR o] true, .mu (nums .i64 T.flatten) false]) rfl hall.len hlen hgy
    have w1 : wr [.mu [OR o] true, .mu (nums .i64 T.flatten) false] 1 ((j + 1) * 8) (8 * n) (nums .i64 y) = some [.mu [OR o] true, .mu (nums .i64 (T.set (j + 1) y).flatten) false] := wr_row (S := [.mu [OR o] true, .mu (nums .i64 T.flatten) false]) rfl hall.len hlen hjn hy8
    have w2 : wr [.mu [OR o] true, .mu (nums .i64 (T.set (j + 1) y).flatten) false] 1 (j * 8) (8 * n) (nums .i64 x) = some [.mu [OR o] true, .mu (nums .i64 (pre' ++ x :: y :: (mid ++ rest)).flatten) false] := by
      rw [wr_row (S := [.mu [OR o] true, .mu (nums .i64 (T.set (j + 1) y).flatten) false]) rfl (hall.len.set hy8) (by simp [hlen]) (by omega) hx8, hsw]; rfl
    have rb : fz1 [.mu [OR o] true, .mu (nums .i64 T.flatten) false] (.mptr 0 0 1) = some (.fptr [OR o]) := rfl
    have hwj : IntKind.i64.wrap ((j : Int) + 1 - 1) = (j : Int) := by
      rw [wrap_i64 (by omega) (by omega)]; omega
    have hwj' : IntKind.i64.wrap (j : Int) = (j : Int) := wrap_i64 (by omega) (by omega)
    have hj0 : (0 : Int) < (j : Int) + 1 := by omega
    have hjn' : (j : Int) + 1 < (n : Int) := by omega
    have hjn2 : (j : Int) < (n : Int) := by omega
    have htn : ((j : Int) + 1).toNat = j + 1 := by omega
    have hj1 : (0 : Int) ≤ (j : Int) + 1 := by omega
    rw [wpL_step]
    generalize hK : loopQ RT f60_0m 2 f60_0 Q = K
    by_cases c : ordCmp o y x < 0
    · have hdd1 : Dec o (pre' ++ y :: mid) := by
        have e : pre' ++ [y] ++ mid = pre' ++ y :: mid := by simp
        rw [← e]; exact hd1
      have hdd2 : Dec o (x :: y :: mid) := by
        have hd2' := List.pairwise_cons.1 hd2
        refine List.pairwise_cons.2 ⟨fun z hz => ?_, ?_⟩
        · rcases List.mem_cons.1 hz with rfl | hz
          · omega
          · exact hd2'.1 z hz
        · have := (List.pairwise_append.1 hdd1).2.1
          exact this
      have hperm2 : (pre' ++ x :: (y :: mid) ++ rest).Perm L0 := by
        refine List.Perm.trans ?_ hperm1
        rw [← hT]
        have : pre' ++ x :: (y :: mid) ++ rest = pre' ++ x :: y :: (mid ++ rest) := by simp
        rw [this]
        exact List.Perm.append_left _ (List.Perm.swap y x _)
      have := ih pre' x (y :: mid) hpl' (by simp; omega) hperm2 hdd1 hdd2
      have e5 : pre' ++ x :: y :: mid ++ rest = pre' ++ x :: y :: (mid ++ rest) := by simp
      rw [e5] at this
      simp [-List.flatten_append, -List.flatten_cons, f60_0, List.replicate, hj0, hjn', hjn2, htn, hj1, rx, ry, rb, hless, c, hwj, hwj', hy8, hx8, w1, w2, chk]
      generalize pre' ++ x :: y :: (mid ++ rest) = T2 at *
      subst hK
      simp [head, f60_0m, mask, trunc_len]
      simpa [f60_0m, List.replicate] using this
    · have hc : 0 ≤ ordCmp o y x := by omega
      have hdd : Dec o (pre' ++ [y] ++ x :: mid) := by
        have h1 := List.pairwise_append.1 hd1
        have h2 := List.pairwise_cons.1 hd2
        refine List.pairwise_append.2 ⟨h1.1, hd2, fun z hz u hu => ?_⟩
        rcases List.mem_cons.1 hu with rfl | hu
        · rcases List.mem_append.1 hz with hz' | hz'
          · have hzy : 0 ≤ ordCmp o z y := (List.pairwise_append.1 h1.1).2.2 z hz' y (by simp)
            have hz8 : z.length = 8 := hall.len z (by rw [← hT]; simp [hz'])
            exact ordCmp_trans o (by omega) (by omega) hzy hc
          · have : z = y := by simpa using hz'
            rw [this]; exact hc
        · exact h1.2.2 z hz u hu
      have hlen2 : (pre' ++ [y] ++ x :: mid).length = i + 1 := by simp; omega
      have hfin := fun tm hl h0 h1 h2 h3 h8 => hQ tm hl (pre' ++ [y] ++ x :: mid) h0 h1 h2 h3 h8 hperm hdd hlen2
      rw [e1] at hfin
      simp [-List.flatten_append, -List.flatten_cons, f60_0, List.replicate, hj0, hjn', hjn2, htn, hj1, rx, ry, rb, hless, c, hwj, hwj', hy8, hx8, chk]
      subst hK
      exact hfin _ rfl rfl rfl rfl rfl rfl
end Go.AVM
/- Sorting: the whole, for short lists. -/
set_option linter.unusedVariables false
set_option linter.unusedSimpArgs false
set_option linter.unusedSectionVars false
namespace Go.AVM
set_option maxRecDepth 20000 in
theorem ins_outer {o : List (List Int)} (ho : Rows o) (hol : o.length < 1000000) {n : Nat} (hn : n ≤ 1000) {L0 : List (List Int)} (hL0 : L0.length = n) (hM : Mono8 L0) {Q : FQ}
    (hQ : ∀ (tm : List AV) (hl : tm.length = 53) (L : List (List Int)), L.Perm L0 → Dec o L → Q (.ex 0) ⟨tm, [.mu [OR o] true, .mu (nums .i64 L.flatten) false]⟩) :
    ∀ (m i : Nat), i + m = n → 1 ≤ i → ∀ (L rest : List (List Int)), L.length = i → (L ++ rest).Perm L0 → Dec o L →
    wpL RT f60_1m 2 f60_1 ⟨[.msl 1 0 n 8 (8 * n) none, .int .i64 0, .int .i64 (n : Int), .fn 37 [.mptr 0 0 1], .any, .any, .any, .any, .int .i64 (i : Int)] ++ List.replicate 44 .any, [.mu [OR o] true, .mu (nums .i64 (L ++ rest).flatten) false]⟩ Q := by
  intro m
  induction m with
  | zero =>
    intro i hi hi1 L rest hL hperm hd
    have hi' : i = n := by omega
    have hr : rest = [] := by
      have := hperm.length_eq
      rw [List.length_append, hL0] at this
      exact List.eq_nil_of_length_eq_zero (by omega)
    subst hr
    rw [List.append_nil] at hperm ⊢
    subst hi'
    have hfin := fun tm hl => hQ tm hl L hperm hd
    rw [wpL_step]
    generalize hK : loopQ RT f60_1m 2 f60_1 Q = K
    simp [f60_1, List.replicate]
    subst hK
    exact hfin _ rfl
  | succ m ih =>
    intro i hi hi1 L rest hL hperm hd
    have hne : rest ≠ [] := fun h => by
      have := hperm.length_eq
      rw [h, List.append_nil, hL0] at this; omega
    obtain ⟨x, rest', rfl⟩ : ∃ x r, rest = x :: r := by
      cases rest with
      | nil => exact absurd rfl hne
      | cons x r => exact ⟨x, r, rfl⟩
    have hlt : (i : Int) < (n : Int) := by omega
    have hw : IntKind.i64.wrap ((i : Int) + 1) = ((i + 1 : Nat) : Int) := wrap_i64 (by omega) (by omega)
    have e1 : L ++ x :: rest' = L ++ x :: [] ++ rest' := by simp
    have hperm' := hperm
    rw [e1] at hperm' ⊢
    have key := fun (Q' : FQ) hQ' => ins_inner ho hol hn hL0 hM (rest := rest') (i := i) (Q := Q') hQ' i L x [] hL (by simp) hperm' (by rw [List.append_nil]; exact hd) (List.pairwise_singleton _ _)
    generalize L ++ x :: [] ++ rest' = T at *
    rw [wpL_step]
    generalize hK : loopQ RT f60_1m 2 f60_1 Q = K
    simp [f60_1, List.replicate, hlt]
    simp [head, f60_0m, mask, trunc_len]
    refine key _ ?_
    intro tm hl L2 h0 h1 h2 h3 h8 hp2 hd2 hl2
    have hih := ih (i + 1) (by omega) (by omega) L2 rest' hl2 hp2 hd2
    generalize L2 ++ rest' = T2 at *
    simp [hl, h0, h1, h2, h3, h8, hw]
    subst hK
    simp only [loopQ_nrm, head]
    rw [mask_of (n := 53) (by simp [hl])]
    simp [f60_1m, hl, h0, h1, h2, h3, List.range_succ, trunc_len]
    simpa [f60_1m, List.replicate] using hih
theorem run_insertion {o : List (List Int)} (ho : Rows o) (hol : o.length < 1000000) {n : Nat} (hn : n ≤ 1000) (hn1 : 1 ≤ n) {L0 : List (List Int)} (hL0 : L0.length = n) (hM : Mono8 L0) :
    wpF RT 60 [.msl 1 0 n 8 (8 * n) none, .int .i64 0, .int .i64 (n : Int), .fn 37 [.mptr 0 0 1]] [.mu [OR o] true, .mu (nums .i64 L0.flatten) false] fun r S' => r = .tup [] ∧ ∃ L, L.Perm L0 ∧ Dec o L ∧ S' = [.mu [OR o] true, .mu (nums .i64 L.flatten) false] := by
  obtain ⟨x, rest, rfl⟩ : ∃ x r, L0 = x :: r := by
    cases L0 with
    | nil => simp at hL0; omega
    | cons x r => exact ⟨x, r, rfl⟩
  have key := fun (Q' : FQ) hQ' => ins_outer ho hol hn hL0 hM (Q := Q') hQ' (n - 1) 1 (by omega) (Nat.le_refl _) [x] rest rfl (List.Perm.refl _) (List.pairwise_singleton _ _)
  refine wpF_of tab_60 rfl ?_
  have e : [x] ++ rest = x :: rest := rfl
  rw [e] at key
  generalize x :: rest = T at *
  simp [f60, enter]
  simp [head, f60_1m, mask, trunc_len]
  refine key _ ?_
  intro tm hl L hp hd
  simp [hl, resAll]
  exact ⟨L, hp, hd, rfl⟩
set_option maxRecDepth 20000 in
theorem run_pdq {o : List (List Int)} (ho : Rows o) (hol : o.length < 1000000) {n : Nat} (hn : n ≤ 12) (hn1 : 1 ≤ n) {L0 : List (List Int)} (hL0 : L0.length = n) (hM : Mono8 L0) (k : Int) :
    wpF RT 49 [.msl 1 0 n 8 (8 * n) none, .int .i64 0, .int .i64 (n : Int), .int .i64 k, .fn 37 [.mptr 0 0 1]] [.mu [OR o] true, .mu (nums .i64 L0.flatten) false] fun r S' => r = .tup [] ∧ ∃ L, L.Perm L0 ∧ Dec o L ∧ S' = [.mu [OR o] true, .mu (nums .i64 L.flatten) false] := by
  have hins := run_insertion ho hol (by omega) hn1 hL0 hM
  generalize nums .i64 L0.flatten = C at *
  have hw : IntKind.i64.wrap (n : Int) = n := wrap_i64 (by omega) (by omega)
  have h12 : (n : Int) ≤ 12 := by omega
  refine wpF_of tab_49 rfl ?_
  simp [f49, enter]
  simp [head, f49_0m, mask, trunc_len]
  rw [wpL_step]
  generalize hK : loopQ RT _ 2 f49_0 _ = K
  simp [f49_0, hw, h12]
  refine contQ_sh (wpF_mono hins ?_)
  rintro r S' ⟨rfl, L, hp, hd, rfl⟩
  subst hK
  simp [trunc_len, resAll]
  exact ⟨L, hp, hd, rfl⟩
theorem run_sortFunc {o : List (List Int)} (ho : Rows o) (hol : o.length < 1000000) {n : Nat} (hn : n ≤ 12) (hn1 : 1 ≤ n) {L0 : List (List Int)} (hL0 : L0.length = n) (hM : Mono8 L0) :
    wpF RT 36 [.msl 1 0 n 8 (8 * n) none, .fn 37 [.mptr 0 0 1]] [.mu [OR o] true, .mu (nums .i64 L0.flatten) false] fun r S' => r = .tup [] ∧ ∃ L, L.Perm L0 ∧ Dec o L ∧ S' = [.mu [OR o] true, .mu (nums .i64 L.flatten) false] := by
  obtain ⟨k, hk⟩ := run_Len (n := n) (by omega)
  have hp := run_pdq ho hol hn hn1 hL0 hM (k : Int)
  generalize nums .i64 L0.flatten = C at *
  have hw : IntKind.u64.wrap (n : Int) = n := by rw [wrap_u64]; omega
  refine wpF_of tab_36 rfl ?_
  simp [f36, enter, hw, hk, after_nr]
  refine contQ_sh (wpF_mono hp ?_)
  rintro r S' ⟨rfl, L, hp, hd, rfl⟩
  simp [trunc_len, resAll]
  exact ⟨L, hp, hd, rfl⟩
end Go.AVM
/- What stands twice is taken out. -/
set_option linter.unusedVariables false
set_option linter.unusedSimpArgs false
set_option linter.unusedSectionVars false
namespace Go.AVM
@[simp] theorem opA_clr {R : RunF} {S : Store} {sz b off n sz' vl : Nat} {cap : Option Nat} {z : List AV} : opA R (.clr sz z) [.msl b off n sz' vl cap] S = chk (sz = sz' ∧ z.length = sz) ((wr S b off vl (List.replicate n z).flatten).bind fun S' => some (.tup [], S')) := rfl
/-- Each greater than what follows. -/
abbrev SDec (o : List (List Int)) (D : List (List Int)) : Prop := D.Pairwise fun a b => ordCmp o a b = 1
theorem take_snoc {α : Type} {L : List α} {p : Nat} {x : α} (hx : L[p]? = some x) : L.take (p + 1) = L.take p ++ [x] := by rw [List.take_add_one, hx]; rfl
theorem dec_to {o L : List (List Int)} (hd : Dec o L) {p : Nat} {x d : List Int} (hx : L[p]? = some x) (hm : d ∈ L.take p) : 0 ≤ ordCmp o d x := by
  have h := hd
  rw [← List.take_append_drop p L] at h
  have hp := (List.getElem?_eq_some_iff.1 hx)
  refine (List.pairwise_append.1 h).2.2 d hm x ?_
  rw [List.drop_eq_getElem_cons hp.1, hp.2]
  exact List.mem_cons_self ..
theorem sdec_snoc {o L D : List (List Int)} {p : Nat} {x y : List Int} (hd : Dec o L) (h8 : All8 L) (hx : L[p + 1]? = some x) (hy : L[p]? = some y) (hxy : x ≠ y) (hD : SDec o D) (hm : ∀ d, d ∈ D ↔ d ∈ L.take (p + 1)) :
    SDec o (D ++ [x]) ∧ ∀ d, d ∈ D ++ [x] ↔ d ∈ L.take (p + 2) := by
  have ht := take_snoc hx
  refine ⟨List.pairwise_append.2 ⟨hD, List.pairwise_singleton _ _, fun d hdD z hz => ?_⟩, fun d => ?_⟩
  · have hz' : z = x := by simpa using hz
    subst hz'
    have hdm := (hm d).1 hdD
    have h1 := dec_to hd hx hdm
    have hd8 := h8 d (List.mem_of_mem_take hdm)
    have hx8 := h8 z (List.mem_of_getElem? hx)
    have hy8 := h8 y (List.mem_of_getElem? hy)
    have hne : ordCmp o d z ≠ 0 := fun h0 => by
      have hdz := ordCmp_eq0 o (by omega) h0
      subst hdz
      have hyx : 0 ≤ ordCmp o y d := dec_to hd hx (by rw [take_snoc hy]; simp)
      rw [take_snoc hy] at hdm
      rcases List.mem_append.1 hdm with h | h
      · have h2 := dec_to hd hy h
        have h3 := ordCmp_anti o d y
        exact hxy (ordCmp_eq0 o (by omega) (by omega))
      · have : d = y := by simpa using h
        exact hxy this
    have := ordCmp_vals o d z
    omega
  · rw [ht]
    simp only [List.mem_append, hm d]
theorem mem_same {L D : List (List Int)} {p : Nat} {x : List Int} (hx : L[p + 1]? = some x) (hy : L[p]? = some x) (hm : ∀ d, d ∈ D ↔ d ∈ L.take (p + 1)) : ∀ d, d ∈ D ↔ d ∈ L.take (p + 2) := by
  intro d
  rw [take_snoc hx, hm d]
  constructor
  · exact fun h => List.mem_append.2 (.inl h)
  · intro h
    rcases List.mem_append.1 h with h | h
    · exact h
    · have : d = x := by simpa using h
      rw [this, take_snoc hy]; simp
/-- What stands in the store while what stands twice is taken out. -/
structure Comp (o L : List (List Int)) (n k p : Nat) (A : List (List Int)) : Prop where
  all : All8 A
  len : A.length = n
  le : k ≤ p
  dec : SDec o (A.take k)
  mem : ∀ d, d ∈ A.take k ↔ d ∈ L.take (p + 1)
  rest : ∀ i, p ≤ i → A[i]? = L[i]?
theorem Comp.skip {o L A : List (List Int)} {n k p : Nat} {x : List Int} (h : Comp o L n k p A) (hx : L[p + 1]? = some x) (hy : L[p]? = some x) : Comp o L n k (p + 1) A :=
  ⟨h.all, h.len, by have := h.le; omega, h.dec, mem_same hx hy h.mem, fun i hi => h.rest i (by omega)⟩
theorem Comp.put {o L A : List (List Int)} {n k p : Nat} {x y : List Int} (hd : Dec o L) (h8 : All8 L) (hL : L.length = n) (h : Comp o L n k p A) (hx : L[p + 1]? = some x) (hy : L[p]? = some y) (hxy : x ≠ y) : Comp o L n (k + 1) (p + 1) (A.set k x) := by
  have hpn := (List.getElem?_eq_some_iff.1 hx).1
  have hkl : k < A.length := by have := h.le; have := h.len; omega
  have e : (A.set k x).take (k + 1) = A.take k ++ [x] := by
    rw [take_snoc (p := k) (x := x) (by simp [hkl])]
    congr 1
    rw [List.take_set_of_le (by omega)]
  have hs := sdec_snoc hd h8 hx hy hxy h.dec h.mem
  refine ⟨h.all.set (h8 x (List.mem_of_getElem? hx)), by simp [h.len], by have := h.le; omega, ?_, ?_, fun i hi => ?_⟩
  · rw [e]; exact hs.1
  · rw [e]; exact hs.2
  · have := h.le
    rw [List.getElem?_set_ne (by omega), h.rest i (by omega)]
set_option maxRecDepth 20000 in
theorem comp_inner {o L : List (List Int)} (hd : Dec o L) (h8 : All8 L) {n k0 : Nat} (hL : L.length = n) (hn : n ≤ 1000) (hk0 : k0 < n) {r : Blk} {Q : FQ}
    (hQ : ∀ (tm : List AV) (hl : tm.length = 61) (k : Nat) (A : List (List Int)), tm[0] = .msl 1 0 n 8 (8 * n) none → tm[3] = .int .i64 (k : Int) → Comp o L n k (n - 1) A → Q (.ex 2) ⟨tm, [r, .mu (nums .i64 A.flatten) false]⟩) :
    ∀ (m q : Nat), k0 + q + 1 + m = n → ∀ (k : Nat) (A : List (List Int)), Comp o L n k (k0 + q) A →
    wpL RT f38_0m 2 f38_0 ⟨[.msl 1 0 n 8 (8 * n) none, .any, .any, .int .i64 (k : Int), .msl 1 (k0 * 8) (n - k0) 8 (8 * n) none, .int .i64 ((q : Int) + 1)] ++ List.replicate 55 .any, [r, .mu (nums .i64 A.flatten) false]⟩ Q := by
  intro m
  induction m with
  | zero =>
    intro q hq k A hC
    have e : k0 + q = n - 1 := by omega
    rw [e] at hC
    have hfin := fun tm hl h0 h3 => hQ tm hl k A h0 h3 hC
    have hge : ¬ (q : Int) + 1 < ((n - k0 : Nat) : Int) := by omega
    rw [wpL_step]
    generalize hK : loopQ RT f38_0m 2 f38_0 Q = K
    simp [f38_0, List.replicate, hge]
    subst hK
    exact hfin _ rfl rfl rfl
  | succ m ih =>
    intro q hq k A hC
    have hx : L[k0 + q + 1]? = some L[k0 + q + 1] := List.getElem?_eq_getElem (by omega)
    have hy : L[k0 + q]? = some L[k0 + q] := List.getElem?_eq_getElem (by omega)
    have hskip := fun x => hC.skip (x := x)
    have hput := fun x y => hC.put hd h8 hL (x := x) (y := y)
    generalize L[k0 + q + 1] = x at *
    generalize L[k0 + q] = y at *
    have hx8 := h8 x (List.mem_of_getElem? hx)
    have hy8 := h8 y (List.mem_of_getElem? hy)
    have hAx : A[k0 + q + 1]? = some x := by rw [hC.rest _ (by omega)]; exact hx
    have hAy : A[k0 + q]? = some y := by rw [hC.rest _ (by omega)]; exact hy
    have hlt : (q : Int) + 1 < ((n - k0 : Nat) : Int) := by omega
    have hq1 : (0 : Int) ≤ (q : Int) + 1 := by omega
    have htn : ((q : Int) + 1).toNat = q + 1 := by omega
    have hlt2 : (q : Int) < ((n - k0 : Nat) : Int) := by omega
    have hlt3 : q < n - k0 := by omega
    have hw1 : IntKind.i64.wrap ((q : Int) + 1 - 1) = (q : Int) := by rw [wrap_i64 (by omega) (by omega)]; omega
    have hw1' : IntKind.i64.wrap (q : Int) = (q : Int) := wrap_i64 (by omega) (by omega)
    have hw2 : IntKind.i64.wrap ((q : Int) + 1 + 1) = ((q + 1 : Nat) : Int) + 1 := by rw [wrap_i64 (by omega) (by omega)]; push_cast; rfl
    have hkp := hC.le
    have hwk : IntKind.i64.wrap ((k : Int) + 1) = ((k + 1 : Nat) : Int) := wrap_i64 (by omega) (by omega)
    have hkn : (k : Int) < (n : Int) := by omega
    have ox : k0 * 8 + (q + 1) * 8 = (k0 + q + 1) * 8 := by omega
    have oy : k0 * 8 + q * 8 = (k0 + q) * 8 := by omega
    have rx : rd [r, .mu (nums .i64 A.flatten) false] 1 (k0 * 8 + (q + 1) * 8) (8 * n) 8 = some (nums .i64 x) := by
      rw [ox]; exact rd_row (S := [r, .mu (nums .i64 A.flatten) false]) rfl hC.all hC.len hAx
    have ry : rd [r, .mu (nums .i64 A.flatten) false] 1 (k0 * 8 + q * 8) (8 * n) 8 = some (nums .i64 y) := by
      rw [oy]; exact rd_row (S := [r, .mu (nums .i64 A.flatten) false]) rfl hC.all hC.len hAy
    have wx : wr [r, .mu (nums .i64 A.flatten) false] 1 (k * 8) (8 * n) (nums .i64 x) = some [r, .mu (nums .i64 (A.set k x).flatten) false] :=
      wr_row (S := [r, .mu (nums .i64 A.flatten) false]) rfl hC.all hC.len (by omega) hx8
    have he := eqcs_nums .i64 (a := x) (b := y) (by omega)
    rw [wpL_step]
    generalize hK : loopQ RT f38_0m 2 f38_0 Q = K
    have ep : k0 + q + 1 = k0 + (q + 1) := by omega
    by_cases c : x = y
    · have hih := ih (q + 1) (by omega) k A (by rw [← ep]; exact hskip y (c ▸ hx) hy)
      simp only [c, decide_true] at he
      generalize nums .i64 A.flatten = C at *
      simp [f38_0, List.replicate, hlt, hlt2, hlt3, hq1, htn, rx, ry, hx8, hy8, chk, hw1, hw1', he, hw2, c]
      subst hK
      simp [head, f38_0m, mask, trunc_len]
      simpa [f38_0m, List.replicate] using hih
    · have hih := ih (q + 1) (by omega) (k + 1) (A.set k x) (by rw [← ep]; exact hput x y hx hy c)
      simp only [c, decide_false] at he
      generalize nums .i64 (A.set k x).flatten = C2 at *
      generalize nums .i64 A.flatten = C at *
      simp [f38_0, List.replicate, hlt, hlt2, hlt3, hq1, htn, rx, ry, hx8, hy8, chk, hw1, hw1', he, hw2, hkn, wx, hwk]
      subst hK
      simp [head, f38_0m, mask, trunc_len]
      simpa [f38_0m, List.replicate] using hih
end Go.AVM
/- Sorting: what the result is. -/
set_option linter.unusedVariables false
set_option linter.unusedSimpArgs false
set_option linter.unusedSectionVars false
namespace Go.AVM
theorem flat_take {L : List (List Int)} (h8 : All8 L) : ∀ {k : Nat}, k ≤ L.length → L.flatten.take (8 * k) = (L.take k).flatten := by
  induction L with
  | nil => intro k _; simp
  | cons x L ih =>
    intro k hk
    cases k with
    | zero => simp
    | succ k =>
      have hx := h8 x (by simp)
      rw [List.take_succ_cons, List.flatten_cons, List.flatten_cons, List.take_append, List.take_of_length_le (by omega)]
      have e : 8 * (k + 1) - x.length = 8 * k := by omega
      rw [e, ih (fun r hr => h8 r (by simp [hr])) (by simpa using hk)]
/-- What Compact leaves. -/
def CompQ (o L : List (List Int)) (n : Nat) (r0 : Blk) (r : AV) (S' : Store) : Prop :=
  ∃ k F, ∃ D : List (List Int), r = .msl 1 0 k 8 (8 * n) none ∧ S' = [r0, .mu (nums .i64 F) false] ∧ F.length = 8 * n ∧ k ≤ n ∧ F.take (8 * k) = D.flatten ∧ D.length = k ∧ All8 D ∧ SDec o D ∧ ∀ d, d ∈ D ↔ d ∈ L
theorem zeros_flat (n : Nat) : (List.replicate n (List.replicate 8 (AV.int .i64 0))).flatten = nums .i64 (List.replicate (8 * n) 0) := by
  induction n with
  | zero => rfl
  | succ n ih =>
    rw [List.replicate_succ, List.flatten_cons, ih, zero8, nums_append]
    congr 1
set_option maxRecDepth 20000 in
theorem comp_outer {o L : List (List Int)} (hd : Dec o L) (h8 : All8 L) {n : Nat} (hL : L.length = n) (hn : n ≤ 1000) {r0 : Blk} {Q : FQ}
    (h1 : ∀ (tm : List AV) (hl : tm.length = 61), tm[0] = .msl 1 0 n 8 (8 * n) none → SDec o L → Q (.ex 0) ⟨tm, [r0, .mu (nums .i64 L.flatten) false]⟩)
    (h2 : ∀ (tm : List AV) (hl : tm.length = 61) (S' : Store), CompQ o L n r0 tm[2] S' → Q .ret ⟨tm, S'⟩) :
    ∀ (m k : Nat), k + 1 + m = n → SDec o (L.take (k + 1)) →
    wpL RT f38_1m 2 f38_1 ⟨[.msl 1 0 n 8 (8 * n) none, .any, .any, .int .i64 ((k : Int) + 1)] ++ List.replicate 57 .any, [r0, .mu (nums .i64 L.flatten) false]⟩ Q := by
  intro m
  induction m with
  | zero =>
    intro k hk hs
    have hs' : SDec o L := by rwa [List.take_of_length_le (by omega)] at hs
    have hfin := fun tm hl h0 => h1 tm hl h0 hs'
    have hge : ¬ (k : Int) + 1 < (n : Int) := by omega
    generalize nums .i64 L.flatten = C at *
    rw [wpL_step]
    generalize hK : loopQ RT f38_1m 2 f38_1 Q = K
    simp [f38_1, List.replicate, hge]
    subst hK
    exact hfin _ rfl rfl
  | succ m ih =>
    intro k hk hs
    have hx : L[k + 1]? = some L[k + 1] := List.getElem?_eq_getElem (by omega)
    have hy : L[k]? = some L[k] := List.getElem?_eq_getElem (by omega)
    generalize L[k + 1] = x at *
    generalize L[k] = y at *
    have hx8 := h8 x (List.mem_of_getElem? hx)
    have hy8 := h8 y (List.mem_of_getElem? hy)
    have hlt : (k : Int) + 1 < (n : Int) := by omega
    have hk1 : (0 : Int) ≤ (k : Int) + 1 := by omega
    have htn : ((k : Int) + 1).toNat = k + 1 := by omega
    have hlt2 : (k : Int) < (n : Int) := by omega
    have hltn : k < n := by omega
    have hw1 : IntKind.i64.wrap ((k : Int) + 1 - 1) = (k : Int) := by rw [wrap_i64 (by omega) (by omega)]; omega
    have hw1' : IntKind.i64.wrap (k : Int) = (k : Int) := wrap_i64 (by omega) (by omega)
    have hw2 : IntKind.i64.wrap ((k : Int) + 1 + 1) = ((k + 1 : Nat) : Int) + 1 := by rw [wrap_i64 (by omega) (by omega)]; push_cast; rfl
    have rx : rd [r0, .mu (nums .i64 L.flatten) false] 1 ((k + 1) * 8) (8 * n) 8 = some (nums .i64 x) := rd_row (S := [r0, .mu (nums .i64 L.flatten) false]) rfl h8 hL hx
    have ry : rd [r0, .mu (nums .i64 L.flatten) false] 1 (k * 8) (8 * n) 8 = some (nums .i64 y) := rd_row (S := [r0, .mu (nums .i64 L.flatten) false]) rfl h8 hL hy
    have he := eqcs_nums .i64 (a := x) (b := y) (by omega)
    by_cases c : x = y
    · subst c
      have hC0 : Comp o L n (k + 1) (k + 1 + 0) L := ⟨h8, hL, by omega, hs, mem_same hx hy (fun d => Iff.rfl), fun i _ => rfl⟩
      have key := fun (Q' : FQ) hQ' => comp_inner hd h8 hL hn (show k + 1 < n by omega) (r := r0) (Q := Q') hQ' m 0 (by omega) (k + 1) L hC0
      simp only [decide_true] at he
      have hb1 : (k : Int) + 1 ≤ (n : Int) := by omega
      have hb2 : (k + 1) * 8 ≤ 8 * n := by omega
      have hb3 : n * 8 ≤ 8 * n := by omega
      generalize nums .i64 L.flatten = C at *
      rw [wpL_step]
      generalize hK : loopQ RT f38_1m 2 f38_1 Q = K
      simp [f38_1, List.replicate, hlt, hlt2, hk1, htn, rx, ry, hx8, hy8, chk, hw1, hw1', he, sliceA, bounds, bound, hb1, hb2, hb3, capAt]
      simp [head, f38_0m, mask, trunc_len]
      have key2 := fun (Q' : FQ) hQ' => key Q' hQ'
      simp [List.replicate] at key2
      refine key2 _ ?_
      intro tm hl k2 A h0 h3 hC
      have hkn := hC.le
      have hlen := flat_len hC.all
      have hAl := hC.len
      have c1 : (k2 : Int) ≤ (n : Int) := by omega
      have c2 : k2 * 8 ≤ 8 * n := by omega
      have c3 : (k2 : Int) ≤ 8 * (n : Int) / 8 := by omega
      have hz : n - k2 = n - k2 := rfl
      have hwr : wr [r0, .mu (nums .i64 A.flatten) false] 1 (k2 * 8) (8 * n) (List.replicate (n - k2) [.int .i64 0, .int .i64 0, .int .i64 0, .int .i64 0, .int .i64 0, .int .i64 0, .int .i64 0, .int .i64 0]).flatten = some [r0, .mu (nums .i64 (A.flatten.take (k2 * 8) ++ (List.replicate (8 * (n - k2)) 0 ++ A.flatten.drop (k2 * 8 + 8 * (n - k2))))) false] := by
        have e : (List.replicate (n - k2) [.int .i64 0, .int .i64 0, .int .i64 0, .int .i64 0, .int .i64 0, .int .i64 0, .int .i64 0, .int .i64 0]).flatten = nums .i64 (List.replicate (8 * (n - k2)) 0) := zeros_flat (n - k2)
        rw [e, wr_mu (S := [r0, .mu (nums .i64 A.flatten) false]) rfl (by simp [hlen, hAl]) (by simp; omega)]
        unfold splice
        rw [nums_length, List.length_replicate, nums_take, nums_drop, nums_append, nums_append]; rfl
      generalize hF : A.flatten.take (k2 * 8) ++ (List.replicate (8 * (n - k2)) 0 ++ A.flatten.drop (k2 * 8 + 8 * (n - k2))) = F at *
      have hFl : F.length = 8 * n := by rw [← hF]; simp only [List.length_append, List.length_take, List.length_drop, List.length_replicate, hlen, hAl]; omega
      have hFt : F.take (8 * k2) = (A.take k2).flatten := by
        rw [← hF, List.take_append_of_le_length (by simp [hlen, hAl]; omega), ← flat_take hC.all (by omega), Nat.mul_comm 8 k2, List.take_take]
        congr 1; omega
      have hDl : (A.take k2).length = k2 := by rw [List.length_take]; omega
      have hDm : ∀ d, d ∈ A.take k2 ↔ d ∈ L := by
        intro d
        rw [hC.mem d, List.take_of_length_le (by omega)]
      have hfin : CompQ o L n r0 (.msl 1 0 k2 8 (8 * n) none) [r0, .mu (nums .i64 F) false] := ⟨k2, F, A.take k2, rfl, rfl, hFl, by omega, hFt, hDl, fun r hr => hC.all r (List.mem_of_mem_take hr), hC.dec, hDm⟩
      generalize nums .i64 A.flatten = C2 at *
      simp [hl, h0, h3, sliceA, bounds, bound, chk, c1, c2, hb3, capAt, hwr, c3]
      subst hK
      refine h2 _ ?_ _ ?_
      · simp [hl]
      · simpa [hl] using hfin
    · have hs2 : SDec o (L.take (k + 1 + 1)) := by
        have := (sdec_snoc hd h8 hx hy c hs (fun d => Iff.rfl)).1
        rwa [← take_snoc hx] at this
      have hih := ih (k + 1) (by omega) hs2
      simp only [c, decide_false] at he
      generalize nums .i64 L.flatten = C at *
      rw [wpL_step]
      generalize hK : loopQ RT f38_1m 2 f38_1 Q = K
      simp [f38_1, List.replicate, hlt, hlt2, hk1, htn, rx, ry, hx8, hy8, chk, hw1, hw1', he, hw2]
      subst hK
      simp [head, f38_1m, mask, trunc_len]
      simpa [f38_1m, List.replicate] using hih
theorem run_compact {o L : List (List Int)} (hd : Dec o L) (h8 : All8 L) {n : Nat} (hL : L.length = n) (hn : n ≤ 1000) (hn1 : 1 ≤ n) {r0 : Blk} :
    wpF RT 38 [.msl 1 0 n 8 (8 * n) none] [r0, .mu (nums .i64 L.flatten) false] (CompQ o L n r0) := by
  have hself : SDec o L → CompQ o L n r0 (.msl 1 0 n 8 (8 * n) none) [r0, .mu (nums .i64 L.flatten) false] := fun h =>
    ⟨n, L.flatten, L, rfl, rfl, by rw [flat_len h8, hL], Nat.le_refl _, by rw [List.take_of_length_le (by rw [flat_len h8, hL]; omega)], hL, h8, h, fun d => Iff.rfl⟩
  by_cases c : n = 1
  · subst c
    have : SDec o L := by
      match L, hL with
      | [x], _ => exact List.pairwise_singleton _ _
    have hs := hself this
    generalize nums .i64 L.flatten = C at *
    refine wpF_of tab_38 rfl ?_
    simp [f38, enter]
    exact hs
  · have key := fun (Q : FQ) h1 h2 => comp_outer hd h8 hL hn (r0 := r0) (Q := Q) h1 h2 (n - 1) 0 (by omega) (by
      match L with
      | [] => exact List.Pairwise.nil
      | x :: _ => exact List.pairwise_singleton _ _)
    have h2 : ¬ (n : Int) < 2 := by omega
    generalize hC : nums .i64 L.flatten = C at *
    refine wpF_of tab_38 rfl ?_
    simp [f38, enter, h2]
    simp [head, f38_1m, mask, trunc_len]
    have key2 := key
    simp [List.replicate] at key2
    refine key2 _ ?_ ?_
    · intro tm hl h0 hs
      simp [hl, h0]
      exact hself hs
    · intro tm hl S' hq
      simp [hl]
      exact hq
end Go.AVM
/- Sorting: the whole function; lists of monomials. -/
set_option linter.unusedVariables false
set_option linter.unusedSimpArgs false
set_option linter.unusedSectionVars false
namespace Go.AVM
theorem chunk_rows : ∀ {D : List (List Int)}, All8 D → chunk 8 D.length (nums .i64 D.flatten) = D.map R8
  | [], _ => rfl
  | r :: D, h => by
    have hr := h r (by simp)
    rw [List.length_cons, chunk, if_neg (by decide), List.flatten_cons, ← nums_append, List.take_append_of_le_length (by simp [hr]), List.take_of_length_le (by simp [hr]), List.drop_append, List.drop_of_length_le (by simp [hr]), List.nil_append]
    have e : 8 - (nums .i64 r).length = 0 := by simp [hr]
    rw [e, List.drop_zero, chunk_rows (fun x hx => h x (by simp [hx]))]; rfl
set_option maxRecDepth 20000 in
theorem run_sort_nil (o : List (List Int)) : callPure RT 11 [OR o, .sl [] 8 false] = some (.sl [] 8 false) := by
  obtain ⟨k, hk⟩ := run_Len (n := 0) (by decide)
  have hk' : callPure RT 50 [.int .u64 0] = some (.int .i64 (k : Int)) := hk
  have h60 : wpF RT 60 [.sl [] 8 true, .int .i64 0, .int .i64 0, .fn 37 [.mptr 0 0 1]] [.mu [OR o] true] fun r S' => r = .tup [] ∧ S' = [.mu [OR o] true] := by
    refine wpF_of tab_60 rfl ?_
    simp [f60, enter]
    simp [head, f60_1m, mask, trunc_len]
    rw [wpL_step]
    generalize hK : loopQ RT _ 1 f60_1 _ = K
    simp [f60_1]
    subst hK
    simp [resAll]
  have h49 : wpF RT 49 [.sl [] 8 true, .int .i64 0, .int .i64 0, .int .i64 (k : Int), .fn 37 [.mptr 0 0 1]] [.mu [OR o] true] fun r S' => r = .tup [] ∧ S' = [.mu [OR o] true] := by
    refine wpF_of tab_49 rfl ?_
    simp [f49, enter]
    simp [head, f49_0m, mask, trunc_len]
    rw [wpL_step]
    generalize hK : loopQ RT _ 1 f49_0 _ = K
    simp [f49_0]
    refine contQ_sh (wpF_mono h60 ?_)
    rintro r S' ⟨rfl, rfl⟩
    subst hK
    simp [trunc_len, resAll]
  have hw : IntKind.u64.wrap 0 = 0 := by decide
  have h36 : wpF RT 36 [.sl [] 8 true, .fn 37 [.mptr 0 0 1]] [.mu [OR o] true] fun r S' => r = .tup [] ∧ S' = [.mu [OR o] true] := by
    refine wpF_of tab_36 rfl ?_
    simp [f36, enter, hw, hk', after_nr]
    refine contQ_sh (wpF_mono h49 ?_)
    rintro r S' ⟨rfl, rfl⟩
    simp [trunc_len, resAll]
  have h38 : wpF RT 38 [.sl [] 8 true] [.mu [OR o] true] fun r S' => r = .sl [] 8 true ∧ S' = [.mu [OR o] true] := by
    refine wpF_of tab_38 rfl ?_
    simp [f38, enter]
  refine callPure_of (wpF_of tab_11 rfl ?_)
  simp [f11, enter, appA, held, chk]
  refine contQ_sh (wpF_mono h36 ?_)
  rintro r S' ⟨rfl, rfl⟩
  simp [trunc_len]
  refine contQ_sh (wpF_mono h38 ?_)
  rintro r S' ⟨rfl, rfl⟩
  simp [trunc_len]
theorem run_sort {o m : List (List Int)} (ho : Rows o) (hol : o.length < 1000000) (hm : Mono8 m) (hml : m.length ≤ 12) :
    ∃ s, callPure RT 11 [OR o, OR m] = some (OR s) ∧ SDec o s ∧ (∀ d, d ∈ s ↔ d ∈ m) := by
  by_cases h0 : m = []
  · subst h0
    exact ⟨[], run_sort_nil o, List.Pairwise.nil, fun d => Iff.rfl⟩
  · have hn1 : 1 ≤ m.length := by
      cases m with
      | nil => exact absurd rfl h0
      | cons x r => simp
    suffices h : ∃ r, callPure RT 11 [OR o, OR m] = some r ∧ ∃ s, r = OR s ∧ SDec o s ∧ (∀ d, d ∈ s ↔ d ∈ m) by
      obtain ⟨_, h1, s, rfl, h2, h3⟩ := h
      exact ⟨s, h1, h2, h3⟩
    have hsort := run_sortFunc ho hol hml hn1 rfl hm
    have hcells := rows_cells m
    have hroom : room m.length 64 := by unfold room; omega
    have hm0 : ¬ m.length = 0 := by omega
    have e8 : m.length * 8 = 8 * m.length := Nat.mul_comm _ _
    have hmL : m.flatten.length = 8 * m.length := flat_len hm.len
    refine callPure_ex (wpF_of tab_11 rfl ?_)
    simp [f11, enter, appA, held, chk, hm0, hroom, hcells, e8]
    refine contQ_sh (wpF_mono hsort ?_)
    rintro r S' ⟨rfl, L, hp, hd, rfl⟩
    have hL8 : All8 L := fun r hr => hm.len r (hp.mem_iff.1 hr)
    have hcomp := run_compact hd hL8 (n := m.length) hp.length_eq (by omega) hn1 (r0 := .mu [OR o] true)
    simp [trunc_len]
    refine contQ_sh (wpF_mono hcomp ?_)
    rintro r S' ⟨k, F, D, rfl, rfl, hF, hk, hFt, hDl, hD8, hDs, hDm⟩
    have hrd : rd [.mu [OR o] true, .mu (nums .i64 F) false] 1 0 (8 * m.length) (k * 8) = some (nums .i64 D.flatten) := by
      rw [rd_mu (S := [.mu [OR o] true, .mu (nums .i64 F) false]) rfl (by simp [hF]) (by omega), List.drop_zero, nums_take, Nat.mul_comm k 8, hFt]
    have hch : chunk 8 k (nums .i64 D.flatten) = D.map R8 := by rw [← hDl]; exact chunk_rows hD8
    simp [trunc_len, fzc, hrd, hch]
    exact ⟨D, rfl, hDs, fun d => by rw [hDm d, hp.mem_iff]⟩
/-- Two lists that are sorted and hold the same are the same. -/
theorem sdec_unique {o : List (List Int)} : ∀ {s t : List (List Int)}, SDec o s → SDec o t → (∀ d, d ∈ s ↔ d ∈ t) → s = t
  | [], [], _, _, _ => rfl
  | [], y :: t, _, _, h => by have := (h y).2 (by simp); cases this
  | x :: s, [], _, _, h => by have := (h x).1 (by simp); cases this
  | x :: s, y :: t, hs, ht, h => by
    have hs' := List.pairwise_cons.1 hs
    have ht' := List.pairwise_cons.1 ht
    have hxy : x = y := by
      rcases List.mem_cons.1 ((h x).1 (by simp)) with hx | hx
      · exact hx
      · rcases List.mem_cons.1 ((h y).2 (by simp)) with hy | hy
        · exact hy.symm
        · have h1 := ht'.1 x hx
          have h2 := hs'.1 y hy
          have h3 := ordCmp_anti o x y
          omega
    subst hxy
    have hx1 : x ∉ s := fun hx => by
      have := hs'.1 x hx
      rw [ordCmp_self] at this; omega
    have hx2 : x ∉ t := fun hx => by
      have := ht'.1 x hx
      rw [ordCmp_self] at this; omega
    rw [sdec_unique hs'.2 ht'.2 fun d => ?_]
    constructor
    · intro hd
      rcases List.mem_cons.1 ((h d).1 (by simp [hd])) with rfl | h'
      · exact absurd hd hx1
      · exact h'
    · intro hd
      rcases List.mem_cons.1 ((h d).2 (by simp [hd])) with rfl | h'
      · exact absurd hd hx2
      · exact h'
end Go.AVM
/- What OrderSorts says, of its telling. -/
set_option linter.unusedVariables false
set_option linter.unusedSimpArgs false
set_option linter.unusedSectionVars false
namespace Go.AVM
/-- A slice of rows that grows, from nothing. -/
def Grow0 (S : Store) (v : AV) (F : List (List Int)) : Prop := All8 F ∧ ((v = .sl [] 8 true ∧ F = []) ∨ ∃ b, F ≠ [] ∧ v = .msl b 0 F.length 8 (8 * F.length) none ∧ S[b]? = some (.mu (nums .i64 F.flatten) false))
theorem Grow0.app {S : Store} {v : AV} {F : List (List Int)} {r : List Int} (h : Grow0 S v F) (hr : r.length = 8) (hn : F.length < 1000) : ∃ v' S', appA 8 64 S v (.sl [R8 r] 8 true) = some (v', S') ∧ Grow0 S' v' (F ++ [r]) := by
  obtain ⟨h8, ⟨rfl, rfl⟩ | ⟨b, hne, rfl, hg⟩⟩ := h
  · refine ⟨.msl S.length 0 1 8 8 none, S ++ [.mu (nums .i64 r) false], ?_, ⟨fun x hx => ?_, .inr ⟨S.length, by simp, rfl, ?_⟩⟩⟩
    · have : room 1 64 := by decide
      simp [appA, held, chk, this]
    · have : x = r := by simpa using hx
      rw [this]; exact hr
    · simp [get_last]
  · have hl := flat_len h8
    have hroom : room (F.length + 1) 64 := by unfold room; omega
    have h1 : ¬ (F.length + 1) * 8 ≤ 8 * F.length := by omega
    have h2 : F.length * 8 ≤ 8 * F.length := by omega
    have hlt := lt_of_get hg
    refine ⟨.msl b 0 (F.length + 1) 8 (8 * (F.length + 1)) none, S.set b (.mu (nums .i64 (F ++ [r]).flatten) false), ?_, ⟨fun x hx => ?_, .inr ⟨b, by simp, by simp, by simp [hlt]⟩⟩⟩
    · have ht : (nums .i64 F.flatten).take (F.length * 8) = nums .i64 F.flatten := List.take_of_length_le (by simp only [nums_length, hl]; omega)
      have hfl : (F ++ [r]).flatten = F.flatten ++ r := by simp
      rw [hfl, ← nums_append]
      generalize hG : nums .i64 F.flatten = G at *
      have hGl : G.length = 8 * F.length := by rw [← hG, nums_length, hl]
      simp [appA, held, chk, hroom, h1, hg, hGl, h2, ht]
      omega
    · rcases List.mem_append.1 hx with h | h
      · exact h8 x h
      · have : x = r := by simpa using h
        rw [this]; exact hr
theorem Grow0.keep {S : Store} {v : AV} {F : List (List Int)} {vs : List AV} (h : Grow0 S v F) (hv : v ∈ vs) : Grow0 (trunc 0 vs S) v F := by
  obtain ⟨h8, h | ⟨b, hne, rfl, hg⟩⟩ := h
  · exact ⟨h8, .inl h⟩
  · refine ⟨h8, .inr ⟨b, hne, rfl, ?_⟩⟩
    rw [trunc_get (.inr ⟨_, hv, by simp [lt1, ltc]⟩), hg]
/-- Lists of exponents. -/
abbrev ExR (l : List (List Int)) : AV := .sl (l.map fun r => .agg (nums .u16 r)) 8 false
def ExOk (l : List (List Int)) : Prop := ∀ x ∈ l, x.length = 8 ∧ ∀ n ∈ x, 0 ≤ n ∧ n ≤ 65535
set_option maxRecDepth 20000 in
theorem monos_loop {l : List (List Int)} (hl : ExOk l) {Q : FQ}
    (hQ : ∀ (tm : List AV) (ht : tm.length = 25) (S : Store), Grow0 S tm[3] ((l.take 8).map monoL) → Q (.ex 0) ⟨tm, S⟩) :
    ∀ (m i : Nat), i + m = min l.length 8 → ∀ (S : Store) (v : AV), Grow0 S v ((l.take i).map monoL) →
    wpL RT f10_0m 0 f10_0 ⟨[ExR l, .any, .any, v, .int .i64 (i : Int)] ++ List.replicate 20 .any, S⟩ Q := by
  intro m
  induction m with
  | zero =>
    intro i hi S v hG
    have hfin : Grow0 S v ((l.take 8).map monoL) := by
      have : l.take i = l.take 8 := by
        by_cases h6 : l.length ≤ 8
        · rw [List.take_of_length_le (by omega), List.take_of_length_le (by omega)]
        · congr 1; omega
      rw [← this]; exact hG
    rw [wpL_step]
    generalize hK : loopQ RT f10_0m 0 f10_0 Q = K
    by_cases hx : (i : Int) < (l.length : Int)
    · have h6 : ¬ (i : Int) < 8 := by omega
      simp [f10_0, List.replicate, hx, h6]
      subst hK
      exact hQ _ rfl S hfin
    · simp [f10_0, List.replicate, hx]
      subst hK
      exact hQ _ rfl S hfin
  | succ m ih =>
    intro i hi S v hG
    have hx : (i : Int) < (l.length : Int) := by omega
    have h6 : (i : Int) < 8 := by omega
    have hi1 : i < l.length := by omega
    obtain ⟨hr8, hrb⟩ := hl l[i] (List.getElem_mem hi1)
    have hget : l[i]? = some l[i] := List.getElem?_eq_getElem hi1
    have htake : (l.take (i + 1)).map monoL = (l.take i).map monoL ++ [monoL l[i]] := by rw [take_snoc hget, List.map_append]; rfl
    generalize l[i] = r at *
    have hm := run_mono hr8 hrb
    have hm8 := monoL_len hr8
    have htr : (nums .u16 r).take 8 = nums .u16 r := List.take_of_length_le (by simp [hr8])
    have hw : IntKind.i64.wrap ((i : Int) + 1) = ((i + 1 : Nat) : Int) := wrap_i64 (by omega) (by omega)
    obtain ⟨v', S', ha, hG'⟩ := hG.app hm8 (by rw [List.length_map, List.length_take]; omega)
    rw [← htake] at hG'
    rw [wpL_step]
    generalize hK : loopQ RT f10_0m 0 f10_0 Q = K
    simp [f10_0, List.replicate, hx, h6, hget, hr8, chk, htr, hm, after_nr, opA_litn, fillE, elt, hm8, ha, hw]
    subst hK
    simp [head, f10_0m, mask]
    have := ih (i + 1) (by omega) (trunc 0 ([ExR l, .any, .any, v', .int .i64 ((i + 1 : Nat) : Int)] ++ List.replicate 20 .any) S') v' (hG'.keep (by simp))
    simpa [f10_0m, List.replicate] using this
theorem run_monos {l : List (List Int)} (hl : ExOk l) : callPure RT 10 [ExR l] = some (OR ((l.take 8).map monoL)) := by
  have key := fun (Q' : FQ) hQ' => monos_loop hl (Q := Q') hQ' (min l.length 8) 0 (by omega) [] (.sl [] 8 true) ⟨fun x hx => (by simp at hx), .inl ⟨rfl, by simp⟩⟩
  generalize (l.take 8).map monoL = F at *
  refine callPure_of (wpF_of tab_10 rfl ?_)
  simp [f10, enter]
  simp [head, f10_0m, mask, trunc_len]
  refine key _ ?_
  intro tm ht S hG
  obtain ⟨h8, ⟨hv, hF⟩ | ⟨b, hne, hv, hg⟩⟩ := hG
  · simp [ht, hv, hF]
  · have hrd : rd S b 0 (8 * F.length) (F.length * 8) = some (nums .i64 F.flatten) := by
      rw [rd_mu hg (by simp only [nums_length, flat_len h8]) (by omega), List.drop_zero, List.take_of_length_le (by simp only [nums_length, flat_len h8]; omega)]
    have hch := chunk_rows h8
    simp [ht, hv, fzc, hrd, hch]
theorem has_loop {s : List (List Int)} (hs : All8 s) (hsl : s.length < 1000000) {d : List Int} (hd : d.length = 8) {Q : FQ}
    (h1 : ∀ (tm : List AV) (hl : tm.length = 18) (S : Store), d ∉ s → Q (.ex 0) ⟨tm, S⟩)
    (h2 : ∀ (tm : List AV) (hl : tm.length = 18) (S : Store), tm[4] = .bool true → d ∈ s → Q .ret ⟨tm, S⟩) :
    ∀ (m i : Nat), i + m = s.length → d ∉ s.take i →
    wpL RT f12_0m 1 f12_0 ⟨[OR s, .any, .any, .mptr 0 0 8, .any, .int .i64 (i : Int)] ++ List.replicate 12 .any, [.mu (nums .i64 d) true]⟩ Q := by
  intro m
  induction m with
  | zero =>
    intro i hi hn
    have hi' : i = s.length := by omega
    subst hi'
    rw [List.take_length] at hn
    rw [wpL_step]
    generalize hK : loopQ RT f12_0m 1 f12_0 Q = K
    simp [f12_0, List.replicate]
    subst hK
    exact h1 _ rfl _ hn
  | succ m ih =>
    intro i hi hn
    have hi1 : i < s.length := by omega
    have hget : s[i]? = some s[i] := List.getElem?_eq_getElem hi1
    have hr8 := hs s[i] (List.getElem_mem hi1)
    have hrm := List.getElem_mem hi1
    have ht := take_snoc hget
    generalize s[i] = r at *
    have hlt : (i : Int) < (s.length : Int) := by omega
    have hw : IntKind.i64.wrap ((i : Int) + 1) = ((i + 1 : Nat) : Int) := wrap_i64 (by omega) (by omega)
    have htr : (nums .i64 r).take 8 = nums .i64 r := List.take_of_length_le (by simp [hr8])
    have htd : (nums .i64 d).take 8 = nums .i64 d := List.take_of_length_le (by simp [hd])
    have he := eqcs_nums .i64 (a := r) (b := d) (by omega)
    rw [wpL_step]
    generalize hK : loopQ RT f12_0m 1 f12_0 Q = K
    by_cases c : r = d
    · simp only [c, decide_true] at he
      simp [f12_0, List.replicate, hlt, hget, hr8, htr, hd, htd, rd, chk, c, he]
      subst hK
      exact h2 _ rfl _ rfl (c ▸ hrm)
    · simp only [c, decide_false] at he
      have hih := ih (i + 1) (by omega) (by
        rw [ht]
        intro h
        rcases List.mem_append.1 h with h | h
        · exact hn h
        · have : d = r := by simpa using h
          exact c this.symm)
      simp [f12_0, List.replicate, hlt, hget, hr8, htr, hd, htd, rd, chk, he, hw]
      subst hK
      simp [head, f12_0m, mask, trunc_len]
      simpa [f12_0m, List.replicate] using hih
theorem run_has {s : List (List Int)} (hs : All8 s) (hsl : s.length < 1000000) {d : List Int} (hd : d.length = 8) (h : d ∈ s) : callPure RT 12 [OR s, R8 d] = some (.bool true) := by
  refine callPure_of (wpF_of tab_12 rfl ?_)
  simp [f12, enter, hd]
  simp [head, f12_0m, mask, trunc_len]
  refine has_loop hs hsl hd ?_ ?_ s.length 0 (by simp) (by simp)
  · intro tm hl S hn; exact absurd h hn
  · intro tm hl S h4 _
    simp [hl, h4]
theorem alike_loop {s : List (List Int)} (hs : All8 s) (hsl : s.length < 1000000) {Q : FQ}
    (h1 : ∀ (tm : List AV) (hl : tm.length = 26), Q (.ex 0) ⟨tm, []⟩) :
    ∀ (m i : Nat), i + m = s.length →
    wpL RT f14_0m 0 f14_0 ⟨[OR s, OR s, .any, .any, .any, .int .i64 (i : Int)] ++ List.replicate 20 .any, []⟩ Q := by
  intro m
  induction m with
  | zero =>
    intro i hi
    have hi' : i = s.length := by omega
    subst hi'
    rw [wpL_step]
    generalize hK : loopQ RT f14_0m 0 f14_0 Q = K
    simp [f14_0, List.replicate]
    subst hK
    exact h1 _ rfl
  | succ m ih =>
    intro i hi
    have hi1 : i < s.length := by omega
    have hget : s[i]? = some s[i] := List.getElem?_eq_getElem hi1
    have hr8 := hs s[i] (List.getElem_mem hi1)
    generalize s[i] = r at *
    have hlt : (i : Int) < (s.length : Int) := by omega
    have hw : IntKind.i64.wrap ((i : Int) + 1) = ((i + 1 : Nat) : Int) := wrap_i64 (by omega) (by omega)
    have htr : (nums .i64 r).take 8 = nums .i64 r := List.take_of_length_le (by simp [hr8])
    have he := eqcs_nums .i64 (a := r) (b := r) rfl
    simp only [decide_true] at he
    have hih := ih (i + 1) (by omega)
    rw [wpL_step]
    generalize hK : loopQ RT f14_0m 0 f14_0 Q = K
    simp [f14_0, List.replicate, hlt, hget, hr8, htr, chk, he, hw]
    subst hK
    simp [head, f14_0m, mask, trunc_len]
    simpa [f14_0m, List.replicate] using hih
theorem run_alike {s : List (List Int)} (hs : All8 s) (hsl : s.length < 1000000) : callPure RT 14 [OR s, OR s] = some (.bool true) := by
  refine callPure_of (wpF_of tab_14 rfl ?_)
  simp [f14, enter]
  simp [head, f14_0m, mask, trunc_len]
  refine alike_loop hs hsl ?_ s.length 0 (by simp)
  intro tm hl
  simp [hl]
theorem sorts_loop1 {o m s : List (List Int)} (ho : Rows o) (hol : o.length < 1000000) (hm : Mono8 m) (hml : m.length ≤ 12) (hs : Mono8 s) (hsl : s.length < 1000000) (hd : SDec o s) (hsub : ∀ d, d ∈ s → d ∈ m) {x5 : AV} {r0 : Blk} {Q : FQ}
    (hQ : ∀ (tm : List AV) (hl : tm.length = 73), tm[5] = x5 → tm[6] = OR o → tm[7] = OR m → tm[8] = OR s → Q (.ex 0) ⟨tm, [r0]⟩) :
    ∀ (n i : Nat), i + n = s.length →
    wpL RT f3_0m 1 f3_0 ⟨[.any, .any, .any, .any, .any, x5, OR o, OR m, OR s, .int .i64 (i : Int)] ++ List.replicate 63 .any, [r0]⟩ Q := by
  intro n
  induction n with
  | zero =>
    intro i hi
    have hi' : i = s.length := by omega
    subst hi'
    rw [wpL_step]
    generalize hK : loopQ RT f3_0m 1 f3_0 Q = K
    simp [f3_0, List.replicate]
    subst hK
    exact hQ _ rfl rfl rfl rfl rfl
  | succ n ih =>
    intro i hi
    have hi1 : i < s.length := by omega
    have hget : s[i]? = some s[i] := List.getElem?_eq_getElem hi1
    have hr8 := hs.len s[i] (List.getElem_mem hi1)
    have hrB := hs.bd s[i] (List.getElem_mem hi1)
    have hhas := run_has hm.len (by omega) hr8 (hsub _ (List.getElem_mem hi1))
    have hlt : (i : Int) < (s.length : Int) := by omega
    have hw : IntKind.i64.wrap ((i : Int) + 1) = ((i + 1 : Nat) : Int) := wrap_i64 (by omega) (by omega)
    have htr : (nums .i64 s[i]).take 8 = nums .i64 s[i] := List.take_of_length_le (by simp [hr8])
    have hih := ih (i + 1) (by omega)
    rw [wpL_step]
    generalize hK : loopQ RT f3_0m 1 f3_0 Q = K
    cases i with
    | zero =>
      simp [f3_0, List.replicate, hi1, hget, hr8, chk, htr, hhas, after_nr]
      subst hK
      simp [head, f3_0m, mask, trunc_len]
      simpa [f3_0m, List.replicate] using hih
    | succ i =>
      have hget2 : s[i]? = some s[i] := List.getElem?_eq_getElem (by omega)
      have hq8 := hs.len s[i] (List.getElem_mem (by omega))
      have hqB := hs.bd s[i] (List.getElem_mem (by omega))
      have hcmp := run_Cmp ho hol hq8 hr8 hqB hrB
      have hone : ordCmp o s[i] s[i + 1] = 1 := List.pairwise_iff_getElem.1 hd i (i + 1) (by omega) hi1 (by omega)
      rw [hone] at hcmp
      have htq : (nums .i64 s[i]).take 8 = nums .i64 s[i] := List.take_of_length_le (by simp [hq8])
      generalize s[i] = q at *
      generalize s[i + 1] = r at *
      have h1 : IntKind.i64.wrap ((i : Int) + 1 - 1) = (i : Int) := by rw [wrap_i64 (by omega) (by omega)]; omega
      have h1' : IntKind.i64.wrap (i : Int) = (i : Int) := wrap_i64 (by omega) (by omega)
      have h2 : (0 : Int) < (i : Int) + 1 := by omega
      have h3 : (0 : Int) ≤ (i : Int) + 1 := by omega
      have h4 : ((i : Int) + 1).toNat = i + 1 := by omega
      have h5 : (i : Int) < (s.length : Int) := by omega
      have h6 : (i : Int) + 1 < (s.length : Int) := by omega
      have hw2 : IntKind.i64.wrap ((i : Int) + 1 + 1) = ((i + 1 + 1 : Nat) : Int) := by rw [wrap_i64 (by omega) (by omega)]; push_cast; rfl
      simp [f3_0, List.replicate, h1, h1', h2, h3, h4, h5, h6, hget, hget2, hr8, hq8, chk, htr, htq, hhas, hcmp, after_nr, hw2]
      subst hK
      simp [head, f3_0m, mask, trunc_len]
      simpa [f3_0m, List.replicate] using hih
theorem sorts_loop2 {o m s : List (List Int)} (hm : All8 m) (hml : m.length < 1000000) (hs : All8 s) (hsl : s.length < 1000000) (hsub : ∀ d, d ∈ m → d ∈ s) {x5 : AV} {r0 : Blk} {Q : FQ}
    (hQ : ∀ (tm : List AV) (hl : tm.length = 73), tm[5] = x5 → tm[6] = OR o → tm[8] = OR s → Q (.ex 2) ⟨tm, [r0]⟩) :
    ∀ (n i : Nat), i + n = m.length →
    wpL RT f3_1m 1 f3_1 ⟨[.any, .any, .any, .any, .any, x5, OR o, OR m, OR s, .any, .int .i64 (i : Int)] ++ List.replicate 62 .any, [r0]⟩ Q := by
  intro n
  induction n with
  | zero =>
    intro i hi
    have hi' : i = m.length := by omega
    subst hi'
    rw [wpL_step]
    generalize hK : loopQ RT f3_1m 1 f3_1 Q = K
    simp [f3_1, List.replicate]
    subst hK
    exact hQ _ rfl rfl rfl rfl
  | succ n ih =>
    intro i hi
    have hi1 : i < m.length := by omega
    have hget : m[i]? = some m[i] := List.getElem?_eq_getElem hi1
    have hr8 := hm m[i] (List.getElem_mem hi1)
    have hhas := run_has hs hsl hr8 (hsub _ (List.getElem_mem hi1))
    generalize m[i] = r at *
    have hlt : (i : Int) < (m.length : Int) := by omega
    have hw : IntKind.i64.wrap ((i : Int) + 1) = ((i + 1 : Nat) : Int) := wrap_i64 (by omega) (by omega)
    have htr : (nums .i64 r).take 8 = nums .i64 r := List.take_of_length_le (by simp [hr8])
    have hih := ih (i + 1) (by omega)
    rw [wpL_step]
    generalize hK : loopQ RT f3_1m 1 f3_1 Q = K
    simp [f3_1, List.replicate, hlt, hget, hr8, chk, htr, hhas, after_nr, hw]
    subst hK
    simp [head, f3_1m, mask, trunc_len]
    simpa [f3_1m, List.replicate] using hih
theorem nodup_len {α : Type} : ∀ {s m : List α}, s.Nodup → (∀ d, d ∈ s → d ∈ m) → s.length ≤ m.length
  | [], m, _, _ => by simp
  | x :: s, m, hn, h => by
    obtain ⟨a, b, rfl⟩ := List.append_of_mem (h x (by simp))
    have hn' := List.nodup_cons.1 hn
    have := nodup_len (s := s) (m := a ++ b) hn'.2 (fun d hd => by
      have h1 := h d (by simp [hd])
      rcases List.mem_append.1 h1 with h2 | h2
      · exact List.mem_append.2 (.inl h2)
      · rcases List.mem_cons.1 h2 with rfl | h2
        · exact absurd hd hn'.1
        · exact List.mem_append.2 (.inr h2))
    simp at this ⊢; omega
set_option maxHeartbeats 1000000 in
theorem law_sorts (X : List (List Int)) (hX : RawOk X) (l : List (List Int)) (hl : ExOk l) : callPure (run tab) 3 [.agg [RawR X], ExR l] = some (.bool true) := by
  obtain ⟨o, ho, hmo⟩ := run_made hX
  have hol : o.length < 1000000 := by have := hmo.len; omega
  have hmon := run_monos hl
  have hm : Mono8 ((l.take 8).map monoL) := by
    constructor
    · intro r hr
      obtain ⟨x, hx, rfl⟩ := List.mem_map.1 hr
      exact monoL_len (hl x (List.mem_of_mem_take hx)).1
    · intro r hr
      obtain ⟨x, hx, rfl⟩ := List.mem_map.1 hr
      intro n hn
      have := monoL_bd (hl x (List.mem_of_mem_take hx)).2 n hn
      omega
  have hml : ((l.take 8).map monoL).length ≤ 8 := by rw [List.length_map, List.length_take]; omega
  generalize (l.take 8).map monoL = m at *
  obtain ⟨s, hs, hsd, hsm⟩ := run_sort hmo.rows hol hm (by omega)
  have hs8 : Mono8 s := ⟨fun r hr => hm.len r ((hsm r).1 hr), fun r hr => hm.bd r ((hsm r).1 hr)⟩
  have hnd : s.Nodup := hsd.imp fun {a b} hab hE => by
    rw [hE, ordCmp_self] at hab; omega
  have hsl : s.length ≤ 12 := by
    have := nodup_len hnd (fun d hd => (hsm d).1 hd)
    omega
  obtain ⟨s2, hs2, hsd2, hsm2⟩ := run_sort hmo.rows hol hs8 hsl
  have hEq : s2 = s := sdec_unique hsd2 hsd hsm2
  subst hEq
  have hal := run_alike hs8.len (by omega)
  refine callPure_of (wpF_of tab_3 rfl ?_)
  simp [f3, enter, run_examples5, rd, chk, ho, hmon, hs, after_nr]
  simp [head, f3_0m, mask, trunc_len]
  refine sorts_loop1 hmo.rows hol hm (by omega) hs8 (by omega) hsd (fun d hd => (hsm d).1 hd) ?_ s2.length 0 (by simp)
  intro tm hl5 h5 h6 h7 h8
  simp [hl5, h5, h6, h7, h8]
  simp only [head]
  rw [mask_of (n := 73) (by simp [hl5])]
  simp [f3_1m, hl5, h5, h6, h7, h8, List.range_succ, trunc_len]
  refine sorts_loop2 hm.len (by omega) hs8.len (by omega) (fun d hd => (hsm d).2 hd) ?_ m.length 0 (by simp)
  intro tm2 hl6 h5 h6 h8
  simp [hl6, h5, h6, h8, hs2, hal, after_nr]
end Go.AVM
