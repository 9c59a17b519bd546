/- Making an order of raw rows: what is made. -/
import Derived.Test.YtlpbjbgfgfjnlaaAvMade2
set_option linter.unusedVariables false
set_option linter.unusedSimpArgs false
set_option linter.unusedSectionVars false
namespace Go.AVM
theorem firstL_neg : ∀ l : List Int, firstL (l.map fun x => -x) = -(firstL l)
  | [] => rfl
  | x :: l => by
    simp only [List.map_cons, firstL]
    by_cases h : x = 0
    · rw [if_pos h, if_pos (by omega), firstL_neg l]
    · rw [if_neg h, if_neg (by omega)]
theorem negcol_col {F : List Int} {n k k' : Nat} (hF : F.length = 8 * n) (hk : k < 8) (hk' : k' < 8) : colv (negcol F k n) n k' = if k' = k then (colv F n k).map (fun x => -x) else colv F n k' := by
  have hin : ∀ i, i < n → (negcol F k n).getD (8 * i + k') 0 = if k' = k then -(F.getD (8 * i + k') 0) else F.getD (8 * i + k') 0 := by
    intro i hi
    rw [List.getD_eq_getElem?_getD, negcol_get F hk n (by omega) i k' hk', List.getD_eq_getElem?_getD]
    by_cases h : k' = k
    · rw [if_pos ⟨h, hi⟩, if_pos h]
      have : 8 * i + k' < F.length := by omega
      rw [List.getElem?_eq_getElem this]; rfl
    · rw [if_neg (by omega), if_neg h]
  unfold colv
  by_cases h : k' = k
  · subst h
    rw [if_pos rfl, List.map_map]
    refine List.map_congr_left fun i hi => ?_
    rw [hin i (by simpa using hi), if_pos rfl]; rfl
  · rw [if_neg h]
    refine List.map_congr_left fun i hi => ?_
    rw [hin i (by simpa using hi), if_neg h]
theorem negcol_bd {F : List Int} {n k : Nat} (hF : F.length = 8 * n) (hk : k < 8) (hb : Bd 128 F) : Bd 128 (negcol F k n) := by
  intro x hx
  obtain ⟨p, hp, rfl⟩ := List.mem_iff_getElem.1 hx
  rw [negcol_len] at hp
  have h1 := negcol_get F hk n (by omega) (p / 8) (p % 8) (Nat.mod_lt _ (by decide))
  rw [Nat.div_add_mod, List.getElem?_eq_getElem (by rw [negcol_len]; exact hp), List.getElem?_eq_getElem hp] at h1
  have h2 := hb F[p] (List.getElem_mem hp)
  split at h1
  · have := Option.some.inj h1
    rw [this]; show -128 ≤ -F[p] ∧ -F[p] ≤ 128; omega
  · have := Option.some.inj h1
    rw [this]; exact h2
/-- The rows are short, and columns do not begin with a negative number. -/
def Turned (F : List Int) (n k : Nat) : Prop := F.length = 8 * n ∧ Bd 128 F ∧ ∀ k', k' < k → 0 ≤ firstL (colv F n k')
theorem cols_loop {n : Nat} (hn : n < 1000) {b : Nat} {base : Nat} {Q : FQ}
    (hQ : ∀ (tm : List AV) (hl : tm.length = 83) (S : Store) (F : List Int), tm[3] = .msl b 0 n 8 (8 * n) none → Turned F n 8 → S[b]? = some (.mu (nums .i64 F) false) → Q (.ex 4) ⟨tm, S⟩) :
    ∀ (m k : Nat), k + m = 8 → ∀ (S : Store) (F : List Int), S.length = base → S[b]? = some (.mu (nums .i64 F) false) → Turned F n k →
    wpL RT f9_4m base f9_4 ⟨[.any, .any, .any, .msl b 0 n 8 (8 * n) none, .any, .any, .any, .int .i64 (k : Int)] ++ List.replicate 75 .any, S⟩ Q := by
  intro m
  induction m with
  | zero =>
    intro k hk S F hS hg hT
    have hk' : k = 8 := by omega
    subst hk'
    rw [wpL_step]
    generalize hK : loopQ RT f9_4m base f9_4 Q = K
    simp [f9_4, List.replicate]
    subst hK
    exact hQ _ rfl S F rfl hT hg
  | succ m ih =>
    intro k hk S F hS hg hT
    have hk8 : k < 8 := by omega
    have hki : (k : Int) < 8 := by omega
    have hw : IntKind.i64.wrap ((k : Int) + 1) = ((k + 1 : Nat) : Int) := wrap_i64 (by omega) (by omega)
    have hblt := lt_of_get hg
    obtain ⟨hF, hFb, hT'⟩ := hT
    rw [wpL_step]
    generalize hK : loopQ RT f9_4m base f9_4 Q = K
    simp [f9_4, List.replicate, hki]
    simp [head, f9_2m, mask, trunc_len]
    refine first_loop hF hk8 hn hg (Nat.le_refl _) ?_ n 0 (by omega) 0 (by simp)
    intro tm hl h3 h7 h8
    simp [hl, h3, h7, h8]
    simp only [head]
    rw [mask_of (n := 83) (by simp [hl])]
    simp [f9_3m, hl, h3, h7, h8, List.range_succ, trunc_len]
    by_cases hneg : firstL (colv F n k) < 0
    · have := neg_loop hF hk8 hn hFb (S := S) (base := S.length) (Nat.le_refl _) hblt hneg (ex := false) (Q := blockQ 8 (blockQ 5 (seqQ RT
              (.reg [⟨(some 44), .mv, [.t 7], none⟩, ⟨(some 45), .bin .add, [.t 44, .c (.int .i64 1)], none⟩, ⟨(some 7), .mv, [.t 45], none⟩]) K))) ?_ n 0 (by omega)
      · have e : S.set b (.mu (nums .i64 (negcol F k 0)) false) = S := by
          have hg' := List.getElem?_eq_some_iff.1 hg
          obtain ⟨h1, h2⟩ := hg'
          show S.set b (.mu (nums .i64 F) false) = S
          rw [← h2]; exact List.set_getElem_self h1
        rw [e] at this
        simpa [List.replicate, f9_3m] using this
      · intro tm2 hl2 h32 h72
        simp [hl2, h32, h72, hw]
        subst hK
        simp only [loopQ_nrm, head]
        rw [mask_of (n := 83) (by simp [hl2])]
        simp [f9_4m, hl2, h32, List.range_succ, trunc_len, hS]
        have := ih (k + 1) (by omega) (S.set b (.mu (nums .i64 (negcol F k n)) false)) (negcol F k n) (by simpa using hS) (set_get hblt) ⟨by rw [negcol_len]; exact hF, negcol_bd hF hk8 hFb, fun k' hk' => by
          rw [negcol_col hF hk8 (by omega)]
          by_cases h : k' = k
          · rw [if_pos h, firstL_neg]; omega
          · rw [if_neg h]; exact hT' k' (by omega)⟩
        simpa [f9_4m, List.replicate] using this
    · have hT2 : Turned F n (k + 1) := ⟨hF, hFb, fun k' hk' => by
        by_cases h : k' = k
        · rw [h]; omega
        · exact hT' k' (by omega)⟩
      have := ih (k + 1) (by omega) S F hS hg hT2
      rw [wpL_step]
      generalize hK3 : loopQ RT f9_3m S.length f9_3 _ = K3
      by_cases hn0 : 0 < n
      · simp [f9_3, hn0, hneg]
        subst hK3
        simp [hw]
        subst hK
        simp [head, f9_4m, mask, trunc_len, hS]
        simpa [f9_4m, List.replicate] using this
      · simp [f9_3, hn0]
        subst hK3
        simp [hw]
        subst hK
        simp [head, f9_4m, mask, trunc_len, hS]
        simpa [f9_4m, List.replicate] using this
/-- In a valid order, a column does not begin with a negative weight. -/
def colOk (k : Nat) : List (List Int) → Prop
  | [] => True
  | w :: o => 0 < w.getD k 0 ∨ (w.getD k 0 = 0 ∧ colOk k o)
theorem colOk_of (k : Nat) : ∀ o : List (List Int), 0 ≤ firstL (o.map fun w => w.getD k 0) → colOk k o
  | [], _ => trivial
  | w :: o, h => by
    simp only [List.map_cons, firstL] at h
    by_cases h0 : w.getD k 0 = 0
    · rw [if_pos h0] at h; exact .inr ⟨h0, colOk_of k o h⟩
    · rw [if_neg h0] at h; exact .inl (by omega)
def ColsOk (o : List (List Int)) : Prop := ∀ k, k < 8 → colOk k o
theorem cut8_col {F : List Int} {n k : Nat} (hF : F.length = 8 * n) (hk : k < 8) : (cut8 n F).map (fun w => w.getD k 0) = colv F n k := by
  refine List.ext_getElem? fun i => ?_
  rw [List.getElem?_map, cut8_get n F hF i]
  by_cases h : i < n
  · rw [if_pos h, colv_get F n k i h]
    have h1 : 8 * i + k < F.length := by omega
    simp [List.getElem?_take, hk, List.getElem?_drop]
  · rw [if_neg h, List.getElem?_eq_none (by rw [colv_len]; omega)]; rfl
/-- An order as it is made. -/
structure MadeO (o : List (List Int)) : Prop where
  len : o.length ≤ 6
  row : ∀ w ∈ o, w.length = 8 ∧ Bd 128 w
  col : ColsOk o
theorem MadeO.rows {o : List (List Int)} (h : MadeO o) : Rows o := fun w hw => ⟨(h.row w hw).1, (h.row w hw).2.mono (by decide)⟩
set_option maxRecDepth 20000 in
theorem run_made {X : List (List Int)} (hX : RawOk X) : ∃ o, callPure RT 9 [.agg [RawR X]] = some (OR o) ∧ MadeO o := by
  by_cases h0 : X = []
  · subst h0
    refine ⟨[], ?_, by simp, by simp, fun k _ => trivial⟩
    exact pureIs_run (O := noneE) (n := 30) noneE_sound (by kernel_rfl)
  · have hn0 : X.length ≠ 0 := fun h => h0 (List.eq_nil_of_length_eq_zero h)
    suffices h : ∃ r, callPure RT 9 [.agg [RawR X]] = some r ∧ ∃ F, Turned F (min X.length 6) 8 ∧ r = .sl (chunk 8 (min X.length 6) (nums .i64 F)) 8 false by
      obtain ⟨_, hr, F, hT, rfl⟩ := h
      refine ⟨cut8 (min X.length 6) F, ?_, ?_, ?_, ?_⟩
      · rw [hr, chunk_cut _ _ hT.1]
      · rw [cut8_len]; omega
      · intro w hw
        have := cut8_mem _ _ hT.1 w hw
        exact ⟨this.1, fun x hx => hT.2.1 x (this.2 x hx)⟩
      · intro k hk
        refine colOk_of k _ ?_
        rw [cut8_col hT.1 hk]
        exact hT.2.2 k hk
    refine callPure_ex (wpF_of tab_9 rfl ?_)
    simp [f9, enter]
    simp [head, f9_1m, mask, trunc_len]
    refine rows_loop hX ?_ (min X.length 6) 0 (by omega) _ _ rfl ⟨rfl, .inl ⟨rfl, rfl⟩⟩
    intro tm hl S hG hbox
    obtain ⟨hF, ⟨_, hz⟩ | ⟨b, hb1, hn1, hv, hg⟩⟩ := hG
    · omega
    · have hFb : Bd 128 ((X.take 6).flatten) := by
        intro x hx
        obtain ⟨r, hr, hxr⟩ := List.mem_flatten.1 hx
        have := (hX r (List.mem_of_mem_take hr)).2 x hxr
        omega
      have hn6 : min X.length 6 < 1000 := by omega
      generalize (X.take 6).flatten = F at *
      generalize min X.length 6 = n at *
      simp [hl, hv]
      simp only [head]
      rw [mask_of (n := 83) (by simp [hl])]
      simp [f9_4m, hl, hv, List.range_succ, trunc_len]
      refine cols_loop (b := b) (base := S.length) hn6 ?_ 8 0 rfl S F rfl hg ⟨hF, hFb, fun k' h => by omega⟩
      intro tm2 hl2 S2 F2 h3 hT hg2
      have hcl : chunk 8 n (nums .i64 F2) = chunk 8 n (nums .i64 F2) := rfl
      have hrd : rd S2 b 0 (8 * n) (n * 8) = some (nums .i64 F2) := by
        rw [rd_mu hg2 (by simp [hT.1]) (by omega), List.drop_zero, List.take_of_length_le (by simp [hT.1]; omega)]
      simp [hl2, h3, fzc, hrd]
      exact ⟨F2, hT, rfl⟩
end Go.AVM
