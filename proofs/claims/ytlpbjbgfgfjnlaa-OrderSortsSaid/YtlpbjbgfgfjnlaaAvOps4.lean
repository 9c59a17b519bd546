/- Operations, one lemma a kind (third part: slice expressions, composite values, literals). -/
import Derived.Test.YtlpbjbgfgfjnlaaAvOps3
set_option linter.unusedVariables false
set_option linter.unusedSimpArgs false
set_option linter.unusedSectionVars false
namespace Go.AVM
section
variable {P : Program} {fid : Nat → FuncId} {mid : FuncId → Option Nat} {S S' : Store} {J : JMap} {M : Mem} {w : World} {tm : List AV} {a : Act} {o : Oper} {ps : List Opd} {v' : AV} {R : RunF}

/-! ### Bounds -/
theorem bound_rep {hi : Nat} {x : AV} {n : Nat} (h : bound hi x = some n) {cx : Value} (r : ARep fid J M x cx) : ∃ k : IntKind, cx = .int k (n : Int) ∧ n ≤ hi := by
  cases x <;> simp only [bound] at h <;> try (cases h)
  rename_i k m
  obtain ⟨⟨h0, h1⟩, h⟩ := chk_some.1 h
  cases h
  exact ⟨k, by rw [r.int_inv, Int.toNat_of_nonneg h0], by omega⟩
theorem run_bound {k : IntKind} {n y : Nat} (h : n ≤ y) (c : BoundsCode) (w : World) : (Instr.sliceBound (.int k (n : Int)) y c).run P w = .ok n w := by
  have : (n : Int) ≤ (y : Int) := by omega
  simp [Instr.sliceBound, asIntOf, this]
theorem okOpds_cons (hm : MidOk fid mid) (ht : TRep fid J M tm a.tmps) {x : Operand} {xs : List Operand} (h : okOpds mid (x :: xs) ps = true) :
    ∃ p qs, ps = p :: qs ∧ ARep fid J M (p.ev tm) (a.eval x) ∧ okOpds mid xs qs = true := by
  cases ps with
  | nil => simp [okOpds] at h
  | cons p qs =>
    simp only [okOpds, Bool.and_eq_true] at h
    exact ⟨p, qs, rfl, okOpd_rep hm ht h.1, h.2⟩
theorem okOpds_nil {ps : List Opd} (h : okOpds mid [] ps = true) : ps = [] := by
  cases ps with
  | nil => rfl
  | cons p qs => simp [okOpds] at h

theorem bounds_run (hm : MidOk fid mid) (ht : TRep fid J M tm a.tmps) {sl : Bool} {len cap cc : Nat} (hc : cap ≤ cc) (hlen : len ≤ cc) {lo hi mx : Option Operand} {fl fh fm : Bool} (h1 : lo.isSome = fl) (h2 : hi.isSome = fh) (h3 : mx.isSome = fm)
    (hok : okOpds mid (optArgs [lo, hi, mx]) ps = true) {l h : Nat} {m : Option Nat} (hb : bounds len cap fl fh fm (ps.map (·.ev tm)) = some (l, h, m)) (w : World) :
    (Instr.sliceBounds sl len cc (lo.map a.eval) (hi.map a.eval) (mx.map a.eval)).run P w = .ok (l, h, m.getD cc) w ∧ l ≤ h ∧ (fh = false → h = len) ∧ (fh = true → h ≤ cap) ∧ (∀ x, m = some x → h ≤ x ∧ x ≤ cap) ∧ (fm = false → m = none) ∧ (fm = true → m.isSome = true) := by
  subst h1; subst h2; subst h3
  cases lo with
  | none =>
    cases hi with
    | none =>
      cases mx with
      | none =>
        have := okOpds_nil (mid := mid) hok
        subst this
        simp only [bounds, Option.isSome_none, List.map_nil, Option.some.injEq, Prod.mk.injEq] at hb
        obtain ⟨rfl, rfl, rfl⟩ := hb
        exact ⟨by simp [Instr.sliceBounds], Nat.zero_le _, by simp, by simp, by simp, by simp, by simp⟩
      | some mo =>
        simp only [bounds, Option.isSome_none, Option.isSome_some] at hb
        cases hb
    | some ho =>
      obtain ⟨p, qs, rfl, hr, hok⟩ := okOpds_cons hm ht (x := ho) (xs := optArgs [mx]) hok
      cases mx with
      | none =>
        have := okOpds_nil (mid := mid) hok
        subst this
        simp only [bounds, Option.isSome_none, Option.isSome_some, List.map_cons, List.map_nil] at hb
        obtain ⟨h', e1, hb⟩ := Option.bind_eq_some_iff.1 hb
        cases hb
        obtain ⟨k, e, hle⟩ := bound_rep e1 hr
        exact ⟨by simp [Instr.sliceBounds, e, run_bound (show h ≤ cc by omega)], Nat.zero_le _, by simp, by simp [hle], by simp, by simp, by simp⟩
      | some mo =>
        obtain ⟨p2, qs2, rfl, hr2, hok⟩ := okOpds_cons hm ht (x := mo) (xs := []) hok
        have := okOpds_nil (mid := mid) hok
        subst this
        simp only [bounds, Option.isSome_none, Option.isSome_some, List.map_cons, List.map_nil] at hb
        obtain ⟨m', e1, hb⟩ := Option.bind_eq_some_iff.1 hb
        obtain ⟨h', e2, hb⟩ := Option.bind_eq_some_iff.1 hb
        cases hb
        obtain ⟨k, e, hle⟩ := bound_rep e1 hr2
        obtain ⟨k2, e', hle2⟩ := bound_rep e2 hr
        exact ⟨by simp [Instr.sliceBounds, e, e', run_bound (show m' ≤ cc by omega), run_bound hle2], Nat.zero_le _, by simp, by simp; omega, fun x hx => by cases hx; omega, by simp, by simp⟩
  | some lo' =>
    obtain ⟨p0, qs0, rfl, hr0, hok⟩ := okOpds_cons hm ht (x := lo') (xs := optArgs [hi, mx]) hok
    cases hi with
    | none =>
      cases mx with
      | none =>
        have := okOpds_nil (mid := mid) hok
        subst this
        simp only [bounds, Option.isSome_none, Option.isSome_some, List.map_cons, List.map_nil] at hb
        obtain ⟨h', e1, hb⟩ := Option.bind_eq_some_iff.1 hb
        cases hb
        obtain ⟨k, e, hle⟩ := bound_rep e1 hr0
        exact ⟨by simp [Instr.sliceBounds, e, run_bound hle], hle, by simp, by simp, by simp, by simp, by simp⟩
      | some mo =>
        simp only [bounds, Option.isSome_none, Option.isSome_some] at hb
        cases hb
    | some ho =>
      obtain ⟨p, qs, rfl, hr, hok⟩ := okOpds_cons hm ht (x := ho) (xs := optArgs [mx]) hok
      cases mx with
      | none =>
        have := okOpds_nil (mid := mid) hok
        subst this
        simp only [bounds, Option.isSome_none, Option.isSome_some, List.map_cons, List.map_nil] at hb
        obtain ⟨h', e1, hb⟩ := Option.bind_eq_some_iff.1 hb
        obtain ⟨l', e2, hb⟩ := Option.bind_eq_some_iff.1 hb
        cases hb
        obtain ⟨k, e, hle⟩ := bound_rep e1 hr
        obtain ⟨k2, e', hle2⟩ := bound_rep e2 hr0
        exact ⟨by simp [Instr.sliceBounds, e, e', run_bound (show h ≤ cc by omega), run_bound hle2], hle2, by simp, by simp [hle], by simp, by simp, by simp⟩
      | some mo =>
        obtain ⟨p2, qs2, rfl, hr2, hok⟩ := okOpds_cons hm ht (x := mo) (xs := []) hok
        have := okOpds_nil (mid := mid) hok
        subst this
        simp only [bounds, Option.isSome_none, Option.isSome_some, List.map_cons, List.map_nil] at hb
        obtain ⟨m', e1, hb⟩ := Option.bind_eq_some_iff.1 hb
        obtain ⟨h', e2, hb⟩ := Option.bind_eq_some_iff.1 hb
        obtain ⟨l', e3, hb⟩ := Option.bind_eq_some_iff.1 hb
        cases hb
        obtain ⟨k, e, hle⟩ := bound_rep e1 hr2
        obtain ⟨k2, e', hle2⟩ := bound_rep e2 hr
        obtain ⟨k3, e'', hle3⟩ := bound_rep e3 hr0
        exact ⟨by simp [Instr.sliceBounds, e, e', e'', run_bound (show m' ≤ cc by omega), run_bound hle2, run_bound hle3], hle3, by simp, by simp; omega, fun x hx => by cases hx; omega, by simp, by simp⟩

theorem sim_slc (hm : MidOk fid mid) {sz : Nat} {lo hi mx : Bool} : Sim P fid mid R o (.slc sz lo hi mx) := by
  intro ps S S' J M w tm a v' hok I ht h
  cases hop : o.op <;> simp only [okOp, hop] at hok <;> try (cases hok)
  rename_i t ox ol oh om
  simp only [Bool.and_eq_true, beq_iff_eq] at hok
  obtain ⟨⟨⟨⟨hty, h1⟩, h2⟩, h3⟩, h4⟩ := hok
  obtain ⟨p, qs, rfl, hr, hok⟩ := okOpds_cons hm ht h4
  split at hty
  · rename_i e hu
    simp only [List.map_cons, opA] at h
    obtain ⟨v, hv, h⟩ := Option.bind_eq_some_iff.1 h
    cases h
    have hexec : ∀ {ad : Option Addr} {n c l hh : Nat} {m : Option Nat}, a.eval ox = .slice ad n c → (Instr.sliceBounds true n c (ol.map a.eval) (oh.map a.eval) (om.map a.eval)).run P w = .ok (l, hh, m.getD c) w →
        (execOp a.eval o).run P w = .ok (.value (.slice (if m.getD c = l then ad else ad.map (·.add (l * sz))) (hh - l) (m.getD c - l))) w := by
      intro ad n c l hh m e1 e2
      simp [execOp, hop, e1, Instr.sliceAt, run_underlying hu, Instr.slice, e2, szIs_run hty]
    unfold sliceA at hv
    split at hv
    · rename_i es sz' t' hpe
      replace hv := chk_some.1 hv; obtain ⟨rfl, hv⟩ := hv
      obtain ⟨⟨l, hh, m⟩, hb, hv⟩ := Option.bind_eq_some_iff.1 hv
      cases hv
      rw [hpe] at hr
      obtain ⟨ad, c, e1, hc, htt, hq⟩ := hr.sl_inv
      obtain ⟨hrun, hle, q1, q2, q3, q4, q5⟩ := bounds_run (P := P) hm ht (sl := true) hc hc h1 h2 h3 hok hb w
      have hhl : hh ≤ es.length := by
        cases hi with
        | false => rw [q1 rfl]; exact Nat.le_refl _
        | true => exact q2 rfl
      refine .same I (hexec e1 hrun) (.fr ?_)
      have hlen : ((es.drop l).take (hh - l)).length = hh - l := by simp; omega
      have hfr : FRep fid M (.sl ((es.drop l).take (hh - l)) sz (tightAt (t' && hh == es.length) hh m))
          (.slice (if m.getD c = l then ad else ad.map (·.add (l * sz))) ((es.drop l).take (hh - l)).length (m.getD c - l)) := by
        refine FRep.sl_mk ?_ ?_ ?_
        · rw [hlen]
          cases m with
          | none => simp; omega
          | some x => have := q3 x rfl; simp; omega
        · rw [hlen]
          cases m with
          | none =>
            simp only [tightAt, Bool.and_eq_true, beq_iff_eq, Option.getD_none]
            rintro ⟨ht1, rfl⟩
            have := htt ht1
            omega
          | some x =>
            simp only [tightAt, beq_iff_eq, Option.getD_some]
            rintro rfl; rfl
        · by_cases he : (es.drop l).take (hh - l) = []
          · exact .inl he
          · right
            have hpos : 0 < hh - l := by
              rcases Nat.eq_zero_or_pos (hh - l) with h0 | h0
              · rw [h0] at he; simp at he
              · exact h0
            have hml : ¬ m.getD c = l := by
              cases m with
              | none => simp; omega
              | some x => have := q3 x rfl; simp; omega
            rcases hq with rfl | ⟨blk, off, rfl, hq⟩
            · simp at he
            · refine ⟨blk, off + l * sz, by simp [hml, Addr.add_lit], fun i x hx => ?_⟩
              have hi' : i < hh - l := by have := (List.getElem?_eq_some_iff.1 hx).1; rw [hlen] at this; exact this
              rw [List.getElem?_take_of_lt hi', List.getElem?_drop] at hx
              obtain ⟨z1, z2⟩ := hq _ x hx
              refine ⟨z1, fun k y hy => ?_⟩
              obtain ⟨cv, w1, w2⟩ := z2 k y hy
              exact ⟨cv, by rw [show off + l * sz + i * sz + k = off + (l + i) * sz + k by rw [Nat.add_mul]; omega]; exact w1, w2⟩
      rw [hlen] at hfr
      exact hfr
    · rename_i b off n sz' vl cap hpe
      replace hv := chk_some.1 hv; obtain ⟨⟨rfl, hzp, hov⟩, hv⟩ := hv
      obtain ⟨⟨l, hh, m⟩, hb, hv⟩ := Option.bind_eq_some_iff.1 hv
      replace hv := chk_some.1 hv; obtain ⟨hfit, hv⟩ := hv
      cases hv
      rw [hpe] at hr
      rcases hr.msl_inv with ⟨blk, base, pz, c, ad, hj, hn, hcap, had, e1⟩ | ⟨rfl, rfl, rfl, hcap, hj, ad, e1⟩
      · have hvp := I.jps _ _ _ _ _ hj
        have hcc : (cap.getD ((vl - off) / sz)) ≤ c := by
          rcases hcap with ⟨rfl, hc⟩ | ⟨rfl, hc⟩
          · simp only [Option.getD_none]
            have : (vl - off) / sz ≤ (c * sz) / sz := Nat.div_le_div_right (by omega)
            rwa [Nat.mul_div_cancel _ hzp] at this
          · exact Nat.le_refl _
        obtain ⟨hrun, hle, q1, q2, q3, q4, q5⟩ := bounds_run (P := P) hm ht (sl := true) hcc hn h1 h2 h3 hok hb w
        have hhc : hh ≤ c := by
          cases hi with
          | false => rw [q1 rfl]; exact hn
          | true => exact Nat.le_trans (q2 rfl) hcc
        have hmc : hh ≤ m.getD c ∧ m.getD c ≤ c := by
          cases m with
          | none => exact ⟨hhc, Nat.le_refl _⟩
          | some x => have := q3 x rfl; simp; omega
        refine .same I (hexec e1 hrun) ?_
        refine .msl b _ _ sz vl _ blk base pz (m.getD c - l) _ hj (by omega) ?_ ?_
        · have hsub : (m.getD c - l) * sz + l * sz = m.getD c * sz := by rw [← Nat.add_mul]; congr 1; omega
          have hml : m.getD c * sz ≤ c * sz := Nat.mul_le_mul_right _ hmc.2
          cases m with
          | some x =>
            refine .inr ⟨rfl, ?_⟩
            rcases hcap with ⟨_, hc⟩ | ⟨_, hc⟩ <;> simp at hsub hml ⊢ <;> omega
          | none =>
            rcases hcap with ⟨rfl, hc⟩ | ⟨rfl, hc⟩
            · exact .inl ⟨rfl, by simp at hsub hml ⊢; omega⟩
            · exact .inr ⟨rfl, by simp at hsub hml ⊢; omega⟩
        · by_cases hml : m.getD c = l
          · left; omega
          · right
            have : ad = some ⟨blk, base + off, none⟩ := had.resolve_left (by omega)
            simp [hml, this, Addr.add_lit, Nat.add_assoc]
      · have hcz : (cap.getD ((0 - 0) / sz)) = 0 := by
          rcases hcap with rfl | rfl <;> simp
        rw [hcz] at hb
        obtain ⟨hrun, hle, q1, q2, q3, q4, q5⟩ := bounds_run (P := P) hm ht (sl := true) (Nat.le_refl 0) (Nat.le_refl 0) h1 h2 h3 hok hb w
        have hh0 : hh = 0 := by
          cases hi with
          | false => exact q1 rfl
          | true => have := q2 rfl; omega
        have hl0 : l = 0 := by omega
        subst hh0; subst hl0
        have hm0 : m.getD 0 = 0 := by
          cases m with
          | none => rfl
          | some x => have := q3 x rfl; simp; omega
        refine .same I (hexec e1 hrun) ?_
        rw [hm0]
        simp only [Nat.zero_mul, Nat.add_zero, Nat.sub_zero, if_true]
        refine .mslN b sz _ ad hj ?_
        cases m with
        | none => rcases hcap with rfl | rfl <;> simp [capAt]
        | some x => have := q3 x rfl; simp [capAt]; omega
    · cases hv
  · cases hty

theorem sim_slca (hm : MidOk fid mid) {n sz : Nat} {lo hi mx : Bool} : Sim P fid mid R o (.slca n sz lo hi mx) := by
  intro ps S S' J M w tm a v' hok I ht h
  cases hop : o.op <;> simp only [okOp, hop] at hok <;> try (cases hok)
  rename_i t ox ol oh om
  simp only [Bool.and_eq_true, beq_iff_eq] at hok
  obtain ⟨⟨⟨⟨hty, h1⟩, h2⟩, h3⟩, h4⟩ := hok
  obtain ⟨p, qs, rfl, hr, hok⟩ := okOpds_cons hm ht h4
  split at hty
  · rename_i n' e hu
    simp only [Bool.and_eq_true, beq_iff_eq] at hty
    obtain ⟨rfl, hsz⟩ := hty
    simp only [List.map_cons, opA] at h
    obtain ⟨v, hv, h⟩ := Option.bind_eq_some_iff.1 h
    cases h
    have hexec : ∀ {ad : Addr} {l hh : Nat} {m : Option Nat}, a.eval ox = .pointer (some ad) → (Instr.sliceBounds false n' n' (ol.map a.eval) (oh.map a.eval) (om.map a.eval)).run P w = .ok (l, hh, m.getD n') w →
        (execOp a.eval o).run P w = .ok (.value (.slice (some (if m.getD n' = l then ad else ad.add (l * sz))) (hh - l) (m.getD n' - l))) w := by
      intro ad l hh m e1 e2
      simp [execOp, hop, e1, Instr.sliceAt, run_underlying hu, Instr.sureAddr, e2, szIs_run hsz]
    unfold sliceArr at hv
    split at hv
    · rename_i b off vl hpe
      obtain ⟨⟨l, hh, m⟩, hb, hv⟩ := Option.bind_eq_some_iff.1 hv
      replace hv := chk_some.1 hv; obtain ⟨⟨hfit, hzp⟩, hv⟩ := hv
      cases hv
      rw [hpe] at hr
      obtain ⟨blk, base, pz, hj, e1⟩ := hr.mptr_inv
      have hvp := I.jps _ _ _ _ _ hj
      obtain ⟨hrun, hle, q1, q2, q3, q4, q5⟩ := bounds_run (P := P) hm ht (sl := false) (Nat.le_refl n') (Nat.le_refl n') h1 h2 h3 hok hb w
      have hhc : hh ≤ n' := by
        cases hi with
        | false => rw [q1 rfl]; exact Nat.le_refl _
        | true => exact q2 rfl
      have hmc : hh ≤ m.getD n' ∧ m.getD n' ≤ n' := by
        cases m with
        | none => exact ⟨hhc, Nat.le_refl _⟩
        | some x => have := q3 x rfl; simp; omega
      refine .same I (hexec e1 hrun) ?_
      refine .msl b _ _ sz vl _ blk base pz (m.getD n' - l) _ hj (by omega) ?_ ?_
      · have hsub : (m.getD n' - l) * sz + l * sz = m.getD n' * sz := by rw [← Nat.add_mul]; congr 1; omega
        have hml : m.getD n' * sz ≤ n' * sz := Nat.mul_le_mul_right _ hmc.2
        cases m with
        | some x => exact .inr ⟨rfl, by simp at hsub hml ⊢; omega⟩
        | none => exact .inr ⟨rfl, by simp at hsub hml ⊢; omega⟩
      · by_cases hml : m.getD n' = l
        · left; omega
        · right
          simp [hml, Addr.add_lit, Nat.add_assoc]
    · rename_i cs hpe
      obtain ⟨⟨l, hh, m⟩, hb, hv⟩ := Option.bind_eq_some_iff.1 hv
      replace hv := chk_some.1 hv; obtain ⟨⟨hfit, hzp⟩, hv⟩ := hv
      cases hv
      rw [hpe] at hr
      obtain ⟨blk, off, e1, hc⟩ := hr.fptr_inv
      obtain ⟨hrun, hle, q1, q2, q3, q4, q5⟩ := bounds_run (P := P) hm ht (sl := false) (Nat.le_refl n') (Nat.le_refl n') h1 h2 h3 hok hb w
      have hhc : hh ≤ n' := by
        cases hi with
        | false => rw [q1 rfl]; exact Nat.le_refl _
        | true => exact q2 rfl
      have hmc : hh ≤ m.getD n' ∧ m.getD n' ≤ n' := by
        cases m with
        | none => exact ⟨hhc, Nat.le_refl _⟩
        | some x => have := q3 x rfl; simp; omega
      refine .same I (hexec e1 hrun) (.fr ?_)
      have hlen : (((chunk sz n' (cs.take (n' * sz))).drop l).take (hh - l)).length = hh - l := by simp [chunk_length]; omega
      have hfr : FRep fid M (.sl (((chunk sz n' (cs.take (n' * sz))).drop l).take (hh - l)) sz (tightAt (n' == hh) hh m))
          (.slice (some (if m.getD n' = l then ⟨blk, off, none⟩ else (⟨blk, off, none⟩ : Addr).add (l * sz))) (((chunk sz n' (cs.take (n' * sz))).drop l).take (hh - l)).length (m.getD n' - l)) := by
        refine FRep.sl_mk (by rw [hlen]; omega) ?_ ?_
        · rw [hlen]
          cases m with
          | none => simp only [tightAt, beq_iff_eq, Option.getD_none]; rintro rfl; rfl
          | some x => simp only [tightAt, beq_iff_eq, Option.getD_some]; rintro rfl; rfl
        · by_cases hz : hh - l = 0
          · left; exact List.eq_nil_of_length_eq_zero (by rw [hlen, hz])
          · right
            have hml : ¬ m.getD n' = l := by omega
            refine ⟨blk, off + l * sz, by simp [hml, Addr.add_lit], fun i x hx => ?_⟩
            have hi' : i < hh - l := by have := (List.getElem?_eq_some_iff.1 hx).1; rw [hlen] at this; exact this
            rw [List.getElem?_take_of_lt hi', List.getElem?_drop] at hx
            obtain ⟨z1, z2⟩ := chunk_cells (cs := cs.take (n' * sz)) (by simp; omega) (fun _ y hy => by
              obtain ⟨k, hk⟩ := List.mem_iff_getElem?.1 hy
              have hkl : k < n' * sz := by have := (List.getElem?_eq_some_iff.1 hk).1; simp at this; omega
              rw [List.getElem?_take_of_lt hkl] at hk
              obtain ⟨cv, w1, w2⟩ := hc k y hk
              exact w2.cells_of_plain (I.mem _ _ _ w1).2) hx
            refine ⟨z1, fun k y hy => ?_⟩
            have hk' := z2 k y hy
            have hkl : (l + i) * sz + k < n' * sz := by have := (List.getElem?_eq_some_iff.1 hk').1; simp at this; omega
            rw [List.getElem?_take_of_lt hkl] at hk'
            obtain ⟨cv, w1, w2⟩ := hc _ y hk'
            exact ⟨cv, by rw [show off + l * sz + i * sz + k = off + ((l + i) * sz + k) by rw [Nat.add_mul]; omega]; exact w1, w2⟩
      rw [hlen] at hfr
      exact hfr
    · cases hv
  · cases hty
end
end Go.AVM
