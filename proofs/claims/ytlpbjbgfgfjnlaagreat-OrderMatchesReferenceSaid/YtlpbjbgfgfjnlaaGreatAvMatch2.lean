/- Texts joined: AvOps4, AvOps5, AvOps6, AvOps7, AvOps8, AvCall, AvSound1, AvDraw. -/
import Derived.Test.YtlpbjbgfgfjnlaaGreatAvMatch1
set_option linter.unusedVariables false
set_option linter.unusedSimpArgs false
set_option linter.unusedSectionVars false
namespace Go.AVM
section
variable {P : Program} {fid : Nat → FuncId} {mid : FuncId → Option Nat} {S S' : Store} {J : JMap} {M : Mem} {w : World} {tm : List AV} {a : Act} {o : Oper} {ps : List Opd} {v' : AV} {R : RunF}
theorem bound_rep {hi : Nat} {x : AV} {n : Nat} (h : bound hi x = some n) {cx : Value} (r : ARep fid J M x cx) : ∃ k : IntKind, cx = .int k (n : Int) ∧ n ≤ hi := by
  cases x <;> simp only [bound] at h <;> try (cases h)
  rename_i k m
  obtain ⟨⟨h0, h1⟩, h⟩ := chk_some.1 h
  cases h
  exact ⟨k, by rw [r.int_inv, Int.toNat_of_nonneg h0], by omega⟩
theorem run_bound {k : IntKind} {n y : Nat} (h : n ≤ y) (c : BoundsCode) (w : World) : (Instr.sliceBound (.int k (n : Int)) y c).run P w = .ok n w := by
  have : (n : Int) ≤ (y : Int) := by omega
  simp [Instr.sliceBound, asIntOf, this]
theorem okOpds_cons (hm : MidOk fid mid) (ht : TRep fid J M tm a.tmps) {x : Operand} {xs : List Operand} (h : okOpds mid (x :: xs) ps = true) :
    ∃ p qs, ps = p :: qs ∧ ARep fid J M (p.ev tm) (a.eval x) ∧ okOpds mid xs qs = true := by
  cases ps with
  | nil => simp [okOpds] at h
  | cons p qs =>
    simp only [okOpds, Bool.and_eq_true] at h
    exact ⟨p, qs, rfl, okOpd_rep hm ht h.1, h.2⟩
theorem okOpds_nil {ps : List Opd} (h : okOpds mid [] ps = true) : ps = [] := by
  cases ps with
  | nil => rfl
  | cons p qs => simp [okOpds] at h
theorem bounds_run (hm : MidOk fid mid) (ht : TRep fid J M tm a.tmps) {sl : Bool} {len cap cc : Nat} (hc : cap ≤ cc) (hlen : len ≤ cc) {lo hi mx : Option Operand} {fl fh fm : Bool} (h1 : lo.isSome = fl) (h2 : hi.isSome = fh) (h3 : mx.isSome = fm)
    (hok : okOpds mid (optArgs [lo, hi, mx]) ps = true) {l h : Nat} {m : Option Nat} (hb : bounds len cap fl fh fm (ps.map (·.ev tm)) = some (l, h, m)) (w : World) :
    (Instr.sliceBounds sl len cc (lo.map a.eval) (hi.map a.eval) (mx.map a.eval)).run P w = .ok (l, h, m.getD cc) w ∧ l ≤ h ∧ (fh = false → h = len) ∧ (fh = true → h ≤ cap) ∧ (∀ x, m = some x → h ≤ x ∧ x ≤ cap) ∧ (fm = false → m = none) ∧ (fm = true → m.isSome = true) := by
  subst h1; subst h2; subst h3
  cases lo with
  | none =>
    cases hi with
    | none =>
      cases mx with
      | none =>
        have := okOpds_nil (mid := mid) hok
        subst this
        simp only [bounds, Option.isSome_none, List.map_nil, Option.some.injEq, Prod.mk.injEq] at hb
        obtain ⟨rfl, rfl, rfl⟩ := hb
        exact ⟨by simp [Instr.sliceBounds], Nat.zero_le _, by simp, by simp, by simp, by simp, by simp⟩
      | some mo =>
        simp only [bounds, Option.isSome_none, Option.isSome_some] at hb
        cases hb
    | some ho =>
      obtain ⟨p, qs, rfl, hr, hok⟩ := okOpds_cons hm ht (x := ho) (xs := optArgs [mx]) hok
      cases mx with
      | none =>
        have := okOpds_nil (mid := mid) hok
        subst this
        simp only [bounds, Option.isSome_none, Option.isSome_some, List.map_cons, List.map_nil] at hb
        obtain ⟨h', e1, hb⟩ := Option.bind_eq_some_iff.1 hb
        cases hb
        obtain ⟨k, e, hle⟩ := bound_rep e1 hr
        exact ⟨by simp [Instr.sliceBounds, e, run_bound (show h ≤ cc by omega)], Nat.zero_le _, by simp, by simp [hle], by simp, by simp, by simp⟩
      | some mo =>
        obtain ⟨p2, qs2, rfl, hr2, hok⟩ := okOpds_cons hm ht (x := mo) (xs := []) hok
        have := okOpds_nil (mid := mid) hok
        subst this
        simp only [bounds, Option.isSome_none, Option.isSome_some, List.map_cons, List.map_nil] at hb
        obtain ⟨m', e1, hb⟩ := Option.bind_eq_some_iff.1 hb
        obtain ⟨h', e2, hb⟩ := Option.bind_eq_some_iff.1 hb
        cases hb
        obtain ⟨k, e, hle⟩ := bound_rep e1 hr2
        obtain ⟨k2, e', hle2⟩ := bound_rep e2 hr
        exact ⟨by simp [Instr.sliceBounds, e, e', run_bound (show m' ≤ cc by omega), run_bound hle2], Nat.zero_le _, by simp, by simp; omega, fun x hx => by cases hx; omega, by simp, by simp⟩
  | some lo' =>
    obtain ⟨p0, qs0, rfl, hr0, hok⟩ := okOpds_cons hm ht (x := lo') (xs := optArgs [hi, mx]) hok
    cases hi with
    | none =>
      cases mx with
      | none =>
        have := okOpds_nil (mid := mid) hok
        subst this
        simp only [bounds, Option.isSome_none, Option.isSome_some, List.map_cons, List.map_nil] at hb
        obtain ⟨h', e1, hb⟩ := Option.bind_eq_some_iff.1 hb
        cases hb
        obtain ⟨k, e, hle⟩ := bound_rep e1 hr0
        exact ⟨by simp [Instr.sliceBounds, e, run_bound hle], hle, by simp, by simp, by simp, by simp, by simp⟩
      | some mo =>
        simp only [bounds, Option.isSome_none, Option.isSome_some] at hb
        cases hb
    | some ho =>
      obtain ⟨p, qs, rfl, hr, hok⟩ := okOpds_cons hm ht (x := ho) (xs := optArgs [mx]) hok
      cases mx with
      | none =>
        have := okOpds_nil (mid := mid) hok
        subst this
        simp only [bounds, Option.isSome_none, Option.isSome_some, List.map_cons, List.map_nil] at hb
        obtain ⟨h', e1, hb⟩ := Option.bind_eq_some_iff.1 hb
        obtain ⟨l', e2, hb⟩ := Option.bind_eq_some_iff.1 hb
        cases hb
        obtain ⟨k, e, hle⟩ := bound_rep e1 hr
        obtain ⟨k2, e', hle2⟩ := bound_rep e2 hr0
        exact ⟨by simp [Instr.sliceBounds, e, e', run_bound (show h ≤ cc by omega), run_bound hle2], hle2, by simp, by simp [hle], by simp, by simp, by simp⟩
      | some mo =>
        obtain ⟨p2, qs2, rfl, hr2, hok⟩ := okOpds_cons hm ht (x := mo) (xs := []) hok
        have := okOpds_nil (mid := mid) hok
        subst this
        simp only [bounds, Option.isSome_none, Option.isSome_some, List.map_cons, List.map_nil] at hb
        obtain ⟨m', e1, hb⟩ := Option.bind_eq_some_iff.1 hb
        obtain ⟨h', e2, hb⟩ := Option.bind_eq_some_iff.1 hb
        obtain ⟨l', e3, hb⟩ := Option.bind_eq_some_iff.1 hb
        cases hb
        obtain ⟨k, e, hle⟩ := bound_rep e1 hr2
        obtain ⟨k2, e', hle2⟩ := bound_rep e2 hr
        obtain ⟨k3, e'', hle3⟩ := bound_rep e3 hr0
        exact ⟨by simp [Instr.sliceBounds, e, e', e'', run_bound (show m' ≤ cc by omega), run_bound hle2, run_bound hle3], hle3, by simp, by simp; omega, fun x hx => by cases hx; omega, by simp, by simp⟩
theorem sim_slc (hm : MidOk fid mid) {sz : Nat} {lo hi mx : Bool} : Sim P fid mid R o (.slc sz lo hi mx) := by
  intro ps S S' J M w tm a v' hok I ht h
  cases hop : o.op <;> simp only [okOp, hop] at hok <;> try (cases hok)
  rename_i t ox ol oh om
  simp only [Bool.and_eq_true, beq_iff_eq] at hok
  obtain ⟨⟨⟨⟨hty, h1⟩, h2⟩, h3⟩, h4⟩ := hok
  obtain ⟨p, qs, rfl, hr, hok⟩ := okOpds_cons hm ht h4
  split at hty
  · rename_i e hu
    simp only [List.map_cons, opA] at h
    obtain ⟨v, hv, h⟩ := Option.bind_eq_some_iff.1 h
    cases h
    have hexec : ∀ {ad : Option Addr} {n c l hh : Nat} {m : Option Nat}, a.eval ox = .slice ad n c → (Instr.sliceBounds true n c (ol.map a.eval) (oh.map a.eval) (om.map a.eval)).run P w = .ok (l, hh, m.getD c) w →
        (execOp a.eval o).run P w = .ok (.value (.slice (if m.getD c = l then ad else ad.map (·.add (l * sz))) (hh - l) (m.getD c - l))) w := by
      intro ad n c l hh m e1 e2
      simp [execOp, hop, e1, Instr.sliceAt, run_underlying hu, Instr.slice, e2, szIs_run hty]
    unfold sliceA at hv
    split at hv
    · rename_i es sz' t' hpe
      replace hv := chk_some.1 hv; obtain ⟨rfl, hv⟩ := hv
      obtain ⟨⟨l, hh, m⟩, hb, hv⟩ := Option.bind_eq_some_iff.1 hv
      cases hv
      rw [hpe] at hr
      obtain ⟨ad, c, e1, hc, htt, hq⟩ := hr.sl_inv
      obtain ⟨hrun, hle, q1, q2, q3, q4, q5⟩ := bounds_run (P := P) hm ht (sl := true) hc hc h1 h2 h3 hok hb w
      have hhl : hh ≤ es.length := by
        cases hi with
        | false => rw [q1 rfl]; exact Nat.le_refl _
        | true => exact q2 rfl
      refine .same I (hexec e1 hrun) (.fr ?_)
      have hlen : ((es.drop l).take (hh - l)).length = hh - l := by simp; omega
      have hfr : FRep fid M (.sl ((es.drop l).take (hh - l)) sz (tightAt (t' && hh == es.length) hh m))
          (.slice (if m.getD c = l then ad else ad.map (·.add (l * sz))) ((es.drop l).take (hh - l)).length (m.getD c - l)) := by
        refine FRep.sl_mk ?_ ?_ ?_
        · rw [hlen]
          cases m with
          | none => simp; omega
          | some x => have := q3 x rfl; simp; omega
        · rw [hlen]
          cases m with
          | none =>
            simp only [tightAt, Bool.and_eq_true, beq_iff_eq, Option.getD_none]
            rintro ⟨ht1, rfl⟩
            have := htt ht1
            omega
          | some x =>
            simp only [tightAt, beq_iff_eq, Option.getD_some]
            rintro rfl; rfl
        · by_cases he : (es.drop l).take (hh - l) = []
          · exact .inl he
          · right
            have hpos : 0 < hh - l := by
              rcases Nat.eq_zero_or_pos (hh - l) with h0 | h0
              · rw [h0] at he; simp at he
              · exact h0
            have hml : ¬ m.getD c = l := by
              cases m with
              | none => simp; omega
              | some x => have := q3 x rfl; simp; omega
            rcases hq with rfl | ⟨blk, off, rfl, hq⟩
            · simp at he
            · refine ⟨blk, off + l * sz, by simp [hml, Addr.add_lit], fun i x hx => ?_⟩
              have hi' : i < hh - l := by have := (List.getElem?_eq_some_iff.1 hx).1; rw [hlen] at this; exact this
              rw [List.getElem?_take_of_lt hi', List.getElem?_drop] at hx
              obtain ⟨z1, z2⟩ := hq _ x hx
              refine ⟨z1, fun k y hy => ?_⟩
              obtain ⟨cv, w1, w2⟩ := z2 k y hy
              exact ⟨cv, by rw [show off + l * sz + i * sz + k = off + (l + i) * sz + k by rw [Nat.add_mul]; omega]; exact w1, w2⟩
      rw [hlen] at hfr
      exact hfr
    · rename_i b off n sz' vl cap hpe
      replace hv := chk_some.1 hv; obtain ⟨⟨rfl, hzp, hov⟩, hv⟩ := hv
      obtain ⟨⟨l, hh, m⟩, hb, hv⟩ := Option.bind_eq_some_iff.1 hv
      replace hv := chk_some.1 hv; obtain ⟨hfit, hv⟩ := hv
      cases hv
      rw [hpe] at hr
      rcases hr.msl_inv with ⟨blk, base, pz, c, ad, hj, hn, hcap, had, e1⟩ | ⟨rfl, rfl, rfl, hcap, hj, ad, e1⟩
      · have hvp := I.jps _ _ _ _ _ hj
        have hcc : (cap.getD ((vl - off) / sz)) ≤ c := by
          rcases hcap with ⟨rfl, hc⟩ | ⟨rfl, hc⟩
          · simp only [Option.getD_none]
            have : (vl - off) / sz ≤ (c * sz) / sz := Nat.div_le_div_right (by omega)
            rwa [Nat.mul_div_cancel _ hzp] at this
          · exact Nat.le_refl _
        obtain ⟨hrun, hle, q1, q2, q3, q4, q5⟩ := bounds_run (P := P) hm ht (sl := true) hcc hn h1 h2 h3 hok hb w
        have hhc : hh ≤ c := by
          cases hi with
          | false => rw [q1 rfl]; exact hn
          | true => exact Nat.le_trans (q2 rfl) hcc
        have hmc : hh ≤ m.getD c ∧ m.getD c ≤ c := by
          cases m with
          | none => exact ⟨hhc, Nat.le_refl _⟩
          | some x => have := q3 x rfl; simp; omega
        refine .same I (hexec e1 hrun) ?_
        refine .msl b _ _ sz vl _ blk base pz (m.getD c - l) _ hj (by omega) ?_ ?_
        · have hsub : (m.getD c - l) * sz + l * sz = m.getD c * sz := by rw [← Nat.add_mul]; congr 1; omega
          have hml : m.getD c * sz ≤ c * sz := Nat.mul_le_mul_right _ hmc.2
          cases m with
          | some x =>
            refine .inr ⟨rfl, ?_⟩
            rcases hcap with ⟨_, hc⟩ | ⟨_, hc⟩ <;> simp at hsub hml ⊢ <;> omega
          | none =>
            rcases hcap with ⟨rfl, hc⟩ | ⟨rfl, hc⟩
            · exact .inl ⟨rfl, by simp at hsub hml ⊢; omega⟩
            · exact .inr ⟨rfl, by simp at hsub hml ⊢; omega⟩
        · by_cases hml : m.getD c = l
          · left; omega
          · right
            have : ad = some ⟨blk, base + off, none⟩ := had.resolve_left (by omega)
            simp [hml, this, Addr.add_lit, Nat.add_assoc]
      · have hcz : (cap.getD ((0 - 0) / sz)) = 0 := by
          rcases hcap with rfl | rfl <;> simp
        rw [hcz] at hb
        obtain ⟨hrun, hle, q1, q2, q3, q4, q5⟩ := bounds_run (P := P) hm ht (sl := true) (Nat.le_refl 0) (Nat.le_refl 0) h1 h2 h3 hok hb w
        have hh0 : hh = 0 := by
          cases hi with
          | false => exact q1 rfl
          | true => have := q2 rfl; omega
        have hl0 : l = 0 := by omega
        subst hh0; subst hl0
        have hm0 : m.getD 0 = 0 := by
          cases m with
          | none => rfl
          | some x => have := q3 x rfl; simp; omega
        refine .same I (hexec e1 hrun) ?_
        rw [hm0]
        simp only [Nat.zero_mul, Nat.add_zero, Nat.sub_zero, if_true]
        refine .mslN b sz _ ad hj ?_
        cases m with
        | none => rcases hcap with rfl | rfl <;> simp [capAt]
        | some x => have := q3 x rfl; simp [capAt]; omega
    · cases hv
  · cases hty
theorem sim_slca (hm : MidOk fid mid) {n sz : Nat} {lo hi mx : Bool} : Sim P fid mid R o (.slca n sz lo hi mx) := by
  intro ps S S' J M w tm a v' hok I ht h
  cases hop : o.op <;> simp only [okOp, hop] at hok <;> try (cases hok)
  rename_i t ox ol oh om
  simp only [Bool.and_eq_true, beq_iff_eq] at hok
  obtain ⟨⟨⟨⟨hty, h1⟩, h2⟩, h3⟩, h4⟩ := hok
  obtain ⟨p, qs, rfl, hr, hok⟩ := okOpds_cons hm ht h4
  split at hty
  · rename_i n' e hu
    simp only [Bool.and_eq_true, beq_iff_eq] at hty
    obtain ⟨rfl, hsz⟩ := hty
    simp only [List.map_cons, opA] at h
    obtain ⟨v, hv, h⟩ := Option.bind_eq_some_iff.1 h
    cases h
    have hexec : ∀ {ad : Addr} {l hh : Nat} {m : Option Nat}, a.eval ox = .pointer (some ad) → (Instr.sliceBounds false n' n' (ol.map a.eval) (oh.map a.eval) (om.map a.eval)).run P w = .ok (l, hh, m.getD n') w →
        (execOp a.eval o).run P w = .ok (.value (.slice (some (if m.getD n' = l then ad else ad.add (l * sz))) (hh - l) (m.getD n' - l))) w := by
      intro ad l hh m e1 e2
      simp [execOp, hop, e1, Instr.sliceAt, run_underlying hu, Instr.sureAddr, e2, szIs_run hsz]
    unfold sliceArr at hv
    split at hv
    · rename_i b off vl hpe
      obtain ⟨⟨l, hh, m⟩, hb, hv⟩ := Option.bind_eq_some_iff.1 hv
      replace hv := chk_some.1 hv; obtain ⟨⟨hfit, hzp⟩, hv⟩ := hv
      cases hv
      rw [hpe] at hr
      obtain ⟨blk, base, pz, hj, e1⟩ := hr.mptr_inv
      have hvp := I.jps _ _ _ _ _ hj
      obtain ⟨hrun, hle, q1, q2, q3, q4, q5⟩ := bounds_run (P := P) hm ht (sl := false) (Nat.le_refl n') (Nat.le_refl n') h1 h2 h3 hok hb w
      have hhc : hh ≤ n' := by
        cases hi with
        | false => rw [q1 rfl]; exact Nat.le_refl _
        | true => exact q2 rfl
      have hmc : hh ≤ m.getD n' ∧ m.getD n' ≤ n' := by
        cases m with
        | none => exact ⟨hhc, Nat.le_refl _⟩
        | some x => have := q3 x rfl; simp; omega
      refine .same I (hexec e1 hrun) ?_
      refine .msl b _ _ sz vl _ blk base pz (m.getD n' - l) _ hj (by omega) ?_ ?_
      · have hsub : (m.getD n' - l) * sz + l * sz = m.getD n' * sz := by rw [← Nat.add_mul]; congr 1; omega
        have hml : m.getD n' * sz ≤ n' * sz := Nat.mul_le_mul_right _ hmc.2
        cases m with
        | some x => exact .inr ⟨rfl, by simp at hsub hml ⊢; omega⟩
        | none => exact .inr ⟨rfl, by simp at hsub hml ⊢; omega⟩
      · by_cases hml : m.getD n' = l
        · left; omega
        · right
          simp [hml, Addr.add_lit, Nat.add_assoc]
    · rename_i cs hpe
      obtain ⟨⟨l, hh, m⟩, hb, hv⟩ := Option.bind_eq_some_iff.1 hv
      replace hv := chk_some.1 hv; obtain ⟨⟨hfit, hzp⟩, hv⟩ := hv
      cases hv
      rw [hpe] at hr
      obtain ⟨blk, off, e1, hc⟩ := hr.fptr_inv
      obtain ⟨hrun, hle, q1, q2, q3, q4, q5⟩ := bounds_run (P := P) hm ht (sl := false) (Nat.le_refl n') (Nat.le_refl n') h1 h2 h3 hok hb w
      have hhc : hh ≤ n' := by
        cases hi with
        | false => rw [q1 rfl]; exact Nat.le_refl _
        | true => exact q2 rfl
      have hmc : hh ≤ m.getD n' ∧ m.getD n' ≤ n' := by
        cases m with
        | none => exact ⟨hhc, Nat.le_refl _⟩
        | some x => have := q3 x rfl; simp; omega
      refine .same I (hexec e1 hrun) (.fr ?_)
      have hlen : (((chunk sz n' (cs.take (n' * sz))).drop l).take (hh - l)).length = hh - l := by simp [chunk_length]; omega
      have hfr : FRep fid M (.sl (((chunk sz n' (cs.take (n' * sz))).drop l).take (hh - l)) sz (tightAt (n' == hh) hh m))
          (.slice (some (if m.getD n' = l then ⟨blk, off, none⟩ else (⟨blk, off, none⟩ : Addr).add (l * sz))) (((chunk sz n' (cs.take (n' * sz))).drop l).take (hh - l)).length (m.getD n' - l)) := by
        refine FRep.sl_mk (by rw [hlen]; omega) ?_ ?_
        · rw [hlen]
          cases m with
          | none => simp only [tightAt, beq_iff_eq, Option.getD_none]; rintro rfl; rfl
          | some x => simp only [tightAt, beq_iff_eq, Option.getD_some]; rintro rfl; rfl
        · by_cases hz : hh - l = 0
          · left; exact List.eq_nil_of_length_eq_zero (by rw [hlen, hz])
          · right
            have hml : ¬ m.getD n' = l := by omega
            refine ⟨blk, off + l * sz, by simp [hml, Addr.add_lit], fun i x hx => ?_⟩
            have hi' : i < hh - l := by have := (List.getElem?_eq_some_iff.1 hx).1; rw [hlen] at this; exact this
            rw [List.getElem?_take_of_lt hi', List.getElem?_drop] at hx
            obtain ⟨z1, z2⟩ := chunk_cells (cs := cs.take (n' * sz)) (by simp; omega) (fun _ y hy => by
              obtain ⟨k, hk⟩ := List.mem_iff_getElem?.1 hy
              have hkl : k < n' * sz := by have := (List.getElem?_eq_some_iff.1 hk).1; simp at this; omega
              rw [List.getElem?_take_of_lt hkl] at hk
              obtain ⟨cv, w1, w2⟩ := hc k y hk
              exact w2.cells_of_plain (I.mem _ _ _ w1).2) hx
            refine ⟨z1, fun k y hy => ?_⟩
            have hk' := z2 k y hy
            have hkl : (l + i) * sz + k < n' * sz := by have := (List.getElem?_eq_some_iff.1 hk').1; simp at this; omega
            rw [List.getElem?_take_of_lt hkl] at hk'
            obtain ⟨cv, w1, w2⟩ := hc _ y hk'
            exact ⟨cv, by rw [show off + l * sz + i * sz + k = off + ((l + i) * sz + k) by rw [Nat.add_mul]; omega]; exact w1, w2⟩
      rw [hlen] at hfr
      exact hfr
    · cases hv
  · cases hty
end
section
variable {P : Program} {fid : Nat → FuncId} {mid : FuncId → Option Nat} {S S' : Store} {J : JMap} {M : Mem} {w : World} {tm : List AV} {a : Act} {o : Oper} {ps : List Opd} {v' : AV} {R : RunF}
theorem plain_cells {cv : Value} (h : cv.plain) : cv.cells = #[cv] := by
  cases cv <;> first | rfl | (exact absurd rfl (h.1 _))
theorem one_cell {x : AV} {cv : Value} (hp : cv.plain) (r : ARep fid J M x cv) : CRep fid J M [x] cv.cells ∧ (∀ vs, cv ≠ .tuple vs) := by
  rw [plain_cells hp]
  refine ⟨⟨rfl, fun k y hy => ?_⟩, hp.2⟩
  cases k with
  | zero => simp at hy; subst hy; exact ⟨cv, rfl, hp, r⟩
  | succ k => simp at hy
theorem cells_rep {v : AV} {cv : Value} (hw : v.whole = true) (r : ARep fid J M v cv) : CRep fid J M v.cells cv.cells ∧ (∀ vs, cv ≠ .tuple vs) := by
  cases v with
  | agg cs =>
    obtain ⟨vs, rfl, hs, hq⟩ := r.agg_inv
    exact ⟨⟨hs, hq⟩, by simp⟩
  | any | tup | osl | tl => simp [AV.whole] at hw
  | bool b => exact one_cell (by rw [r.bool_inv]; simp [Value.plain]) r
  | int q n => exact one_cell (by rw [r.int_inv]; simp [Value.plain]) r
  | str s => exact one_cell (by rw [r.str_inv]; simp [Value.plain]) r
  | nilp => exact one_cell (by rw [r.nilp_inv]; simp [Value.plain]) r
  | nilfn =>
    have : cv = .nilFunc := by
      cases r with
      | fr h => cases h; rfl
    exact one_cell (by rw [this]; simp [Value.plain]) r
  | mptr b off vl =>
    obtain ⟨_, _, _, _, e⟩ := r.mptr_inv
    exact one_cell (by rw [e]; simp [Value.plain]) r
  | fptr cs =>
    obtain ⟨_, _, e, _⟩ := r.fptr_inv
    exact one_cell (by rw [e]; simp [Value.plain]) r
  | sl es sz t =>
    obtain ⟨_, _, e, _⟩ := r.sl_inv
    exact one_cell (by rw [e]; simp [Value.plain]) r
  | msl b off n sz vl cap =>
    rcases r.msl_inv with ⟨_, _, _, _, _, _, _, _, _, e⟩ | ⟨_, _, _, _, _, _, e⟩
    · exact one_cell (by rw [e]; simp [Value.plain]) r
    · exact one_cell (by rw [e]; simp [Value.plain]) r
  | fn f caps =>
    obtain ⟨_, e, _⟩ := r.fn_inv
    exact one_cell (by rw [e]; simp [Value.plain]) r
theorem CRep.mono {J' : JMap} {M' : Mem} {xs : List AV} {vs : Array Value} (h : CRep fid J M xs vs) (hj : J.le J') (hm : M.le M') : CRep fid J' M' xs vs :=
  ⟨h.1, fun k x hx => let ⟨cv, a1, a2, a3⟩ := h.2 k x hx; ⟨cv, a1, a2, a3.mono hj hm⟩⟩
theorem zeroIs_rep {t : TypeId} {z : List AV} (h : zeroIs P t z = true) : ∃ i v, P.info? t = some i ∧ i.zero = some v ∧ v.cells.size = i.size ∧ CRep fid J M z v.cells := by
  unfold zeroIs at h
  split at h
  · rename_i i hi
    split at h
    · rename_i v hv
      simp only [Bool.and_eq_true, beq_iff_eq] at h
      obtain ⟨hl, hq⟩ := okVs_rep (fid := fid) (J := J) (M := M) h.1
      exact ⟨i, v, hi, hv, h.2, ⟨by simpa using hl, by simpa using hq⟩⟩
    · cases h
  · cases h
theorem alloc_block (I : Inv fid S J M w) {cs : List AV} {ex : Bool} {arr : Array Value} {el : TypeId} {w1 : World} (h1 : w1.heap = w.heap.push (.cells arr el (0, 0))) (ho : w1.os = w.os) (ht : w1.tape = w.tape) (hp : w1.output = w.output)
    (hps : cs.length ≤ arr.size) (hex : ex = true → arr.size = cs.length) (hc : ∀ (k : Nat) (x : AV), cs[k]? = some x → ∃ v : Value, arr[k]? = some v ∧ v.plain ∧ ARep fid J M x v) :
    Inv fid (S ++ [.mu cs ex]) (J.put S.length cs.length (some (w.heap.size, 0, arr.size))) M w1 ∧ Step S J M w (S ++ [.mu cs ex]) (J.put S.length cs.length (some (w.heap.size, 0, arr.size))) M w1 := by
  have hf : ∀ i, i < w.heap.size → w1.heap[i]? = w.heap[i]? := fun i hi => by rw [h1, Array.getElem?_push, if_neg (by omega)]
  have hs : w.heap.size ≤ w1.heap.size := by rw [h1]; simp
  have I1 := I.grow hf
  have hh : w1.heap[w.heap.size]? = some (.cells arr el (0, 0)) := by rw [h1]; simp
  have hnw : ¬ Wr S J w.heap.size := fun h => by have := I.wr_lt h; omega
  have hM : ∀ o, M w.heap.size o = none := fun o => by
    cases e : M w.heap.size o with
    | none => rfl
    | some v => have := I.mem_lt e; omega
  exact ⟨I1.reg hh hnw hM (by simp) hps (fun e => by rw [hex e]) (by simpa using hc),
    ((Step.refl S J M w).grow hf hs ho ht hp).reg I.fresh (Nat.le_refl _)⟩
theorem sim_alloc (hm : MidOk fid mid) {z : List AV} : Sim P fid mid R o (.alloc z) := by
  intro ps S S' J M w tm a v' hok I ht h
  cases hop : o.op <;> simp only [okOp, hop] at hok <;> try (cases hok)
  rename_i t
  simp only [Bool.and_eq_true] at hok
  have hps : ps = [] := by simpa using hok.2
  subst hps
  simp only [List.map_nil, opA] at h
  cases h
  obtain ⟨i, v, hi, hv, hsz, hz⟩ := zeroIs_rep (fid := fid) (J := J) (M := M) hok.1
  obtain ⟨I1, st⟩ := alloc_block (w1 := w.alloc (.cells v.cells t)) I (cs := z) (ex := true) rfl rfl rfl rfl (by rw [hz.1]; exact Nat.le_refl _) (fun _ => hz.1) hz.2
  exact ⟨.pointer (some ⟨w.heap.size, 0, none⟩), _, M, w.alloc (.cells v.cells t), .inl (by simp [execOp, hop, Instr.alloc, zeroValue, typeInfo, hi, hv, newVar, newRow]), I1, st,
    ARep.mptr _ 0 _ w.heap.size 0 _ (JMap.put_self ..)⟩
theorem sim_box (hm : MidOk fid mid) {n : Nat} : Sim P fid mid R o (.box n) := by
  intro ps S S' J M w tm a v' hok I ht h
  cases hop : o.op <;> simp only [okOp, hop] at hok <;> try (cases hok)
  rename_i t ox
  simp only [Bool.and_eq_true] at hok
  obtain ⟨x, hx, hr⟩ := okOpds1 hm ht hok.2
  rw [hx] at h
  simp only [opA] at h
  replace h := chk_some.1 h; obtain ⟨⟨hw, hl⟩, h⟩ := h
  cases h
  obtain ⟨hc, _⟩ := cells_rep hw hr
  obtain ⟨I1, st⟩ := alloc_block (w1 := w.alloc (.cells (a.eval ox).cells t)) I (cs := x.cells) (ex := true) rfl rfl rfl rfl (by rw [hc.1]; exact Nat.le_refl _) (fun _ => hc.1) hc.2
  refine ⟨.pointer (some ⟨w.heap.size, 0, none⟩), _, M, w.alloc (.cells (a.eval ox).cells t), .inl (by simp [execOp, hop, Instr.box, newVar, newRow]), I1, st, ?_⟩
  rw [← hl]
  exact ARep.mptr _ 0 _ w.heap.size 0 _ (JMap.put_self ..)
theorem sim_own (hm : MidOk fid mid) {sz : Nat} : Sim P fid mid R o (.own sz) := by
  intro ps S S' J M w tm a v' hok I ht h
  cases hop : o.op <;> simp only [okOp, hop] at hok <;> try (cases hok)
  all_goals
    rename_i ox
    obtain ⟨x, hx, hr⟩ := okOpds1 hm ht hok
    rw [hx] at h
    cases x <;> simp only [opA] at h <;> try (cases h)
    rename_i es sz' t
    cases es with
    | cons e es => simp at h
    | nil =>
      cases t with
      | false => simp at h
      | true =>
        simp only at h
        replace h := chk_some.1 h; obtain ⟨hz, h⟩ := h
        cases h
        obtain ⟨ad, c, e1, _, ht1, _⟩ := hr.sl_inv
        have hc0 := ht1 rfl
        simp only [List.length_nil] at hc0
        subst hc0
        exact ⟨.slice ad 0 0, _, M, w, .inl (by simp [execOp, hop, e1]), I.regN, (Step.refl S J M w).regN I.fresh, ARep.mslN _ sz none ad (JMap.put_self ..) (.inl rfl)⟩
theorem foldl_get (off : Nat) : ∀ (l : List Value) (j : Nat) (arr : Array Value), ((l.zipIdx j).foldl (fun cs (x : Value × Nat) => cs.setIfInBounds (off + x.2) x.1) arr).size = arr.size ∧
    ∀ k, ((l.zipIdx j).foldl (fun cs (x : Value × Nat) => cs.setIfInBounds (off + x.2) x.1) arr)[k]? = if off + j ≤ k ∧ k < off + j + l.length ∧ k < arr.size then l[k - (off + j)]? else arr[k]?
  | [], j, arr => ⟨rfl, fun k => by simp; omega⟩
  | v :: l, j, arr => by
    obtain ⟨h1, h2⟩ := foldl_get off l (j + 1) (arr.setIfInBounds (off + j) v)
    refine ⟨by simp only [List.zipIdx_cons, List.foldl_cons]; rw [h1]; simp, fun k => ?_⟩
    simp only [List.zipIdx_cons, List.foldl_cons]
    rw [h2 k]
    by_cases hk : k = off + j
    · subst hk
      by_cases hs : off + j < arr.size
      · rw [if_neg (by omega), if_pos (by simp; omega)]
        simp [hs]
      · rw [if_neg (by simp; omega), if_neg (by omega)]
        rw [Array.getElem?_eq_none (by simp; omega), Array.getElem?_eq_none (by omega)]
    · by_cases hin : off + (j + 1) ≤ k ∧ k < off + (j + 1) + l.length ∧ k < arr.size
      · rw [if_pos (by simpa using hin), if_pos (by simp; omega)]
        rw [show k - (off + j) = (k - (off + (j + 1))) + 1 by omega]
        simp
      · rw [if_neg (by simpa using hin), if_neg (by simp; omega)]
        rw [Array.getElem?_setIfInBounds_ne (by omega)]
theorem splice_get {cs : List AV} {off : Nat} {vs : List AV} (h : off + vs.length ≤ cs.length) (k : Nat) : (splice cs off vs)[k]? = if off ≤ k ∧ k < off + vs.length then vs[k - off]? else cs[k]? := by
  unfold splice
  by_cases h1 : k < off
  · rw [List.getElem?_append_left (by simp; omega), List.getElem?_take_of_lt h1, if_neg (by omega)]
  · rw [List.getElem?_append_right (by simp; omega)]
    have hmin : min off cs.length = off := by omega
    simp only [List.length_take, hmin]
    by_cases h2 : k - off < vs.length
    · rw [List.getElem?_append_left h2, if_pos (by omega)]
    · rw [List.getElem?_append_right (by omega), List.getElem?_drop, if_neg (by omega)]
      congr 1; omega
theorem splice_length {cs : List AV} {off : Nat} {vs : List AV} (h : off + vs.length ≤ cs.length) : (splice cs off vs).length = cs.length := by
  unfold splice; simp; omega
theorem CRep.fill {cs xs : List AV} {arr : Array Value} {us : Array Value} {off : Nat} (h : CRep fid J M cs arr) (hx : CRep fid J M xs us) (hl : off + xs.length ≤ cs.length) :
    CRep fid J M (splice cs off xs) (us.zipIdx.foldl (fun cs (x : Value × Nat) => cs.setIfInBounds (off + x.2) x.1) arr) := by
  have e : us.zipIdx.foldl (fun cs (x : Value × Nat) => cs.setIfInBounds (off + x.2) x.1) arr = (us.toList.zipIdx 0).foldl (fun cs (x : Value × Nat) => cs.setIfInBounds (off + x.2) x.1) arr := by
    rw [← Array.foldl_toList]; simp
  rw [e]
  obtain ⟨h1, h2⟩ := foldl_get off us.toList 0 arr
  refine ⟨by rw [h1, h.1, splice_length hl], fun k x hk => ?_⟩
  rw [splice_get hl] at hk
  rw [h2 k]
  have hus : us.toList.length = xs.length := by simpa using hx.1
  by_cases hin : off ≤ k ∧ k < off + xs.length
  · rw [if_pos hin] at hk
    obtain ⟨cv, a1, a2, a3⟩ := hx.2 _ x hk
    refine ⟨cv, ?_, a2, a3⟩
    rw [if_pos (by rw [hus, h.1]; omega)]
    simpa using a1
  · rw [if_neg hin] at hk
    obtain ⟨cv, a1, a2, a3⟩ := h.2 _ x hk
    refine ⟨cv, ?_, a2, a3⟩
    rw [if_neg (by rw [hus]; omega)]
    exact a1
theorem fill_rep {place : Nat → Option (Nat × Nat)} : ∀ {pl : List (Nat × Nat)} {vs : List AV} {cs cs' : List AV} {arr : Array Value} {parts : List (Nat × Value)}, fillA pl vs cs = some cs' → CRep fid J M cs arr →
    parts.length = pl.length → (∀ k, (h : k < parts.length) → (h' : k < pl.length) → place parts[k].1 = some pl[k]) → (∀ (k : Nat) (x : AV), vs[k]? = some x → ∃ p : Nat × Value, parts[k]? = some p ∧ ARep fid J M x p.2) →
    ∃ arr', Instr.fill place arr parts = some arr' ∧ CRep fid J M cs' arr'
  | [], [], cs, cs', arr, parts, h, hc, hl, hp, hq => by
    simp only [fillA] at h; cases h
    have : parts = [] := List.eq_nil_of_length_eq_zero hl
    subst this
    exact ⟨arr, rfl, hc⟩
  | [], _ :: _, _, _, _, _, h, _, _, _, _ => by simp [fillA] at h
  | _ :: _, [], _, _, _, _, h, _, _, _, _ => by simp [fillA] at h
  | (off, n) :: pl, v :: vs, cs, cs', arr, parts, h, hc, hl, hp, hq => by
    simp only [fillA] at h
    obtain ⟨⟨hw, hn, hfit⟩, h⟩ := chk_some.1 h
    cases parts with
    | nil => simp at hl
    | cons p parts =>
      obtain ⟨p', hp', hr⟩ := hq 0 v rfl
      simp at hp'; subst hp'
      obtain ⟨hcr, _⟩ := cells_rep hw hr
      obtain ⟨arr', h1, h2⟩ := fill_rep (place := place) h (hc.fill hcr (by omega)) (parts := parts) (by simpa using hl) (fun k hk hk' => by
        have := hp (k + 1) (by simp; omega) (by simp; omega)
        simpa using this) (fun k x hx => by simpa using hq (k + 1) x (by simpa using hx))
      refine ⟨arr', ?_, h2⟩
      have hpl := hp 0 (by simp) (by simp)
      simp only [List.getElem_cons_zero] at hpl
      obtain ⟨i, pv⟩ := p
      simp only at hpl hr hcr h1
      have hsz : pv.cells.size = n := by rw [hcr.1, hn]
      have hb : ¬ (off + pv.cells.size > arr.size) := by rw [hsz, hc.1]; omega
      simp only [Instr.fill, hpl]
      rw [if_neg (by simp [hsz]; rw [hc.1]; omega)]
      exact h1
theorem build_rep {parts : Array (Nat × Operand)} {a : Act} {vs : List AV} (hl : (parts.toList.map (·.2)).length = vs.length) (hq : ∀ (k : Nat) (v : AV), vs[k]? = some v → ∃ x, (parts.toList.map (·.2))[k]? = some x ∧ ARep fid J M v (a.eval x)) :
    ∀ (k : Nat) (x : AV), vs[k]? = some x → ∃ p : Nat × Value, (parts.toList.map fun p => (p.1, a.eval p.2))[k]? = some p ∧ ARep fid J M x p.2 := by
  intro k x hx
  obtain ⟨y, hy, hr⟩ := hq k x hx
  rw [List.getElem?_map] at hy
  obtain ⟨p, hp, e⟩ := Option.map_eq_some_iff.1 hy
  exact ⟨(p.1, a.eval p.2), by rw [List.getElem?_map, hp]; rfl, by subst e; exact hr⟩
theorem placesAre_get {fs : Array Field} : ∀ {pl : List (Nat × Nat)} {is : List Nat}, placesAre P fs.toList pl is = true → is.length = pl.length ∧ ∀ (k : Nat) (h : k < is.length) (h' : k < pl.length), ∃ f, fs[is[k]]? = some f ∧ f.offset = pl[k].1 ∧ szIs P f.type pl[k].2 = true
  | [], [], _ => ⟨rfl, fun k h => by simp at h⟩
  | [], _ :: _, h => by simp [placesAre] at h
  | (_, _) :: _, [], h => by simp [placesAre] at h
  | (off, n) :: pl, i :: is, h => by
    simp only [placesAre, Bool.and_eq_true] at h
    obtain ⟨h0, h1⟩ := h
    obtain ⟨e1, e2⟩ := placesAre_get h1
    refine ⟨by simp [e1], fun k hk hk' => ?_⟩
    cases k with
    | zero =>
      split at h0
      · rename_i f hf
        simp only [Bool.and_eq_true, beq_iff_eq] at h0
        exact ⟨f, by simpa using hf, h0.1, h0.2⟩
      · cases h0
    | succ k => simpa using e2 k (by simpa using hk) (by simpa using hk')
theorem rowsAre_get {sz : Nat} : ∀ {pl : List (Nat × Nat)} {is : List Nat}, rowsAre sz pl is = true → is.length = pl.length ∧ ∀ (k : Nat) (h : k < is.length) (h' : k < pl.length), pl[k] = (is[k] * sz, sz)
  | [], [], _ => ⟨rfl, fun k h => by simp at h⟩
  | [], _ :: _, h => by simp [rowsAre] at h
  | (_, _) :: _, [], h => by simp [rowsAre] at h
  | (off, n) :: pl, i :: is, h => by
    simp only [rowsAre, Bool.and_eq_true, beq_iff_eq] at h
    obtain ⟨⟨h0, h0'⟩, h1⟩ := h
    obtain ⟨e1, e2⟩ := rowsAre_get h1
    refine ⟨by simp [e1], fun k hk hk' => ?_⟩
    cases k with
    | zero => simp [h0, h0']
    | succ k => simpa using e2 k (by simpa using hk) (by simpa using hk')
end
section
variable {P : Program} {fid : Nat → FuncId} {mid : FuncId → Option Nat} {S S' : Store} {J : JMap} {M : Mem} {w : World} {tm : List AV} {a : Act} {o : Oper} {ps : List Opd} {v' : AV} {R : RunF}
theorem run_list_mapM {α β : Type} (f : α → Sem β) (g : α → β) (w : World) : ∀ (l : List α), (∀ x ∈ l, (f x).run P w = .ok (g x) w) → (l.mapM f).run P w = .ok (l.map g) w
  | [], _ => by simp
  | x :: l, h => by
    rw [List.mapM_cons]
    have ih := run_list_mapM f g w l (fun y hy => h y (List.mem_cons_of_mem _ hy))
    simp only [Sem.run_bind, h x (List.mem_cons_self ..), Result.andThen_ok, ih, Sem.run_pure, List.map_cons]
theorem run_array_mapM {α β : Type} (f : α → Sem β) (g : α → β) (w : World) (xs : Array α) (h : ∀ x ∈ xs.toList, (f x).run P w = .ok (g x) w) : (xs.mapM f).run P w = .ok (xs.map g) w := by
  rw [Array.mapM_eq_mapM_toList]
  simp only [Sem.run_map, run_list_mapM f g w xs.toList h, Result.andThen_ok]
  congr 1
  apply Array.ext'
  simp
theorem sim_build (hm : MidOk fid mid) {z : List AV} {pl : List (Nat × Nat)} : Sim P fid mid R o (.build z pl) := by
  intro ps S S' J M w tm a v' hok I ht h
  cases hop : o.op <;> simp only [okOp, hop] at hok <;> try (cases hok)
  rename_i t parts
  simp only [Bool.and_eq_true] at hok
  obtain ⟨⟨hz, h4⟩, hty⟩ := hok
  simp only [opA] at h
  obtain ⟨cs, hf, h⟩ := Option.bind_eq_some_iff.1 h
  cases h
  obtain ⟨i, v, hi, hv, hsz, hcz⟩ := zeroIs_rep (fid := fid) (J := J) (M := M) hz
  obtain ⟨hl, hq⟩ := okOpds_rep hm ht h4
  have hl' : (parts.toList.map (·.2)).length = (ps.map (·.ev tm)).length := by rw [hl]; simp
  have hb := build_rep (parts := parts) (a := a) hl' hq
  have hzero : ∀ w, (zeroValue t).run P w = .ok v w := fun w => by simp [zeroValue, typeInfo, hi, hv]
  have e0 : (parts.map fun (x : Nat × Operand) => (x.1, a.eval x.2)).toList = parts.toList.map fun p => (p.1, a.eval p.2) := by simp
  have fin : ∀ place : Nat → Option (Nat × Nat), (∀ k, (h : k < (parts.toList.map fun p => (p.1, a.eval p.2)).length) → (h' : k < pl.length) → place (parts.toList.map fun p => (p.1, a.eval p.2))[k].1 = some pl[k]) →
      (parts.toList.map fun p => (p.1, a.eval p.2)).length = pl.length → ∃ arr, Instr.fill place v.cells (parts.toList.map fun p => (p.1, a.eval p.2)) = some arr ∧ CRep fid J M cs arr := fun place h1 h2 => fill_rep hf hcz h2 h1 hb
  split at hty
  · rename_i fs hu
    simp only [Bool.and_eq_true] at hty
    obtain ⟨hp, hall⟩ := hty
    obtain ⟨hl2, hg⟩ := placesAre_get (fs := fs) hp
    have hrun := run_array_mapM (P := P) (fun f : Field => Prod.mk f.offset <$> sizeOf f.type) (fun f => (f.offset, ((P.info? f.type).map (·.size)).getD 0)) w fs (fun f hf => by
      have := List.all_eq_true.1 hall f hf
      obtain ⟨i', hi'⟩ := Option.isSome_iff_exists.1 this
      simp [sizeOf, typeInfo, hi'])
    obtain ⟨arr, h1, h2⟩ := fin (fun k => (fs.map fun f => (f.offset, ((P.info? f.type).map (·.size)).getD 0))[k]?) (fun k hk hk' => by
      obtain ⟨f, e1, e2, e3⟩ := hg k (by simpa using hk) hk'
      simp only [List.getElem_map] at e1 ⊢
      rw [Array.getElem?_map, e1]
      have : ((P.info? f.type).map (·.size)).getD 0 = pl[k].2 := by
        unfold szIs at e3
        split at e3
        · rename_i i' hi'; rw [hi']; simpa using e3
        · cases e3
      simp only [Option.map_some, this, e2]) (by simpa using hl2)
    refine .same I (cv := .agg arr) ?_ (ARep.agg_mk h2.1 h2.2)
    simp only [execOp, hop, Instr.build, bind_pure_comp, Sem.run_bind, hzero, Result.andThen_ok, run_underlying hu, Sem.run_map]
    rw [hrun]
    simp only [Result.andThen_ok, Array.toList_map]
    rw [h1]
    simp
  · rename_i n e hu
    split at hty
    · rename_i i' hi'
      obtain ⟨hl2, hg⟩ := rowsAre_get hty
      obtain ⟨arr, h1, h2⟩ := fin (fun k => some (k * i'.size, i'.size)) (fun k hk hk' => by
        rw [hg k (by simpa using hk) hk']; simp) (by simpa using hl2)
      refine .same I (cv := .agg arr) ?_ (ARep.agg_mk h2.1 h2.2)
      simp only [execOp, hop, Instr.build, bind_pure_comp, Sem.run_bind, hzero, Result.andThen_ok, run_underlying hu, Sem.run_map]
      simp [sizeOf, typeInfo, hi', h1]
    · cases hty
  · cases hty
def ERep (fid : Nat → FuncId) (J : JMap) (M : Mem) (sz : Nat) (es : List AV) (arr : Array Value) : Prop :=
  arr.size = es.length * sz ∧ ∀ (i : Nat) (e : AV), es[i]? = some e → e.cells.length = sz ∧ ∀ (k : Nat) (x : AV), e.cells[k]? = some x → ∃ cv : Value, arr[i * sz + k]? = some cv ∧ cv.plain ∧ ARep fid J M x cv
theorem elt_cells {sz : Nat} {v : AV} {us : Array Value} (hl : v.cells.length = sz) (hc : CRep fid J M v.cells us) : (elt sz v).cells = v.cells := by
  unfold elt
  split
  · rename_i h1
    cases hv : v.cells with
    | nil => rw [hv] at hl; simp at hl; omega
    | cons x xs =>
      have hxs : xs = [] := by rw [hv] at hl; simp at hl; exact List.eq_nil_of_length_eq_zero (by omega)
      subst hxs
      obtain ⟨cv, _, hp, hr⟩ := hc.2 0 x (by rw [hv]; rfl)
      simp [hr.cells_of_plain hp]
  · rfl
theorem ERep.fill {sz : Nat} {es : List AV} {arr : Array Value} (h : ERep fid J M sz es arr) {i : Nat} {v : AV} {us : Array Value} (hi : i < es.length) (hl : v.cells.length = sz) (hc : CRep fid J M v.cells us) :
    ERep fid J M sz (es.set i (elt sz v)) (us.zipIdx.foldl (fun cs (x : Value × Nat) => cs.setIfInBounds (i * sz + x.2) x.1) arr) := by
  have e : us.zipIdx.foldl (fun cs (x : Value × Nat) => cs.setIfInBounds (i * sz + x.2) x.1) arr = (us.toList.zipIdx 0).foldl (fun cs (x : Value × Nat) => cs.setIfInBounds (i * sz + x.2) x.1) arr := by
    rw [← Array.foldl_toList]; simp
  rw [e]
  obtain ⟨h1, h2⟩ := foldl_get (i * sz) us.toList 0 arr
  have hus : us.toList.length = sz := by rw [← hl]; simpa using hc.1
  refine ⟨by rw [h1, h.1, List.length_set], fun j e' he' => ?_⟩
  have hbi : i * sz + sz ≤ es.length * sz := by rw [← Nat.succ_mul]; exact Nat.mul_le_mul_right _ hi
  by_cases hij : i = j
  · subst hij
    rw [List.getElem?_set_self hi] at he'; cases he'
    rw [elt_cells hl hc]
    refine ⟨hl, fun k x hk => ?_⟩
    have hk' : k < sz := by have := (List.getElem?_eq_some_iff.1 hk).1; omega
    obtain ⟨cv, a1, a2, a3⟩ := hc.2 k x hk
    refine ⟨cv, ?_, a2, a3⟩
    rw [h2, if_pos (by rw [hus, h.1]; omega)]
    simp only [Nat.add_zero]
    rw [show i * sz + k - i * sz = k by omega]
    simpa using a1
  · rw [List.getElem?_set_ne hij] at he'
    obtain ⟨b1, b2⟩ := h.2 j e' he'
    refine ⟨b1, fun k x hk => ?_⟩
    have hk' : k < sz := by have := (List.getElem?_eq_some_iff.1 hk).1; omega
    obtain ⟨cv, a1, a2, a3⟩ := b2 k x hk
    refine ⟨cv, ?_, a2, a3⟩
    rw [h2, if_neg ?_]
    · exact a1
    · rw [hus]
      rintro ⟨c1, c2, _⟩
      rcases Nat.lt_or_gt_of_ne hij with hlt | hgt
      · have : (i + 1) * sz ≤ j * sz := Nat.mul_le_mul_right _ hlt
        rw [Nat.succ_mul] at this; omega
      · have : (j + 1) * sz ≤ i * sz := Nat.mul_le_mul_right _ hgt
        rw [Nat.succ_mul] at this; omega
theorem fillE_length {sz : Nat} : ∀ {ix : List Nat} {vs es es' : List AV}, fillE sz ix vs es = some es' → es'.length = es.length
  | [], [], es, es', h => by simp only [fillE] at h; cases h; rfl
  | [], _ :: _, _, _, h => by simp [fillE] at h
  | _ :: _, [], _, _, h => by simp [fillE] at h
  | i :: ix, v :: vs, es, es', h => by
    simp only [fillE] at h
    obtain ⟨_, h⟩ := chk_some.1 h
    rw [fillE_length h, List.length_set]
theorem fillE_rep {sz : Nat} : ∀ {ix : List Nat} {vs es es' : List AV} {arr : Array Value} {parts : List (Nat × Value)}, fillE sz ix vs es = some es' → ERep fid J M sz es arr →
    parts.map (·.1) = ix → (∀ (k : Nat) (x : AV), vs[k]? = some x → ∃ p : Nat × Value, parts[k]? = some p ∧ ARep fid J M x p.2) →
    ∃ arr', Instr.fill (fun i => some (i * sz, sz)) arr parts = some arr' ∧ ERep fid J M sz es' arr'
  | [], [], es, es', arr, parts, h, he, hl, hq => by
    simp only [fillE] at h; cases h
    have : parts = [] := by simpa using hl
    subst this
    exact ⟨arr, rfl, he⟩
  | [], _ :: _, _, _, _, _, h, _, _, _ => by simp [fillE] at h
  | _ :: _, [], _, _, _, _, h, _, _, _ => by simp [fillE] at h
  | i :: ix, v :: vs, es, es', arr, parts, h, he, hl, hq => by
    simp only [fillE] at h
    obtain ⟨⟨hw, hn, hi⟩, h⟩ := chk_some.1 h
    cases parts with
    | nil => simp at hl
    | cons p parts =>
      obtain ⟨p', hp', hr⟩ := hq 0 v rfl
      simp at hp'; subst hp'
      obtain ⟨hcr, _⟩ := cells_rep hw hr
      simp only [List.map_cons, List.cons.injEq] at hl
      obtain ⟨arr', h1, h2⟩ := fillE_rep h (he.fill hi hn hcr) (parts := parts) hl.2 (fun k x hx => by simpa using hq (k + 1) x (by simpa using hx))
      refine ⟨arr', ?_, h2⟩
      obtain ⟨i', pv⟩ := p
      simp only at hl hr hcr h1
      rw [hl.1]
      have hsz : pv.cells.size = sz := by rw [hcr.1, hn]
      simp only [Instr.fill]
      rw [if_neg ?_]
      · exact h1
      · simp [hsz]
        have : (i + 1) * sz ≤ es.length * sz := Nat.mul_le_mul_right _ hi
        rw [Nat.succ_mul] at this
        rw [he.1]; omega
theorem fillE_mem {sz : Nat} : ∀ {ix : List Nat} {vs es es' : List AV}, fillE sz ix vs es = some es' → ∀ {e : AV}, e ∈ es' → e ∈ es ∨ ∃ v ∈ vs, e = elt sz v ∧ v.whole = true ∧ v.cells.length = sz
  | [], [], es, es', h, e, he => by simp only [fillE] at h; cases h; exact .inl he
  | [], _ :: _, _, _, h, _, _ => by simp [fillE] at h
  | _ :: _, [], _, _, h, _, _ => by simp [fillE] at h
  | i :: ix, v :: vs, es, es', h, e, he => by
    simp only [fillE] at h
    obtain ⟨⟨hw, hn, hi⟩, h⟩ := chk_some.1 h
    rcases fillE_mem h he with h1 | ⟨u, hu, r⟩
    · rcases List.mem_or_eq_of_mem_set h1 with h2 | h2
      · exact .inl h2
      · exact .inr ⟨v, List.mem_cons_self .., h2, hw, hn⟩
    · exact .inr ⟨u, List.mem_cons_of_mem _ hu, r⟩
theorem fzc_nrc {S : Store} {fuel : Nat} {v v' : AV} (h : nrc v = true) (e : fzc S fuel v = some v') : nrc v' = true := by
  cases v <;> simp [nrc] at h <;> cases fuel <;> simp only [fzc] at e <;> cases e <;> rfl
theorem nrc_nr1 {v : AV} (h : nrc v = true) : nr1 v = true := by
  cases v <;> simp [nrc] at h <;> rfl
theorem fz1_nr {S : Store} {v v' : AV} (h : nr1 v = true) (e : fz1 S v = some v') : ∀ x ∈ v'.cells, nr1 x = true := by
  unfold fz1 at e
  split at e
  · rename_i cs
    obtain ⟨cs', hc, e⟩ := Option.bind_eq_some_iff.1 e
    cases e
    intro x hx
    obtain ⟨k, hk⟩ := List.mem_iff_getElem?.1 hx
    obtain ⟨y, hy, hfy⟩ := mapM_inv hc hk
    exact nrc_nr1 (fzc_nrc (List.all_eq_true.1 h y (List.mem_of_getElem? hy)) hfy)
  · cases v with
    | fn f caps =>
      simp only [fzDepth, fzc] at e
      obtain ⟨cs', hc, e⟩ := Option.bind_eq_some_iff.1 e
      cases e
      intro x hx
      simp only [AV.cells, List.mem_singleton] at hx
      subst hx
      refine List.all_eq_true.2 fun y hy => ?_
      obtain ⟨k, hk⟩ := List.mem_iff_getElem?.1 hy
      obtain ⟨z, hz, hfz⟩ := mapM_inv hc hk
      exact fzc_nrc (List.all_eq_true.1 h z (List.mem_of_getElem? hz)) hfz
    | agg cs => rename_i hna; exact absurd rfl (hna cs)
    | _ =>
      simp only [fzDepth, fzc] at e <;> first
        | (cases e; intro x hx; simp only [AV.cells, List.mem_singleton] at hx; subst hx; rfl)
        | (simp [nr1, nrc] at h)
        | cases e
theorem okVs_nr : ∀ {vs : List Value} {xs : List AV}, okVs vs xs = true → ∀ x ∈ xs, nr1 x = true
  | [], [], _ => fun x hx => by cases hx
  | v :: vs, x :: xs, h => fun y hy => by
    simp only [okVs, Bool.and_eq_true] at h
    rcases List.mem_cons.1 hy with rfl | hy
    · have h1 := h.1.1
      have h2 := h.1.2
      unfold okV at h1
      split at h1 <;> first | rfl | (simp [Value.oneCell'] at h2; done) | cases h1
    · exact okVs_nr h.2 y hy
theorem zeroIs_nr {t : TypeId} {z : List AV} (h : zeroIs P t z = true) : ∀ x ∈ z, nr1 x = true := by
  unfold zeroIs at h
  split at h
  · split at h
    · simp only [Bool.and_eq_true] at h
      exact okVs_nr h.1
    · cases h
  · cases h
theorem ERep.cells {sz : Nat} (hz : 0 < sz) {es : List AV} {arr : Array Value} (h : ERep fid J M sz es arr) : (es.flatMap AV.cells).length = arr.size ∧ ∀ (k : Nat) (x : AV), (es.flatMap AV.cells)[k]? = some x → ∃ v : Value, arr[k]? = some v ∧ v.plain ∧ ARep fid J M x v := by
  have key : ∀ (es : List AV) (base : Nat), (∀ (i : Nat) (e : AV), es[i]? = some e → e.cells.length = sz ∧ ∀ (k : Nat) (x : AV), e.cells[k]? = some x → ∃ cv : Value, arr[base + i * sz + k]? = some cv ∧ cv.plain ∧ ARep fid J M x cv) →
      (es.flatMap AV.cells).length = es.length * sz ∧ ∀ (k : Nat) (x : AV), (es.flatMap AV.cells)[k]? = some x → ∃ v : Value, arr[base + k]? = some v ∧ v.plain ∧ ARep fid J M x v := by
    intro es
    induction es with
    | nil => intro base _; exact ⟨by simp, fun k x hx => by simp at hx⟩
    | cons e es ih =>
      intro base hq
      obtain ⟨h1, h2⟩ := hq 0 e rfl
      obtain ⟨h3, h4⟩ := ih (base + sz) (fun i e' he' => by
        obtain ⟨b1, b2⟩ := hq (i + 1) e' (by simpa using he')
        refine ⟨b1, fun k x hx => ?_⟩
        have := b2 k x hx
        rwa [Nat.succ_mul, show base + (i * sz + sz) + k = base + sz + i * sz + k by omega] at this)
      refine ⟨by simp only [List.flatMap_cons, List.length_append, h1, h3, List.length_cons, Nat.succ_mul]; omega, fun k x hx => ?_⟩
      rw [List.flatMap_cons] at hx
      by_cases hk : k < e.cells.length
      · rw [List.getElem?_append_left hk] at hx
        simpa using h2 k x hx
      · rw [List.getElem?_append_right (by omega), h1] at hx
        have := h4 _ x hx
        rwa [show base + sz + (k - sz) = base + k by omega] at this
  obtain ⟨k1, k2⟩ := key es 0 (fun i e he => by simpa using h.2 i e he)
  exact ⟨by rw [k1, h.1], by simpa using k2⟩
noncomputable def Mem.add (M : Mem) (blk : Nat) (arr : Array Value) : Mem := fun b o => if b = blk then arr[o]? else M b o
theorem frozen_block (I : Inv fid S J M w) {arr : Array Value} {el : TypeId} {w1 : World} (h1 : w1.heap = w.heap.push (.cells arr el (0, 0))) (ho : w1.os = w.os) (ht : w1.tape = w.tape) (hp : w1.output = w.output)
    (hc : ∀ (k : Nat) (v : Value), arr[k]? = some v → v.plain) :
    Inv fid S J (M.add w.heap.size arr) w1 ∧ Step S J M w S J (M.add w.heap.size arr) w1 ∧ M.le (M.add w.heap.size arr) := by
  have hf : ∀ i, i < w.heap.size → w1.heap[i]? = w.heap[i]? := fun i hi => by rw [h1, Array.getElem?_push, if_neg (by omega)]
  have hh : w1.heap[w.heap.size]? = some (.cells arr el (0, 0)) := by rw [h1]; simp
  have hle : M.le (M.add w.heap.size arr) := fun b o v h => by
    unfold Mem.add
    rw [if_neg (by have := I.mem_lt h; omega)]
    exact h
  obtain ⟨a1, a2⟩ := after_keep (M' := M.add w.heap.size arr) I hle (fun b o v h => by
      unfold Mem.add at h
      split at h
      · right; omega
      · exact .inl h) (fun b o v h => by
      unfold Mem.add at h
      split at h
      · rename_i hb; subst hb; exact ⟨cell_of_arr hh h, hc _ _ h⟩
      · obtain ⟨e1, e2⟩ := I.mem _ _ _ h
        exact ⟨(cell_same (hf b (cell_lt e1)) o).trans e1, e2⟩) hf (by rw [h1]; simp) ho ht hp
  exact ⟨a1, a2, hle⟩
theorem zeros_rep {sz len : Nat} {z : AV} {t : TypeId} (hz : zeroIs P t z.cells = true) (hs : szIs P t sz = true) (hl : z.cells.length = sz) (hpos : 0 < sz) : ∃ i v, P.info? t = some i ∧ i.zero = some v ∧ i.size = sz ∧ v.cells.size = sz ∧
    ERep fid J M sz (List.replicate len z) ((Array.range (len * sz)).map (v.cells[· % v.cells.size]!)) := by
  obtain ⟨i, v, hi, hv, hsz, hc⟩ := zeroIs_rep (fid := fid) (J := J) (M := M) hz
  have his : i.size = sz := by
    unfold szIs at hs; rw [hi] at hs; simpa using hs
  refine ⟨i, v, hi, hv, his, by omega, by simp, fun j e he => ?_⟩
  have hj : j < len := by have := (List.getElem?_eq_some_iff.1 he).1; simpa using this
  rw [List.getElem?_replicate_of_lt hj] at he; cases he
  refine ⟨hl, fun k x hk => ?_⟩
  have hk' : k < sz := by have := (List.getElem?_eq_some_iff.1 hk).1; omega
  obtain ⟨cv, a1, a2, a3⟩ := hc.2 k x hk
  refine ⟨cv, ?_, a2, a3⟩
  have hb : j * sz + k < len * sz := by
    have : (j + 1) * sz ≤ len * sz := Nat.mul_le_mul_right _ hj
    rw [Nat.succ_mul] at this; omega
  have hmod : (j * sz + k) % v.cells.size = k := by
    rw [show v.cells.size = sz by omega, Nat.add_comm, Nat.add_mul_mod_self_right, Nat.mod_eq_of_lt hk']
  rw [Array.getElem?_map, Array.getElem?_range, if_pos hb]
  simp only [Option.map_some, hmod]
  rw [getElem!_pos v.cells k (by omega)]
  rw [Array.getElem?_eq_getElem (by omega)] at a1
  exact a1
theorem run_buildSlice {sz len : Nat} {z : AV} {t e : TypeId} {ix : List Nat} {vs es : List AV} {parts : List (Nat × Value)} (hu : P.underlying t = some (.slice e)) (hz : zeroIs P e z.cells = true) (hs : szIs P e sz = true) (hl : z.cells.length = sz) (hpos : 0 < sz)
    (hcap : len * sz ≤ 16777216) (hf : fillE sz ix vs (List.replicate len z) = some es) (hp : parts.map (·.1) = ix) (hq : ∀ (k : Nat) (x : AV), vs[k]? = some x → ∃ p : Nat × Value, parts[k]? = some p ∧ ARep fid J M x p.2) (w : World) :
    ∃ arr, (Instr.buildSlice t len parts.toArray).run P w = .ok (.slice (some ⟨w.heap.size, 0, none⟩) len len) (w.alloc (.cells arr e)) ∧ ERep fid J M sz es arr := by
  obtain ⟨i, v, hi, hv, his, hvs, hE⟩ := zeros_rep (fid := fid) (J := J) (M := M) (len := len) hz hs hl hpos
  obtain ⟨arr, h1, h2⟩ := fillE_rep hf hE hp hq
  refine ⟨arr, ?_, h2⟩
  have hsz : ∀ w, (sizeOf e).run P w = .ok sz w := fun w => szIs_run hs w
  have hzv : ∀ w, (zeroValue e).run P w = .ok v w := fun w => by simp [zeroValue, typeInfo, hi, hv]
  have hc' : ¬ (16777216 < len * sz) := by omega
  by_cases h0 : len * sz = 0
  · have hz0 : len = 0 := by
      rcases Nat.mul_eq_zero.1 h0 with h | h <;> omega
    subst hz0
    have : parts = [] := by
      cases parts with
      | nil => rfl
      | cons p r =>
        cases ix with
        | nil => simp at hp
        | cons i ix =>
          cases vs with
          | nil => simp [fillE] at hf
          | cons v vs =>
            simp only [fillE, List.replicate_zero] at hf
            have := (chk_some.1 hf).1.2.2
            simp at this
    subst this
    simp only [List.map_nil, Instr.fill, Nat.zero_mul, Array.range_zero', Array.map_empty, Option.some.injEq] at h1
    simp [Instr.buildSlice, run_underlying hu, hsz, newRow, Instr.fill, ← h1, Array.range_zero']
  · simp only [Instr.buildSlice, Sem.run_bind, run_underlying hu, Result.andThen_ok, hsz]
    simp [hc', h0, hzv, h1, newRow]
theorem sim_litm (hm : MidOk fid mid) {sz len : Nat} {z : AV} {ix : List Nat} : Sim P fid mid R o (.litm sz z len ix) := by
  intro ps S S' J M w tm a v' hok I ht h
  cases hop : o.op <;> simp only [okOp, hop] at hok <;> try (cases hok)
  rename_i t n parts
  simp only [Bool.and_eq_true, beq_iff_eq, decide_eq_true_eq] at hok
  obtain ⟨⟨⟨⟨rfl, hix⟩, h4⟩, hcap⟩, hty⟩ := hok
  split at hty
  · rename_i e hu
    simp only [Bool.and_eq_true, beq_iff_eq, decide_eq_true_eq] at hty
    obtain ⟨⟨⟨⟨hs, hz⟩, hl⟩, _⟩, hpos⟩ := hty
    simp only [opA] at h
    obtain ⟨es, hf, h⟩ := Option.bind_eq_some_iff.1 h
    cases h
    obtain ⟨hl', hq⟩ := okOpds_rep hm ht h4
    have hb := build_rep (parts := parts) (a := a) (by rw [hl']; simp) hq
    obtain ⟨arr, h1, h2⟩ := run_buildSlice (P := P) (parts := parts.toList.map fun p => (p.1, a.eval p.2)) hu hz hs hl hpos hcap hf (by rw [hix]; simp) hb w
    obtain ⟨c1, c2⟩ := h2.cells hpos
    have hel := fillE_length hf
    have hsize : arr.size = n * sz := by rw [h2.1, hel]; simp
    obtain ⟨I1, st⟩ := alloc_block (w1 := w.alloc (.cells arr e)) I (cs := es.flatMap AV.cells) (ex := true) rfl rfl rfl rfl (by omega) (fun _ => by omega) c2
    refine ⟨.slice (some ⟨w.heap.size, 0, none⟩) n n, _, M, _, .inl ?_, I1, st, ?_⟩
    · simp only [execOp, hop, Sem.run_bind]
      have : (parts.map fun (x : Nat × Operand) => (x.1, a.eval x.2)) = (parts.toList.map fun p => (p.1, a.eval p.2)).toArray := by apply Array.ext'; simp
      rw [this, h1]
      simp
    · have hlen : (es.flatMap AV.cells).length = n * sz := by omega
      rw [hlen]
      refine ARep.msl S.length 0 n sz (n * sz) none w.heap.size 0 arr.size n _ (JMap.put_self ..) (Nat.le_refl _) (.inl ⟨rfl, by omega⟩) (.inr rfl)
  · cases hty
theorem plain_all {sz : Nat} (hz : 0 < sz) {es : List AV} {arr : Array Value} (h : ERep fid J M sz es arr) : ∀ (k : Nat) (v : Value), arr[k]? = some v → v.plain := by
  intro k v hv
  obtain ⟨h1, h2⟩ := h.cells hz
  have hk := (Array.getElem?_eq_some_iff.1 hv).1
  obtain ⟨u, hu, hp, _⟩ := h2 k _ (List.getElem?_eq_getElem (by omega))
  rw [hv] at hu; cases hu; exact hp
theorem sim_lit (hm : MidOk fid mid) {sz len : Nat} {z : AV} {ix : List Nat} : Sim P fid mid R o (.lit sz z len ix) := by
  intro ps S S' J M w tm a v' hok I ht h
  cases hop : o.op <;> simp only [okOp, hop] at hok <;> try (cases hok)
  rename_i t n parts
  simp only [Bool.and_eq_true, beq_iff_eq, decide_eq_true_eq] at hok
  obtain ⟨⟨⟨⟨rfl, hix⟩, h4⟩, hcap⟩, hty⟩ := hok
  split at hty
  · rename_i e hu
    simp only [Bool.and_eq_true, beq_iff_eq, decide_eq_true_eq] at hty
    obtain ⟨⟨⟨⟨hs, hz⟩, hl⟩, hcan⟩, hpos⟩ := hty
    obtain ⟨hl', hq⟩ := okOpds_rep hm ht h4
    have hb := build_rep (parts := parts) (a := a) (by rw [hl']; simp) hq
    have hparts : (parts.map fun (x : Nat × Operand) => (x.1, a.eval x.2)) = (parts.toList.map fun p => (p.1, a.eval p.2)).toArray := by apply Array.ext'; simp
    simp only [opA] at h
    split at h
    · rename_i hnr
      obtain ⟨vs, hvs, h⟩ := Option.bind_eq_some_iff.1 h
      obtain ⟨es, hf, h⟩ := Option.bind_eq_some_iff.1 h
      cases h
      -- the parts, frozen
      have hbF : ∀ (k : Nat) (x : AV), vs[k]? = some x → ∃ p : Nat × Value, (parts.toList.map fun p => (p.1, a.eval p.2))[k]? = some p ∧ FRep fid M x p.2 := by
        intro k x hx
        obtain ⟨y, hy, hfy⟩ := mapM_inv hvs hx
        obtain ⟨p, hp, hr⟩ := hb k y hy
        have hn1 := List.all_eq_true.1 hnr y (List.mem_of_getElem? hy)
        have := fz1_sound (w := w) I (fun _ => False) hfy (fun b hb => by rw [nr1_ids hn1] at hb; cases hb) hr
        exact ⟨p, hp, by
          have e : Mset S J M w (fun _ => False) = M := by
            funext b o
            unfold Mset
            cases hm : M b o with
            | some v => rfl
            | none =>
              simp only
              rw [if_neg]
              rintro ⟨_, _, _, _, _, hf, _⟩
              exact hf
          rwa [e] at this⟩
      have hall : ∀ e ∈ es, ∀ x ∈ e.cells, nr1 x = true := by
        intro e' he' x hx
        rcases fillE_mem hf he' with h0 | ⟨v, hv, rfl, hvw, hvl⟩
        · have := (List.mem_replicate.1 h0).2
          subst this
          exact zeroIs_nr hz x hx
        · obtain ⟨k, hk⟩ := List.mem_iff_getElem?.1 hv
          obtain ⟨p, _, hpr⟩ := hbF k v hk
          rw [elt_cells (J := J) hvl (cells_rep hvw (ARep.fr hpr)).1] at hx
          obtain ⟨y, hy, hfy⟩ := mapM_inv hvs hk
          exact fz1_nr (List.all_eq_true.1 hnr y (List.mem_of_getElem? hy)) hfy x hx
      obtain ⟨arr, h1, h2⟩ := run_buildSlice (P := P) (fid := fid) (J := J) (M := M) (parts := parts.toList.map fun p => (p.1, a.eval p.2)) hu hz hs hl hpos hcap hf (by rw [hix]; simp) (fun k x hx => let ⟨p, a1, a2⟩ := hbF k x hx; ⟨p, a1, .fr a2⟩) w
      have hel : es.length = n := by have := fillE_length hf; simpa using this
      obtain ⟨I1, st, hle⟩ := frozen_block (w1 := w.alloc (.cells arr e)) I rfl rfl rfl rfl (plain_all hpos h2)
      refine ⟨.slice (some ⟨w.heap.size, 0, none⟩) n n, J, _, _, .inl ?_, I1, st, .fr ?_⟩
      · simp only [execOp, hop, Sem.run_bind]
        rw [hparts, h1]
        simp
      · have hfr : FRep fid (M.add w.heap.size arr) (.sl es sz true) (.slice (some ⟨w.heap.size, 0, none⟩) es.length es.length) := by
          refine FRep.sl_mk (Nat.le_refl _) (fun _ => rfl) (.inr ⟨w.heap.size, 0, rfl, fun i e' he' => ?_⟩)
          obtain ⟨b1, b2⟩ := h2.2 i e' he'
          refine ⟨b1, fun k x hx => ?_⟩
          obtain ⟨cv, c1, c2, c3⟩ := b2 k x hx
          refine ⟨cv, by simp [Mem.add, c1], ?_⟩
          exact (nr1_fr (hall e' (List.mem_of_getElem? he') x (List.mem_of_getElem? hx)) c3).mono hle
        rw [hel] at hfr
        exact hfr
    · obtain ⟨es, hf, h⟩ := Option.bind_eq_some_iff.1 h
      cases h
      obtain ⟨arr, h1, h2⟩ := run_buildSlice (P := P) (fid := fid) (J := J) (M := M) (parts := parts.toList.map fun p => (p.1, a.eval p.2)) hu hz hs hl hpos hcap hf (by rw [hix]; simp) hb w
      have hel : es.length = n := by have := fillE_length hf; simpa using this
      obtain ⟨I1, st, hle⟩ := frozen_block (w1 := w.alloc (.cells arr e)) I rfl rfl rfl rfl (plain_all hpos h2)
      refine ⟨.slice (some ⟨w.heap.size, 0, none⟩) n n, J, _, _, .inl ?_, I1, st, ?_⟩
      · simp only [execOp, hop, Sem.run_bind]
        rw [hparts, h1]
        simp
      · have hx : ∀ i k, ∃ cv, ∀ e', es[i]? = some e' → ∀ x, e'.cells[k]? = some x → (M.add w.heap.size arr) w.heap.size (i * sz + k) = some cv ∧ ARep fid J (M.add w.heap.size arr) x cv := by
          intro i k
          by_cases hh : ∃ e' x, es[i]? = some e' ∧ e'.cells[k]? = some x
          · obtain ⟨e', x, he', hx⟩ := hh
            obtain ⟨b1, b2⟩ := h2.2 i e' he'
            obtain ⟨cv, c1, c2, c3⟩ := b2 k x hx
            refine ⟨cv, fun e2 he2 x2 hx2 => ?_⟩
            rw [he'] at he2; cases he2
            rw [hx] at hx2; cases hx2
            exact ⟨by simp [Mem.add, c1], c3.mono (fun _ _ _ h => h) hle⟩
          · exact ⟨default, fun e' he' x hx => absurd ⟨e', x, he', hx⟩ hh⟩
        have := ARep.tl (fid := fid) (J := J) (M := M.add w.heap.size arr) es sz w.heap.size (fun i k => Classical.choose (hx i k)) (fun i e' he' => (h2.2 i e' he').1) (fun i e' he' k x hxx => (Classical.choose_spec (hx i k) e' he' x hxx).1) (fun i e' he' k x hxx => (Classical.choose_spec (hx i k) e' he' x hxx).2)
        rw [hel] at this
        exact this
  · cases hty
end
section
variable {P : Program} {fid : Nat → FuncId} {mid : FuncId → Option Nat} {S S' : Store} {J : JMap} {M : Mem} {w : World} {tm : List AV} {a : Act} {o : Oper} {ps : List Opd} {v' : AV} {R : RunF}
theorem row_get (arr us : List Value) (k : Nat) {off : Nat} (h : off + us.length ≤ arr.length) : (arr.take off ++ us ++ arr.drop (off + us.length))[k]? = if off ≤ k ∧ k < off + us.length then us[k - off]? else arr[k]? := by
  by_cases h1 : k < off
  · rw [List.append_assoc, List.getElem?_append_left (by simp; omega), List.getElem?_take_of_lt h1, if_neg (by omega)]
  · rw [List.append_assoc, List.getElem?_append_right (by simp; omega)]
    have hmin : min off arr.length = off := by omega
    simp only [List.length_take, hmin]
    by_cases h2 : k - off < us.length
    · rw [List.getElem?_append_left h2, if_pos (by omega)]
    · rw [List.getElem?_append_right (by omega), List.getElem?_drop, if_neg (by omega)]
      congr 1; omega
theorem store_row {blk o : Nat} {arr : Array Value} {el : TypeId} (hh : w.heap[blk]? = some (.cells arr el (0, 0))) {us : List Value} (hp : ∀ v ∈ us, v.plain) (hfit : o + us.length ≤ arr.size) :
    ∃ arr', (storeCells ⟨blk, o, none⟩ us).run P w = .ok () (w.setRow blk arr') ∧ arr'.size = arr.size ∧ ∀ k, arr'[k]? = if o ≤ k ∧ k < o + us.length then us[k - o]? else arr[k]? := by
  have h := run_storeCells_at P blk o el us 0 arr w hh (by simpa using hfit) (fun v hv => plain_one.1 (hp v hv))
  simp only [Nat.add_zero] at h
  refine ⟨_, h, by simp; omega, fun k => ?_⟩
  rw [List.getElem?_toArray, row_get arr.toList us k (by simpa using hfit)]
  simp
theorem setRow_frame (w : World) (blk : Nat) (arr : Array Value) : (∀ i, i ≠ blk → (w.setRow blk arr).heap[i]? = w.heap[i]?) ∧ (w.setRow blk arr).heap.size = w.heap.size := ⟨fun i hi => setRow_other w blk i arr hi, setRow_size w blk arr⟩
theorem wr_rep (I : Inv fid S J M w) {b off vl : Nat} {xs : List AV} (h : wr S b off vl xs = some S') {blk base p : Nat} (hj : J b vl = some (some (blk, base, p))) {us : Array Value} (hx : CRep fid J M xs us) :
    ∃ J' w', (storeCells ⟨blk, base + off, none⟩ us.toList).run P w = .ok () w' ∧ Inv fid S' J' M w' ∧ Step S J M w S' J' M w' := by
  unfold wr at h
  split at h
  · rename_i cs ex hb
    replace h := chk_some.1 h; obtain ⟨⟨hl, hfit⟩, h⟩ := h
    cases h
    have hjd : ∃ vl, J b vl ≠ none := ⟨vl, by rw [hj]; simp⟩
    rcases I.blk b cs ex hb hjd with ⟨rfl, _, h0⟩ | ⟨blk', base', ps', arr, el, hj', hh, hsz, hps, hex, hc, hn⟩
    · simp at hl; rw [← hl, h0] at hj; cases hj
    · rw [hl, hj] at hj'; cases hj'
      have hul : us.toList.length = xs.length := by simpa using hx.1
      have hpl : ∀ v ∈ us.toList, v.plain := by
        intro v hv
        obtain ⟨k, hk⟩ := List.mem_iff_getElem?.1 hv
        have hkl := (List.getElem?_eq_some_iff.1 hk).1
        obtain ⟨cv, c1, c2, _⟩ := hx.2 k (xs[k]'(by omega)) (by simp)
        rw [Array.getElem?_toList] at hk
        rw [hk] at c1; cases c1; exact c2
      obtain ⟨arr', hrun, hs', hg⟩ := store_row (P := P) (o := base + off) hh hpl (by rw [hul, hsz]; omega)
      have hlen := splice_length (cs := cs) (off := off) (vs := xs) (by omega)
      obtain ⟨f1, f2⟩ := setRow_frame w blk arr'
      have hset := I.setb (w' := w.setRow blk arr') (cs' := splice cs off xs) (ex' := ex) (blk := blk) (base := base) (ps := p) (arr := arr') (el := el) hb hjd (by omega) (.inr (by rw [hlen, hl]; exact hj))
        (fun i hi hne => f1 i fun e => hne base p (by rw [e, hl]; exact hj)) (.inr ⟨base, p, by rw [hl]; exact hj⟩) (setRow_heap w blk arr arr' el (0, 0) hh) (by omega) (by omega) (fun e => by rw [hlen]; exact hex e)
        (fun k x hk => by
          rw [splice_get (by omega)] at hk
          rw [hg]
          by_cases hin : off ≤ k ∧ k < off + xs.length
          · rw [if_pos hin] at hk
            rw [if_pos (by rw [hul]; omega)]
            obtain ⟨cv, c1, c2, c3⟩ := hx.2 _ x hk
            exact ⟨cv, by rw [show base + k - (base + off) = k - off by omega, Array.getElem?_toList]; exact c1, c2, c3⟩
          · rw [if_neg hin] at hk
            rw [if_neg (by rw [hul]; omega)]
            exact hc k x hk) (by rw [f2]; exact Nat.le_refl _) rfl rfl rfl
      exact ⟨_, _, hrun, hset.1, hset.2⟩
  · cases h
theorem sim_store (hm : MidOk fid mid) {n : Nat} : Sim P fid mid R o (.store n) := by
  intro ps S S' J M w tm a v' hok I ht h
  cases hop : o.op <;> simp only [okOp, hop] at hok <;> try (cases hok)
  rename_i t oa ox
  simp only [Bool.and_eq_true] at hok
  obtain ⟨x, y, hx, h1, h2⟩ := okOpds2 hm ht hok.2
  rw [hx] at h
  cases x <;> simp only [opA] at h <;> try (cases h)
  rename_i b off vl
  replace h := chk_some.1 h; obtain ⟨⟨hw, hl⟩, h⟩ := h
  obtain ⟨S1, hwr, h⟩ := Option.bind_eq_some_iff.1 h
  cases h
  obtain ⟨blk, base, p, hj, e1⟩ := h1.mptr_inv
  obtain ⟨hc, _⟩ := cells_rep hw h2
  obtain ⟨J', w', hrun, I', st⟩ := wr_rep (P := P) I hwr hj hc
  refine ⟨undef, J', M, w', .inr ⟨?_, rfl⟩, I', st, ?_⟩
  · have hcs : (a.eval ox).cells.size = n := by rw [hc.1, hl]
    simp [execOp, hop, Instr.storeAt, Instr.sureAddr, e1, storeVar, szIs_run hok.1, hcs, hrun]
  · exact .tup [] #[] rfl (fun _ => default) (fun k x hx => by simp at hx) (fun k x hx => by simp at hx)
theorem flat_cells {es : List AV} {sz : Nat} {Q : Nat → AV → Prop} (h : ∀ (i : Nat) (e : AV), es[i]? = some e → e.cells.length = sz ∧ ∀ (k : Nat) (x : AV), e.cells[k]? = some x → Q (i * sz + k) x) :
    (es.flatMap AV.cells).length = es.length * sz ∧ ∀ (k : Nat) (x : AV), (es.flatMap AV.cells)[k]? = some x → Q k x := by
  have key : ∀ (es : List AV) (base : Nat), (∀ (i : Nat) (e : AV), es[i]? = some e → e.cells.length = sz ∧ ∀ (k : Nat) (x : AV), e.cells[k]? = some x → Q (base + i * sz + k) x) →
      (es.flatMap AV.cells).length = es.length * sz ∧ ∀ (k : Nat) (x : AV), (es.flatMap AV.cells)[k]? = some x → Q (base + k) x := by
    intro es
    induction es with
    | nil => intro base _; exact ⟨by simp, fun k x hx => by simp at hx⟩
    | cons e es ih =>
      intro base hq
      obtain ⟨h1, h2⟩ := hq 0 e rfl
      obtain ⟨h3, h4⟩ := ih (base + sz) (fun i e' he' => by
        obtain ⟨b1, b2⟩ := hq (i + 1) e' (by simpa using he')
        refine ⟨b1, fun k x hx => ?_⟩
        have := b2 k x hx
        rwa [Nat.succ_mul, show base + (i * sz + sz) + k = base + sz + i * sz + k by omega] at this)
      refine ⟨by simp only [List.flatMap_cons, List.length_append, h1, h3, List.length_cons, Nat.succ_mul]; omega, fun k x hx => ?_⟩
      rw [List.flatMap_cons] at hx
      by_cases hk : k < e.cells.length
      · rw [List.getElem?_append_left hk] at hx
        simpa using h2 k x hx
      · rw [List.getElem?_append_right (by omega), h1] at hx
        have := h4 _ x hx
        rwa [show base + sz + (k - sz) = base + k by omega] at this
  obtain ⟨k1, k2⟩ := key es 0 (fun i e he => by simpa using h i e he)
  exact ⟨k1, by simpa using k2⟩
theorem sim_mks (hm : MidOk fid mid) {sz by_ : Nat} {z : List AV} : Sim P fid mid R o (.mks sz by_ z) := by
  intro ps S S' J M w tm a v' hok I ht h
  cases hop : o.op <;> simp only [okOp, hop] at hok <;> try (cases hok)
  rename_i t ol oc
  simp only [Bool.and_eq_true] at hok
  obtain ⟨hty, h4⟩ := hok
  obtain ⟨x, y, hx, h1, h2⟩ := okOpds2 hm ht h4
  rw [hx] at h
  split at hty
  · rename_i e hu
    simp only [Bool.and_eq_true] at hty
    obtain ⟨⟨hs, hb⟩, hz⟩ := hty
    cases x <;> simp only [opA] at h <;> try (cases h)
    cases y <;> simp only at h <;> try (cases h)
    rename_i kl l kc c
    replace h := chk_some.1 h; obtain ⟨⟨h0, hlc, hroom, hpos, hbig, hzl⟩, h⟩ := h
    cases h
    have e1 := h1.int_inv
    have e2 := h2.int_inv
    obtain ⟨i, v, hi, hv, his, hvs, hE⟩ := zeros_rep (fid := fid) (J := J) (M := M) (len := c.toNat) (z := .agg z) (t := e) hz hs hzl hpos
    have hby : i.bytes = by_ := by
      unfold byIs at hb; rw [hi] at hb; simpa using hb
    have hrun := run_make (P := P) w t e i v hu hi hv kl kc l c h0 hlc (by
      unfold room at hroom
      have : ((c.toNat * by_ : Nat) : Int) ≤ 140737488355328 := by omega
      rw [Int.natCast_mul, Int.toNat_of_nonneg (by omega)] at this
      rw [hby, Int.mul_comm]; omega) (by omega)
    obtain ⟨c1, c2⟩ := hE.cells hpos
    have hfl : (List.replicate c.toNat (AV.agg z)).flatMap AV.cells = (List.replicate c.toNat z).flatten := by
      rw [List.flatMap_def, List.map_replicate]; rfl
    rw [hfl] at c1 c2
    rw [his] at hrun
    obtain ⟨I1, st⟩ := alloc_block (w1 := w.alloc (.cells (madeCells v.cells (c.toNat * sz)) e)) I (cs := (List.replicate c.toNat z).flatten) (ex := true) rfl rfl rfl rfl (by rw [c1]; exact Nat.le_refl _) (fun _ => by rw [c1]; rfl) c2
    have hsize : (madeCells v.cells (c.toNat * sz)).size = c.toNat * sz := size_madeCells _ _
    have hlen : ((List.replicate c.toNat z).flatten).length = c.toNat * sz := by rw [c1]; exact hsize
    rw [hlen] at I1 st
    refine ⟨.slice (some ⟨w.heap.size, 0, none⟩) l.toNat c.toNat, _, M, _, .inl (by simp [execOp, hop, e1, e2, hrun]), I1, st, ?_⟩
    exact ARep.msl S.length 0 l.toNat sz (c.toNat * sz) none w.heap.size 0 _ c.toNat _ (JMap.put_self ..) (by omega) (.inl ⟨rfl, by rw [hsize]; rfl⟩) (.inr rfl)
  · cases hty
theorem held_rep (I : Inv fid S J M w) {sz m : Nat} {x : AV} {xs : List AV} {cx : Value} (h : held S sz x = some (m, xs)) (r : ARep fid J M x cx) :
    ∃ ad c, cx = .slice ad m c ∧ m ≤ c ∧ xs.length = m * sz ∧ (m * sz = 0 ∨ ∃ blk off, ad = some ⟨blk, off, none⟩ ∧ ∀ (k : Nat) (y : AV), xs[k]? = some y → ∃ v : Value, w.cell? ⟨blk, off + k, none⟩ = some v ∧ v.plain ∧ ARep fid J M y v) := by
  unfold held at h
  split at h
  · replace h := chk_some.1 h; obtain ⟨rfl, h⟩ := h
    cases h
    obtain ⟨ad, c, rfl, hc, _, hq⟩ := r.sl_inv
    rcases hq with rfl | ⟨blk, off, rfl, hq⟩
    · exact ⟨ad, c, rfl, hc, by simp, .inl (by simp)⟩
    · obtain ⟨f1, f2⟩ := flat_cells (Q := fun k y => ∃ v : Value, w.cell? ⟨blk, off + k, none⟩ = some v ∧ v.plain ∧ ARep fid J M y v) (fun i e he => by
        obtain ⟨b1, b2⟩ := hq i e he
        refine ⟨b1, fun k y hy => ?_⟩
        obtain ⟨v, hv, hr⟩ := b2 k y hy
        obtain ⟨q1, q2⟩ := I.mem _ _ _ hv
        exact ⟨v, by rw [← Nat.add_assoc]; exact q1, q2, .fr hr⟩)
      exact ⟨_, c, rfl, hc, f1, .inr ⟨blk, off, rfl, f2⟩⟩
  · replace h := chk_some.1 h; obtain ⟨rfl, h⟩ := h
    cases h
    obtain ⟨blk, rfl, hq⟩ := r.tl_inv
    obtain ⟨f1, f2⟩ := flat_cells (Q := fun k y => ∃ v : Value, w.cell? ⟨blk, 0 + k, none⟩ = some v ∧ v.plain ∧ ARep fid J M y v) (fun i e he => by
      obtain ⟨b1, b2⟩ := hq i e he
      refine ⟨b1, fun k y hy => ?_⟩
      obtain ⟨v, hv, hr⟩ := b2 k y hy
      obtain ⟨q1, q2⟩ := I.mem _ _ _ hv
      exact ⟨v, by rw [Nat.zero_add]; exact q1, q2, hr⟩)
    exact ⟨_, _, rfl, Nat.le_refl _, f1, .inr ⟨blk, 0, rfl, f2⟩⟩
  · replace h := chk_some.1 h; obtain ⟨rfl, h⟩ := h
    obtain ⟨cs, hr, h⟩ := Option.bind_eq_some_iff.1 h
    cases h
    rcases r.msl_inv with ⟨blk, base, p, c, ad, hj, hn, hcap, had, rfl⟩ | ⟨rfl, rfl, rfl, _, hj, ad, rfl⟩
    · obtain ⟨l1, l2⟩ := I.rd hr hj
      refine ⟨ad, c, rfl, hn, l1, ?_⟩
      rcases had with rfl | rfl
      · left; have : _ = 0 := Nat.le_zero.1 hn; simp [this]
      · exact .inr ⟨blk, _, rfl, l2⟩
    · have := rd_virtual I hr
      subst this
      exact ⟨ad, 0, rfl, Nat.le_refl _, by simp, .inl (by simp)⟩
  · cases h
theorem news_of {m sz : Nat} {xs : List AV} (hl : xs.length = m * sz) {blk off : Nat} (h : ∀ (k : Nat) (y : AV), xs[k]? = some y → ∃ v : Value, w.cell? ⟨blk, off + k, none⟩ = some v ∧ v.plain ∧ ARep fid J M y v) :
    ∃ news : List Value, news.length = m * sz ∧ (∀ j v, news[j]? = some v → w.cell? ((⟨blk, off, none⟩ : Addr).add j) = some v) ∧ (∀ v ∈ news, v.plain) ∧ CRep fid J M xs news.toArray := by
  obtain ⟨cv, hq⟩ := choose_cells h
  refine ⟨(List.range (m * sz)).map cv, by simp, fun j v hv => ?_, fun v hv => ?_, by simp [hl], fun k x hx => ?_⟩
  · have hj : j < m * sz := by have := (List.getElem?_eq_some_iff.1 hv).1; simpa using this
    simp [hj] at hv
    subst hv
    rw [Addr.add_lit]
    exact (hq j xs[j] (by simp [hl, hj])).1
  · obtain ⟨j, hj, rfl⟩ := List.mem_map.1 hv
    have hj' : j < m * sz := by simpa using hj
    exact (hq j xs[j] (by simp [hl, hj'])).2.1
  · have hk : k < m * sz := by have := (List.getElem?_eq_some_iff.1 hx).1; omega
    exact ⟨cv k, by simp [hk], (hq k x hx).2.1, (hq k x hx).2.2⟩
theorem run_append_zero {t ty e : TypeId} {sz : Nat} (hu : P.underlying t = some (.slice e)) (hs : szIs P e sz = true) {ad ad' : Option Addr} {n c c' : Nat} (hn : n ≤ c) (w : World) :
    (Builtin.append_ #[t, t] ty #[.slice ad n c, .slice ad' 0 c']).run P w = .ok (.slice ad n c) w := by
  cases ad <;> cases ad' <;> simp [Builtin.append_, run_underlying hu, szIs_run hs, Builtin.lenOf, hn, Builtin.firstCells, loadCells, loadCellsFrom, storeCells]
theorem run_append_in {t ty e : TypeId} {i : TypeInfo} (hu : P.underlying t = some (.slice e)) (hi : P.info? e = some i) {g off n c : Nat} {cur : Array Value} {el : TypeId} (hg : w.heap[g]? = some (.cells cur el (0, 0)))
    {b : Addr} {m c' : Nat} {news : List Value} (hl : news.length = m * i.size) (hnews : ∀ j v, news[j]? = some v → w.cell? (b.add j) = some v) (hp : ∀ v ∈ news, v.plain) (hroom : n + m ≤ c) (hfit : off + n * i.size + news.length ≤ cur.size) :
    ∃ arr', (Builtin.append_ #[t, t] ty #[.slice (some ⟨g, off, none⟩) n c, .slice (some b) m c']).run P w = .ok (.slice (some ⟨g, off, none⟩) (n + m) c) (w.setRow g arr') ∧ arr'.size = cur.size ∧
      ∀ k, arr'[k]? = if off + n * i.size ≤ k ∧ k < off + n * i.size + news.length then news[k - (off + n * i.size)]? else cur[k]? := by
  obtain ⟨arr', h1, h2, h3⟩ := store_row (P := P) (o := off + n * i.size) hg hp hfit
  have hf := run_firstCells_some (P := P) w i.size m b m c' news hl hnews
  refine ⟨arr', ?_, h2, h3⟩
  simp [Builtin.append_, run_underlying hu, sizeOf, typeInfo, hi, Builtin.lenOf, hroom, hf, Addr.add_lit, h1]
theorem append_grown (I : Inv fid S J M w) {t ty e : TypeId} {sz by_ : Nat} (hu : P.underlying t = some (.slice e)) {i : TypeInfo} (hi : P.info? e = some i) (his : i.size = sz) (hib : i.bytes = by_) {z : Value} (hz : i.zero = some z) (hzs : z.cells.size = sz)
    (hpos : 0 < sz) (hbp : 0 < by_) {ad ad' : Option Addr} {n c m c' : Nat} {os xs : List AV} (hol : os.length = n * sz) (hxl : xs.length = m * sz) (hnc : n ≤ c) (hc0 : ad = none → c = 0) (hlt : c < n + m) (hm : 0 < m) (hroom : room (n + m) by_)
    (ho : n = 0 ∨ ∃ blk off, ad = some ⟨blk, off, none⟩ ∧ ∀ (k : Nat) (y : AV), os[k]? = some y → ∃ v : Value, w.cell? ⟨blk, off + k, none⟩ = some v ∧ v.plain ∧ ARep fid J M y v)
    (hx : ∃ blk off, ad' = some ⟨blk, off, none⟩ ∧ ∀ (k : Nat) (y : AV), xs[k]? = some y → ∃ v : Value, w.cell? ⟨blk, off + k, none⟩ = some v ∧ v.plain ∧ ARep fid J M y v) :
    ∃ arr cap, (Builtin.append_ #[t, t] ty #[.slice ad n c, .slice ad' m c']).run P w = .ok (.slice (some ⟨w.heap.size, 0, none⟩) (n + m) cap) (w.drew.alloc (.cells arr e)) ∧ n + m ≤ cap ∧ arr.size = cap * sz ∧ (os ++ xs).length ≤ arr.size ∧
      ∀ (k : Nat) (y : AV), (os ++ xs)[k]? = some y → ∃ v : Value, arr[k]? = some v ∧ v.plain ∧ ARep fid J M y v := by
  subst his; subst hib
  obtain ⟨xb, xo, rfl, hx⟩ := hx
  obtain ⟨news, n1, n2, n3, n4⟩ := news_of hxl hx
  unfold room at hroom
  have h63 : (n + m) ≤ 140737488355328 := Nat.le_trans (Nat.le_mul_of_pos_right _ hbp) hroom
  have hfit := growslice_fits (need := n + m) (old := c) (bytes := i.bytes) hlt hroom
  have fin : ∀ (olds : List Value) (old : Nat), olds.length = n * i.size → CRep fid J M os olds.toArray → old < n + m →
      n + m ≤ grownCap w (n + m) old e ∧ (olds.toArray ++ news.toArray ++ Builtin.zeroCells z.cells (grownCap w (n + m) old e - (n + m))).size = grownCap w (n + m) old e * i.size ∧
      (os ++ xs).length ≤ (olds.toArray ++ news.toArray ++ Builtin.zeroCells z.cells (grownCap w (n + m) old e - (n + m))).size ∧
      ∀ (k : Nat) (y : AV), (os ++ xs)[k]? = some y → ∃ v : Value, (olds.toArray ++ news.toArray ++ Builtin.zeroCells z.cells (grownCap w (n + m) old e - (n + m)))[k]? = some v ∧ v.plain ∧ ARep fid J M y v := by
    intro olds old ho1 ho2 hlt'
    have hge := grownCap_ge w (n + m) old e
    refine ⟨hge, ?_, ?_, fun k y hy => ?_⟩
    · simp only [Array.size_append, List.size_toArray, ho1, n1, size_zeroCells, hzs, ← Nat.add_mul]
      congr 1; omega
    · simp only [Array.size_append, List.size_toArray, ho1, n1, List.length_append, hol, hxl]; omega
    · by_cases hk : k < os.length
      · rw [List.getElem?_append_left hk] at hy
        obtain ⟨v, v1, v2, v3⟩ := ho2.2 k y hy
        refine ⟨v, ?_, v2, v3⟩
        rw [Array.append_assoc, Array.getElem?_append_left (by simp; omega)]
        exact v1
      · rw [List.getElem?_append_right (by omega)] at hy
        have hk2 : k - os.length < xs.length := (List.getElem?_eq_some_iff.1 hy).1
        obtain ⟨v, v1, v2, v3⟩ := n4.2 _ y hy
        refine ⟨v, ?_, v2, v3⟩
        rw [Array.append_assoc, Array.getElem?_append_right (by simp; omega), Array.getElem?_append_left (by simp; omega)]
        simp only [List.size_toArray, ho1]
        rw [← hol]; exact v1
  rcases Nat.eq_zero_or_pos n with hn0 | hnp
  · subst hn0
    have hos : os = [] := List.eq_nil_of_length_eq_zero (by simpa using hol)
    subst hos
    have hcr : CRep fid J M [] ([] : List Value).toArray := ⟨rfl, fun k x hx => by simp at hx⟩
    cases ad with
    | none =>
      have hc := hc0 rfl
      subst hc
      have hrun := run_append_nil (P := P) w t ty e i z hu hi hz ⟨xb, xo, none⟩ m c' news n1 n2 hm (by omega) (by simp only [Nat.zero_add] at hroom; omega)
      obtain ⟨f1, f2, f3, f4⟩ := fin [] 0 (by simp) hcr (by omega)
      simp only [Nat.zero_add] at f1 f2 f3 f4 ⊢
      refine ⟨_, _, hrun, f1, by simpa using f2, by simpa using f3, fun k y hy => by simpa using f4 k y hy⟩
    | some ad =>
      have hrun := run_append_grow (P := P) w t ty e i z hu hi hz ad 0 c [] (by simp) (fun j v hv => by simp at hv) ⟨xb, xo, none⟩ m c' news n1 n2 hlt (by omega) (by omega)
      obtain ⟨f1, f2, f3, f4⟩ := fin [] c (by simp) hcr hlt
      exact ⟨_, _, hrun, f1, f2, f3, f4⟩
  · obtain ⟨blk, off, rfl, ho'⟩ := ho.resolve_left (by omega)
    obtain ⟨olds, o1, o2, o3, o4⟩ := news_of hol ho'
    have hrun := run_append_grow (P := P) w t ty e i z hu hi hz ⟨blk, off, none⟩ n c olds o1 o2 ⟨xb, xo, none⟩ m c' news n1 n2 hlt (by omega) (by omega)
    obtain ⟨f1, f2, f3, f4⟩ := fin olds c o1 o4 hlt
    exact ⟨_, _, hrun, f1, f2, f3, f4⟩
end
section
variable {P : Program} {fid : Nat → FuncId} {mid : FuncId → Option Nat} {S S' : Store} {J : JMap} {M : Mem} {w : World} {tm : List AV} {a : Act} {o : Oper} {ps : List Opd} {v' : AV} {R : RunF}
theorem fresh_new (I : Inv fid S J M w) {b : Nat} {cs : List AV} {ex : Bool} (hb : S[b]? = some (.mu cs ex)) {vl : Nat} (h : cs.length < vl) : J b vl = none := by
  cases e : J b vl with
  | none => rfl
  | some l => have := I.jmx b vl cs ex hb (by rw [e]; simp); omega
theorem app_amb (I : Inv fid S J M w) {t ty e : TypeId} {sz by_ : Nat} (hu : P.underlying t = some (.slice e)) {i : TypeInfo} (hi : P.info? e = some i) (his : i.size = sz) (hib : i.bytes = by_) {z : Value} (hz : i.zero = some z) (hzs : z.cells.size = sz)
    (hpos : 0 < sz) (hbp : 0 < by_) {b n m c c' vl blk base p : Nat} {ad ad' : Option Addr} {cs1 xs : List AV} (hb : S[b]? = some (.mu cs1 false)) (hl : cs1.length = vl) (hj : J b vl = some (some (blk, base, p))) (hn : n ≤ c) (hcp : c * sz + 0 = p)
    (had : c = 0 ∨ ad = some ⟨blk, base + 0, none⟩) (hxl : xs.length = m * sz) (hmp : 0 < m) (hroom : room (n + m) by_) (o1 : (cs1.take (n * sz)).length = n * sz)
    (o2 : n = 0 ∨ ∃ blk off, ad = some ⟨blk, off, none⟩ ∧ ∀ (k : Nat) (y : AV), (cs1.take (n * sz))[k]? = some y → ∃ v : Value, w.cell? ⟨blk, off + k, none⟩ = some v ∧ v.plain ∧ ARep fid J M y v)
    (hx' : ∃ blk off, ad' = some ⟨blk, off, none⟩ ∧ ∀ (k : Nat) (y : AV), xs[k]? = some y → ∃ v : Value, w.cell? ⟨blk, off + k, none⟩ = some v ∧ v.plain ∧ ARep fid J M y v)
    (hnle : ¬ 0 + (n + m) * sz ≤ vl) :
    ∃ cv J' w', (Builtin.append_ #[t, t] ty #[.slice ad n c, .slice ad' m c']).run P w = .ok cv w' ∧ Inv fid (S.set b (.mu (cs1.take (n * sz) ++ xs) false)) J' M w' ∧ Step S J M w (S.set b (.mu (cs1.take (n * sz) ++ xs) false)) J' M w' ∧
      ARep fid J' M (.msl b 0 (n + m) sz ((n + m) * sz) none) cv := by
  have hjd : ∃ vl, J b vl ≠ none := ⟨vl, by rw [hj]; simp⟩
  have hadn : ad = none → c = 0 := by
    rintro rfl
    rcases had with h | h
    · exact h
    · cases h
  have hlen : (cs1.take (n * sz) ++ xs).length = (n + m) * sz := by
    rw [List.length_append, o1, hxl, Nat.add_mul]
  have hgt : cs1.length < (n + m) * sz := by omega
  have hJn : J b (cs1.take (n * sz) ++ xs).length = none := by rw [hlen]; exact fresh_new I hb hgt
  have hnl : n * sz ≤ cs1.length := by rw [List.length_take] at o1; omega
  rcases I.blk b cs1 false hb hjd with ⟨rfl, _, h0⟩ | ⟨blk', base', ps', arr, el, hj', hh, hsz, hps, hex, hc, hnM⟩
  · simp at hl; rw [← hl, h0] at hj; cases hj
  · rw [hl, hj] at hj'; cases hj'
    by_cases hin : n + m ≤ c
    · -- there was room: the row grows where it lies
      have hde : ad = some ⟨blk, base + 0, none⟩ := had.resolve_left (by omega)
      subst hde
      obtain ⟨xb, xo, rfl, hxx⟩ := hx'
      obtain ⟨news, n1, n2, n3, n4⟩ := news_of hxl hxx
      have hcm : (n + m) * sz ≤ c * sz := Nat.mul_le_mul_right _ hin
      have hcm' : n * sz + m * sz ≤ p := by rw [← Nat.add_mul]; omega
      obtain ⟨arr', hrun, a1, a2⟩ := run_append_in (P := P) (ty := ty) (g := blk) (off := base + 0) (n := n) (c := c) (cur := arr) (el := el) hu hi hh (news := news) (m := m) (b := ⟨xb, xo, none⟩) (c' := c') (by rw [his]; exact n1) n2 n3 hin (by rw [his, n1, hsz]; omega)
      obtain ⟨f1, f2⟩ := setRow_frame w blk arr'
      have hcells : ∀ (k : Nat) (x : AV), (cs1.take (n * sz) ++ xs)[k]? = some x → ∃ v, arr'[base + k]? = some v ∧ v.plain ∧ ARep fid J M x v := by
        intro k x hk
        rw [a2, his, n1]
        by_cases hk1 : k < n * sz
        · rw [List.getElem?_append_left (by omega), List.getElem?_take_of_lt hk1] at hk
          rw [if_neg (by omega)]
          exact hc k x hk
        · rw [List.getElem?_append_right (by omega), o1] at hk
          have hk2 := (List.getElem?_eq_some_iff.1 hk).1
          rw [if_pos (by omega)]
          obtain ⟨v, v1, v2, v3⟩ := n4.2 _ x hk
          exact ⟨v, by rw [show base + k - (base + 0 + n * sz) = k - n * sz by omega]; simpa using v1, v2, v3⟩
      have hset := I.setb (w' := w.setRow blk arr') (cs' := cs1.take (n * sz) ++ xs) (ex' := false) (blk := blk) (base := base) (ps := p) (arr := arr') (el := el) hb hjd (by omega) (.inl hJn)
        (fun i hi hne => f1 i fun e => hne base p (by rw [e, hl]; exact hj)) (.inr ⟨base, p, by rw [hl]; exact hj⟩) (setRow_heap w blk arr arr' el (0, 0) hh) (by omega) (by rw [hlen, Nat.add_mul]; exact hcm') (by simp) hcells (by rw [f2]; exact Nat.le_refl _) rfl rfl rfl
      rw [hlen] at hset
      exact ⟨_, _, _, hrun, hset.1, hset.2, ARep.msl b 0 (n + m) sz _ none blk base p c _ (JMap.put_self ..) hin (.inl ⟨rfl, hcp⟩) (.inr rfl)⟩
    · -- there was none: a new row, under the old number
      obtain ⟨arr', cap', hrun, q1, q2, q3, q4⟩ := append_grown (P := P) (ty := ty) I hu hi his hib hz hzs hpos hbp (ad := ad) (ad' := ad') (c := c) (c' := c') o1 hxl hn hadn (by omega) hmp hroom o2 hx'
      have hheap : (w.drew.alloc (.cells arr' e)).heap = w.heap.push (.cells arr' e (0, 0)) := rfl
      have hset := I.setb (w' := w.drew.alloc (.cells arr' e)) (cs' := cs1.take (n * sz) ++ xs) (ex' := false) (blk := w.heap.size) (base := 0) (ps := arr'.size) (arr := arr') (el := e) hb hjd (by omega) (.inl hJn)
        (fun i hi _ => by rw [hheap, Array.getElem?_push, if_neg (by omega)]) (.inl (Nat.le_refl _)) (by rw [hheap]; simp) (by omega) q3 (by simp)
        (fun k x hk => by simpa using q4 k x hk) (by rw [hheap]; simp) rfl rfl rfl
      rw [hlen] at hset
      exact ⟨_, _, _, hrun, hset.1, hset.2, ARep.msl b 0 (n + m) sz _ none w.heap.size 0 arr'.size cap' _ (JMap.put_self ..) q1 (.inl ⟨rfl, by omega⟩) (.inr rfl)⟩
set_option maxHeartbeats 1000000 in
theorem appA_rep (I : Inv fid S J M w) {t ty e : TypeId} {sz by_ : Nat} (hu : P.underlying t = some (.slice e)) {i : TypeInfo} (hi : P.info? e = some i) (his : i.size = sz) (hib : i.bytes = by_) {z : Value} (hz : i.zero = some z) (hzs : z.cells.size = sz)
    (hpos : 0 < sz) (hbp : 0 < by_) {s x v' : AV} {cs cx : Value} (hs : ARep fid J M s cs) (hx : ARep fid J M x cx) (h : appA sz by_ S s x = some (v', S')) :
    ∃ cv J' w', (Builtin.append_ #[t, t] ty #[cs, cx]).run P w = .ok cv w' ∧ Inv fid S' J' M w' ∧ Step S J M w S' J' M w' ∧ ARep fid J' M v' cv := by
  have hsi : szIs P e sz = true := by simp [szIs, hi, his]
  unfold appA at h
  replace h := Option.bind_eq_some_iff.1 h; obtain ⟨⟨m, xs⟩, hh, h⟩ := h
  obtain ⟨ad', c', rfl, hmc, hxl, hxc⟩ := held_rep I hh hx
  simp only at h
  by_cases hm0 : m = 0
  · -- nothing is appended
    subst hm0
    clear hh
    cases s with
    | sl es sz' t' =>
      simp only at h
      replace h := chk_some.1 h; obtain ⟨rfl, h⟩ := h
      simp only [if_true, Option.some.injEq, Prod.mk.injEq] at h
      obtain ⟨rfl, rfl⟩ := h
      obtain ⟨ad, c, rfl, hc, _⟩ := hs.sl_inv
      exact ⟨_, J, w, run_append_zero hu hsi hc w, I, Step.refl .., hs⟩
    | msl b off n sz' vl cap =>
      simp only at h
      replace h := chk_some.1 h; obtain ⟨rfl, h⟩ := h
      simp only [if_true, Option.some.injEq, Prod.mk.injEq] at h
      obtain ⟨rfl, rfl⟩ := h
      rcases hs.msl_inv with ⟨_, _, _, c, ad, _, hn, _, _, rfl⟩ | ⟨rfl, rfl, rfl, _, _, ad, rfl⟩
      · exact ⟨_, J, w, run_append_zero hu hsi hn w, I, Step.refl .., hs⟩
      · exact ⟨_, J, w, run_append_zero hu hsi (Nat.le_refl _) w, I, Step.refl .., hs⟩
    | _ => simp only at h; cases h
  · have hmp : 0 < m := by omega
    have hx' : ∃ blk off, ad' = some ⟨blk, off, none⟩ ∧ ∀ (k : Nat) (y : AV), xs[k]? = some y → ∃ v : Value, w.cell? ⟨blk, off + k, none⟩ = some v ∧ v.plain ∧ ARep fid J M y v :=
      hxc.resolve_left (by have := Nat.mul_pos hmp hpos; omega)
    -- a new row, under a new number
    have newrow : ∀ {ad : Option Addr} {n c : Nat} {os : List AV}, os.length = n * sz → n ≤ c → (ad = none → c = 0) → c < n + m → room (n + m) by_ →
        (n = 0 ∨ ∃ blk off, ad = some ⟨blk, off, none⟩ ∧ ∀ (k : Nat) (y : AV), os[k]? = some y → ∃ v : Value, w.cell? ⟨blk, off + k, none⟩ = some v ∧ v.plain ∧ ARep fid J M y v) →
        ∃ cv J' w', (Builtin.append_ #[t, t] ty #[.slice ad n c, .slice ad' m c']).run P w = .ok cv w' ∧ Inv fid (S ++ [.mu (os ++ xs) false]) J' M w' ∧ Step S J M w (S ++ [.mu (os ++ xs) false]) J' M w' ∧
          ARep fid J' M (.msl S.length 0 (n + m) sz ((n + m) * sz) none) cv := by
      intro ad n c os hol hnc hc0 hlt hroom ho
      obtain ⟨arr, cap, hrun, hcap, hsize, hle, hcells⟩ := append_grown (P := P) (ty := ty) I hu hi his hib hz hzs hpos hbp (ad := ad) (ad' := ad') (c := c) (c' := c') hol hxl hnc hc0 hlt hmp hroom ho hx'
      obtain ⟨I1, st⟩ := alloc_block (w1 := w.drew.alloc (.cells arr e)) I (cs := os ++ xs) (ex := false) rfl rfl rfl rfl hle (by simp) hcells
      refine ⟨_, _, _, hrun, I1, st, ?_⟩
      have hlen : (os ++ xs).length = (n + m) * sz := by rw [List.length_append, hol, hxl, Nat.add_mul]
      rw [hlen]
      exact ARep.msl S.length 0 (n + m) sz _ none w.heap.size 0 arr.size cap _ (JMap.put_self ..) hcap (.inl ⟨rfl, by omega⟩) (.inr rfl)
    clear hh
    cases s with
    | sl es sz' t' =>
      simp only at h
      replace h := chk_some.1 h; obtain ⟨rfl, h⟩ := h
      rw [if_neg hm0] at h
      replace h := chk_some.1 h; obtain ⟨⟨rfl, hroom⟩, h⟩ := h
      cases h
      obtain ⟨ad, c, rfl, hc, htt, hq⟩ := hs.sl_inv
      have hce := htt rfl
      rcases hq with rfl | ⟨blk, off, rfl, hq⟩
      · simp only [List.length_nil] at hce hroom ⊢
        subst hce
        exact newrow (os := []) (by simp) (Nat.le_refl _) (fun _ => rfl) (by omega) hroom (.inl rfl)
      · obtain ⟨f1, f2⟩ := flat_cells (Q := fun k y => ∃ v : Value, w.cell? ⟨blk, off + k, none⟩ = some v ∧ v.plain ∧ ARep fid J M y v) (fun i e he => by
          obtain ⟨b1, b2⟩ := hq i e he
          refine ⟨b1, fun k y hy => ?_⟩
          obtain ⟨v, hv, hr⟩ := b2 k y hy
          obtain ⟨q1, q2⟩ := I.mem _ _ _ hv
          exact ⟨v, by rw [← Nat.add_assoc]; exact q1, q2, .fr hr⟩)
        exact newrow f1 hc (by simp) (by omega) hroom (.inr ⟨blk, off, rfl, f2⟩)
    | msl b off n sz' vl cap =>
      simp only at h
      replace h := chk_some.1 h; obtain ⟨rfl, h⟩ := h
      rw [if_neg hm0] at h
      -- in place
      have inplace : ∀ {c : Nat} {ad : Option Addr} {blk base p : Nat}, J b vl = some (some (blk, base, p)) → n ≤ c → ((cap = none ∧ c * sz + off = p) ∨ (cap = some c ∧ off + c * sz ≤ p)) → (c = 0 ∨ ad = some ⟨blk, base + off, none⟩) → n + m ≤ c →
          ∀ {S1 : Store}, wr S b (off + n * sz) vl xs = some S1 →
          ∃ cv J' w', (Builtin.append_ #[t, t] ty #[.slice ad n c, .slice ad' m c']).run P w = .ok cv w' ∧ Inv fid S1 J' M w' ∧ Step S J M w S1 J' M w' ∧ ARep fid J' M (.msl b off (n + m) sz vl cap) cv := by
        intro c ad blk base p hj hn hcap had hle S1 hw
        have hde : ad = some ⟨blk, base + off, none⟩ := had.resolve_left (by omega)
        subst hde
        obtain ⟨xb, xo, rfl, hxx⟩ := hx'
        obtain ⟨news, n1, n2, n3, n4⟩ := news_of hxl hxx
        obtain ⟨J1, w1, hst, I1, st⟩ := wr_rep (P := P) I hw hj n4
        have hf := run_firstCells_some (P := P) w sz m ⟨xb, xo, none⟩ m c' news n1 n2
        refine ⟨.slice (some ⟨blk, base + off, none⟩) (n + m) c, J1, w1, ?_, I1, st, ?_⟩
        · have e1 : (⟨blk, base + off, none⟩ : Addr).add (n * sz) = ⟨blk, base + (off + n * sz), none⟩ := by rw [Addr.add_lit, Nat.add_assoc]
          simp only [List.toList_toArray] at hst
          simp [Builtin.append_, run_underlying hu, sizeOf, typeInfo, hi, his, Builtin.lenOf, hle, hf, e1, hst]
        · exact ARep.msl b off (n + m) sz vl cap blk base p c _ (st.jle _ _ _ hj) hle hcap (.inr rfl)
      rcases hs.msl_inv with ⟨blk, base, p, c, ad, hj, hn, hcap, had, rfl⟩ | ⟨rfl, rfl, rfl, hcap, hj, ad, rfl⟩
      · -- what the slice holds
        have olds : ∀ {os : List AV}, rd S b off vl (n * sz) = some os → os.length = n * sz ∧ (n = 0 ∨ ∃ blk off, ad = some ⟨blk, off, none⟩ ∧ ∀ (k : Nat) (y : AV), os[k]? = some y → ∃ v : Value, w.cell? ⟨blk, off + k, none⟩ = some v ∧ v.plain ∧ ARep fid J M y v) := by
          intro os hr
          obtain ⟨l1, l2⟩ := I.rd hr hj
          refine ⟨l1, ?_⟩
          rcases had with rfl | rfl
          · left; omega
          · exact .inr ⟨blk, _, rfl, l2⟩
        have hadn : ad = none → c = 0 := by
          rintro rfl
          rcases had with h | h
          · exact h
          · cases h
        split at h
        · rename_i c0
          rcases hcap with ⟨h0, _⟩ | ⟨h0, hcp⟩
          · cases h0
          · cases h0
            split at h
            · rename_i hle
              replace h := Option.bind_eq_some_iff.1 h; obtain ⟨S1, hw, h⟩ := h
              cases h
              exact inplace hj hn (.inr ⟨rfl, hcp⟩) had hle hw
            · rename_i hnle
              replace h := chk_some.1 h; obtain ⟨hroom, h⟩ := h
              replace h := Option.bind_eq_some_iff.1 h; obtain ⟨os, hr, h⟩ := h
              cases h
              obtain ⟨o1, o2⟩ := olds hr
              exact newrow o1 hn hadn (by omega) hroom o2
        · rcases hcap with ⟨_, hcp⟩ | ⟨h0, _⟩
          · have hvp := I.jps _ _ _ _ _ hj
            split at h
            · rename_i hle
              replace h := Option.bind_eq_some_iff.1 h; obtain ⟨S1, hw, h⟩ := h
              cases h
              have hcc : n + m ≤ c := by
                have : (n + m) * sz ≤ c * sz := by omega
                exact Nat.le_of_mul_le_mul_right this hpos
              exact inplace hj hn (.inl ⟨rfl, hcp⟩) had hcc hw
            · rename_i hnle
              replace h := chk_some.1 h; obtain ⟨hroom, h⟩ := h
              split at h
              · rename_i cs1 hb
                replace h := chk_some.1 h; obtain ⟨⟨hl, hfit⟩, h⟩ := h
                cases h
                have hjd : ∃ vl, J b vl ≠ none := ⟨vl, by rw [hj]; simp⟩
                rcases I.blk b cs1 true hb hjd with ⟨_, hf, _⟩ | ⟨blk', base', ps', arr, el, hj', hh, hsz, hps, hex, hc, hnM⟩
                · cases hf
                · rw [hl, hj] at hj'; cases hj'
                  have hpl := hex rfl
                  have hr : rd S b off vl (n * sz) = some ((cs1.drop off).take (n * sz)) := by
                    unfold rd; rw [hb]; simp only; rw [chk_pos ⟨hl, hfit⟩]
                  obtain ⟨o1, o2⟩ := olds hr
                  have hlt : c < n + m := by
                    have : c * sz < (n + m) * sz := by omega
                    exact Nat.lt_of_mul_lt_mul_right this
                  exact newrow o1 hn hadn hlt hroom o2
              · rename_i cs1 hb
                replace h := chk_some.1 h; obtain ⟨⟨hl, hoff, hfit⟩, h⟩ := h
                subst hoff
                cases h
                have hjd : ∃ vl, J b vl ≠ none := ⟨vl, by rw [hj]; simp⟩
                rcases I.blk b cs1 false hb hjd with ⟨rfl, _, h0⟩ | ⟨blk', base', ps', arr, el, hj', hh, hsz, hps, hex, hc, hnM⟩
                · simp at hl; rw [← hl, h0] at hj; cases hj
                · rw [hl, hj] at hj'; cases hj'
                  have hr : rd S b 0 vl (n * sz) = some (cs1.take (n * sz)) := by
                    unfold rd; rw [hb]; simp only; rw [chk_pos ⟨hl, by omega⟩]; rfl
                  obtain ⟨o1, o2⟩ := olds hr
                  exact app_amb I hu hi his hib hz hzs hpos hbp hb hl hj hn hcp had hxl hmp hroom o1 o2 hx' hnle
              · cases h
          · cases h0
      · -- it lay nowhere
        have hmz : 0 < m * sz := Nat.mul_pos hmp hpos
        split at h
        · rename_i c0
          rcases hcap with h0 | h0
          · cases h0
          · cases h0
            rw [if_neg (by omega)] at h
            replace h := chk_some.1 h; obtain ⟨hroom, h⟩ := h
            replace h := Option.bind_eq_some_iff.1 h; obtain ⟨os, hr, h⟩ := h
            cases h
            have := rd_virtual I hr
            subst this
            exact newrow (os := []) (by simp) (Nat.le_refl _) (fun _ => rfl) (by omega) hroom (.inl rfl)
        · rw [if_neg (by simp only [Nat.zero_add]; omega)] at h
          replace h := chk_some.1 h; obtain ⟨hroom, h⟩ := h
          split at h
          · rename_i cs1 hb
            replace h := chk_some.1 h; obtain ⟨⟨hl, hfit⟩, h⟩ := h
            cases h
            have hc1 : cs1 = [] := List.eq_nil_of_length_eq_zero hl
            subst hc1
            simp only [Nat.zero_mul, List.take_zero, List.drop_nil, List.take_nil]
            exact newrow (os := []) (by simp) (Nat.le_refl _) (fun _ => rfl) (by omega) hroom (.inl rfl)
          · rename_i cs1 hb
            replace h := chk_some.1 h; obtain ⟨⟨hl, _, hfit⟩, h⟩ := h
            cases h
            have hc1 : cs1 = [] := List.eq_nil_of_length_eq_zero hl
            subst hc1
            have hjd : ∃ vl, J b vl ≠ none := ⟨0, by rw [hj]; simp⟩
            obtain ⟨arr', cap', hrun, q1, q2, q3, q4⟩ := append_grown (P := P) (ty := ty) I hu hi his hib hz hzs hpos hbp (ad := ad) (ad' := ad') (n := 0) (c := 0) (c' := c') (os := []) (by simp) hxl (Nat.le_refl _) (fun _ => rfl) (by omega) hmp hroom (.inl rfl) hx'
            have hheap : (w.drew.alloc (.cells arr' e)).heap = w.heap.push (.cells arr' e (0, 0)) := rfl
            have hset := I.setb (w' := w.drew.alloc (.cells arr' e)) (cs' := [] ++ xs) (ex' := false) (blk := w.heap.size) (base := 0) (ps := arr'.size) (arr := arr') (el := e) hb hjd (by simp) (.inl (fresh_new I hb (by simp; omega)))
              (fun i hi _ => by rw [hheap, Array.getElem?_push, if_neg (by omega)]) (.inl (Nat.le_refl _)) (by rw [hheap]; simp) (by omega) q3 (by simp)
              (fun k x hk => by simpa using q4 k x hk) (by rw [hheap]; simp) rfl rfl rfl
            have hlen : ([] ++ xs).length = (0 + m) * sz := by simp [hxl]
            rw [hlen] at hset
            simp only [Nat.zero_mul, List.take_zero]
            exact ⟨_, _, _, hrun, hset.1, hset.2, ARep.msl b 0 (0 + m) sz _ none w.heap.size 0 arr'.size cap' _ (JMap.put_self ..) q1 (.inl ⟨rfl, by omega⟩) (.inr rfl)⟩
          · cases h
    | _ => simp only at h; cases h
set_option maxHeartbeats 1000000 in
theorem sim_app (hm : MidOk fid mid) {sz by_ : Nat} : Sim P fid mid R o (.app sz by_) := by
  intro ps S S' J M w tm a v' hok I ht h
  unfold okOp at hok
  simp only at hok
  split at hok
  · rename_i args ats hop
    simp only [Bool.and_eq_true, decide_eq_true_eq] at hok
    obtain ⟨⟨⟨hty, h4⟩, hpos⟩, hbp⟩ := hok
    split at hty
    · rename_i t t' hat
      have hat' := toList_two hat
      simp only [Bool.and_eq_true, beq_iff_eq] at hty
      obtain ⟨rfl, hty⟩ := hty
      split at hty
      · rename_i e hu
        simp only [Bool.and_eq_true] at hty
        obtain ⟨⟨hs, hb⟩, hz⟩ := hty
        split at hz
        · rename_i i hi
          split at hz
          · rename_i z hzz
            have his : i.size = sz := by unfold szIs at hs; rw [hi] at hs; simpa using hs
            have hib : i.bytes = by_ := by unfold byIs at hb; rw [hi] at hb; simpa using hb
            have hzs : z.cells.size = sz := by simpa using hz
            cases hvs : ps.map (·.ev tm) with
            | nil => rw [hvs] at h; simp [opA] at h
            | cons x xs =>
              cases xs with
              | nil => rw [hvs] at h; simp [opA] at h
              | cons y ys =>
                cases ys with
                | cons u us => rw [hvs] at h; simp [opA] at h
                | nil =>
                  rw [hvs] at h
                  simp only [opA] at h
                  obtain ⟨c1, c2, hca, r1, r2⟩ := args2 hm ht h4 hvs
                  obtain ⟨cv, J', w', hrun, I', st, hr⟩ := appA_rep (P := P) (ty := o.type) I hu hi his hib hzz hzs hpos hbp r1 r2 h
                  exact ⟨cv, J', M, w', .inl (by simp only [execOp_builtin hop, hca, hat']; simp [builtin, hrun]), I', st, hr⟩
          · cases hz
        · cases hz
      · cases hty
    · cases hty
  · cases hok
theorem sim_cpy (hm : MidOk fid mid) {sz : Nat} : Sim P fid mid R o (.cpy sz) := by
  intro ps S S' J M w tm a v' hok I ht h
  unfold okOp at hok
  simp only at hok
  split at hok
  · rename_i args ats hop
    simp only [Bool.and_eq_true, decide_eq_true_eq] at hok
    obtain ⟨⟨hty, h4⟩, hpos⟩ := hok
    split at hty
    · rename_i t t' hat
      have hat' := toList_two hat
      split at hty
      · rename_i e hu
        cases hvs : ps.map (·.ev tm) with
        | nil => rw [hvs] at h; simp [opA] at h
        | cons x xs =>
          cases xs with
          | nil => rw [hvs] at h; cases x <;> simp [opA] at h
          | cons y ys =>
            cases ys with
            | cons u us => rw [hvs] at h; cases x <;> simp [opA] at h
            | nil =>
              rw [hvs] at h
              cases x <;> simp only [opA] at h <;> try (cases h)
              rename_i b off n sz' vl cap
              replace h := chk_some.1 h; obtain ⟨rfl, h⟩ := h
              replace h := Option.bind_eq_some_iff.1 h; obtain ⟨⟨m, xs⟩, hh, h⟩ := h
              simp only at h
              replace h := Option.bind_eq_some_iff.1 h; obtain ⟨S1, hw, h⟩ := h
              cases h
              obtain ⟨c1, c2, hca, r1, r2⟩ := args2 hm ht h4 hvs
              obtain ⟨ad', c', rfl, hmc, hxl, hxc⟩ := held_rep I hh r2
              -- what is copied
              have hfc : ∃ news : List Value, (Builtin.firstCells sz (min m n) (.slice ad' m c')).run P w = .ok news.toArray w ∧ CRep fid J M (xs.take (min m n * sz)) news.toArray := by
                by_cases h0 : min m n * sz = 0
                · refine ⟨[], ?_, by simp [h0], fun k x hx => by rw [h0] at hx; simp at hx⟩
                  cases ad' <;> simp [Builtin.firstCells, h0, loadCells, loadCellsFrom]
                · have hmz : ¬ m * sz = 0 := fun e => h0 (by
                    rcases Nat.mul_eq_zero.1 e with e | e
                    · simp [e]
                    · simp [e])
                  obtain ⟨blk, o', rfl, hx⟩ := hxc.resolve_left hmz
                  have hle : min m n * sz ≤ m * sz := Nat.mul_le_mul_right _ (Nat.min_le_left _ _)
                  obtain ⟨news, n1, n2, n3, n4⟩ := news_of (m := min m n) (sz := sz) (xs := xs.take (min m n * sz)) (by simp; omega) (blk := blk) (off := o') (fun k y hy => by
                    have hk : k < min m n * sz := by have := (List.getElem?_eq_some_iff.1 hy).1; simp at this; omega
                    rw [List.getElem?_take_of_lt hk] at hy
                    exact hx k y hy)
                  exact ⟨news, run_firstCells_some (P := P) w sz (min m n) ⟨blk, o', none⟩ m c' news n1 n2, n4⟩
              obtain ⟨news, hfr, hcr⟩ := hfc
              rcases r1.msl_inv with ⟨blk, base, p, c, ad, hj, hn, hcap, had, rfl⟩ | ⟨rfl, rfl, rfl, hcap, hj, ad, rfl⟩
              · obtain ⟨J', w', hst, I', st⟩ := wr_rep (P := P) I hw hj hcr
                rcases had with rfl | rfl
                · have hn0 : n = 0 := by omega
                  subst hn0
                  have hx0 : xs.take (min m 0 * sz) = [] := by simp
                  have hnews : news = [] := by have := hcr.1; rw [hx0] at this; simpa using this
                  subst hnews
                  have hw' : w' = w := by
                    have : (storeCells ⟨blk, base + off, none⟩ ([] : List Value).toArray.toList).run P w = .ok () w := by simp [storeCells]
                    rw [this] at hst; cases hst; rfl
                  subst hw'
                  refine ⟨goInt ((min m 0 : Nat) : Int), J', M, w', .inl ?_, I', st, .fr (.int _ _)⟩
                  simp only [execOp_builtin hop, hca, hat']
                  cases ad <;> simp [builtin, Builtin.copy_, run_underlying hu, szIs_run hty, Builtin.lenOf, Nat.min_def] at hfr ⊢ <;> simp [hfr, storeCells]
                · refine ⟨goInt ((min m n : Nat) : Int), J', M, w', .inl ?_, I', st, .fr (.int _ _)⟩
                  simp only [List.toList_toArray] at hst
                  simp only [execOp_builtin hop, hca, hat']
                  simp [builtin, Builtin.copy_, run_underlying hu, szIs_run hty, Builtin.lenOf, show m.min n = min m n from rfl, hfr, hst]
              · -- a copy into what lies nowhere
                have hx0 : xs.take (min m 0 * sz) = [] := by simp
                have hnews : news = [] := by have := hcr.1; rw [hx0] at this; simpa using this
                subst hnews
                have hS : S' = S := by
                  rw [hx0] at hw
                  unfold wr at hw
                  split at hw
                  · rename_i cs0 ex0 hb0
                    replace hw := chk_some.1 hw; obtain ⟨⟨hl0, _⟩, hw⟩ := hw
                    cases hw
                    have : cs0 = [] := List.eq_nil_of_length_eq_zero hl0
                    subst this
                    apply List.ext_getElem?
                    intro k
                    by_cases hk : b = k
                    · subst hk; rw [List.getElem?_set_self (List.getElem?_eq_some_iff.1 hb0).1, hb0]; rfl
                    · rw [List.getElem?_set_ne hk]
                  · cases hw
                subst hS
                refine ⟨goInt ((min m 0 : Nat) : Int), J, M, w, .inl ?_, I, Step.refl .., .fr (.int _ _)⟩
                simp only [execOp_builtin hop, hca, hat']
                cases ad <;> simp [builtin, Builtin.copy_, run_underlying hu, szIs_run hty, Builtin.lenOf, Nat.min_def] at hfr ⊢ <;> simp [hfr, storeCells]
      · cases hty
    · cases hty
  · cases hok
theorem zeroCells_eq (z : Array Value) (n : Nat) : Builtin.zeroCells z n = (Array.range (n * z.size)).map (z[· % z.size]!) := rfl
theorem sim_clr (hm : MidOk fid mid) {sz : Nat} {z : List AV} : Sim P fid mid R o (.clr sz z) := by
  intro ps S S' J M w tm a v' hok I ht h
  unfold okOp at hok
  simp only at hok
  split at hok
  · rename_i args ats hop
    simp only [Bool.and_eq_true, decide_eq_true_eq] at hok
    obtain ⟨⟨hty, h4⟩, hpos⟩ := hok
    split at hty
    · rename_i t hat
      have hat' := toList_one hat
      split at hty
      · rename_i e hu
        simp only [Bool.and_eq_true] at hty
        obtain ⟨hs, hz⟩ := hty
        cases hvs : ps.map (·.ev tm) with
        | nil => rw [hvs] at h; simp [opA] at h
        | cons x xs =>
          cases xs with
          | cons y ys => rw [hvs] at h; cases x <;> simp [opA] at h
          | nil =>
            rw [hvs] at h
            cases x <;> simp only [opA] at h <;> try (cases h)
            rename_i b off n sz' vl cap
            replace h := chk_some.1 h; obtain ⟨⟨rfl, hzl⟩, h⟩ := h
            replace h := Option.bind_eq_some_iff.1 h; obtain ⟨S1, hw, h⟩ := h
            cases h
            obtain ⟨c1, hca, r1⟩ := args1 hm ht h4 hvs
            obtain ⟨i, v, hi, hv, his, hvs', hE⟩ := zeros_rep (fid := fid) (J := J) (M := M) (len := n) (z := .agg z) (t := e) hz hs hzl hpos
            obtain ⟨e1, e2⟩ := hE.cells hpos
            have hfl : (List.replicate n (AV.agg z)).flatMap AV.cells = (List.replicate n z).flatten := by
              rw [List.flatMap_def, List.map_replicate]; rfl
            rw [hfl] at e1 e2
            have hcr : CRep fid J M (List.replicate n z).flatten (Builtin.zeroCells v.cells n) := by
              rw [zeroCells_eq, show n * v.cells.size = n * sz by rw [hvs']]
              exact ⟨e1.symm, e2⟩
            have hzv : ∀ w, (zeroValue e).run P w = .ok v w := fun w => by simp [zeroValue, typeInfo, hi, hv]
            have hun : ARep fid J M (.tup []) (.tuple #[]) := .tup [] #[] rfl (fun _ => default) (fun k x hx => by simp at hx) (fun k x hx => by simp at hx)
            rcases r1.msl_inv with ⟨blk, base, p, c, ad, hj, hn, hcap, had, rfl⟩ | ⟨rfl, rfl, rfl, hcap, hj, ad, rfl⟩
            · obtain ⟨J', w', hst, I', st⟩ := wr_rep (P := P) I hw hj hcr
              have hun' : ARep fid J' M (.tup []) (.tuple #[]) := .tup [] #[] rfl (fun _ => default) (fun k x hx => by simp at hx) (fun k x hx => by simp at hx)
              by_cases hn0 : n = 0
              · subst hn0
                have hw' : w' = w := by
                  have h0 : Builtin.zeroCells v.cells 0 = #[] := by simp [Builtin.zeroCells, Array.range_zero']
                  rw [h0] at hst
                  simp [storeCells] at hst
                  exact hst.symm
                subst hw'
                refine ⟨.tuple #[], J', M, w', .inl ?_, I', st, hun'⟩
                simp only [execOp_builtin hop, hca, hat']
                cases ad <;> simp [builtin, Builtin.clear_, run_underlying hu]
              · have hde : ad = some ⟨blk, base + off, none⟩ := had.resolve_left (by omega)
                subst hde
                refine ⟨.tuple #[], J', M, w', .inl ?_, I', st, hun'⟩
                simp only [execOp_builtin hop, hca, hat']
                obtain ⟨k, rfl⟩ : ∃ k, n = k + 1 := ⟨n - 1, by omega⟩
                simp [builtin, Builtin.clear_, run_underlying hu, hzv, hst]
            · have hS : S' = S := by
                simp only [List.replicate_zero, List.flatten_nil] at hw
                unfold wr at hw
                split at hw
                · rename_i cs0 ex0 hb0
                  replace hw := chk_some.1 hw; obtain ⟨⟨hl0, _⟩, hw⟩ := hw
                  cases hw
                  have : cs0 = [] := List.eq_nil_of_length_eq_zero hl0
                  subst this
                  apply List.ext_getElem?
                  intro k
                  by_cases hk : b = k
                  · subst hk; rw [List.getElem?_set_self (List.getElem?_eq_some_iff.1 hb0).1, hb0]; rfl
                  · rw [List.getElem?_set_ne hk]
                · cases hw
              subst hS
              refine ⟨.tuple #[], J, M, w, .inl ?_, I, Step.refl .., hun⟩
              simp only [execOp_builtin hop, hca, hat']
              cases ad <;> simp [builtin, Builtin.clear_, run_underlying hu]
      · cases hty
    · cases hty
  · cases hok
end
section
variable {P : Program} {fid : Nat → FuncId} {mid : FuncId → Option Nat} {S S' : Store} {J : JMap} {M : Mem} {w : World} {tm : List AV} {a : Act} {o : Oper} {ps : List Opd} {v' : AV} {R : RunF}
def AsRep (fid : Nat → FuncId) (J : JMap) (M : Mem) (args : List AV) (cargs : Array Value) : Prop := cargs.size = args.length ∧ ∀ (k : Nat) (x : AV), args[k]? = some x → ∃ cv : Value, cargs[k]? = some cv ∧ ARep fid J M x cv
def Left (fid : Nat → FuncId) (S : Store) (J : JMap) (M : Mem) (w : World) (r : AV) (S' : Store) (e : Ending) (w' : World) : Prop :=
  ∃ v J' M', e = .returned v ∧ Inv fid S' J' M' w' ∧ Step S J M w S' J' M' w' ∧ ARep fid J' M' r v
def SoundR (P : Program) (fid : Nat → FuncId) (R : RunF) : Prop :=
  ∀ f args S r S', R f args S = some (r, S') → (∀ cargs w, (callFunc (fid f) cargs).run P w = .ok (.enter (fid f) cargs) w) ∧
    ∀ J M w cargs, Inv fid S J M w → AsRep fid J M args cargs → Calls P (fid f) cargs w (Left fid S J M w r S')
theorem Inv.empty (hm : ∀ b o v, M b o = some v → w.cell? ⟨b, o, none⟩ = some v ∧ v.plain) : Inv fid [] (fun _ _ => none) M w :=
  { mem := hm
    blk := fun b cs ex h => (by simp at h)
    fzb := fun b cs h => (by simp at h)
    jlt := fun b vl h => absurd rfl h
    jmx := fun b vl cs ex h => (by simp at h)
    jps := fun b vl _ _ _ h => nomatch h
    inj := fun b b' cs ex cs' ex' blk base p base' p' h => (by simp at h) }
theorem not_wr_nil {J : JMap} {i : Nat} : ¬ Wr [] J i := by
  rintro ⟨b, cs, ex, base, p, h, _⟩
  simp at h
def argIds (S : Store) (args : List AV) : List Nat := args.flatMap (ids S fzDepth)
theorem argIds_nr {args : List AV} (h : args.all nr1 = true) : argIds S args = [] := by
  unfold argIds
  rw [List.flatMap_eq_nil_iff]
  intro x hx
  exact nr1_ids (List.all_eq_true.1 h x hx) _
theorem Mset_nil : Mset S J M w (· ∈ ([] : List Nat)) = M := by
  funext b o
  unfold Mset
  cases hm : M b o with
  | some v => rfl
  | none =>
    simp only
    rw [if_neg]
    rintro ⟨_, _, _, _, _, hf, _⟩
    cases hf
structure Back (fid : Nat → FuncId) (S : Store) (J : JMap) (M : Mem) (w : World) (B : List Nat) (M2 : Mem) (w' : World) : Prop where
  le : (Mset S J M w (· ∈ B)).le M2
  new : ∀ b o v, M2 b o = some v → Mset S J M w (· ∈ B) b o = some v ∨ w.heap.size ≤ b
  mem : ∀ b o v, M2 b o = some v → w'.cell? ⟨b, o, none⟩ = some v ∧ v.plain
  frame : ∀ i, i < w.heap.size → w'.heap[i]? = w.heap[i]?
  size : w.heap.size ≤ w'.heap.size
  os : w'.os = w.os
  tape : w'.tape = w.tape
  output : w'.output = w.output
theorem settle_wr {bs : List Nat} (h : settle S bs bs S = some S') {i : Nat} (hw : Wr S' J i) : Wr S J i := by
  obtain ⟨b, cs, ex, base, p, h1, h2⟩ := hw
  obtain ⟨hl, hg⟩ := settle_get h
  rcases hg b with e | ⟨_, _, _, _, _, _, _, e⟩ | e
  · exact ⟨b, cs, ex, base, p, by rw [← e]; exact h1, h2⟩
  · rw [e] at h1; cases h1
  · rw [e] at h1; cases h1
theorem after_back (I : Inv fid S J M w) {args : List AV} {cargs : Array Value} (ha : AsRep fid J M args cargs) {M2 : Mem} {w' : World} (hb : Back fid S J M w (argIds S args) M2 w') {st : Bool} {r : AV} (h : after st S args r = some S') :
    ∃ M3, Inv fid S' J M3 w' ∧ Step S J M w S' J M3 w' ∧ (∀ i, Wr S' J i → Wr S J i) ∧ (M3 = M2 ∨ (r.bare = true ∧ M3 = M)) := by
  have hd : ∀ b ∈ argIds S args, ∃ vl, J b vl ≠ none := by
    intro b hb
    obtain ⟨x, hx, hb⟩ := List.mem_flatMap.1 hb
    obtain ⟨k, hk⟩ := List.mem_iff_getElem?.1 hx
    obtain ⟨cv, _, hr⟩ := ha.2 k x hk
    exact ids_def I _ hr b hb
  unfold after at h
  split at h
  · rename_i hc
    cases h
    by_cases hnr : args.all nr1 = true
    · have hB := argIds_nr (S := S) hnr
      obtain ⟨h1, h2, h3, h4, h5, h6, h7, h8⟩ := hb
      rw [hB, Mset_nil] at h1 h2
      obtain ⟨i1, s1⟩ := after_keep I h1 h2 h3 h4 h5 h6 h7 h8
      exact ⟨M2, i1, s1, fun _ h => h, .inl rfl⟩
    · have hbare : r.bare = true := by
        cases hrb : r.bare with
        | true => rfl
        | false => rw [hrb] at hc; simp at hc; exact absurd (by simpa using hc) hnr
      obtain ⟨i1, s1⟩ := after_drop I hb.frame hb.size hb.os hb.tape hb.output
      exact ⟨M, i1, s1, fun _ h => h, .inr ⟨hbare, rfl⟩⟩
  · split at h
    · cases h
    · obtain ⟨i1, s1⟩ := after_settle I h hd hb.le hb.new hb.mem hb.frame hb.size hb.os hb.tape hb.output
      exact ⟨M2, i1, s1, fun _ hw => settle_wr h hw, .inl rfl⟩
theorem frozen_args (I : Inv fid S J M w) {args as : List AV} {cargs : Array Value} (ha : AsRep fid J M args cargs) (h : args.mapM (fz1 S) = some as) :
    AsRep fid (fun _ _ => none) (Mset S J M w (· ∈ argIds S args)) as cargs := by
  obtain ⟨hl, _⟩ := mapM_some h
  refine ⟨by rw [ha.1, hl], fun k x hx => ?_⟩
  obtain ⟨y, hy, hf⟩ := mapM_inv h hx
  obtain ⟨cv, hc, hr⟩ := ha.2 k y hy
  exact ⟨cv, hc, .fr (fz1_sound I _ hf (fun b hb => List.mem_flatMap.2 ⟨y, List.mem_of_getElem? hy, hb⟩) hr)⟩
theorem back_of {B : List Nat} {S0 : Store} {J' : JMap} {M' : Mem} {w' : World} {Q : Nat → Prop} (hs : Step [] (fun _ _ => none) (Mset S J M w (· ∈ B)) w S0 J' M' w') {S1 : Store} (I1 : Inv fid S1 J' M' w') (hsub : ∀ i, Wr S1 J' i → Wr S0 J' i) :
    Back fid S J M w B (Mset S1 J' M' w' Q) w' := by
  refine ⟨fun b o v h => Mset_le _ _ _ _ (hs.mle _ _ _ h), fun b o v h => ?_, fun b o v h => Mset_mem I1 h, fun i hi => hs.frame i hi not_wr_nil, hs.size, hs.os, hs.tape, hs.output⟩
  rcases Mset_cases h with h | ⟨_, hc, _⟩
  · rcases hs.mnew b o v h with h | h | h
    · exact .inl h
    · exact .inr h
    · exact absurd h not_wr_nil
  · rcases hs.wnew b (hsub b hc.wr) with h | h
    · exact absurd h not_wr_nil
    · exact .inr h
theorem callPure_sound (hR : SoundR P fid R) (I : Inv fid S J M w) {args : List AV} {cargs : Array Value} (ha : AsRep fid J M args cargs) {as : List AV} (has : args.mapM (fz1 S) = some as) {f : Nat} {r : AV} (h : callPure R f as = some r) :
    (∀ cargs w, (callFunc (fid f) cargs).run P w = .ok (.enter (fid f) cargs) w) ∧ Calls P (fid f) cargs w fun e w' => ∃ v M2, e = .returned v ∧ Back fid S J M w (argIds S args) M2 w' ∧ FRep fid M2 r v := by
  unfold callPure at h
  obtain ⟨⟨r0, S0⟩, h0, h⟩ := Option.bind_eq_some_iff.1 h
  obtain ⟨hc, hq⟩ := hR f as [] r0 S0 h0
  have I0 : Inv fid [] (fun _ _ => none) (Mset S J M w (· ∈ argIds S args)) w := .empty fun b o v h => Mset_mem I h
  refine ⟨hc, (hq _ _ w cargs I0 (frozen_args I ha has)).mono ?_⟩
  rintro e w' ⟨v, J', M', rfl, I', hs, hr⟩
  exact ⟨v, _, rfl, back_of hs I' (fun _ h => h), fzv_sound I' h hr⟩
theorem Inv.kill (I : Inv fid S J M w) (b : Nat) : Inv fid (S.set b .dead) J M w := by
  have hget : ∀ (b' : Nat) (B : Blk), (S.set b .dead)[b']? = some B → B = Blk.dead ∨ S[b']? = some B := by
    intro b' B e
    by_cases hbb : b = b'
    · subst hbb
      by_cases hl : b < S.length
      · rw [List.getElem?_set_self hl] at e; cases e; exact .inl rfl
      · simp [hl] at e
    · rw [List.getElem?_set_ne hbb] at e; exact .inr e
  have hmu : ∀ (b' : Nat) (cs : List AV) (ex : Bool), (S.set b .dead)[b']? = some (Blk.mu cs ex) → S[b']? = some (Blk.mu cs ex) := fun b' cs ex e => by
    rcases hget b' _ e with h | h
    · cases h
    · exact h
  refine ⟨I.mem, fun b' cs ex h => I.blk b' cs ex (hmu _ _ _ h), fun b' cs h => ?_, fun b' vl h => by rw [List.length_set]; exact I.jlt b' vl h, fun b' vl cs ex h => I.jmx b' vl cs ex (hmu _ _ _ h), I.jps,
    fun b1 b2 c1 e1 c2 e2 blk base p base' p' h1 j1 h2 j2 => I.inj b1 b2 c1 e1 c2 e2 blk base p base' p' (hmu _ _ _ h1) j1 (hmu _ _ _ h2) j2⟩
  rcases hget b' _ h with h | h
  · cases h
  · exact I.fzb b' cs h
def OwnRep (fid : Nat → FuncId) (M : Mem) (w : World) (lo : Nat) : AV → Value → Prop
  | .osl cs n sz ex, v =>
    (cs = [] ∧ n = 0 ∧ ex = false ∧ ∃ ad, v = .slice ad 0 0) ∨
    ∃ blk base p arr el c ad, v = .slice ad n c ∧ (c = 0 ∨ ad = some ⟨blk, base, none⟩) ∧ lo ≤ blk ∧ w.heap[blk]? = some (.cells arr el (0, 0)) ∧ arr.size = base + p ∧ cs.length = n * sz ∧ cs.length ≤ p ∧ (ex = true → p = cs.length) ∧ n ≤ c ∧ c * sz = p ∧ (∀ o, M blk o = none) ∧
      ∀ (k : Nat) (x : AV), cs[k]? = some x → ∃ cv : Value, arr[base + k]? = some cv ∧ cv.plain ∧ FRep fid M x cv
  | x, v => FRep fid M x v
theorem takeOwn_sound {S0 : Store} {J' : JMap} {M' : Mem} {w' : World} {lo : Nat} (I : Inv fid S0 J' M' w') (hlo : ∀ i, Wr S0 J' i → lo ≤ i) {x : AV} {v : Value} (r : ARep fid J' M' x v) {oo : AV} {S1 : Store} (h : takeOwn S0 x = some (oo, S1)) :
    Inv fid S1 J' M' w' ∧ (∀ i, Wr S1 J' i → Wr S0 J' i) ∧ OwnRep fid (Mset S1 J' M' w' fun _ => True) w' lo oo v := by
  cases x with
  | sl es sz t =>
    simp only [takeOwn] at h; cases h
    refine ⟨I, fun _ h => h, ?_⟩
    cases r with
    | fr r => exact r.mono (Mset_le _)
  | msl b off n sz vl cap =>
    cases cap with
    | some c => simp [takeOwn] at h
    | none =>
      simp only [takeOwn] at h
      split at h
      · rename_i cs ex hb
        replace h := chk_some.1 h; obtain ⟨⟨rfl, hl, hfit⟩, h⟩ := h
        replace h := Option.bind_eq_some_iff.1 h; obtain ⟨cs', hm, h⟩ := h
        cases h
        have hbl := (List.getElem?_eq_some_iff.1 hb).1
        have hwr' : ∀ i, Wr (S0.set b .dead) J' i → ∃ b' c e base p, b' ≠ b ∧ S0[b']? = some (.mu c e) ∧ J' b' c.length = some (some (i, base, p)) := by
          rintro i ⟨b', c, e, base, p, h1, h2⟩
          by_cases hbb : b = b'
          · subst hbb
            rw [List.getElem?_set_self hbl] at h1; cases h1
          · rw [List.getElem?_set_ne hbb] at h1
            exact ⟨b', c, e, base, p, fun e => hbb e.symm, h1, h2⟩
        have hwr : ∀ i, Wr (S0.set b .dead) J' i → Wr S0 J' i := fun i hi => by
          obtain ⟨b', c, e, base, p, _, h1, h2⟩ := hwr' i hi
          exact ⟨b', c, e, base, p, h1, h2⟩
        have Ik := I.kill b
        refine ⟨Ik, hwr, ?_⟩
        obtain ⟨hlen, _⟩ := mapM_some hm
        have hlen' : cs'.length = n * sz := by rw [hlen, List.length_take]; omega
        rcases r.msl_inv with ⟨blk, base, p, c, ad, hj, hn, hcap, had, rfl⟩ | ⟨_, rfl, rfl, _, hj, ad, rfl⟩
        · rcases I.blk b cs ex hb ⟨vl, by rw [hj]; simp⟩ with ⟨rfl, _, h0⟩ | ⟨blk', base', p', arr, el, hj', hh, hsz, hps, hex, hc, hn'⟩
          · simp at hl; rw [← hl, h0] at hj; cases hj
          · rw [hl, hj] at hj'; cases hj'
            rcases hcap with ⟨_, hcp⟩ | ⟨h0, _⟩
            · refine .inr ⟨blk, base, p, arr, el, c, ad, rfl, had, hlo blk ⟨b, cs, ex, base, p, hb, by rw [hl]; exact hj⟩, hh, hsz, hlen', by omega, fun e => ?_, hn, by omega, fun o => ?_, fun k y hy => ?_⟩
              · simp only [Bool.and_eq_true, beq_iff_eq] at e
                have := hex e.1
                omega
              · cases e : Mset (S0.set b .dead) J' M' w' (fun _ => True) blk o with
                | none => rfl
                | some u =>
                  rcases Mset_cases e with e | ⟨_, hcv, _⟩
                  · rw [hn'] at e; cases e
                  · obtain ⟨b', c2, e2, base2, p2, hne, h1, h2⟩ := hwr' blk hcv.wr
                    exact absurd (I.inj b' b c2 e2 cs ex blk base2 p2 base p h1 h2 hb (by rw [hl]; exact hj)) hne
              · obtain ⟨x, hx, hf⟩ := mapM_inv hm hy
                have hk : k < n * sz := by have := (List.getElem?_eq_some_iff.1 hy).1; omega
                rw [List.getElem?_take_of_lt hk] at hx
                obtain ⟨cv, c1, c2, c3⟩ := hc k x hx
                exact ⟨cv, c1, c2, fzc_sound Ik _ fzDepth hf (fun _ _ => trivial) c3⟩
            · cases h0
        · rcases I.blk b cs ex hb ⟨0, by rw [hj]; simp⟩ with ⟨rfl, he, _⟩ | ⟨blk', base', p', arr, el, hj', _⟩
          · subst he
            exact .inl ⟨List.eq_nil_of_length_eq_zero (by rw [hlen']; simp), rfl, rfl, ad, rfl⟩
          · rw [hl, hj] at hj'; cases hj'
      · cases h
  | _ => simp [takeOwn] at h
theorem insert_get {l : List AV} {i : Nat} (hi : i ≤ l.length) (x : AV) (k : Nat) : (l.take i ++ x :: l.drop i)[k]? = if k < i then l[k]? else if k = i then some x else l[k - 1]? := by
  by_cases h1 : k < i
  · rw [List.getElem?_append_left (by simp; omega), List.getElem?_take_of_lt h1, if_pos h1]
  · rw [if_neg h1, List.getElem?_append_right (by simp; omega)]
    have hmin : min i l.length = i := by omega
    simp only [List.length_take, hmin]
    by_cases h2 : k = i
    · subst h2; simp
    · rw [if_neg h2, show k - i = (k - 1 - i) + 1 by omega, List.getElem?_cons_succ, List.getElem?_drop]
      congr 1; omega
def OwnsRep (fid : Nat → FuncId) (M : Mem) (w : World) (lo : Nat) (r : AV) (v : Value) : Prop :=
  OwnRep fid M w lo r v ∨ ∃ rs vs, r = .tup rs ∧ v = .tuple vs ∧ vs.size = rs.length ∧ ∃ i, i < rs.length ∧ (∀ (k : Nat) (x : AV), k ≠ i → rs[k]? = some x → ∃ cv : Value, vs[k]? = some cv ∧ FRep fid M x cv) ∧
    ∃ x cv, rs[i]? = some x ∧ vs[i]? = some cv ∧ OwnRep fid M w lo x cv
theorem ownRes_sound {S0 : Store} {J' : JMap} {M' : Mem} {w' : World} {lo : Nat} (I : Inv fid S0 J' M' w') (hlo : ∀ i, Wr S0 J' i → lo ≤ i) {r0 : AV} {v : Value} (rr : ARep fid J' M' r0 v) {i : Nat} {r : AV} (h : ownRes S0 i r0 = some r) :
    ∃ S1, Inv fid S1 J' M' w' ∧ (∀ i, Wr S1 J' i → Wr S0 J' i) ∧ OwnsRep fid (Mset S1 J' M' w' fun _ => True) w' lo r v := by
  unfold ownRes at h
  split at h
  · rename_i rs
    split at h
    · rename_i x hx
      replace h := Option.bind_eq_some_iff.1 h; obtain ⟨⟨oo, S1⟩, ho, h⟩ := h
      replace h := Option.bind_eq_some_iff.1 h; obtain ⟨r', hr', h⟩ := h
      cases h
      obtain ⟨vs, rfl, hs, hq⟩ := rr.tup_inv
      obtain ⟨cv, hcv, hrx⟩ := hq i x hx
      have hil := (List.getElem?_eq_some_iff.1 hx).1
      obtain ⟨I1, hw1, ho1⟩ := takeOwn_sound I hlo hrx ho
      refine ⟨S1, I1, hw1, .inr ⟨_, vs, rfl, rfl, ?_, i, ?_, fun k y hk hy => ?_, oo, cv, ?_, hcv, ho1⟩⟩
      · obtain ⟨hl, _⟩ := mapM_some hr'
        rw [List.length_eraseIdx_of_lt hil] at hl
        simp; omega
      · obtain ⟨hl, _⟩ := mapM_some hr'
        rw [List.length_eraseIdx_of_lt hil] at hl
        simp; omega
      · obtain ⟨hl, _⟩ := mapM_some hr'
        rw [List.length_eraseIdx_of_lt hil] at hl
        rw [insert_get (by omega)] at hy
        rw [if_neg hk] at hy
        have key : ∃ j : Nat, r'[j]? = some y ∧ (rs.eraseIdx i)[j]? = rs[k]? := by
          split at hy
          · rename_i hlt
            exact ⟨k, hy, by rw [List.getElem?_eraseIdx, if_pos hlt]⟩
          · rename_i hge
            refine ⟨k - 1, hy, ?_⟩
            rw [List.getElem?_eraseIdx, if_neg (by omega)]
            congr 1; omega
        obtain ⟨j, hj1, hj2⟩ := key
        obtain ⟨z, hz, hf⟩ := mapM_inv hr' hj1
        rw [hj2] at hz
        obtain ⟨cz, hcz, hrz⟩ := hq k z hz
        exact ⟨cz, hcz, fz1_sound I1 _ hf (fun _ _ => trivial) hrz⟩
      · obtain ⟨hl, _⟩ := mapM_some hr'
        rw [List.length_eraseIdx_of_lt hil] at hl
        rw [insert_get (by omega), if_neg (by omega), if_pos rfl]
    · cases h
  · obtain ⟨⟨oo, S1⟩, ho, e⟩ := Option.map_eq_some_iff.1 h
    simp only at e
    subst e
    obtain ⟨I1, hw1, ho1⟩ := takeOwn_sound I hlo rr ho
    exact ⟨S1, I1, hw1, .inl ho1⟩
theorem callOwn_sound (hR : SoundR P fid R) (I : Inv fid S J M w) {args : List AV} {cargs : Array Value} (ha : AsRep fid J M args cargs) {as : List AV} (has : args.mapM (fz1 S) = some as) {i f : Nat} {r : AV} (h : callOwn R i f as = some r) :
    (∀ cargs w, (callFunc (fid f) cargs).run P w = .ok (.enter (fid f) cargs) w) ∧ Calls P (fid f) cargs w fun e w' => ∃ v M2, e = .returned v ∧ Back fid S J M w (argIds S args) M2 w' ∧ OwnsRep fid M2 w' w.heap.size r v := by
  unfold callOwn at h
  obtain ⟨⟨r0, S0⟩, h0, h⟩ := Option.bind_eq_some_iff.1 h
  obtain ⟨hc, hq⟩ := hR f as [] r0 S0 h0
  have I0 : Inv fid [] (fun _ _ => none) (Mset S J M w (· ∈ argIds S args)) w := .empty fun b o v h => Mset_mem I h
  refine ⟨hc, (hq _ _ w cargs I0 (frozen_args I ha has)).mono ?_⟩
  rintro e w' ⟨v, J', M', rfl, I', hs, hr⟩
  obtain ⟨S1, I1, hw1, ho⟩ := ownRes_sound (lo := w.heap.size) I' (fun i hi => (hs.wnew i hi).resolve_left not_wr_nil) hr h
  exact ⟨v, _, rfl, back_of hs I1 hw1, ho⟩
theorem land1_sound {S0 : Store} {J0 : JMap} {M0 : Mem} {w0 : World} (hst : Step S0 J0 M0 w0 S J M w) (I : Inv fid S J M w) (hI0 : ∀ i, Wr S J i → i < w0.heap.size) {r : AV} {v : Value} (h : OwnRep fid M w w0.heap.size r v) :
    ∃ J', Inv fid (land1 S r).2 J' M w ∧ Step S0 J0 M0 w0 (land1 S r).2 J' M w ∧ ARep fid J' M (land1 S r).1 v ∧ J.le J' := by
  cases r with
  | osl cs n sz ex =>
    simp only [land1]
    rcases h with ⟨rfl, rfl, rfl, ad, rfl⟩ | ⟨blk, base, p, arr, el, c, ad, rfl, had, hlo, hh, hsz, hl, hlp, hex, hn, hcp, hM, hc⟩
    · exact ⟨_, I.regN, hst.regN I.fresh, ARep.mslN _ sz none ad (JMap.put_self ..) (.inl rfl), JMap.put_le (.inl (I.fresh _))⟩
    · refine ⟨_, I.reg hh (fun hw => ?_) hM hsz hlp hex (fun k x hx => let ⟨cv, c1, c2, c3⟩ := hc k x hx; ⟨cv, c1, c2, .fr c3⟩), hst.reg I.fresh hlo, ?_, JMap.put_le (.inl (I.fresh _))⟩
      · have := hI0 _ hw; omega
      · exact ARep.msl S.length 0 n sz cs.length none blk base p c ad (JMap.put_self ..) hn (.inl ⟨rfl, by omega⟩) (by simpa using had)
  | _ => exact ⟨J, I, hst, .fr h, fun _ _ _ h => h⟩
theorem land_sound {S0 : Store} {J0 : JMap} {M0 : Mem} {w0 : World} (hst : Step S0 J0 M0 w0 S J M w) (I : Inv fid S J M w) (hI0 : ∀ i, Wr S J i → i < w0.heap.size) {r : AV} {v : Value} (h : OwnsRep fid M w w0.heap.size r v) :
    ∃ J', Inv fid (land S r).2 J' M w ∧ Step S0 J0 M0 w0 (land S r).2 J' M w ∧ ARep fid J' M (land S r).1 v := by
  rcases h with h | ⟨rs, vs, rfl, rfl, hs, i, hi, hrest, x, cv, hx, hcv, ho⟩
  · have hland : land S r = land1 S r ∨ ∃ rs, r = .tup rs := by
      cases r <;> first | exact .inl rfl | exact .inr ⟨_, rfl⟩
    rcases hland with e | ⟨rs, rfl⟩
    · rw [e]
      obtain ⟨J', a1, a2, a3, _⟩ := land1_sound hst I hI0 h
      exact ⟨J', a1, a2, a3⟩
    · -- a frozen tuple
      have hfr : FRep fid M (.tup rs) v := h
      have hnone : rs.findIdx? AV.isOsl = none := by
        rw [List.findIdx?_eq_none_iff]
        intro x hx
        obtain ⟨k, hk⟩ := List.mem_iff_getElem?.1 hx
        cases hfr with
        | tup _ vs hs cv h1 h2 =>
          have hx := h2 k x hk
          generalize cv k = u at hx
          cases hx <;> rfl
      simp only [land, hnone]
      exact ⟨J, I, hst, .fr hfr⟩
  · simp only [land]
    cases hfi : rs.findIdx? AV.isOsl with
    | none =>
      simp only
      rw [List.findIdx?_eq_none_iff] at hfi
      refine ⟨J, I, hst, ARep.tup_mk hs fun k y hy => ?_⟩
      by_cases hki : k = i
      · subst hki
        rw [hx] at hy; cases hy
        refine ⟨cv, hcv, .fr ?_⟩
        have hno := hfi x (List.mem_of_getElem? hx)
        cases x <;> first | exact ho | (simp [AV.isOsl] at hno)
      · obtain ⟨c2, h1, h2⟩ := hrest k y hki hy
        exact ⟨c2, h1, .fr h2⟩
    | some j =>
      simp only
      obtain ⟨hjl, hjo, _⟩ := List.findIdx?_eq_some_iff_getElem.1 hfi
      have hji : j = i := by
        by_cases hne : j = i
        · exact hne
        · obtain ⟨c2, h1, h2⟩ := hrest j rs[j] hne (by simp [hjl])
          exfalso
          revert h2 hjo
          generalize rs[j] = q
          intro hjo h2
          cases q <;> first | (simp [AV.isOsl] at hjo; done) | cases h2
      subst hji
      have hgd : rs.getD j .any = x := by rw [List.getD_eq_getElem?_getD, hx]; rfl
      rw [hgd]
      obtain ⟨J', a1, a2, a3, a4⟩ := land1_sound hst I hI0 ho
      refine ⟨J', a1, a2, ARep.tup_mk (by simpa using hs) fun k y hy => ?_⟩
      by_cases hki : k = j
      · subst hki
        rw [List.getElem?_set_self hi] at hy; cases hy
        exact ⟨cv, hcv, a3⟩
      · rw [List.getElem?_set_ne (fun e => hki e.symm)] at hy
        obtain ⟨c2, h1, h2⟩ := hrest k y hki hy
        exact ⟨c2, h1, .fr h2⟩
theorem bare_owns {M M' : Mem} {lo : Nat} {r : AV} {v : Value} (h : r.bare = true) (ho : OwnsRep fid M w lo r v) : OwnsRep fid M' w lo r v := by
  have one : ∀ {x : AV} {u : Value}, (match x with | .bool _ | .int .. | .str _ => true | _ => false) = true → OwnRep fid M w lo x u → FRep fid M x u := by
    intro x u hx ho
    cases x <;> first | exact ho | (simp at hx)
  have fin : FRep fid M r v → OwnsRep fid M' w lo r v := fun hf => by
    have := bare_fr (M' := M') h hf
    left
    cases r <;> first | exact this | (simp [AV.bare] at h)
  rcases ho with ho | ⟨rs, vs, rfl, rfl, hs, i, hi, hrest, x, cv, hx, hcv, ho⟩
  · refine fin ?_
    cases r <;> first | exact ho | (simp [AV.bare] at h)
  · refine fin (FRep.tup_mk hs fun k y hy => ?_)
    by_cases hk : k = i
    · subst hk
      rw [hx] at hy; cases hy
      exact ⟨cv, hcv, one (List.all_eq_true.1 h x (List.mem_of_getElem? hx)) ho⟩
    · exact hrest k y hk hy
theorem doCall_sound (hR : SoundR P fid R) (I : Inv fid S J M w) {args : List AV} {cargs : Array Value} (ha : AsRep fid J M args cargs) {m : CM} {st : Bool} {f : Nat} {r : AV} (h : doCall R m st f args S = some (r, S')) :
    (∀ cargs w, (callFunc (fid f) cargs).run P w = .ok (.enter (fid f) cargs) w) ∧ Calls P (fid f) cargs w (Left fid S J M w r S') := by
  cases m with
  | pure =>
    simp only [doCall] at h
    replace h := Option.bind_eq_some_iff.1 h; obtain ⟨as, has, h⟩ := h
    replace h := Option.bind_eq_some_iff.1 h; obtain ⟨r', hc, h⟩ := h
    replace h := Option.bind_eq_some_iff.1 h; obtain ⟨S1, haf, h⟩ := h
    cases h
    obtain ⟨c1, c2⟩ := callPure_sound hR I ha has hc
    refine ⟨c1, c2.mono ?_⟩
    rintro e w' ⟨v, M2, rfl, hb, hr⟩
    obtain ⟨M3, i1, s1, hwr, hM⟩ := after_back I ha hb haf
    refine ⟨v, J, M3, rfl, i1, s1, .fr ?_⟩
    rcases hM with rfl | ⟨hbare, rfl⟩
    · exact hr
    · exact bare_fr hbare hr
  | own i =>
    simp only [doCall] at h
    replace h := Option.bind_eq_some_iff.1 h; obtain ⟨as, has, h⟩ := h
    replace h := Option.bind_eq_some_iff.1 h; obtain ⟨r', hc, h⟩ := h
    replace h := Option.bind_eq_some_iff.1 h; obtain ⟨S1, haf, h⟩ := h
    simp only [Option.some.injEq] at h
    obtain ⟨c1, c2⟩ := callOwn_sound hR I ha has hc
    refine ⟨c1, c2.mono ?_⟩
    rintro e w' ⟨v, M2, rfl, hb, hr⟩
    obtain ⟨M3, i1, s1, hwr, hM⟩ := after_back I ha hb haf
    have hr' : OwnsRep fid M3 w' w.heap.size r' v := by
      rcases hM with rfl | ⟨hbare, rfl⟩
      · exact hr
      · exact bare_owns hbare hr
    obtain ⟨J', a1, a2, a3⟩ := land_sound s1 i1 (fun i hi => I.wr_lt (hwr i hi)) hr'
    rw [h] at a1 a2 a3
    exact ⟨v, J', M3, rfl, a1, a2, a3⟩
  | sh =>
    simp only [doCall, callSh] at h
    replace h := Option.bind_eq_some_iff.1 h; obtain ⟨⟨r', S1⟩, hc, h⟩ := h
    cases h
    obtain ⟨c1, c2⟩ := hR f args S r' S1 hc
    refine ⟨c1, (c2 J M w cargs I ha).mono ?_⟩
    rintro e w' ⟨v, J', M', rfl, I', hs, hr⟩
    unfold trunc
    split
    · rename_i hc
      simp only [Bool.and_eq_true] at hc
      have hlt : lt1 S.length r' = true := by simpa using hc.1
      exact ⟨v, J'.cut S.length, M', rfl, I'.cut hc.2, hs.cut I, lt1_rep hlt hr⟩
    · exact ⟨v, J', M', rfl, I', hs, hr⟩
end
section
variable {P : Program} {fid : Nat → FuncId} {mid : FuncId → Option Nat} {S S' : Store} {J : JMap} {M : Mem} {w : World} {tm : List AV} {a : Act} {o : Oper} {ps : List Opd} {v' : AV} {R : RunF}
theorem sim_loadf (hm : MidOk fid mid) {ag : Bool} {n : Nat} : Sim P fid mid R o (.loadf ag n) := by
  intro ps S S' J M w tm a v' hok I ht h
  refine sim_load (R := R) hm (ag := ag) (n := n) (ps := ps) (tm := tm) (by
    unfold okOp at hok ⊢; exact hok) I ht ?_
  generalize ps.map (·.ev tm) = vs at h ⊢
  cases vs with
  | nil => simp [opA] at h
  | cons x xs =>
    cases xs with
    | cons y ys => cases x <;> simp [opA] at h
    | nil =>
      cases x <;> simp only [opA] at h <;> try (cases h; done)
      obtain ⟨hc, h⟩ := chk_some.1 h
      simp only [opA, loadA, chk_pos hc]
      exact h
theorem wpOps_one {ops : Array Oper} {Q : Exit → Act → World → Prop} (i : Nat) (rest : List Nat) (o : Oper) {ts : Array Value} {ds : List Deferred} {w w' : World} (v : Value) (ts' : Array Value) (hi : ops[i]? = some o) (hg : o.guard = none)
    (hx : (execOp (Act.eval ⟨ts, ds⟩) o).run P w = .ok (.value v) w') (hp : Act.put ⟨ts, ds⟩ o.dst v = ⟨ts', ds⟩)
    (h : wpOps P ops Q rest ⟨ts', ds⟩ w') : wpOps P ops Q (i :: rest) ⟨ts, ds⟩ w := by
  rw [wpOps_cons]
  unfold wpOp
  rw [hi]
  simp only [Region.wanted, hg, if_true]
  exact .inl (by
    unfold Oper.wp; rw [hx]
    show wpOps P ops Q rest (Act.put ⟨ts, ds⟩ o.dst v) w'
    rw [hp]; exact h)
theorem wp_region_l {id : Nat} {ops : Array Oper} {Q : Exit → Act → World → Prop} {a : Act} {w : World} (l : List Nat) (hl : List.range ops.size = l) (h : wpOps P ops Q l a w) : (Code.region id ops false).wp P Q a w := by
  subst hl; exact wp_region h
theorem eql_slice {t e : TypeId} (hu : P.underlying t = some (.slice e)) (x y : Operand) (ad : Option Addr) (n c : Nat) (w : World) :
    ∃ b, (b = true → ad = none) ∧ (do eqGuard .eql t x y (.slice ad n c) (.slice none 0 0); binOp .eql t (.slice ad n c) (.slice none 0 0) : Sem Value).run P w = .ok (.bool b) w := by
  have h1 : ∀ d, ∃ b, (b = true → ad = none) ∧ (Op.equalIn (d + 1) t (.slice ad n c) (.slice none 0 0)).run P w = .ok b w := fun d => by
    cases ad <;> simp [Op.equalIn, run_underlying hu]
  obtain ⟨b, hn, hb⟩ := h1 (Op.maxDepth - 1)
  refine ⟨b, hn, ?_⟩
  have : (Op.equal t (.slice ad n c) (.slice none 0 0)).run P w = .ok b w := hb
  simp [eqGuard, binOp, this]
theorem clone_code {sz by_ : Nat} {fn : Func} {f : FuncId} (hf : P.funcs[f]? = some fn) {i0 i1 i2 i3 : Nat} {a0 a1 a1' a2 a3 a4 a5 a6 t t3 pp e el : TypeId} {b0 b1 b1' b2 b3 b4 b5 b6 : String} {c0 c1 c1' c2 c3 c4 c5 c6 : Array Edge}
    (hbody : fn.body = some (.seq (.region i0 #[⟨some 2, .assign (.const (.slice none 0 0)), a0, b0, c0, none⟩] false)
      (.seq (.seq (.region i1 #[⟨some 3, .move (.tmp 0), a1, b1, c1, none⟩, ⟨some 4, .binOp .eql t (.tmp 3) (.const (.slice none 0 0)) pp, a1', b1', c1', none⟩] false)
        (.cond (.tmp 4) (.seq (.region i2 #[⟨some 2, .assign (.const (.slice none 0 0)), a2, b2, c2, none⟩] false) .ret) .skip))
        (.seq (.region i3 #[⟨some 5, .buildSlice t3 0 #[], a3, b3, c3, none⟩, ⟨some 6, .move (.tmp 0), a4, b4, c4, none⟩, ⟨some 7, .call { callee := .builtin .append, args := #[.tmp 5, .tmp 6], argTypes := #[t3, t3] }, a5, b5, c5, none⟩, ⟨some 2, .assign (.tmp 7), a6, b6, c6, none⟩] false) .ret))))
    (hres : fn.results = #[.tmp 2]) (hnt : fn.ntmps = 8) (hue : P.underlying t = some (.slice el)) (hu : P.underlying t3 = some (.slice e)) {i : TypeInfo} (hi : P.info? e = some i) (his : i.size = sz) (hib : i.bytes = by_) {z : Value} (hzz : i.zero = some z) (hzs : z.cells.size = sz)
    (hpos : 0 < sz) (hbp : 0 < by_) (I : Inv fid S J M w) {x : AV} {cx : Value} (hx : ARep fid J M x cx) {r : AV} (h : appA sz by_ S (.sl [] sz true) x = some (r, S')) :
    Calls P f #[cx] w (Left fid S J M w r S') := by
  obtain ⟨ad, m, c, rfl, hnil⟩ : ∃ ad m c, cx = .slice ad m c ∧ (ad = none → r = .sl [] sz true ∧ S' = S) := by
    unfold appA at h
    obtain ⟨⟨m, xs⟩, hh, h⟩ := Option.bind_eq_some_iff.1 h
    obtain ⟨ad, c, hcx, _, _, hm⟩ := held_rep I hh hx
    refine ⟨ad, m, c, hcx, fun h0 => ?_⟩
    have hm0 : m = 0 := by
      rcases hm with hm | ⟨_, _, hm, _⟩
      · rcases Nat.mul_eq_zero.1 hm with hm | hm
        · exact hm
        · omega
      · rw [h0] at hm; cases hm
    subst hm0
    simp only [chk, if_true, Option.some.injEq, Prod.mk.injEq] at h
    exact ⟨h.1.symm, h.2.symm⟩
  have fin : ∀ (a : Act) (v : Value) (w' : World), a.defers = [] → a.tmps[2]? = some v → (∃ J' M', Inv fid S' J' M' w' ∧ Step S J M w S' J' M' w' ∧ ARep fid J' M' r v) → bodyPost P fn (Left fid S J M w r S') .ret a w' := by
    rintro a v w' hd hv ⟨J', M', h1, h2, h3⟩
    refine ⟨hd, v, ?_, v, J', M', rfl, h1, h2, h3⟩
    have : a.tmps.getD 2 undef = v := by rw [Array.getD_eq_getD_getElem?, hv]; rfl
    simp only [results, hres]
    simp [this]
    rw [← Array.getD_eq_getD_getElem?]; exact this
  refine calls_of_wp hf hbody ?_
  rw [hnt]
  show Code.wp P _ _ ⟨#[.slice ad m c, undef, undef, undef, undef, undef, undef, undef], []⟩ w
  have step : ∀ (t : Array Value) (d : List Deferred), Act.defers ⟨t, d⟩ = d := fun _ _ => rfl
  refine wp_seq (wp_region_l [0] rfl ?_)
  refine wpOps_one 0 [] ⟨some 2, .assign (.const (.slice none 0 0)), a0, b0, c0, none⟩ (.slice none 0 0) #[.slice ad m c, undef, .slice none 0 0, undef, undef, undef, undef, undef] rfl rfl rfl rfl ?_
  refine wp_seq (wp_seq (wp_region_l [0, 1] rfl ?_))
  refine wpOps_one 0 [1] ⟨some 3, .move (.tmp 0), a1, b1, c1, none⟩ (.slice ad m c) #[.slice ad m c, undef, .slice none 0 0, .slice ad m c, undef, undef, undef, undef] rfl rfl rfl rfl ?_
  obtain ⟨b, hb0, hb⟩ := eql_slice (P := P) hue (.tmp 3) (.const (.slice none 0 0)) ad m c w
  refine wpOps_one 1 [] ⟨some 4, .binOp .eql t (.tmp 3) (.const (.slice none 0 0)) pp, a1', b1', c1', none⟩ (.bool b) #[.slice ad m c, undef, .slice none 0 0, .slice ad m c, .bool b, undef, undef, undef] (w' := w) rfl rfl ?_ rfl ?_
  · show ((do pure (.value (← (do eqGuard .eql t (.tmp 3) (.const (.slice none 0 0)) (.slice ad m c) (.slice none 0 0); binOp .eql t (.slice ad m c) (.slice none 0 0))))) : Sem Next).run P w = _
    rw [Sem.run_bind, hb]; rfl
  · refine wp_cond_split (t := b) rfl (fun hbt => ?_) (fun hbf => ?_)
    · refine wp_seq (wp_region_l [0] rfl ?_)
      refine wpOps_one 0 [] ⟨some 2, .assign (.const (.slice none 0 0)), a2, b2, c2, none⟩ (.slice none 0 0) #[.slice ad m c, undef, .slice none 0 0, .slice ad m c, .bool b, undef, undef, undef] rfl rfl rfl rfl ?_
      refine wp_ret ?_
      obtain ⟨rfl, rfl⟩ := hnil (hb0 hbt)
      exact fin _ (.slice none 0 0) _ rfl rfl ⟨J, M, I, Step.refl .., .fr (.slN _ _ _ _ (fun _ => rfl))⟩
    · refine wp_skip ?_
      refine wp_seq (wp_region_l [0, 1, 2, 3] rfl ?_)
      have hgrow : ∀ i, i < w.heap.size → (w.alloc (.cells #[] e)).heap[i]? = w.heap[i]? := fun i hi => by
        show (w.heap.push _)[i]? = _
        rw [Array.getElem?_push, if_neg (Nat.ne_of_lt hi)]
      have I1 := I.grow hgrow
      have st1 : Step S J M w S J M (w.alloc (.cells #[] e)) := (Step.refl S J M w).grow hgrow (by show _ ≤ (w.heap.push _).size; simp) rfl rfl rfl
      obtain ⟨cv, J', w', hrun, I', st, hr⟩ := appA_rep (P := P) (ty := a5) I1 hu hi his hib hzz hzs hpos hbp (cs := .slice (some ⟨w.heap.size, 0, none⟩) 0 0) (.fr (.slN _ _ _ _ (fun _ => rfl))) hx h
      generalize hsl : Value.slice (some ⟨w.heap.size, 0, none⟩) 0 0 = sl at hrun
      refine wpOps_one 0 [1, 2, 3] ⟨some 5, .buildSlice t3 0 #[], a3, b3, c3, none⟩ sl #[.slice ad m c, undef, .slice none 0 0, .slice ad m c, .bool b, sl, undef, undef] (w' := w.alloc (.cells #[] e)) rfl rfl ?_ rfl ?_
      · have hsz : ∀ w, (sizeOf e).run P w = .ok sz w := fun w => by simp [sizeOf, typeInfo, hi, his]
        subst hsl
        simp [execOp, Instr.buildSlice, run_underlying hu, hsz, newRow, Instr.fill, Array.range_zero']
      refine wpOps_one 1 [2, 3] ⟨some 6, .move (.tmp 0), a4, b4, c4, none⟩ (.slice ad m c) #[.slice ad m c, undef, .slice none 0 0, .slice ad m c, .bool b, sl, .slice ad m c, undef] rfl rfl rfl rfl ?_
      refine wpOps_one 2 [3] ⟨some 7, .call { callee := .builtin .append, args := #[.tmp 5, .tmp 6], argTypes := #[t3, t3] }, a5, b5, c5, none⟩ cv #[.slice ad m c, undef, .slice none 0 0, .slice ad m c, .bool b, sl, .slice ad m c, cv] (w' := w') rfl rfl ?_ rfl ?_
      · rw [execOp_builtin rfl]
        have hmap : ∀ a : Act, (#[Operand.tmp 5, .tmp 6].map a.eval) = #[a.eval (.tmp 5), a.eval (.tmp 6)] := fun _ => by simp
        rw [hmap]
        show (builtin .append #[t3, t3] a5 _ #[sl, .slice ad m c]).run P _ = _
        simp [builtin, hrun]
      refine wpOps_one 3 [] ⟨some 2, .assign (.tmp 7), a6, b6, c6, none⟩ cv #[.slice ad m c, undef, cv, .slice ad m c, .bool b, sl, .slice ad m c, cv] rfl rfl rfl rfl ?_
      refine wp_ret ?_
      exact fin _ cv _ rfl rfl ⟨J', M, I', st1.trans st, hr⟩
theorem clone_walk {sz by_ : Nat} {fn : Func} {f : FuncId} (hf : P.funcs[f]? = some fn) (hc : isClone P sz by_ fn = true) (hpos : 0 < sz) (hbp : 0 < by_) (I : Inv fid S J M w) {x : AV} {cx : Value} (hx : ARep fid J M x cx)
    {r : AV} (h : appA sz by_ S (.sl [] sz true) x = some (r, S')) :
    (∀ cargs w, (callFunc f cargs).run P w = .ok (.enter f cargs) w) ∧ Calls P f #[cx] w (Left fid S J M w r S') := by
  unfold isClone at hc
  simp only [Bool.and_eq_true, bne_iff_ne, beq_iff_eq] at hc
  obtain ⟨⟨⟨hres, hnt⟩, hname⟩, hc⟩ := hc
  split at hc
  · rename_i i0 r0 i1 r1 i2 r2 i3 r3 hbody
    simp only [Bool.and_eq_true] at hc
    obtain ⟨⟨⟨h0, h1⟩, h2⟩, h3⟩ := hc
    split at h0
    · rename_i a0 b0 c0 e0
      split at h1
      · rename_i a1 b1 c1 t pp a1' b1' c1' e1
        split at h1
        · rename_i el hue
          split at h2
          · rename_i a2 b2 c2 e2
            split at h3
            · rename_i t3 parts a3 b3 c3 a4 b4 c4 args ats a5 b5 c5 a6 b6 c6 e3
              simp only [Bool.and_eq_true] at h3
              obtain ⟨⟨⟨hpe, hty⟩, hargs⟩, hats⟩ := h3
              split at hty
              · rename_i e hu
                simp only [Bool.and_eq_true] at hty
                obtain ⟨⟨hs, hb⟩, hz⟩ := hty
                split at hz
                · rename_i i hi
                  split at hz
                  · rename_i z hzz
                    have his : i.size = sz := by unfold szIs at hs; rw [hi] at hs; simpa using hs
                    have hib : i.bytes = by_ := by unfold byIs at hb; rw [hi] at hb; simpa using hb
                    have hzs : z.cells.size = sz := by simpa using hz
                    have hr0 : r0 = #[⟨some 2, .assign (.const (.slice none 0 0)), a0, b0, c0, none⟩] := Array.ext' e0
                    have hr1 : r1 = #[⟨some 3, .move (.tmp 0), a1, b1, c1, none⟩, ⟨some 4, .binOp .eql t (.tmp 3) (.const (.slice none 0 0)) pp, a1', b1', c1', none⟩] := Array.ext' e1
                    have hr2 : r2 = #[⟨some 2, .assign (.const (.slice none 0 0)), a2, b2, c2, none⟩] := Array.ext' e2
                    have hr3 : r3 = #[⟨some 5, .buildSlice t3 0 parts, a3, b3, c3, none⟩, ⟨some 6, .move (.tmp 0), a4, b4, c4, none⟩, ⟨some 7, .call { callee := .builtin .append, args, argTypes := ats }, a5, b5, c5, none⟩, ⟨some 2, .assign (.tmp 7), a6, b6, c6, none⟩] := Array.ext' e3
                    subst hr0 hr1 hr2 hr3
                    have hnm : (fn.name == "runtime.NumGoroutine") = false := by simpa using hname
                    have hargs' : args = #[.tmp 5, .tmp 6] := by
                      split at hargs
                      · rename_i he; exact Array.ext' he
                      · cases hargs
                    have hats' : ats = #[t3, t3] := by
                      split at hats
                      · rename_i he
                        simp only [Bool.and_eq_true, beq_iff_eq] at hats
                        obtain ⟨h1, h2⟩ := hats
                        subst h1 h2
                        exact Array.ext' he
                      · cases hats
                    have hparts : parts = #[] := by simpa using hpe
                    have hres' : fn.results = #[.tmp 2] := by
                      split at hres
                      · rename_i he; exact Array.ext' he
                      · cases hres
                    subst hargs' hats' hparts
                    refine ⟨fun cargs w => by simp only [callFunc, Sem.run_bind, run_program, Result.andThen_ok, hf, hnm, hbody]; simp, ?_⟩
                    exact clone_code hf hbody hres' hnt hue hu hi his hib hzz hzs hpos hbp I hx h
                  · cases hz
                · cases hz
              · cases hty
            · cases h3
          · cases h2
        · cases h1
      · cases h1
    · cases h0
  · cases hc
def K.easy : K → Bool
  | .call .. | .callv .. | .clone .. => false
  | _ => true
theorem sim_easy (hm : MidOk fid mid) {k : K} (hk : k.easy = true) : Sim P fid mid R o k := by
  cases k with
  | mv => exact sim_mv hm
  | own => exact sim_own hm
  | pick => exact sim_pick hm
  | alloc => exact sim_alloc hm
  | box => exact sim_box hm
  | build => exact sim_build hm
  | lit => exact sim_lit hm
  | litm => exact sim_litm hm
  | load => exact sim_load hm
  | loadf => exact sim_loadf hm
  | store => exact sim_store hm
  | nilChk => exact sim_nilChk hm
  | bin => exact sim_bin hm
  | eqb => exact sim_eqb hm
  | eqa => exact sim_eqa hm
  | un => exact sim_un hm
  | conv => exact sim_conv hm
  | mkfn => exact sim_mkfn hm
  | mks => exact sim_mks hm
  | slc => exact sim_slc hm
  | slca => exact sim_slca hm
  | faddr => exact sim_faddr hm
  | fld => exact sim_fld hm
  | iaa => exact sim_iaa hm
  | ias => exact sim_ias hm
  | ixa => exact sim_ixa hm
  | ixs => exact sim_ixs hm
  | ext => exact sim_ext hm
  | len => exact sim_len hm
  | lens => exact sim_lens hm
  | lenc => exact sim_lenc hm
  | app => exact sim_app hm
  | cpy => exact sim_cpy hm
  | clr => exact sim_clr hm
  | mn => exact sim_mn hm
  | mx => exact sim_mx hm
  | stop =>
    intro ps S S' J M w tm a v' hok I ht h
    simp [opA] at h
  | call | callv | clone => cases hk
theorem AsRep.of_okOpds (hm : MidOk fid mid) (ht : TRep fid J M tm a.tmps) {xs : Array Operand} (h : okOpds mid xs.toList ps = true) : AsRep fid J M (ps.map (·.ev tm)) (xs.map a.eval) := by
  obtain ⟨e1, e2⟩ := args_rep hm ht h
  exact ⟨e1, e2⟩
def valR (R : RunF) (o : ROp) (tm : List AV) (S : Store) : Option (AV × Store) :=
  match wants tm o.g with
  | .yes => opA R o.k (o.args.map (·.ev tm)) S
  | .no => some (.tup [], S)
  | .lost => none
theorem stepR_val {o : ROp} {s : St} : stepR R o s = (valR R o s.tm s.st).bind fun (v, S) => some ⟨put s.tm o.dst v, S⟩ := by
  unfold stepR valR
  cases wants s.tm o.g <;> rfl
theorem wanted_of {ops : Array Oper} {r : ROp} (hg : okGuard ops o.guard r.g = true) (ht : TRep fid J M tm a.tmps) :
    (∀ h : wants tm r.g = .yes, Region.wanted o (yielded ops a.tmps) = true) ∧ (∀ h : wants tm r.g = .no, Region.wanted o (yielded ops a.tmps) = false) := by
  unfold Region.wanted wants okGuard at *
  cases ho : o.guard with
  | none =>
    cases hr : r.g with
    | none => exact ⟨fun _ => rfl, fun h => by simp at h⟩
    | some g => rw [ho, hr] at hg; cases hg
  | some g =>
    obtain ⟨j, wt⟩ := g
    cases hr : r.g with
    | none => rw [ho, hr] at hg; cases hg
    | some g' =>
      obtain ⟨t, w'⟩ := g'
      rw [ho, hr] at hg
      simp only [Bool.and_eq_true, beq_iff_eq] at hg
      obtain ⟨rfl, hd⟩ := hg
      have hy : yielded ops a.tmps j = match a.tmps[t]? with | some (.bool b) => some b | _ => none := by
        unfold yielded
        rw [hd]; rfl
      have hget := ht.get t
      simp only [hy]
      rw [Array.getD_eq_getD_getElem?] at hget
      generalize tm.getD t .any = x at hget ⊢
      cases x with
      | bool b =>
        have hb := hget.bool_inv
        cases e : a.tmps[t]? with
        | none => rw [e] at hb; simp [undef] at hb
        | some v =>
          rw [e] at hb; simp at hb; subst hb
          by_cases hbw : b = wt
          · subst hbw; simp
          · simp [hbw]
      | tup vs =>
        cases vs with
        | nil =>
          refine ⟨fun h => by simp at h, fun _ => ?_⟩
          obtain ⟨us, hu, _⟩ := hget.tup_inv
          cases e : a.tmps[t]? with
          | none => rfl
          | some v => rw [e] at hu; simp at hu; subst hu; rfl
        | cons v vs => exact ⟨fun h => by simp at h, fun h => by simp at h⟩
      | _ => exact ⟨fun h => by simp at h, fun h => by simp at h⟩
theorem op_wp (hm : MidOk fid mid) (hR : SoundR P fid R) {ops : Array Oper} {Q : Exit → Act → World → Prop} {i : Nat} {r : ROp} (hi : ops[i]? = some o) (hok : okR P mid ops o r = true) (I : Inv fid S J M w) (ht : TRep fid J M tm a.tmps)
    (h : valR R r tm S = some (v', S')) {K : Act → World → Prop}
    (hK : ∀ cv J' M' w', Inv fid S' J' M' w' → Step S J M w S' J' M' w' → ARep fid J' M' v' cv → K (a.put o.dst cv) w') : wpOp P ops Q i K a w := by
  unfold okR at hok
  simp only [Bool.and_eq_true] at hok
  obtain ⟨⟨hd, hop⟩, hg⟩ := hok
  obtain ⟨hy, hn⟩ := wanted_of hg ht
  unfold wpOp
  rw [hi]
  unfold valR at h
  simp only
  split at h
  · rename_i hw
    rw [if_pos (hy hw)]
    refine .inl ?_
    unfold Oper.wp
    by_cases hk : r.k.easy = true
    · obtain ⟨cv, J', M', w', hrun, I', st, hr⟩ := sim_easy (R := R) (o := o) hm hk hop I ht h
      rcases hrun with hrun | ⟨hrun, rfl⟩
      · simp only at hrun; rw [hrun]; exact hK cv J' M' w' I' st hr
      · simp only at hrun; rw [hrun]; exact hK _ J' M' w' I' st hr
    · have call : ∀ (f : FuncId) (cargs : Array Value), (∀ w, (execOp a.eval o).run P w = (callFunc f cargs).run P w) → (∀ cargs w, (callFunc f cargs).run P w = .ok (.enter f cargs) w) → Calls P f cargs w (Left fid S J M w v' S') →
          o.upon P a K Q ((execOp a.eval o).run P w) := by
        intro f cargs h1 h2 h3
        rw [h1, h2]
        refine h3.mono fun e w' hl => ?_
        obtain ⟨v, J', M', rfl, I', st, hr⟩ := hl
        exact hK v J' M' w' I' st hr
      cases hrk : r.k <;> rw [hrk] at hk hop h <;> first | (exact absurd rfl hk) | skip
      case clone sz by_ =>
        unfold okOp at hop
        simp only at hop
        split at hop
        · rename_i f args ats hoc
          simp only [Bool.and_eq_true, decide_eq_true_eq] at hop
          obtain ⟨⟨⟨hc, h4⟩, hpos⟩, hbp⟩ := hop
          split at hc
          · rename_i fn hf
            cases hvs : r.args.map (·.ev tm) with
            | nil => rw [hvs] at h; simp [opA] at h
            | cons x xs =>
              cases xs with
              | cons y ys => rw [hvs] at h; simp [opA] at h
              | nil =>
                rw [hvs] at h
                simp only [opA] at h
                obtain ⟨cx, hca, hx⟩ := args1 hm ht h4 hvs
                obtain ⟨c1, c2⟩ := clone_walk hf hc hpos hbp I hx h
                refine call f #[cx] (fun w => ?_) c1 c2
                simp [execOp, hoc, resolve, hca, Deferred.ofValue, invoke, Act.eval]
          · cases hc
        · cases hop
      case call m st f =>
        unfold okOp at hop
        simp only at hop
        split at hop
        · rename_i f' args ats hoc
          simp only [Bool.and_eq_true, beq_iff_eq] at hop
          obtain ⟨hmid, h4⟩ := hop
          have hf := hm _ _ hmid
          subst hf
          simp only [opA] at h
          obtain ⟨c1, c2⟩ := doCall_sound hR I (AsRep.of_okOpds hm ht h4) h
          refine call (fid f) (args.map a.eval) (fun w => ?_) c1 c2
          simp [execOp, hoc, resolve, Deferred.ofValue, invoke, Act.eval]
        · cases hop
      case callv m st =>
        unfold okOp at hop
        simp only at hop
        split at hop
        · rename_i x args ats hoc
          cases hps : r.args with
          | nil => rw [hps] at hop; simp [okOpds] at hop
          | cons p ps =>
            rw [hps] at hop h
            simp only [okOpds, Bool.and_eq_true] at hop
            obtain ⟨h3, h4⟩ := hop
            have hx := okOpd_rep hm ht h3
            simp only [List.map_cons] at h
            generalize hpe : p.ev tm = pv at h hx
            cases pv <;> simp only [opA] at h <;> try (cases h; done)
            rename_i f caps
            obtain ⟨vs, e1, e2, e3⟩ := hx.fn_inv
            have has := AsRep.of_okOpds hm ht h4
            obtain ⟨c1, c2⟩ := doCall_sound hR I (args := ps.map (·.ev tm) ++ caps) (cargs := args.map a.eval ++ vs) (by
              refine ⟨by rw [Array.size_append, List.length_append, has.1, e2], fun k x hk => ?_⟩
              rw [List.getElem?_append] at hk
              rw [Array.getElem?_append, has.1]
              split at hk
              · rename_i hlt; rw [if_pos hlt]; exact has.2 k x hk
              · rename_i hlt; rw [if_neg hlt]
                obtain ⟨cv, q1, q2⟩ := e3 _ x hk
                exact ⟨cv, q1, q2⟩) h
            refine call (fid f) (args.map a.eval ++ vs) (fun w => ?_) c1 c2
            simp [execOp, hoc, resolve, e1, Deferred.ofValue, invoke]
        · cases hop
  · rename_i hw
    rw [if_neg (by rw [hn hw]; simp)]
    cases h
    exact hK undef J M w I (Step.refl ..) (.tup [] #[] rfl (fun _ => default) (fun k x hx => by simp at hx) (fun k x hx => by simp at hx))
  · cases h
end
inductive Cls where
  | free | rdr | wrt
  deriving DecidableEq
def K.cls : K → Cls
  | .mv | .pick | .build .. | .lit .. | .loadf .. | .nilChk | .bin _ | .eqb _ | .eqa .. | .un _ | .conv _ | .mkfn _ | .slc .. | .slca .. | .faddr .. | .fld .. | .iaa .. | .ias _ | .ixa .. | .ixs | .ext _ | .len | .lens | .lenc _ | .mn | .mx => .free
  | .load .. | .call .pure true _ | .callv .pure true => .rdr
  | _ => .wrt
theorem fzc_nrc2 {S S2 : Store} (fuel : Nat) {v : AV} (h : nrc v = true) : fzc S fuel v = fzc S2 fuel v := by
  cases v <;> simp [nrc] at h <;> cases fuel <;> rfl
theorem mapM_congr {α β : Type} {f g : α → Option β} : ∀ {l : List α}, (∀ x ∈ l, f x = g x) → l.mapM f = l.mapM g
  | [], _ => rfl
  | x :: l, h => by
    simp only [List.mapM_cons]
    rw [h x (by simp), mapM_congr (l := l) fun y hy => h y (by simp [hy])]
theorem fz1_nr1 {S S2 : Store} {v : AV} (h : nr1 v = true) : fz1 S v = fz1 S2 v := by
  cases v
  case agg cs =>
    simp only [nr1, List.all_eq_true] at h
    unfold fz1
    simp only
    rw [mapM_congr (g := fzc S2 5) fun x hx => fzc_nrc2 _ (h x hx)]
  case fn f cs =>
    simp only [nr1, List.all_eq_true] at h
    show fzc S (5 + 1) _ = fzc S2 (5 + 1) _
    simp only [fzc]
    rw [mapM_congr (g := fzc S2 5) fun x hx => fzc_nrc2 _ (h x hx)]
  all_goals exact fzc_nrc2 (S2 := S2) _ h
theorem free_key {g : Store → Option (AV × Store)} (x : Option AV) (hg : ∀ S, g S = x.bind fun v => some (v, S)) {S S1 : Store} {v : AV} (hs : g S = some (v, S1)) : S1 = S ∧ ∀ S2, g S2 = some (v, S2) := by
  rw [hg] at hs
  obtain ⟨u, hu, hs⟩ := Option.bind_eq_some_iff.1 hs
  cases hs
  exact ⟨rfl, fun S2 => by rw [hg, hu]; rfl⟩
theorem free_same {R : RunF} {k : K} (hk : k.cls = .free) (vs : List AV) (S : Store) : opA R k vs S = ((opA R k vs []).map (·.1)).bind fun v => some (v, S) := by
  unfold opA
  split <;> first | rfl | (cases hk; done) | skip
  case h_7 sz z len ix =>
    split
    · rename_i hn
      rw [mapM_congr (g := fz1 []) fun x hx => fz1_nr1 (List.all_eq_true.1 hn x hx)]
      simp [Function.comp_def, Option.map_bind, Option.bind_assoc]
    · simp [Function.comp_def, Option.map_bind, Option.bind_assoc]
  all_goals first
    | (simp only [chk]; split <;> rfl)
    | (simp [Function.comp_def, Option.map_bind, Option.bind_assoc]; done)
    | (simp only [chk]; split <;> simp [Function.comp_def, Option.map_bind, Option.bind_assoc]; done)
    | (exfalso; revert hk; rename_i m st _ _; cases m <;> cases st <;> (intro hk; cases hk))
    | (exfalso; revert hk; rename_i m st _; cases m <;> cases st <;> (intro hk; cases hk))
    | (exfalso; revert hk; rename_i m st _ _ _; cases m <;> cases st <;> (intro hk; cases hk))
theorem opA_cls_free {R : RunF} {k : K} (hk : k.cls = .free) {vs : List AV} {S S1 : Store} {v : AV} (h : opA R k vs S = some (v, S1)) : S1 = S ∧ ∀ S2, opA R k vs S2 = some (v, S2) :=
  free_key (g := fun S => opA R k vs S) _ (free_same hk vs) h
theorem opA_cls_rdr {R : RunF} {k : K} (hk : k.cls = .rdr) {vs : List AV} {S S1 : Store} {v : AV} (h : opA R k vs S = some (v, S1)) : S1 = S := by
  have call : ∀ {f : Nat} {as : List AV}, doCall R .pure true f as S = some (v, S1) → S1 = S := by
    intro f as h
    simp only [doCall] at h
    obtain ⟨fs, _, h⟩ := Option.bind_eq_some_iff.1 h
    obtain ⟨r, _, h⟩ := Option.bind_eq_some_iff.1 h
    obtain ⟨S2, ha, h⟩ := Option.bind_eq_some_iff.1 h
    cases h
    unfold after at ha
    split at ha
    · cases ha; rfl
    · simp at ha
  cases k <;> first | (simp [K.cls] at hk; done) | skip
  case load ag n =>
    cases vs with
    | nil => simp [opA] at h
    | cons x xs =>
      cases xs with
      | cons y ys => simp [opA] at h
      | nil =>
        simp only [opA] at h
        obtain ⟨u, _, h⟩ := Option.bind_eq_some_iff.1 h
        cases h; rfl
  case call m st f =>
    cases m <;> cases st <;> simp [K.cls] at hk
    exact call (f := f) (as := vs) (by cases vs <;> exact h)
  case callv m st =>
    cases m <;> cases st <;> simp [K.cls] at hk
    cases vs with
    | nil => simp [opA] at h
    | cons x xs => cases x <;> simp only [opA] at h <;> first | exact call h | cases h
def ROp.looks (r : ROp) : List Nat := (r.args.filterMap fun | .t i => some i | .c _ => none) ++ (match r.g with | some (t, _) => [t] | none => [])
def maskOf (cl : List Nat) : List Edge → Nat
  | [] => 0
  | e :: es => (maskOf cl es ||| cl.getD e.on 0) ||| (1 <<< e.on)
def bindsOf (o : Oper) : List Edge := o.after.toList.filter (Region.binds .any)
def cloOf : List Oper → List Nat → List Nat
  | [], acc => acc
  | o :: os, acc => cloOf os (acc ++ [maskOf acc (bindsOf o)])
def okClo (cl : List Nat) : Nat → List Oper → Bool
  | _, [] => true
  | i, o :: os => cl.getD i 0 == maskOf cl (bindsOf o) && (bindsOf o).all (fun e => decide (e.on < i)) && okClo cl (i + 1) os
def isAl (r : ROp) : Bool := match r.k, r.g with | .alloc _, none => true | _, _ => false
def isAlo (ops : List Oper) (i : Nat) : Bool := match ops[i]? with | some o => (match o.op, o.guard with | .alloc _, none => true | _, _ => false) | none => false
def ordOf (ops : List Oper) : List Nat := (List.range ops.length).filter (isAlo ops) ++ (List.range ops.length).filter (fun i => !isAlo ops i)
def dstIn (d : Option Nat) (l : List Nat) : Bool := match d with | some d => l.contains d | none => false
def dep (p q : ROp) : Bool :=
  dstIn p.dst q.looks || dstIn q.dst p.looks || (!isAl p && !isAl q && ((p.k.cls == .wrt && q.k.cls != .free) || (q.k.cls == .wrt && p.k.cls != .free)))
def sameDst (p q : ROp) : Bool := match p.dst, q.dst with | some d, some e => d == e | _, _ => false
def okLate (cl : List Nat) (p : ROp) (i : Nat) : List ROp → List Nat → Bool
  | q :: qs, j :: js => !sameDst p q && (!dep p q || (cl.getD j 0).testBit i) && okLate cl p i qs js
  | [], [] => true
  | _, _ => false
def okPairs (cl : List Nat) : List ROp → List Nat → Bool
  | p :: ps, i :: is => okLate cl p i ps is && okPairs cl ps is
  | [], [] => true
  | _, _ => false
def allocsFirst : List ROp → Bool
  | [] => true
  | r :: rs => if isAl r then allocsFirst rs else rs.all (fun q => !isAl q)
section
variable (P : Program) (mid : FuncId → Option Nat)
def okAt (ops : Array Oper) : List Nat → List ROp → Bool
  | i :: is, r :: rs => (match ops[i]? with | some o => okR P mid ops o r | none => false) && okAt ops is rs
  | [], [] => true
  | _, _ => false
def okDraw (ops : Array Oper) (rs : List ROp) : Bool :=
  let cl := cloOf ops.toList []
  let ord := ordOf ops.toList
  okClo cl 0 ops.toList && okAt P mid ops ord rs && okPairs cl rs ord && allocsFirst rs
end
theorem maskOf_bit {cl : List Nat} {i : Nat} : ∀ {es : List Edge}, (maskOf cl es).testBit i = true → ∃ e ∈ es, (cl.getD e.on 0).testBit i = true ∨ e.on = i
  | [], h => by simp [maskOf] at h
  | e :: es, h => by
    simp only [maskOf, Nat.testBit_or, Bool.or_eq_true] at h
    rcases h with (h | h) | h
    · obtain ⟨e', h1, h2⟩ := maskOf_bit h
      exact ⟨e', by simp [h1], h2⟩
    · exact ⟨e, by simp, .inl h⟩
    · refine ⟨e, by simp, .inr ?_⟩
      rw [Nat.testBit_shiftLeft] at h
      simp only [Bool.and_eq_true, decide_eq_true_eq, Nat.testBit_one_eq_true_iff_self_eq_zero] at h
      omega
theorem okClo_get {cl : List Nat} : ∀ {os : List Oper} {i : Nat}, okClo cl i os = true → ∀ (j : Nat) (o : Oper), os[j]? = some o → cl.getD (i + j) 0 = maskOf cl (bindsOf o) ∧ ∀ e ∈ bindsOf o, e.on < i + j
  | [], i, h, j, o, ho => by simp at ho
  | o' :: os, i, h, j, o, ho => by
    simp only [okClo, Bool.and_eq_true, beq_iff_eq, List.all_eq_true, decide_eq_true_eq] at h
    obtain ⟨⟨h1, h2⟩, h3⟩ := h
    cases j with
    | zero => simp at ho; subst ho; exact ⟨h1, h2⟩
    | succ j =>
      have := okClo_get h3 j o (by simpa using ho)
      rw [show i + 1 + j = i + (j + 1) by omega] at this
      exact this
theorem okAt_get {P : Program} {mid : FuncId → Option Nat} {ops : Array Oper} : ∀ {is : List Nat} {rs : List ROp}, okAt P mid ops is rs = true → is.length = rs.length ∧ ∀ (p i : Nat) (r : ROp), is[p]? = some i → rs[p]? = some r → ∃ o, ops[i]? = some o ∧ okR P mid ops o r = true
  | [], [], _ => ⟨rfl, fun p i r h => by simp at h⟩
  | i :: is, r :: rs, h => by
    simp only [okAt, Bool.and_eq_true] at h
    obtain ⟨h1, h2⟩ := h
    obtain ⟨hl, hq⟩ := okAt_get h2
    refine ⟨by simp [hl], fun p i' r' hi hr => ?_⟩
    cases p with
    | zero =>
      simp at hi hr; subst hi hr
      split at h1
      · rename_i o ho; exact ⟨o, ho, h1⟩
      · cases h1
    | succ p => exact hq p i' r' (by simpa using hi) (by simpa using hr)
  | [], _ :: _, h => by simp [okAt] at h
  | _ :: _, [], h => by simp [okAt] at h
theorem okLate_get {cl : List Nat} {p : ROp} {i : Nat} : ∀ {qs : List ROp} {js : List Nat}, okLate cl p i qs js = true → ∀ (k j : Nat) (q : ROp), qs[k]? = some q → js[k]? = some j → sameDst p q = false ∧ (dep p q = true → (cl.getD j 0).testBit i = true)
  | [], [], _, k, j, q, h, _ => by simp at h
  | q' :: qs, j' :: js, h, k, j, q, hq, hj => by
    simp only [okLate, Bool.and_eq_true, Bool.not_eq_true', Bool.or_eq_true] at h
    obtain ⟨⟨h1, h2⟩, h3⟩ := h
    cases k with
    | zero =>
      simp at hq hj; subst hq hj
      exact ⟨h1, fun hd => h2.resolve_left (by simp [hd])⟩
    | succ k => exact okLate_get h3 k j q (by simpa using hq) (by simpa using hj)
  | [], _ :: _, h, _, _, _, _, _ => by simp [okLate] at h
  | _ :: _, [], h, _, _, _, _, _ => by simp [okLate] at h
theorem okPairs_get {cl : List Nat} : ∀ {rs : List ROp} {is : List Nat}, okPairs cl rs is = true → ∀ (p q i j : Nat) (r s : ROp), p < q → rs[p]? = some r → is[p]? = some i → rs[q]? = some s → is[q]? = some j → sameDst r s = false ∧ (dep r s = true → (cl.getD j 0).testBit i = true)
  | [], [], _, p, q, i, j, r, s, _, h, _, _, _ => by simp at h
  | r' :: rs, i' :: is, h, p, q, i, j, r, s, hpq, hr, hi, hs, hj => by
    simp only [okPairs, Bool.and_eq_true] at h
    obtain ⟨q, rfl⟩ : ∃ q', q = q' + 1 := ⟨q - 1, by omega⟩
    cases p with
    | zero =>
      simp at hr hi; subst hr hi
      exact okLate_get h.1 q j s (by simpa using hs) (by simpa using hj)
    | succ p => exact okPairs_get h.2 p q i j r s (by omega) (by simpa using hr) (by simpa using hi) (by simpa using hs) (by simpa using hj)
  | [], _ :: _, h, _, _, _, _, _, _, _, _, _, _, _ => by simp [okPairs] at h
  | _ :: _, [], h, _, _, _, _, _, _, _, _, _, _, _ => by simp [okPairs] at h
theorem ordOf_spec (ops : List Oper) : (∀ i, i < ops.length ↔ i ∈ ordOf ops) ∧ (ordOf ops).Nodup := by
  unfold ordOf
  constructor
  · intro i
    simp only [List.mem_append, List.mem_filter, List.mem_range]
    constructor
    · intro h
      cases hh : isAlo ops i
      · exact .inr ⟨h, rfl⟩
      · exact .inl ⟨h, rfl⟩
    · rintro (h | h) <;> exact h.1
  · rw [List.nodup_append]
    refine ⟨List.nodup_range.filter _, List.nodup_range.filter _, fun a ha b hb => ?_⟩
    rw [List.mem_filter] at ha hb
    rintro rfl
    have := hb.2
    rw [ha.2] at this
    cases this
theorem dep_comm (p q : ROp) : dep p q = dep q p := by
  unfold dep
  cases dstIn p.dst q.looks <;> cases dstIn q.dst p.looks <;> cases isAl p <;> cases isAl q <;> simp [Bool.or_comm]
section
variable {P : Program} {fid : Nat → FuncId} {mid : FuncId → Option Nat} {R : RunF}
theorem trace_of : ∀ {rs : List ROp} {s s' : St}, runOps R rs s = some s' → ∃ (st : Nat → St) (vl : Nat → AV), st 0 = s ∧ st rs.length = s' ∧
    ∀ (p : Nat) (r : ROp), rs[p]? = some r → valR R r (st p).tm (st p).st = some (vl p, (st (p + 1)).st) ∧ (st (p + 1)).tm = put (st p).tm r.dst (vl p)
  | [], s, s', h => ⟨fun _ => s, fun _ => .any, rfl, by simp only [runOps] at h; cases h; rfl, fun p r hr => by simp at hr⟩
  | r :: rs, s, s', h => by
    simp only [runOps] at h
    obtain ⟨s1, h1, h2⟩ := Option.bind_eq_some_iff.1 h
    rw [stepR_val] at h1
    obtain ⟨⟨v, S1⟩, hv, e⟩ := Option.bind_eq_some_iff.1 h1
    cases e
    obtain ⟨st, vl, a, b, c⟩ := trace_of h2
    refine ⟨fun p => match p with | 0 => s | p + 1 => st p, fun p => match p with | 0 => v | p + 1 => vl p, rfl, b, ?_⟩
    intro p r' hr
    cases p with
    | zero =>
      simp at hr; subst hr
      simp only [a]
      exact ⟨hv, trivial⟩
    | succ p => exact c p r' (by simpa using hr)
structure Told (rs : List ROp) (vl : Nat → AV) (D : Nat → Prop) (tm0 tm : List AV) : Prop where
  len : tm.length = tm0.length
  new : ∀ (q : Nat) (r : ROp), rs[q]? = some r → D q → ∀ t, r.dst = some t → t < tm0.length → tm[t]? = some (vl q)
  old : ∀ t, (∀ (q : Nat) (r : ROp), rs[q]? = some r → D q → r.dst ≠ some t) → tm[t]? = tm0[t]?
def Apart (rs : List ROp) : Prop := ∀ (p q : Nat) (r s : ROp), p ≠ q → rs[p]? = some r → rs[q]? = some s → ∀ d, r.dst = some d → s.dst ≠ some d
theorem Told.put {rs : List ROp} {vl : Nat → AV} {D D' : Nat → Prop} {tm0 tm : List AV} (h : Told rs vl D tm0 tm) (ha : Apart rs) {p : Nat} {r : ROp} (hr : rs[p]? = some r) (hD : ∀ q, D' q ↔ D q ∨ q = p) :
    Told rs vl D' tm0 (Go.AVM.put tm r.dst (vl p)) := by
  cases hd : r.dst with
  | none =>
    refine ⟨h.len, fun q r' hq hq' t ht => ?_, fun t ht => h.old t fun q r' hq hq' => ht q r' hq ((hD q).2 (.inl hq'))⟩
    rcases (hD q).1 hq' with hq' | rfl
    · exact h.new q r' hq hq' t ht
    · rw [hr] at hq; cases hq; rw [hd] at ht; cases ht
  | some d =>
    refine ⟨by simp [Go.AVM.put, h.len], fun q r' hq hq' t ht hlt => ?_, fun t ht => ?_⟩
    · simp only [Go.AVM.put]
      by_cases hqp : q = p
      · subst hqp
        rw [hr] at hq; cases hq
        rw [hd] at ht; cases ht
        rw [List.getElem?_set_self (by rw [h.len]; exact hlt)]
      · have hne : d ≠ t := fun e => ha p q r r' (Ne.symm hqp) hr hq d hd (e ▸ ht)
        rw [List.getElem?_set_ne hne]
        rcases (hD q).1 hq' with hq' | rfl
        · exact h.new q r' hq hq' t ht hlt
        · exact absurd rfl hqp
    · simp only [Go.AVM.put]
      have hne : d ≠ t := fun e => ht p r hr ((hD p).2 (.inr rfl)) (e ▸ hd)
      rw [List.getElem?_set_ne hne]
      exact h.old t fun q r' hq hq' => ht q r' hq ((hD q).2 (.inl hq'))
theorem Told.at {rs : List ROp} {vl : Nat → AV} {D D' : Nat → Prop} {tm0 x y : List AV} (h : Told rs vl D tm0 x) (h' : Told rs vl D' tm0 y) {t : Nat} (hD : ∀ (q : Nat) (r : ROp), rs[q]? = some r → r.dst = some t → (D q ↔ D' q)) : x[t]? = y[t]? := by
  by_cases hex : ∃ (q : Nat) (r : ROp), rs[q]? = some r ∧ D q ∧ r.dst = some t
  · obtain ⟨q, r, hr, hq, hd⟩ := hex
    by_cases hlt : t < tm0.length
    · rw [h.new q r hr hq t hd hlt, h'.new q r hr ((hD q r hr hd).1 hq) t hd hlt]
    · rw [List.getElem?_eq_none (by rw [h.len]; omega), List.getElem?_eq_none (by rw [h'.len]; omega)]
  · rw [h.old t fun q r hr hq hd => hex ⟨q, r, hr, hq, hd⟩, h'.old t fun q r hr hq hd => hex ⟨q, r, hr, (hD q r hr hd).2 hq, hd⟩]
theorem Told.ext {rs : List ROp} {vl : Nat → AV} {D D' : Nat → Prop} {tm0 x y : List AV} (h : Told rs vl D tm0 x) (h' : Told rs vl D' tm0 y) (hD : ∀ (q : Nat) (r : ROp), rs[q]? = some r → (D q ↔ D' q)) : x = y :=
  List.ext_getElem? fun t => h.at h' fun q r hr _ => hD q r hr
theorem told_upto {rs : List ROp} {vl : Nat → AV} {st : Nat → St} (ha : Apart rs) (hst : ∀ (p : Nat) (r : ROp), rs[p]? = some r → (st (p + 1)).tm = put (st p).tm r.dst (vl p)) : ∀ p, p ≤ rs.length → Told rs vl (· < p) (st 0).tm (st p).tm
  | 0, _ => ⟨rfl, fun q r _ hq => absurd hq (Nat.not_lt_zero _), fun t _ => rfl⟩
  | p + 1, hp => by
    obtain ⟨r, hr⟩ : ∃ r, rs[p]? = some r := ⟨rs[p], List.getElem?_eq_getElem (by omega)⟩
    rw [hst p r hr]
    exact (told_upto ha hst p (by omega)).put ha hr fun q => by omega
theorem valR_congr {r : ROp} {x y : List AV} {S : Store} (h : ∀ t ∈ r.looks, x[t]? = y[t]?) : valR R r x S = valR R r y S := by
  have hg : ∀ t ∈ r.looks, x.getD t .any = y.getD t .any := fun t ht => by rw [List.getD_eq_getElem?_getD, List.getD_eq_getElem?_getD, h t ht]
  have h1 : wants x r.g = wants y r.g := by
    unfold wants
    cases hgd : r.g with
    | none => rfl
    | some g =>
      obtain ⟨t, w⟩ := g
      simp only
      rw [hg t (by simp [ROp.looks, hgd])]
  have h2 : r.args.map (·.ev x) = r.args.map (·.ev y) := List.map_congr_left fun o ho => by
    cases o with
    | c v => rfl
    | t i => exact hg i (List.mem_append_left _ (List.mem_filterMap.2 ⟨.t i, ho, rfl⟩))
  unfold valR
  rw [h1, h2]
theorem valR_free {r : ROp} (hk : r.k.cls = .free) {tm : List AV} {S S1 : Store} {v : AV} (h : valR R r tm S = some (v, S1)) : S1 = S ∧ ∀ S2, valR R r tm S2 = some (v, S2) := by
  unfold valR at h ⊢
  cases hw : wants tm r.g with
  | yes => rw [hw] at h; exact opA_cls_free hk h
  | no => rw [hw] at h; cases h; exact ⟨rfl, fun _ => rfl⟩
  | lost => rw [hw] at h; cases h
theorem valR_rdr {r : ROp} (hk : r.k.cls = .rdr) {tm : List AV} {S S1 : Store} {v : AV} (h : valR R r tm S = some (v, S1)) : S1 = S := by
  unfold valR at h
  cases hw : wants tm r.g with
  | yes => rw [hw] at h; exact opA_cls_rdr hk h
  | no => rw [hw] at h; cases h; rfl
  | lost => rw [hw] at h; cases h
variable {S : Store} {J : JMap} {M : Mem} {w : World}
theorem Inv.pend (I : Inv fid S J M w) (bl : List Blk) : Inv fid (S ++ bl) J M w := by
  have hlt : ∀ b vl, J b vl ≠ none → (S ++ bl)[b]? = S[b]? := fun b vl h => List.getElem?_append_left (I.jlt b vl h)
  refine ⟨I.mem, fun b cs ex hb hj => ?_, fun b cs hb hj => ?_, fun b vl h => ?_, fun b vl cs ex hb h => ?_, I.jps, ?_⟩
  · obtain ⟨vl, h⟩ := hj
    exact I.blk b cs ex (by rw [← hlt b vl h]; exact hb) ⟨vl, h⟩
  · obtain ⟨vl, h⟩ := hj
    exact I.fzb b cs (by rw [← hlt b vl h]; exact hb) ⟨vl, h⟩
  · have := I.jlt b vl h; rw [List.length_append]; omega
  · exact I.jmx b vl cs ex (by rw [← hlt b vl h]; exact hb) h
  · intro b1 b2 c1 e1 c2 e2 blk base ps base' ps' hb1 hj1 hb2 hj2
    rw [hlt b1 _ (by rw [hj1]; simp)] at hb1
    rw [hlt b2 _ (by rw [hj2]; simp)] at hb2
    exact I.inj b1 b2 c1 e1 c2 e2 blk base ps base' ps' hb1 hj1 hb2 hj2
theorem Step.pend (I : Inv fid S J M w) (bl : List Blk) : Step S J M w (S ++ bl) J M w := by
  refine ⟨fun _ _ _ h => h, fun _ _ _ h => h, fun _ _ _ h => .inl h, fun _ _ _ => rfl, fun i hi => ?_, Nat.le_refl _, rfl, rfl, rfl, by simp, fun b hb hj => ⟨List.getElem?_append_left hb, hj⟩⟩
  obtain ⟨b, cs, ex, base, ps, hb, hj⟩ := hi
  rw [List.getElem?_append_left (I.jlt b _ (by rw [hj]; simp))] at hb
  exact .inl ⟨b, cs, ex, base, ps, hb, hj⟩
theorem Inv.regp (I : Inv fid S J M w) {b : Nat} {cs : List AV} {ex : Bool} (hb : S[b]? = some (.mu cs ex)) (hJ : ∀ vl, J b vl = none) {blk base ps : Nat} {arr : Array Value} {el : TypeId}
    (hh : w.heap[blk]? = some (.cells arr el (0, 0))) (hn : ¬ Wr S J blk) (hM : ∀ o, M blk o = none) (hsz : arr.size = base + ps) (hps : cs.length ≤ ps) (hex : ex = true → ps = cs.length)
    (hc : ∀ (k : Nat) (x : AV), cs[k]? = some x → ∃ v, arr[base + k]? = some v ∧ v.plain ∧ ARep fid J M x v) :
    Inv fid S (J.put b cs.length (some (blk, base, ps))) M w := by
  have hle : J.le (J.put b cs.length (some (blk, base, ps))) := JMap.put_le (.inl (hJ _))
  have hjne : ∀ b' vl, b' ≠ b → (J.put b cs.length (some (blk, base, ps))) b' vl = J b' vl := by
    intro b' vl hne; simp [JMap.put, hne]
  refine ⟨I.mem, fun b' c e hb' hj => ?_, fun b' c hb' hj => ?_, fun b' vl h => ?_, fun b' vl c e hb' h => ?_, fun b' vl blk1 base1 ps1 h => ?_, ?_⟩
  · by_cases hbb : b' = b
    · subst hbb; rw [hb] at hb'; cases hb'
      exact .inr ⟨blk, base, ps, arr, el, JMap.put_self .., hh, hsz, hps, hex, fun k x hx => let ⟨v, a1, a2, a3⟩ := hc k x hx; ⟨v, a1, a2, a3.mono hle fun _ _ _ h => h⟩, hM⟩
    · have hj' : ∃ vl, J b' vl ≠ none := by obtain ⟨vl, h⟩ := hj; exact ⟨vl, by rwa [hjne b' vl hbb] at h⟩
      rcases I.blk b' c e hb' hj' with ⟨a1, a2, a3⟩ | ⟨blk', base', ps', arr', el', a1, a2, a3, a4, a5, a6, a7⟩
      · exact .inl ⟨a1, a2, by rw [hjne b' 0 hbb]; exact a3⟩
      · exact .inr ⟨blk', base', ps', arr', el', hle _ _ _ a1, a2, a3, a4, a5, fun k x hx => let ⟨v, u1, u2, u3⟩ := a6 k x hx; ⟨v, u1, u2, u3.mono hle fun _ _ _ h => h⟩, a7⟩
  · by_cases hbb : b' = b
    · subst hbb; rw [hb] at hb'; cases hb'
    · have hj' : ∃ vl, J b' vl ≠ none := by obtain ⟨vl, h⟩ := hj; exact ⟨vl, by rwa [hjne b' vl hbb] at h⟩
      rcases I.fzb b' c hb' hj' with ⟨a1, a2⟩ | ⟨blk', base', ps', a1, a2⟩
      · exact .inl ⟨a1, by rw [hjne b' 0 hbb]; exact a2⟩
      · exact .inr ⟨blk', base', ps', hle _ _ _ a1, a2⟩
  · by_cases hbb : b' = b
    · subst hbb; exact (List.getElem?_eq_some_iff.1 hb).1
    · rw [hjne b' vl hbb] at h; exact I.jlt b' vl h
  · by_cases hbb : b' = b
    · subst hbb; rw [hb] at hb'; cases hb'
      by_cases hv : vl = cs.length
      · omega
      · simp [JMap.put, hv, hJ] at h
    · rw [hjne b' vl hbb] at h
      exact I.jmx b' vl c e hb' h
  · unfold JMap.put at h
    split at h
    · rename_i hh; obtain ⟨rfl, rfl⟩ := hh; cases h; exact hps
    · exact I.jps _ _ _ _ _ h
  · intro b1 b2 c1 e1 c2 e2 blk' base1 ps1 base2 ps2 hb1 hj1 hb2 hj2
    by_cases h1 : b1 = b
    · by_cases h2 : b2 = b
      · rw [h1, h2]
      · subst h1; rw [hb] at hb1; cases hb1
        rw [JMap.put_self] at hj1; cases hj1
        rw [hjne b2 _ h2] at hj2
        exact absurd ⟨b2, c2, e2, base2, ps2, hb2, hj2⟩ hn
    · rw [hjne b1 _ h1] at hj1
      by_cases h2 : b2 = b
      · subst h2; rw [hb] at hb2; cases hb2
        rw [JMap.put_self] at hj2; cases hj2
        exact absurd ⟨b1, c1, e1, base1, ps1, hb1, hj1⟩ hn
      · rw [hjne b2 _ h2] at hj2
        exact I.inj b1 b2 c1 e1 c2 e2 blk' base1 ps1 base2 ps2 hb1 hj1 hb2 hj2
theorem Step.regp {S0 : Store} {J0 : JMap} {M0 : Mem} {w0 : World} (h : Step S0 J0 M0 w0 S J M w) {b : Nat} {cs : List AV} {ex : Bool} (hb : S[b]? = some (.mu cs ex)) (hJ : ∀ vl, J b vl = none) (hge : S0.length ≤ b) {blk base ps : Nat} (hblk : w0.heap.size ≤ blk) :
    Step S0 J0 M0 w0 S (J.put b cs.length (some (blk, base, ps))) M w := by
  refine ⟨fun b' vl l e => JMap.put_le (.inl (hJ _)) _ _ _ (h.jle _ _ _ e), h.mle, h.mnew, h.frame, fun i hi => ?_, h.size, h.os, h.tape, h.output, h.slen, fun b' hb' hj => ?_⟩
  · obtain ⟨b', c, e, base', ps', hb', hj'⟩ := hi
    by_cases hbb : b' = b
    · subst hbb; rw [hb] at hb'; cases hb'
      rw [JMap.put_self] at hj'; cases hj'; exact .inr hblk
    · exact h.wnew i ⟨b', c, e, base', ps', hb', by simpa [JMap.put, hbb] using hj'⟩
  · obtain ⟨a1, a2⟩ := h.keep b' hb' hj
    exact ⟨a1, fun vl => by have hne : b' ≠ b := by omega
                            simp [JMap.put, hne, a2]⟩
end
end Go.AVM
