/- Operations, one lemma a kind (second part: addresses, fields, elements, slices, tuples, bounds). -/
import Derived.Test.YtlpbjbgfgfjnlaaAvOps2
set_option linter.unusedVariables false
set_option linter.unusedSimpArgs false
set_option linter.unusedSectionVars false
namespace Go.AVM
section
variable {P : Program} {fid : Nat → FuncId} {mid : FuncId → Option Nat} {S S' : Store} {J : JMap} {M : Mem} {w : World} {tm : List AV} {a : Act} {o : Oper} {ps : List Opd} {v' : AV} {R : RunF}

theorem sim_un (hm : MidOk fid mid) {u : UnOp} : Sim P fid mid R o (.un u) := by
  intro ps S S' J M w tm a v' hok I ht h
  cases hop : o.op <;> simp only [okOp, hop] at hok <;> try (cases hok)
  simp only [Bool.and_eq_true, beq_iff_eq] at hok
  obtain ⟨rfl, h4⟩ := hok
  obtain ⟨x, hx, hr⟩ := okOpds1 hm ht h4
  rw [hx] at h
  simp only [opA] at h
  obtain ⟨v, hv, h⟩ := Option.bind_eq_some_iff.1 h
  cases h
  obtain ⟨cv, hrun, hrep⟩ := run_unA (P := P) hv hr w
  exact .same I (by simp [execOp, hop, hrun]) (.fr hrep)
theorem sim_conv (hm : MidOk fid mid) {q : IntKind} : Sim P fid mid R o (.conv q) := by
  intro ps S S' J M w tm a v' hok I ht h
  cases hop : o.op <;> simp only [okOp, hop] at hok <;> try (cases hok)
  simp only [Bool.and_eq_true] at hok
  obtain ⟨⟨hs, hd⟩, h4⟩ := hok
  obtain ⟨x, hx, hr⟩ := okOpds1 hm ht h4
  rw [hx] at h
  cases x <;> simp only [opA] at h <;> cases h
  rename_i st dt ox k n
  obtain ⟨ds, hs⟩ := Option.isSome_iff_exists.1 hs
  have hd' : P.underlying dt = some (.int q) := by
    split at hd
    · rename_i k' e; have : k' = q := by simpa using hd
      subst this; exact e
    · cases hd
  have e := hr.int_inv
  exact .same I (cv := .int q (q.wrap n)) (by simp [execOp, hop, e, convert, run_underlying hs, run_underlying hd', Conv.intToInt]) (.fr (.int _ _))
/-- Operands in a row, as a frame's values. -/
theorem args_rep (hm : MidOk fid mid) (ht : TRep fid J M tm a.tmps) {xs : Array Operand} (h : okOpds mid xs.toList ps = true) : (xs.map a.eval).size = (ps.map (·.ev tm)).length ∧
    ∀ (k : Nat) (v : AV), (ps.map (·.ev tm))[k]? = some v → ∃ cv : Value, (xs.map a.eval)[k]? = some cv ∧ ARep fid J M v cv := by
  obtain ⟨hl, hq⟩ := okOpds_rep hm ht h
  refine ⟨by simp; simpa using hl, fun k v hv => ?_⟩
  obtain ⟨x, hx, hr⟩ := hq k v hv
  exact ⟨_, by simp at hx; simp [hx], hr⟩
theorem sim_mkfn (hm : MidOk fid mid) {m : Nat} : Sim P fid mid R o (.mkfn m) := by
  intro ps S S' J M w tm a v' hok I ht h
  cases hop : o.op <;> simp only [okOp, hop] at hok <;> try (cases hok)
  rename_i fn first caps
  cases fn <;> simp only at hok <;> try (cases hok)
  rename_i f
  simp only [Bool.and_eq_true, beq_iff_eq] at hok
  obtain ⟨⟨hf, he⟩, h4⟩ := hok
  have hfe : first = #[] := by simpa using he
  subst hfe
  have := hm f m hf
  subst this
  cases h
  obtain ⟨e1, e2⟩ := args_rep hm ht h4
  exact .same I (cv := .func (.func (fid m)) #[] (caps.map a.eval)) (by simp [execOp, hop, Instr.makeFunc]) (ARep.fn_mk e1 e2)

theorem sim_ext (hm : MidOk fid mid) {i : Nat} : Sim P fid mid R o (.ext i) := by
  intro ps S S' J M w tm a v' hok I ht h
  cases hop : o.op <;> simp only [okOp, hop] at hok <;> try (cases hok)
  simp only [Bool.and_eq_true, beq_iff_eq] at hok
  obtain ⟨rfl, h4⟩ := hok
  obtain ⟨x, hx, hr⟩ := okOpds1 hm ht h4
  rw [hx] at h
  cases x <;> simp only [opA] at h <;> try (cases h)
  obtain ⟨v, hv, h⟩ := Option.bind_eq_some_iff.1 h
  cases h
  obtain ⟨vs, e, hs, hq⟩ := hr.tup_inv
  obtain ⟨cv, hc, hrep⟩ := hq _ _ hv
  exact .same I (by simp [execOp, hop, e, Instr.extract, hc]) hrep

theorem sim_faddr (hm : MidOk fid mid) {off n : Nat} : Sim P fid mid R o (.faddr off n) := by
  intro ps S S' J M w tm a v' hok I ht h
  cases hop : o.op <;> simp only [okOp, hop] at hok <;> try (cases hok)
  rename_i st ox fi
  simp only [Bool.and_eq_true] at hok
  obtain ⟨hok, h4⟩ := hok
  obtain ⟨x, hx, hr⟩ := okOpds1 hm ht h4
  rw [hx] at h
  split at hok
  · rename_i fs hu
    split at hok
    · rename_i f hf
      simp only [Bool.and_eq_true, beq_iff_eq, decide_eq_true_eq] at hok
      obtain ⟨⟨rfl, hsz⟩, hpos⟩ := hok
      have hrun : ∀ ad : Addr, ∀ w, (Instr.fieldAt st (.pointer (some ad)) fi).run P w = .ok (.pointer (some (ad.add f.offset))) w := by
        intro ad w
        have : ¬ n = 0 := by omega
        simp [Instr.fieldAt, run_underlying hu, hf, Instr.sureAddr, fieldPlace, szIs_run hsz, this]
      cases x <;> simp only [opA] at h <;> try (cases h)
      · rename_i b o vl
        replace h := chk_some.1 h; obtain ⟨hle, h⟩ := h
        cases h
        obtain ⟨blk, base, p, hj, e⟩ := hr.mptr_inv
        refine .same I (cv := .pointer (some ⟨blk, base + (o + f.offset), none⟩)) (by simp [execOp, hop, e, hrun, Addr.add_lit, Nat.add_assoc]) (.mptr b _ vl blk base p hj)
      · rename_i cs
        replace h := chk_some.1 h; obtain ⟨hle, h⟩ := h
        cases h
        obtain ⟨blk, o, e, hc⟩ := hr.fptr_inv
        refine .same I (cv := .pointer (some ⟨blk, o + f.offset, none⟩)) (by simp [execOp, hop, e, hrun, Addr.add_lit]) (.fr (FRep.fptr_mk fun k x hx => ?_))
        rw [List.getElem?_drop] at hx
        rw [Nat.add_assoc]
        exact hc _ x hx
    · cases hok
  · cases hok
theorem sim_fld (hm : MidOk fid mid) {ag : Bool} {off n : Nat} : Sim P fid mid R o (.fld ag off n) := by
  intro ps S S' J M w tm a v' hok I ht h
  cases hop : o.op <;> simp only [okOp, hop] at hok <;> try (cases hok)
  rename_i st ox fi
  simp only [Bool.and_eq_true] at hok
  obtain ⟨hok, h4⟩ := hok
  obtain ⟨x, hx, hr⟩ := okOpds1 hm ht h4
  rw [hx] at h
  split at hok
  · rename_i fs hu
    split at hok
    · rename_i f hf
      simp only [Bool.and_eq_true, beq_iff_eq] at hok
      obtain ⟨⟨⟨rfl, hsz⟩, hag⟩, h1⟩ := hok
      cases x <;> simp only [opA] at h <;> try (cases h)
      replace h := chk_some.1 h; obtain ⟨hle, h⟩ := h
      obtain ⟨v, hv, h⟩ := Option.bind_eq_some_iff.1 h
      cases h
      obtain ⟨vs, e, hs, hq⟩ := hr.agg_inv
      obtain ⟨cv, hrun, hrep⟩ := part_rep (P := P) (w := w) hag hsz h1 ⟨hs, hq⟩ hle hv
      exact .same I (by simp [execOp, hop, e, Instr.field, run_underlying hu, hf, asAgg, hrun]) hrep
    · cases hok
  · cases hok
theorem sim_iaa (hm : MidOk fid mid) {n sz : Nat} : Sim P fid mid R o (.iaa n sz) := by
  intro ps S S' J M w tm a v' hok I ht h
  cases hop : o.op <;> simp only [okOp, hop] at hok <;> try (cases hok)
  rename_i t ox oi
  simp only [Bool.and_eq_true] at hok
  obtain ⟨hok, h4⟩ := hok
  obtain ⟨x, y, hx, h1, h2⟩ := okOpds2 hm ht h4
  rw [hx] at h
  split at hok
  · rename_i n' e hu
    simp only [Bool.and_eq_true, beq_iff_eq] at hok
    obtain ⟨rfl, hsz⟩ := hok
    have hrun : ∀ (ad : Addr) (k : IntKind) (i : Int), 0 ≤ i → i < n' → ∀ w, (Instr.indexAt t (.pointer (some ad)) (.int k i)).run P w = .ok (.pointer (some (ad.add (i.toNat * sz)))) w := by
      intro ad k i h0 h1 w
      have e1 : ¬ (i < 0) := by omega
      simp [Instr.indexAt, asIntOf, run_underlying hu, Instr.sureAddr, szIs_run hsz, h0, h1]
    cases x <;> simp only [opA] at h <;> try (cases h)
    · cases y <;> simp only at h <;> try (cases h)
      rename_i b off vl k i
      replace h := chk_some.1 h; obtain ⟨⟨hle, hlt⟩, h⟩ := h
      cases h
      obtain ⟨blk, base, p, hj, e1⟩ := h1.mptr_inv
      have e2 := h2.int_inv
      exact .same I (cv := .pointer (some ⟨blk, base + (off + i.toNat * sz), none⟩)) (by simp [execOp, hop, e1, e2, hrun _ _ _ hle hlt, Addr.add_lit, Nat.add_assoc]) (.mptr b _ vl blk base p hj)
    · cases y <;> simp only at h <;> try (cases h)
      rename_i cs k i
      replace h := chk_some.1 h; obtain ⟨⟨hle, hlt⟩, h⟩ := h
      cases h
      obtain ⟨blk, off, e1, hc⟩ := h1.fptr_inv
      have e2 := h2.int_inv
      refine .same I (cv := .pointer (some ⟨blk, off + i.toNat * sz, none⟩)) (by simp [execOp, hop, e1, e2, hrun _ _ _ hle hlt, Addr.add_lit]) (.fr (FRep.fptr_mk fun k x hx => ?_))
      rw [List.getElem?_drop] at hx
      rw [Nat.add_assoc]
      exact hc _ x hx
  · cases hok
theorem sim_ias (hm : MidOk fid mid) {sz : Nat} : Sim P fid mid R o (.ias sz) := by
  intro ps S S' J M w tm a v' hok I ht h
  cases hop : o.op <;> simp only [okOp, hop] at hok <;> try (cases hok)
  rename_i t ox oi
  simp only [Bool.and_eq_true] at hok
  obtain ⟨hok, h4⟩ := hok
  obtain ⟨x, y, hx, h1, h2⟩ := okOpds2 hm ht h4
  rw [hx] at h
  split at hok
  · rename_i e hu
    have hrun : ∀ (ad : Addr) (n c : Nat) (k : IntKind) (i : Int), 0 ≤ i → i < n → ∀ w, (Instr.indexAt t (.slice (some ad) n c) (.int k i)).run P w = .ok (.pointer (some (ad.add (i.toNat * sz)))) w := by
      intro ad n c k i h0 h1 w
      simp [Instr.indexAt, asIntOf, run_underlying hu, szIs_run hok, h0, h1]
    cases x <;> simp only [opA] at h <;> try (cases h)
    · cases y <;> simp only at h <;> try (cases h)
      rename_i es sz' t' k i
      replace h := chk_some.1 h; obtain ⟨⟨hle, hlt, hzz⟩, h⟩ := h
      subst hzz
      obtain ⟨e', he, h⟩ := Option.bind_eq_some_iff.1 h
      cases h
      obtain ⟨ad, c, e1, hc, _, hq⟩ := h1.sl_inv
      have e2 := h2.int_inv
      rcases hq with rfl | ⟨blk, off, rfl, hq⟩
      · simp at he
      · refine .same I (cv := .pointer (some ⟨blk, off + i.toNat * sz, none⟩)) (by simp [execOp, hop, e1, e2, hrun _ _ _ _ _ hle hlt, Addr.add_lit]) (.fr (FRep.fptr_mk fun k x hx => ?_))
        exact (hq _ _ he).2 k x hx
    · cases y <;> simp only at h <;> try (cases h)
      rename_i b off n sz' vl cap k i
      replace h := chk_some.1 h; obtain ⟨⟨hle, hlt, hzz⟩, h⟩ := h
      subst hzz
      cases h
      have e2 := h2.int_inv
      rcases h1.msl_inv with ⟨blk, base, p, c, ad, hj, hn, hcap, had, e1⟩ | ⟨_, rfl, _⟩
      · have : ad = some ⟨blk, base + off, none⟩ := had.resolve_left (by omega)
        subst this
        exact .same I (cv := .pointer (some ⟨blk, base + (off + i.toNat * sz), none⟩)) (by simp [execOp, hop, e1, e2, hrun _ _ _ _ _ hle hlt, Addr.add_lit, Nat.add_assoc]) (.mptr b _ vl blk base p hj)
      · omega
  · cases hok
theorem sim_ixa (hm : MidOk fid mid) {ag : Bool} {n sz : Nat} : Sim P fid mid R o (.ixa ag n sz) := by
  intro ps S S' J M w tm a v' hok I ht h
  cases hop : o.op <;> simp only [okOp, hop] at hok <;> try (cases hok)
  rename_i t ox oi
  simp only [Bool.and_eq_true] at hok
  obtain ⟨hok, h4⟩ := hok
  obtain ⟨x, y, hx, h1, h2⟩ := okOpds2 hm ht h4
  rw [hx] at h
  split at hok
  · rename_i n' e hu
    simp only [Bool.and_eq_true, beq_iff_eq] at hok
    obtain ⟨⟨⟨rfl, hsz⟩, hag⟩, hone⟩ := hok
    cases x <;> simp only [opA] at h <;> try (cases h)
    cases y <;> simp only at h <;> try (cases h)
    rename_i cs k i
    replace h := chk_some.1 h; obtain ⟨⟨hle, hlt, hfit⟩, h⟩ := h
    obtain ⟨v, hv, h⟩ := Option.bind_eq_some_iff.1 h
    cases h
    obtain ⟨vs, e1, hs, hq⟩ := h1.agg_inv
    have e2 := h2.int_inv
    have hfit' : i.toNat * sz + sz ≤ cs.length := by
      have : (i.toNat + 1) * sz ≤ n' * sz := Nat.mul_le_mul_right _ (by omega)
      rw [Nat.succ_mul] at this; omega
    obtain ⟨cv, hrun, hrep⟩ := part_rep (P := P) (w := w) hag hsz hone ⟨hs, hq⟩ hfit' hv
    exact .same I (by simp [execOp, hop, e1, e2, Instr.index, asIntOf, run_underlying hu, hle, hlt, szIs_run hsz, hrun]) hrep
  · cases hok
theorem sim_ixs (hm : MidOk fid mid) : Sim P fid mid R o .ixs := by
  intro ps S S' J M w tm a v' hok I ht h
  cases hop : o.op <;> simp only [okOp, hop] at hok <;> try (cases hok)
  rename_i t ox oi
  simp only [Bool.and_eq_true] at hok
  obtain ⟨hok, h4⟩ := hok
  obtain ⟨x, y, hx, h1, h2⟩ := okOpds2 hm ht h4
  rw [hx] at h
  have hu : P.underlying t = some .string := by
    split at hok
    · assumption
    · cases hok
  cases x <;> simp only [opA] at h <;> try (cases h)
  cases y <;> simp only at h <;> try (cases h)
  rename_i s k i
  replace h := chk_some.1 h; obtain ⟨hle, h⟩ := h
  obtain ⟨b, hb, h⟩ := Option.bind_eq_some_iff.1 h
  cases h
  have e1 := h1.str_inv
  have e2 := h2.int_inv
  exact .same I (cv := .int .u8 b.toNat) (by simp [execOp, hop, e1, e2, Instr.index, asIntOf, run_underlying hu, hle, hb]) (.fr (.int _ _))

/-! ### Lengths -/
theorem execOp_builtin {b : Builtin} {args : Array Operand} {ats : Array TypeId} (hop : o.op = .call { callee := .builtin b, args, argTypes := ats }) (a : Act) (w : World) :
    (execOp a.eval o).run P w = (builtin b ats o.type (args.map fun | .const _ => true | _ => false) (args.map a.eval)).run P w := by
  simp only [execOp, hop, resolve, Sem.run_bind, Sem.run_pure, Result.andThen_ok, invoke]
  rfl
theorem args1 (hm : MidOk fid mid) (ht : TRep fid J M tm a.tmps) {xs : Array Operand} {v : AV} (h : okOpds mid xs.toList ps = true) (hv : ps.map (·.ev tm) = [v]) : ∃ cv, xs.map a.eval = #[cv] ∧ ARep fid J M v cv := by
  obtain ⟨e1, e2⟩ := args_rep hm ht h
  rw [hv] at e1 e2
  obtain ⟨cv, hc, hr⟩ := e2 0 v rfl
  refine ⟨cv, ?_, hr⟩
  apply Array.ext_getElem?
  intro i
  cases i with
  | zero => rw [hc]; rfl
  | succ i => rw [Array.getElem?_eq_none (by rw [e1]; simp), Array.getElem?_eq_none (by simp)]
theorem args2 (hm : MidOk fid mid) (ht : TRep fid J M tm a.tmps) {xs : Array Operand} {v u : AV} (h : okOpds mid xs.toList ps = true) (hv : ps.map (·.ev tm) = [v, u]) : ∃ cv cu, xs.map a.eval = #[cv, cu] ∧ ARep fid J M v cv ∧ ARep fid J M u cu := by
  obtain ⟨e1, e2⟩ := args_rep hm ht h
  rw [hv] at e1 e2
  obtain ⟨cv, hc, hr⟩ := e2 0 v rfl
  obtain ⟨cu, hc', hr'⟩ := e2 1 u rfl
  refine ⟨cv, cu, ?_, hr, hr'⟩
  apply Array.ext_getElem?
  intro i
  match i with
  | 0 => rw [hc]; rfl
  | 1 => rw [hc']; rfl
  | i + 2 => rw [Array.getElem?_eq_none (by rw [e1]; simp), Array.getElem?_eq_none (by simp)]
theorem args3 (hm : MidOk fid mid) (ht : TRep fid J M tm a.tmps) {xs : Array Operand} {v u t : AV} (h : okOpds mid xs.toList ps = true) (hv : ps.map (·.ev tm) = [v, u, t]) :
    ∃ cv cu ct, xs.map a.eval = #[cv, cu, ct] ∧ ARep fid J M v cv ∧ ARep fid J M u cu ∧ ARep fid J M t ct := by
  obtain ⟨e1, e2⟩ := args_rep hm ht h
  rw [hv] at e1 e2
  obtain ⟨cv, hc, hr⟩ := e2 0 v rfl
  obtain ⟨cu, hc', hr'⟩ := e2 1 u rfl
  obtain ⟨ct, hc'', hr''⟩ := e2 2 t rfl
  refine ⟨cv, cu, ct, ?_, hr, hr', hr''⟩
  apply Array.ext_getElem?
  intro i
  match i with
  | 0 => rw [hc]; rfl
  | 1 => rw [hc']; rfl
  | 2 => rw [hc'']; rfl
  | i + 3 => rw [Array.getElem?_eq_none (by rw [e1]; simp), Array.getElem?_eq_none (by simp)]
theorem toList_one {α : Type} {xs : Array α} {x : α} (h : xs.toList = [x]) : xs = #[x] := by rw [← Array.toArray_toList (xs := xs), h]
theorem toList_two {α : Type} {xs : Array α} {x y : α} (h : xs.toList = [x, y]) : xs = #[x, y] := by rw [← Array.toArray_toList (xs := xs), h]

theorem sim_len (hm : MidOk fid mid) : Sim P fid mid R o .len := by
  intro ps S S' J M w tm a v' hok I ht h
  unfold okOp at hok
  simp only at hok
  split at hok
  · rename_i args ats hop
    simp only [Bool.and_eq_true] at hok
    obtain ⟨hty, h4⟩ := hok
    split at hty
    · rename_i t hat
      have hat' := toList_one hat
      cases hvs : ps.map (·.ev tm) with
      | nil => rw [hvs] at h; simp [opA] at h
      | cons x xs =>
        rw [hvs] at h
        cases xs with
        | cons y ys => cases x <;> simp [opA] at h
        | nil =>
          obtain ⟨cv, hca, hr⟩ := args1 hm ht h4 hvs
          split at hty
          · rename_i e hu
            cases x <;> simp only [opA] at h <;> cases h
            · obtain ⟨ad, c, e1, _⟩ := hr.sl_inv
              subst e1
              exact .same I (cv := goInt _) (by rw [execOp_builtin hop, hca]; simp [builtin, Builtin.len_, hat', run_underlying hu]) (.fr (.int _ _))
            · rcases hr.msl_inv with ⟨_, _, _, c, ad, _, _, _, _, e1⟩ | ⟨_, rfl, _, _, _, ad, e1⟩
              · subst e1
                exact .same I (cv := goInt _) (by rw [execOp_builtin hop, hca]; simp [builtin, Builtin.len_, hat', run_underlying hu]) (.fr (.int _ _))
              · subst e1
                exact .same I (cv := goInt 0) (by rw [execOp_builtin hop, hca]; simp [builtin, Builtin.len_, hat', run_underlying hu]) (.fr (.int _ _))
          · cases hty
    · cases hty
  · cases hok
theorem sim_lens (hm : MidOk fid mid) : Sim P fid mid R o .lens := by
  intro ps S S' J M w tm a v' hok I ht h
  unfold okOp at hok
  simp only at hok
  split at hok
  · rename_i args ats hop
    simp only [Bool.and_eq_true] at hok
    obtain ⟨hty, h4⟩ := hok
    split at hty
    · rename_i t hat
      have hat' := toList_one hat
      cases hvs : ps.map (·.ev tm) with
      | nil => rw [hvs] at h; simp [opA] at h
      | cons x xs =>
        rw [hvs] at h
        cases xs with
        | cons y ys => cases x <;> simp [opA] at h
        | nil =>
          obtain ⟨cv, hca, hr⟩ := args1 hm ht h4 hvs
          split at hty
          · rename_i hu
            cases x <;> simp only [opA] at h <;> cases h
            have e1 := hr.str_inv
            subst e1
            exact .same I (cv := goInt _) (by rw [execOp_builtin hop, hca]; simp [builtin, Builtin.len_, hat', run_underlying hu]) (.fr (.int _ _))
          · cases hty
    · cases hty
  · cases hok
theorem sim_lenc (hm : MidOk fid mid) {n : Nat} : Sim P fid mid R o (.lenc n) := by
  intro ps S S' J M w tm a v' hok I ht h
  unfold okOp at hok
  simp only at hok
  split at hok
  · rename_i args ats hop
    simp only [Bool.and_eq_true] at hok
    obtain ⟨hty, h4⟩ := hok
    split at hty
    · rename_i t hat
      have hat' := toList_one hat
      cases hvs : ps.map (·.ev tm) with
      | nil => rw [hvs] at h; simp [opA] at h
      | cons x xs =>
        rw [hvs] at h
        cases xs with
        | cons y ys => simp [opA] at h
        | nil =>
          obtain ⟨cv, hca, hr⟩ := args1 hm ht h4 hvs
          simp only [opA] at h
          cases h
          split at hty
          · rename_i n' e hu
            have : n' = n := by simpa using hty
            subst this
            exact .same I (cv := goInt _) (by rw [execOp_builtin hop, hca]; simp [builtin, Builtin.len_, hat', run_underlying hu]) (.fr (.int _ _))
          · rename_i pt hu
            split at hty
            · rename_i n' e hu'
              have : n' = n := by simpa using hty
              subst this
              exact .same I (cv := goInt _) (by rw [execOp_builtin hop, hca]; simp [builtin, Builtin.len_, hat', run_underlying hu, run_underlying hu']) (.fr (.int _ _))
            · cases hty
          · cases hty
    · cases hty
  · cases hok
theorem sim_mn (hm : MidOk fid mid) : Sim P fid mid R o .mn := by
  intro ps S S' J M w tm a v' hok I ht h
  unfold okOp at hok
  simp only at hok
  split at hok
  · rename_i args ats hop
    simp only [opA] at h
    obtain ⟨v, hv, h⟩ := Option.bind_eq_some_iff.1 h
    cases h
    unfold minA at hv
    split at hv
    · rename_i k x k' y hvs
      replace hv := chk_some.1 hv; obtain ⟨rfl, hv⟩ := hv
      cases hv
      obtain ⟨c1, c2, hca, h1, h2⟩ := args2 hm ht hok hvs
      rw [h1.int_inv, h2.int_inv] at hca
      exact .same I (by rw [execOp_builtin hop, hca]; simp [builtin, Builtin.min_, Builtin.min2]) (.fr (.int _ _))
    · rename_i k x k' y k'' z hvs
      replace hv := chk_some.1 hv; obtain ⟨⟨rfl, rfl⟩, hv⟩ := hv
      cases hv
      obtain ⟨c1, c2, c3, hca, h1, h2, h3⟩ := args3 hm ht hok hvs
      rw [h1.int_inv, h2.int_inv, h3.int_inv] at hca
      exact .same I (by rw [execOp_builtin hop, hca]; simp [builtin, Builtin.min_, Builtin.min2]) (.fr (.int _ _))
    · cases hv
  · cases hok
theorem sim_mx (hm : MidOk fid mid) : Sim P fid mid R o .mx := by
  intro ps S S' J M w tm a v' hok I ht h
  unfold okOp at hok
  simp only at hok
  split at hok
  · rename_i args ats hop
    simp only [opA] at h
    obtain ⟨v, hv, h⟩ := Option.bind_eq_some_iff.1 h
    cases h
    unfold maxA at hv
    split at hv
    · rename_i k x k' y hvs
      replace hv := chk_some.1 hv; obtain ⟨rfl, hv⟩ := hv
      cases hv
      obtain ⟨c1, c2, hca, h1, h2⟩ := args2 hm ht hok hvs
      rw [h1.int_inv, h2.int_inv] at hca
      exact .same I (by rw [execOp_builtin hop, hca]; simp [builtin, Builtin.max_, Builtin.max2]) (.fr (.int _ _))
    · rename_i k x k' y k'' z hvs
      replace hv := chk_some.1 hv; obtain ⟨⟨rfl, rfl⟩, hv⟩ := hv
      cases hv
      obtain ⟨c1, c2, c3, hca, h1, h2, h3⟩ := args3 hm ht hok hvs
      rw [h1.int_inv, h2.int_inv, h3.int_inv] at hca
      exact .same I (by rw [execOp_builtin hop, hca]; simp [builtin, Builtin.max_, Builtin.max2]) (.fr (.int _ _))
    · cases hv
  · cases hok
end
end Go.AVM
