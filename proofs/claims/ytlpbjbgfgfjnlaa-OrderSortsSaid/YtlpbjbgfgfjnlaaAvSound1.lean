/- Single operations, put together: what an operation of the model does when its telling runs. -/
import Derived.Test.YtlpbjbgfgfjnlaaAvCall
set_option linter.unusedVariables false
set_option linter.unusedSimpArgs false
set_option linter.unusedSectionVars false
namespace Go.AVM
section
variable {P : Program} {fid : Nat → FuncId} {mid : FuncId → Option Nat} {S S' : Store} {J : JMap} {M : Mem} {w : World} {tm : List AV} {a : Act} {o : Oper} {ps : List Opd} {v' : AV} {R : RunF}

theorem sim_loadf (hm : MidOk fid mid) {ag : Bool} {n : Nat} : Sim P fid mid R o (.loadf ag n) := by
  intro ps S S' J M w tm a v' hok I ht h
  refine sim_load (R := R) hm (ag := ag) (n := n) (ps := ps) (tm := tm) (by
    unfold okOp at hok ⊢; exact hok) I ht ?_
  generalize ps.map (·.ev tm) = vs at h ⊢
  cases vs with
  | nil => simp [opA] at h
  | cons x xs =>
    cases xs with
    | cons y ys => cases x <;> simp [opA] at h
    | nil =>
      cases x <;> simp only [opA] at h <;> try (cases h; done)
      obtain ⟨hc, h⟩ := chk_some.1 h
      simp only [opA, loadA, chk_pos hc]
      exact h

/-! ### slices.Clone -/
theorem wpOps_one {ops : Array Oper} {Q : Exit → Act → World → Prop} (i : Nat) (rest : List Nat) (o : Oper) {ts : Array Value} {ds : List Deferred} {w w' : World} (v : Value) (ts' : Array Value) (hi : ops[i]? = some o) (hg : o.guard = none)
    (hx : (execOp (Act.eval ⟨ts, ds⟩) o).run P w = .ok (.value v) w') (hp : Act.put ⟨ts, ds⟩ o.dst v = ⟨ts', ds⟩)
    (h : wpOps P ops Q rest ⟨ts', ds⟩ w') : wpOps P ops Q (i :: rest) ⟨ts, ds⟩ w := by
  rw [wpOps_cons]
  unfold wpOp
  rw [hi]
  simp only [Region.wanted, hg, if_true]
  exact .inl (by
    unfold Oper.wp; rw [hx]
    show wpOps P ops Q rest (Act.put ⟨ts, ds⟩ o.dst v) w'
    rw [hp]; exact h)
theorem wp_region_l {id : Nat} {ops : Array Oper} {Q : Exit → Act → World → Prop} {a : Act} {w : World} (l : List Nat) (hl : List.range ops.size = l) (h : wpOps P ops Q l a w) : (Code.region id ops false).wp P Q a w := by
  subst hl; exact wp_region h

theorem eql_slice {t e : TypeId} (hu : P.underlying t = some (.slice e)) (x y : Operand) (ad : Option Addr) (n c : Nat) (w : World) :
    ∃ b, (b = true → ad = none) ∧ (do eqGuard .eql t x y (.slice ad n c) (.slice none 0 0); binOp .eql t (.slice ad n c) (.slice none 0 0) : Sem Value).run P w = .ok (.bool b) w := by
  have h1 : ∀ d, ∃ b, (b = true → ad = none) ∧ (Op.equalIn (d + 1) t (.slice ad n c) (.slice none 0 0)).run P w = .ok b w := fun d => by
    cases ad <;> simp [Op.equalIn, run_underlying hu]
  obtain ⟨b, hn, hb⟩ := h1 (Op.maxDepth - 1)
  refine ⟨b, hn, ?_⟩
  have : (Op.equal t (.slice ad n c) (.slice none 0 0)).run P w = .ok b w := hb
  simp [eqGuard, binOp, this]

theorem clone_code {sz by_ : Nat} {fn : Func} {f : FuncId} (hf : P.funcs[f]? = some fn) {i0 i1 i2 i3 : Nat} {a0 a1 a1' a2 a3 a4 a5 a6 t t3 pp e el : TypeId} {b0 b1 b1' b2 b3 b4 b5 b6 : String} {c0 c1 c1' c2 c3 c4 c5 c6 : Array Edge}
    (hbody : fn.body = some (.seq (.region i0 #[⟨some 2, .assign (.const (.slice none 0 0)), a0, b0, c0, none⟩] false)
      (.seq (.seq (.region i1 #[⟨some 3, .move (.tmp 0), a1, b1, c1, none⟩, ⟨some 4, .binOp .eql t (.tmp 3) (.const (.slice none 0 0)) pp, a1', b1', c1', none⟩] false)
        (.cond (.tmp 4) (.seq (.region i2 #[⟨some 2, .assign (.const (.slice none 0 0)), a2, b2, c2, none⟩] false) .ret) .skip))
        (.seq (.region i3 #[⟨some 5, .buildSlice t3 0 #[], a3, b3, c3, none⟩, ⟨some 6, .move (.tmp 0), a4, b4, c4, none⟩, ⟨some 7, .call { callee := .builtin .append, args := #[.tmp 5, .tmp 6], argTypes := #[t3, t3] }, a5, b5, c5, none⟩, ⟨some 2, .assign (.tmp 7), a6, b6, c6, none⟩] false) .ret))))
    (hres : fn.results = #[.tmp 2]) (hnt : fn.ntmps = 8) (hue : P.underlying t = some (.slice el)) (hu : P.underlying t3 = some (.slice e)) {i : TypeInfo} (hi : P.info? e = some i) (his : i.size = sz) (hib : i.bytes = by_) {z : Value} (hzz : i.zero = some z) (hzs : z.cells.size = sz)
    (hpos : 0 < sz) (hbp : 0 < by_) (I : Inv fid S J M w) {x : AV} {cx : Value} (hx : ARep fid J M x cx) {r : AV} (h : appA sz by_ S (.sl [] sz true) x = some (r, S')) :
    Calls P f #[cx] w (Left fid S J M w r S') := by
  obtain ⟨ad, m, c, rfl, hnil⟩ : ∃ ad m c, cx = .slice ad m c ∧ (ad = none → r = .sl [] sz true ∧ S' = S) := by
    unfold appA at h
    obtain ⟨⟨m, xs⟩, hh, h⟩ := Option.bind_eq_some_iff.1 h
    obtain ⟨ad, c, hcx, _, _, hm⟩ := held_rep I hh hx
    refine ⟨ad, m, c, hcx, fun h0 => ?_⟩
    have hm0 : m = 0 := by
      rcases hm with hm | ⟨_, _, hm, _⟩
      · rcases Nat.mul_eq_zero.1 hm with hm | hm
        · exact hm
        · omega
      · rw [h0] at hm; cases hm
    subst hm0
    simp only [chk, if_true, Option.some.injEq, Prod.mk.injEq] at h
    exact ⟨h.1.symm, h.2.symm⟩
  have fin : ∀ (a : Act) (v : Value) (w' : World), a.defers = [] → a.tmps[2]? = some v → (∃ J' M', Inv fid S' J' M' w' ∧ Step S J M w S' J' M' w' ∧ ARep fid J' M' r v) → bodyPost P fn (Left fid S J M w r S') .ret a w' := by
    rintro a v w' hd hv ⟨J', M', h1, h2, h3⟩
    refine ⟨hd, v, ?_, v, J', M', rfl, h1, h2, h3⟩
    have : a.tmps.getD 2 undef = v := by rw [Array.getD_eq_getD_getElem?, hv]; rfl
    simp only [results, hres]
    simp [this]
    rw [← Array.getD_eq_getD_getElem?]; exact this
  refine calls_of_wp hf hbody ?_
  rw [hnt]
  show Code.wp P _ _ ⟨#[.slice ad m c, undef, undef, undef, undef, undef, undef, undef], []⟩ w
  have step : ∀ (t : Array Value) (d : List Deferred), Act.defers ⟨t, d⟩ = d := fun _ _ => rfl
  refine wp_seq (wp_region_l [0] rfl ?_)
  refine wpOps_one 0 [] ⟨some 2, .assign (.const (.slice none 0 0)), a0, b0, c0, none⟩ (.slice none 0 0) #[.slice ad m c, undef, .slice none 0 0, undef, undef, undef, undef, undef] rfl rfl rfl rfl ?_
  refine wp_seq (wp_seq (wp_region_l [0, 1] rfl ?_))
  refine wpOps_one 0 [1] ⟨some 3, .move (.tmp 0), a1, b1, c1, none⟩ (.slice ad m c) #[.slice ad m c, undef, .slice none 0 0, .slice ad m c, undef, undef, undef, undef] rfl rfl rfl rfl ?_
  obtain ⟨b, hb0, hb⟩ := eql_slice (P := P) hue (.tmp 3) (.const (.slice none 0 0)) ad m c w
  refine wpOps_one 1 [] ⟨some 4, .binOp .eql t (.tmp 3) (.const (.slice none 0 0)) pp, a1', b1', c1', none⟩ (.bool b) #[.slice ad m c, undef, .slice none 0 0, .slice ad m c, .bool b, undef, undef, undef] (w' := w) rfl rfl ?_ rfl ?_
  · show ((do pure (.value (← (do eqGuard .eql t (.tmp 3) (.const (.slice none 0 0)) (.slice ad m c) (.slice none 0 0); binOp .eql t (.slice ad m c) (.slice none 0 0))))) : Sem Next).run P w = _
    rw [Sem.run_bind, hb]; rfl
  · refine wp_cond_split (t := b) rfl (fun hbt => ?_) (fun hbf => ?_)
    · refine wp_seq (wp_region_l [0] rfl ?_)
      refine wpOps_one 0 [] ⟨some 2, .assign (.const (.slice none 0 0)), a2, b2, c2, none⟩ (.slice none 0 0) #[.slice ad m c, undef, .slice none 0 0, .slice ad m c, .bool b, undef, undef, undef] rfl rfl rfl rfl ?_
      refine wp_ret ?_
      obtain ⟨rfl, rfl⟩ := hnil (hb0 hbt)
      exact fin _ (.slice none 0 0) _ rfl rfl ⟨J, M, I, Step.refl .., .fr (.slN _ _ _ _ (fun _ => rfl))⟩
    · refine wp_skip ?_
      refine wp_seq (wp_region_l [0, 1, 2, 3] rfl ?_)
      have hgrow : ∀ i, i < w.heap.size → (w.alloc (.cells #[] e)).heap[i]? = w.heap[i]? := fun i hi => by
        show (w.heap.push _)[i]? = _
        rw [Array.getElem?_push, if_neg (Nat.ne_of_lt hi)]
      have I1 := I.grow hgrow
      have st1 : Step S J M w S J M (w.alloc (.cells #[] e)) := (Step.refl S J M w).grow hgrow (by show _ ≤ (w.heap.push _).size; simp) rfl rfl rfl
      obtain ⟨cv, J', w', hrun, I', st, hr⟩ := appA_rep (P := P) (ty := a5) I1 hu hi his hib hzz hzs hpos hbp (cs := .slice (some ⟨w.heap.size, 0, none⟩) 0 0) (.fr (.slN _ _ _ _ (fun _ => rfl))) hx h
      generalize hsl : Value.slice (some ⟨w.heap.size, 0, none⟩) 0 0 = sl at hrun
      refine wpOps_one 0 [1, 2, 3] ⟨some 5, .buildSlice t3 0 #[], a3, b3, c3, none⟩ sl #[.slice ad m c, undef, .slice none 0 0, .slice ad m c, .bool b, sl, undef, undef] (w' := w.alloc (.cells #[] e)) rfl rfl ?_ rfl ?_
      · have hsz : ∀ w, (sizeOf e).run P w = .ok sz w := fun w => by simp [sizeOf, typeInfo, hi, his]
        subst hsl
        simp [execOp, Instr.buildSlice, run_underlying hu, hsz, newRow, Instr.fill, Array.range_zero']
      refine wpOps_one 1 [2, 3] ⟨some 6, .move (.tmp 0), a4, b4, c4, none⟩ (.slice ad m c) #[.slice ad m c, undef, .slice none 0 0, .slice ad m c, .bool b, sl, .slice ad m c, undef] rfl rfl rfl rfl ?_
      refine wpOps_one 2 [3] ⟨some 7, .call { callee := .builtin .append, args := #[.tmp 5, .tmp 6], argTypes := #[t3, t3] }, a5, b5, c5, none⟩ cv #[.slice ad m c, undef, .slice none 0 0, .slice ad m c, .bool b, sl, .slice ad m c, cv] (w' := w') rfl rfl ?_ rfl ?_
      · rw [execOp_builtin rfl]
        have hmap : ∀ a : Act, (#[Operand.tmp 5, .tmp 6].map a.eval) = #[a.eval (.tmp 5), a.eval (.tmp 6)] := fun _ => by simp
        rw [hmap]
        show (builtin .append #[t3, t3] a5 _ #[sl, .slice ad m c]).run P _ = _
        simp [builtin, hrun]
      refine wpOps_one 3 [] ⟨some 2, .assign (.tmp 7), a6, b6, c6, none⟩ cv #[.slice ad m c, undef, cv, .slice ad m c, .bool b, sl, .slice ad m c, cv] rfl rfl rfl rfl ?_
      refine wp_ret ?_
      exact fin _ cv _ rfl rfl ⟨J', M, I', st1.trans st, hr⟩

theorem clone_walk {sz by_ : Nat} {fn : Func} {f : FuncId} (hf : P.funcs[f]? = some fn) (hc : isClone P sz by_ fn = true) (hpos : 0 < sz) (hbp : 0 < by_) (I : Inv fid S J M w) {x : AV} {cx : Value} (hx : ARep fid J M x cx)
    {r : AV} (h : appA sz by_ S (.sl [] sz true) x = some (r, S')) :
    (∀ cargs w, (callFunc f cargs).run P w = .ok (.enter f cargs) w) ∧ Calls P f #[cx] w (Left fid S J M w r S') := by
  unfold isClone at hc
  simp only [Bool.and_eq_true, bne_iff_ne, beq_iff_eq] at hc
  obtain ⟨⟨⟨hres, hnt⟩, hname⟩, hc⟩ := hc
  split at hc
  · rename_i i0 r0 i1 r1 i2 r2 i3 r3 hbody
    simp only [Bool.and_eq_true] at hc
    obtain ⟨⟨⟨h0, h1⟩, h2⟩, h3⟩ := hc
    split at h0
    · rename_i a0 b0 c0 e0
      split at h1
      · rename_i a1 b1 c1 t pp a1' b1' c1' e1
        split at h1
        · rename_i el hue
          split at h2
          · rename_i a2 b2 c2 e2
            split at h3
            · rename_i t3 parts a3 b3 c3 a4 b4 c4 args ats a5 b5 c5 a6 b6 c6 e3
              simp only [Bool.and_eq_true] at h3
              obtain ⟨⟨⟨hpe, hty⟩, hargs⟩, hats⟩ := h3
              split at hty
              · rename_i e hu
                simp only [Bool.and_eq_true] at hty
                obtain ⟨⟨hs, hb⟩, hz⟩ := hty
                split at hz
                · rename_i i hi
                  split at hz
                  · rename_i z hzz
                    have his : i.size = sz := by unfold szIs at hs; rw [hi] at hs; simpa using hs
                    have hib : i.bytes = by_ := by unfold byIs at hb; rw [hi] at hb; simpa using hb
                    have hzs : z.cells.size = sz := by simpa using hz
                    have hr0 : r0 = #[⟨some 2, .assign (.const (.slice none 0 0)), a0, b0, c0, none⟩] := Array.ext' e0
                    have hr1 : r1 = #[⟨some 3, .move (.tmp 0), a1, b1, c1, none⟩, ⟨some 4, .binOp .eql t (.tmp 3) (.const (.slice none 0 0)) pp, a1', b1', c1', none⟩] := Array.ext' e1
                    have hr2 : r2 = #[⟨some 2, .assign (.const (.slice none 0 0)), a2, b2, c2, none⟩] := Array.ext' e2
                    have hr3 : r3 = #[⟨some 5, .buildSlice t3 0 parts, a3, b3, c3, none⟩, ⟨some 6, .move (.tmp 0), a4, b4, c4, none⟩, ⟨some 7, .call { callee := .builtin .append, args, argTypes := ats }, a5, b5, c5, none⟩, ⟨some 2, .assign (.tmp 7), a6, b6, c6, none⟩] := Array.ext' e3
                    subst hr0 hr1 hr2 hr3
                    have hnm : (fn.name == "runtime.NumGoroutine") = false := by simpa using hname
                    have hargs' : args = #[.tmp 5, .tmp 6] := by
                      split at hargs
                      · rename_i he; exact Array.ext' he
                      · cases hargs
                    have hats' : ats = #[t3, t3] := by
                      split at hats
                      · rename_i he
                        simp only [Bool.and_eq_true, beq_iff_eq] at hats
                        obtain ⟨h1, h2⟩ := hats
                        subst h1 h2
                        exact Array.ext' he
                      · cases hats
                    have hparts : parts = #[] := by simpa using hpe
                    have hres' : fn.results = #[.tmp 2] := by
                      split at hres
                      · rename_i he; exact Array.ext' he
                      · cases hres
                    subst hargs' hats' hparts
                    refine ⟨fun cargs w => by simp only [callFunc, Sem.run_bind, run_program, Result.andThen_ok, hf, hnm, hbody]; simp, ?_⟩
                    exact clone_code hf hbody hres' hnt hue hu hi his hib hzz hzs hpos hbp I hx h
                  · cases hz
                · cases hz
              · cases hty
            · cases h3
          · cases h2
        · cases h1
      · cases h1
    · cases h0
  · cases hc
/-! ### One operation -/
def K.easy : K → Bool
  | .call .. | .callv .. | .clone .. => false
  | _ => true
theorem sim_easy (hm : MidOk fid mid) {k : K} (hk : k.easy = true) : Sim P fid mid R o k := by
  cases k with
  | mv => exact sim_mv hm
  | own => exact sim_own hm
  | pick => exact sim_pick hm
  | alloc => exact sim_alloc hm
  | box => exact sim_box hm
  | build => exact sim_build hm
  | lit => exact sim_lit hm
  | litm => exact sim_litm hm
  | load => exact sim_load hm
  | loadf => exact sim_loadf hm
  | store => exact sim_store hm
  | nilChk => exact sim_nilChk hm
  | bin => exact sim_bin hm
  | eqb => exact sim_eqb hm
  | eqa => exact sim_eqa hm
  | un => exact sim_un hm
  | conv => exact sim_conv hm
  | mkfn => exact sim_mkfn hm
  | mks => exact sim_mks hm
  | slc => exact sim_slc hm
  | slca => exact sim_slca hm
  | faddr => exact sim_faddr hm
  | fld => exact sim_fld hm
  | iaa => exact sim_iaa hm
  | ias => exact sim_ias hm
  | ixa => exact sim_ixa hm
  | ixs => exact sim_ixs hm
  | ext => exact sim_ext hm
  | len => exact sim_len hm
  | lens => exact sim_lens hm
  | lenc => exact sim_lenc hm
  | app => exact sim_app hm
  | cpy => exact sim_cpy hm
  | clr => exact sim_clr hm
  | mn => exact sim_mn hm
  | mx => exact sim_mx hm
  | stop =>
    intro ps S S' J M w tm a v' hok I ht h
    simp [opA] at h
  | call | callv | clone => cases hk

theorem AsRep.of_okOpds (hm : MidOk fid mid) (ht : TRep fid J M tm a.tmps) {xs : Array Operand} (h : okOpds mid xs.toList ps = true) : AsRep fid J M (ps.map (·.ev tm)) (xs.map a.eval) := by
  obtain ⟨e1, e2⟩ := args_rep hm ht h
  exact ⟨e1, e2⟩

/-- What an operation does, told: the value it puts and the store it leaves. -/
def valR (R : RunF) (o : ROp) (tm : List AV) (S : Store) : Option (AV × Store) :=
  match wants tm o.g with
  | .yes => opA R o.k (o.args.map (·.ev tm)) S
  | .no => some (.tup [], S)
  | .lost => none
theorem stepR_val {o : ROp} {s : St} : stepR R o s = (valR R o s.tm s.st).bind fun (v, S) => some ⟨put s.tm o.dst v, S⟩ := by
  unfold stepR valR
  cases wants s.tm o.g <;> rfl

theorem wanted_of {ops : Array Oper} {r : ROp} (hg : okGuard ops o.guard r.g = true) (ht : TRep fid J M tm a.tmps) :
    (∀ h : wants tm r.g = .yes, Region.wanted o (yielded ops a.tmps) = true) ∧ (∀ h : wants tm r.g = .no, Region.wanted o (yielded ops a.tmps) = false) := by
  unfold Region.wanted wants okGuard at *
  cases ho : o.guard with
  | none =>
    cases hr : r.g with
    | none => exact ⟨fun _ => rfl, fun h => by simp at h⟩
    | some g => rw [ho, hr] at hg; cases hg
  | some g =>
    obtain ⟨j, wt⟩ := g
    cases hr : r.g with
    | none => rw [ho, hr] at hg; cases hg
    | some g' =>
      obtain ⟨t, w'⟩ := g'
      rw [ho, hr] at hg
      simp only [Bool.and_eq_true, beq_iff_eq] at hg
      obtain ⟨rfl, hd⟩ := hg
      have hy : yielded ops a.tmps j = match a.tmps[t]? with | some (.bool b) => some b | _ => none := by
        unfold yielded
        rw [hd]; rfl
      have hget := ht.get t
      simp only [hy]
      rw [Array.getD_eq_getD_getElem?] at hget
      generalize tm.getD t .any = x at hget ⊢
      cases x with
      | bool b =>
        have hb := hget.bool_inv
        cases e : a.tmps[t]? with
        | none => rw [e] at hb; simp [undef] at hb
        | some v =>
          rw [e] at hb; simp at hb; subst hb
          by_cases hbw : b = wt
          · subst hbw; simp
          · simp [hbw]
      | tup vs =>
        cases vs with
        | nil =>
          refine ⟨fun h => by simp at h, fun _ => ?_⟩
          obtain ⟨us, hu, _⟩ := hget.tup_inv
          cases e : a.tmps[t]? with
          | none => rfl
          | some v => rw [e] at hu; simp at hu; subst hu; rfl
        | cons v vs => exact ⟨fun h => by simp at h, fun h => by simp at h⟩
      | _ => exact ⟨fun h => by simp at h, fun h => by simp at h⟩

/-- One operation of a region. -/
theorem op_wp (hm : MidOk fid mid) (hR : SoundR P fid R) {ops : Array Oper} {Q : Exit → Act → World → Prop} {i : Nat} {r : ROp} (hi : ops[i]? = some o) (hok : okR P mid ops o r = true) (I : Inv fid S J M w) (ht : TRep fid J M tm a.tmps)
    (h : valR R r tm S = some (v', S')) {K : Act → World → Prop}
    (hK : ∀ cv J' M' w', Inv fid S' J' M' w' → Step S J M w S' J' M' w' → ARep fid J' M' v' cv → K (a.put o.dst cv) w') : wpOp P ops Q i K a w := by
  unfold okR at hok
  simp only [Bool.and_eq_true] at hok
  obtain ⟨⟨hd, hop⟩, hg⟩ := hok
  obtain ⟨hy, hn⟩ := wanted_of hg ht
  unfold wpOp
  rw [hi]
  unfold valR at h
  simp only
  split at h
  · rename_i hw
    rw [if_pos (hy hw)]
    refine .inl ?_
    unfold Oper.wp
    by_cases hk : r.k.easy = true
    · obtain ⟨cv, J', M', w', hrun, I', st, hr⟩ := sim_easy (R := R) (o := o) hm hk hop I ht h
      rcases hrun with hrun | ⟨hrun, rfl⟩
      · simp only at hrun; rw [hrun]; exact hK cv J' M' w' I' st hr
      · simp only at hrun; rw [hrun]; exact hK _ J' M' w' I' st hr
    · have call : ∀ (f : FuncId) (cargs : Array Value), (∀ w, (execOp a.eval o).run P w = (callFunc f cargs).run P w) → (∀ cargs w, (callFunc f cargs).run P w = .ok (.enter f cargs) w) → Calls P f cargs w (Left fid S J M w v' S') →
          o.upon P a K Q ((execOp a.eval o).run P w) := by
        intro f cargs h1 h2 h3
        rw [h1, h2]
        refine h3.mono fun e w' hl => ?_
        obtain ⟨v, J', M', rfl, I', st, hr⟩ := hl
        exact hK v J' M' w' I' st hr
      cases hrk : r.k <;> rw [hrk] at hk hop h <;> first | (exact absurd rfl hk) | skip
      case clone sz by_ =>
        unfold okOp at hop
        simp only at hop
        split at hop
        · rename_i f args ats hoc
          simp only [Bool.and_eq_true, decide_eq_true_eq] at hop
          obtain ⟨⟨⟨hc, h4⟩, hpos⟩, hbp⟩ := hop
          split at hc
          · rename_i fn hf
            cases hvs : r.args.map (·.ev tm) with
            | nil => rw [hvs] at h; simp [opA] at h
            | cons x xs =>
              cases xs with
              | cons y ys => rw [hvs] at h; simp [opA] at h
              | nil =>
                rw [hvs] at h
                simp only [opA] at h
                obtain ⟨cx, hca, hx⟩ := args1 hm ht h4 hvs
                obtain ⟨c1, c2⟩ := clone_walk hf hc hpos hbp I hx h
                refine call f #[cx] (fun w => ?_) c1 c2
                simp [execOp, hoc, resolve, hca, Deferred.ofValue, invoke, Act.eval]
          · cases hc
        · cases hop
      case call m st f =>
        unfold okOp at hop
        simp only at hop
        split at hop
        · rename_i f' args ats hoc
          simp only [Bool.and_eq_true, beq_iff_eq] at hop
          obtain ⟨hmid, h4⟩ := hop
          have hf := hm _ _ hmid
          subst hf
          simp only [opA] at h
          obtain ⟨c1, c2⟩ := doCall_sound hR I (AsRep.of_okOpds hm ht h4) h
          refine call (fid f) (args.map a.eval) (fun w => ?_) c1 c2
          simp [execOp, hoc, resolve, Deferred.ofValue, invoke, Act.eval]
        · cases hop
      case callv m st =>
        unfold okOp at hop
        simp only at hop
        split at hop
        · rename_i x args ats hoc
          cases hps : r.args with
          | nil => rw [hps] at hop; simp [okOpds] at hop
          | cons p ps =>
            rw [hps] at hop h
            simp only [okOpds, Bool.and_eq_true] at hop
            obtain ⟨h3, h4⟩ := hop
            have hx := okOpd_rep hm ht h3
            simp only [List.map_cons] at h
            generalize hpe : p.ev tm = pv at h hx
            cases pv <;> simp only [opA] at h <;> try (cases h; done)
            rename_i f caps
            obtain ⟨vs, e1, e2, e3⟩ := hx.fn_inv
            have has := AsRep.of_okOpds hm ht h4
            obtain ⟨c1, c2⟩ := doCall_sound hR I (args := ps.map (·.ev tm) ++ caps) (cargs := args.map a.eval ++ vs) (by
              refine ⟨by rw [Array.size_append, List.length_append, has.1, e2], fun k x hk => ?_⟩
              rw [List.getElem?_append] at hk
              rw [Array.getElem?_append, has.1]
              split at hk
              · rename_i hlt; rw [if_pos hlt]; exact has.2 k x hk
              · rename_i hlt; rw [if_neg hlt]
                obtain ⟨cv, q1, q2⟩ := e3 _ x hk
                exact ⟨cv, q1, q2⟩) h
            refine call (fid f) (args.map a.eval ++ vs) (fun w => ?_) c1 c2
            simp [execOp, hoc, resolve, e1, Deferred.ofValue, invoke]
        · cases hop
  · rename_i hw
    rw [if_neg (by rw [hn hw]; simp)]
    cases h
    exact hK undef J M w I (Step.refl ..) (.tup [] #[] rfl (fun _ => default) (fun k x hx => by simp at hx) (fun k x hx => by simp at hx))
  · cases h
end
end Go.AVM
