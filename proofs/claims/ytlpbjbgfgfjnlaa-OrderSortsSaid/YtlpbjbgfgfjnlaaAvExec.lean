/- Control: what a body of the model does when its telling runs; whole functions; all runs. -/
import Derived.Test.YtlpbjbgfgfjnlaaAvDraw2
set_option linter.unusedVariables false
set_option linter.unusedSimpArgs false
set_option linter.unusedSectionVars false
namespace Go.AVM
section
variable (P : Program) (mid : FuncId → Option Nat)
def isStuck : AC → Bool
  | .cond (.c .any) .skip .skip => true
  | _ => false
def okCode : Code → AC → Bool
  | .skip, .skip => true
  | .region _ ops d, .reg rs => if d then okDraw P mid ops rs else okRs P mid ops ops.toList rs
  | .seq a b, .seq x y => okCode a x && okCode b y
  | .cond c a b, .cond o x y => isStuck (.cond o x y) || (okOpd mid c o && okCode a x && okCode b y)
  | .block id b, .block id' y => id == id' && okCode b y
  | .loop b, .loop _ y => okCode b y
  | .exit id, .exit id' => id == id'
  | .ret, .ret => true
  | _, x => isStuck x
def okRes1 : ResultVar → ARes → Bool
  | .tmp t, .t i => t == i
  | .cell a t, .c i ag n => a == i && aggIs P t ag && szIs P t n && (ag || n == 1)
  | _, _ => false
def okRes : List ResultVar → List ARes → Bool
  | [], [] => true
  | v :: vs, x :: xs => okRes1 P v x && okRes vs xs
  | _, _ => false
def okF (fn : Func) (af : AF) : Bool :=
  (match fn.body with | some c => okCode P mid c af.body | none => false) && fn.ntmps == af.nt && okRes P fn.results.toList af.res && fn.name != "runtime.NumGoroutine"
end
section
variable {P : Program} {fid : Nat → FuncId} {mid : FuncId → Option Nat} {R : RunF} {S S' : Store} {J : JMap} {M : Mem} {w : World} {tm tm' : List AV} {a : Act} {ops : Array Oper} {rs : List ROp}

theorem ops_wp (hm : MidOk fid mid) (hR : SoundR P fid R) {Q : Exit → Act → World → Prop} : ∀ {os : List Oper} {rs : List ROp} {i : Nat}, okRs P mid ops os rs = true → (∀ k o, os[k]? = some o → ops[i + k]? = some o) → ∀ {S : Store} {J : JMap} {M : Mem} {w : World} {tm : List AV} {a : Act},
    Inv fid S J M w → TRep fid J M tm a.tmps → runOps R rs ⟨tm, S⟩ = some ⟨tm', S'⟩ →
    (∀ a' J' M' w', a'.defers = a.defers → Inv fid S' J' M' w' → Step S J M w S' J' M' w' → TRep fid J' M' tm' a'.tmps → Q .normal a' w') → wpOps P ops Q (List.range' i os.length) a w
  | [], [], i, _, _, S, J, M, w, tm, a, I, ht, h, hK => by
    simp only [runOps] at h; cases h
    exact hK a J M w rfl I (Step.refl ..) ht
  | o :: os, r :: rs, i, hok, hget, S, J, M, w, tm, a, I, ht, h, hK => by
    simp only [okRs, Bool.and_eq_true] at hok
    simp only [runOps] at h
    obtain ⟨s1, h1, h2⟩ := Option.bind_eq_some_iff.1 h
    rw [stepR_val] at h1
    obtain ⟨⟨v, S1⟩, hv, e⟩ := Option.bind_eq_some_iff.1 h1
    cases e
    rw [List.length_cons, List.range'_succ, wpOps_cons]
    refine op_wp hm hR (hget 0 o rfl) hok.1 I ht hv fun cv J1 M1 w1 I1 st1 hr => ?_
    have hd : o.dst = r.dst := by
      have := hok.1
      unfold okR at this
      simp only [Bool.and_eq_true, beq_iff_eq] at this
      exact this.1.1
    have hput : ∀ (b : Act) (v : Value), (b.put o.dst v).defers = b.defers := fun b v => by unfold Act.put; split <;> rfl
    refine ops_wp hm hR hok.2 (fun k o' hk => ?_) I1 (by rw [hd]; exact (ht.mono st1.jle st1.mle).put hr) h2 fun a' J' M' w' hd' I' st' hr' => ?_
    · have := hget (k + 1) o' (by simpa using hk)
      rw [show i + 1 + k = i + (k + 1) by omega]; exact this
    · exact hK a' J' M' w' (hd'.trans (hput _ _)) I' (st1.trans st') hr'
  | [], _ :: _, _, hok, _, _, _, _, _, _, _, _, _, _, _ => by simp [okRs] at hok
  | _ :: _, [], _, hok, _, _, _, _, _, _, _, _, _, _, _ => by simp [okRs] at hok

/-! ### Loops -/
def LoopWp (P : Program) (c : Code) (Q : Exit → Act → World → Prop) (a : Act) (w : World) : Prop :=
  ∀ (b : Frame) (k : List Item) (cs : List Frame), ∃ e a' w', Q e a' w' ∧ Arrives P (lone (b.at a (.code c :: .inLoop c :: k)) cs w) b k cs e a' w'
theorem LoopWp.loop {c : Code} {Q : Exit → Act → World → Prop} (h : LoopWp P c Q a w) : (Code.loop c).wp P Q a w := fun b k cs =>
  let ⟨e, a', w', hq, harr⟩ := h b k cs
  ⟨e, a', w', hq, .of_steps (.one step_loop) harr⟩
theorem LoopWp.round {c : Code} {Q : Exit → Act → World → Prop} (h : c.wp P (Exit.then (LoopWp P c Q) Q) a w) : LoopWp P c Q a w := by
  intro b k cs
  obtain ⟨e, a₁, w₁, hq, harr⟩ := h b (.inLoop c :: k) cs
  cases e with
  | normal =>
    obtain ⟨e₂, a₂, w₂, hq₂, harr₂⟩ := hq b k cs
    exact ⟨e₂, a₂, w₂, hq₂, .of_steps (Steps.trans harr (.one step_inLoop)) harr₂⟩
  | exit id => exact ⟨_, a₁, w₁, hq, .pass (x := .inLoop c) rfl (fun _ _ => .inl (by simp)) harr⟩
  | goto l => exact ⟨_, a₁, w₁, hq, .pass (x := .inLoop c) rfl (fun _ _ => .inl (by simp)) harr⟩
  | ret => exact ⟨_, a₁, w₁, hq, .pass (x := .inLoop c) rfl (fun _ _ => .inl (by simp)) harr⟩
  | panic ch => exact ⟨_, a₁, w₁, hq, .pass (x := .inLoop c) rfl (fun _ _ => .inl (by simp)) harr⟩
  | outgrown => exact ⟨_, a₁, w₁, hq, .pass (x := .inLoop c) rfl (fun _ _ => .inl (by simp)) harr⟩

theorem mask_get : ∀ (live : List Bool) (vs : List AV) (i : Nat) (x : AV), (mask live vs)[i]? = some x → x = .any ∨ vs[i]? = some x
  | live, [], i, x, h => by cases live <;> simp [mask] at h
  | [], v :: vs, 0, x, h => by simp [mask] at h; exact .inl h.symm
  | [], v :: vs, i + 1, x, h => by simpa using mask_get [] vs i x (by simpa [mask] using h)
  | b :: bs, v :: vs, 0, x, h => by
    cases b <;> simp [mask] at h
    · exact .inl h.symm
    · exact .inr (by simpa using h)
  | b :: bs, v :: vs, i + 1, x, h => by simpa using mask_get bs vs i x (by simpa [mask] using h)
theorem mask_length : ∀ (live : List Bool) (vs : List AV), (mask live vs).length = vs.length
  | live, [] => by cases live <;> rfl
  | [], v :: vs => by simp [mask, mask_length [] vs]
  | b :: bs, v :: vs => by simp [mask, mask_length bs vs]
theorem TRep.mask (h : TRep fid J M tm a.tmps) (live : List Bool) : TRep fid J M (Go.AVM.mask live tm) a.tmps := by
  refine ⟨by rw [h.size, mask_length], fun i x hx => ?_⟩
  rcases mask_get live tm i x hx with rfl | hx'
  · have hi : i < a.tmps.size := by
      have := (List.getElem?_eq_some_iff.1 hx).1
      rw [mask_length] at this
      rw [h.size]; exact this
    exact ⟨a.tmps[i], Array.getElem?_eq_getElem hi, .any _⟩
  · exact h.at_ i x hx'

/-- At the head of a loop. -/
theorem head_sound {S0 : Store} {J0 : JMap} {M0 : Mem} {w0 : World} (I0 : Inv fid S0 J0 M0 w0) (st : Step S0 J0 M0 w0 S J M w) (I : Inv fid S J M w) (ht : TRep fid J M tm a.tmps) (live : List Bool) {s : St} (hs : head live S0.length ⟨tm, S⟩ = s) :
    ∃ J', Inv fid s.st J' M w ∧ Step S0 J0 M0 w0 s.st J' M w ∧ TRep fid J' M s.tm a.tmps := by
  unfold head at hs
  subst hs
  have hm := ht.mask live
  simp only
  unfold trunc
  split
  · rename_i h
    simp only [Bool.and_eq_true, List.all_eq_true] at h
    refine ⟨J.cut S0.length, I.cut (by rw [List.all_eq_true]; exact h.2), st.cut I0, hm.size, fun i x hx => ?_⟩
    obtain ⟨v, hv, hr⟩ := hm.at_ i x hx
    exact ⟨v, hv, lt1_rep (h.1 x (List.mem_of_getElem? hx)) hr⟩
  · exact ⟨J, I, st, hm⟩

/-! ### Bodies -/
def ofFlow : Flow → Exit
  | .nrm => .normal
  | .ex id => .exit id
  | .ret => .ret
/-- What a body must show. -/
def Ends (fid : Nat → FuncId) (S : Store) (J : JMap) (M : Mem) (w : World) (a : Act) (fl : Flow) (s : St) (Q : Exit → Act → World → Prop) : Prop :=
  ∀ a' J' M' w', a'.defers = a.defers → Inv fid s.st J' M' w' → Step S J M w s.st J' M' w' → TRep fid J' M' s.tm a'.tmps → Q (ofFlow fl) a' w'

theorem stuck_none {x : AC} (h : isStuck x = true) {R : RunF} {it : IterF} {s : St} : exec R it x s = none := by
  unfold isStuck at h
  split at h
  · rfl
  · cases h

theorem exec_sound (hm : MidOk fid mid) (hR : SoundR P fid R) (hfol : P.follows .mixedOrders = true) : ∀ (x : AC) (c : Code), okCode P mid c x = true → ∀ {S : Store} {J : JMap} {M : Mem} {w : World} {tm : List AV} {a : Act} {fl : Flow} {s : St} {Q : Exit → Act → World → Prop},
    Inv fid S J M w → TRep fid J M tm a.tmps → exec R iter x ⟨tm, S⟩ = some (fl, s) → Ends fid S J M w a fl s Q → c.wp P Q a w := by
  intro x
  induction x with
  | skip =>
    intro c hok S J M w tm a fl s Q I ht h hK
    cases c <;> simp [okCode, isStuck] at hok
    simp only [exec] at h; cases h
    exact wp_skip (hK a J M w rfl I (Step.refl ..) ht)
  | reg rs =>
    intro c hok S J M w tm a fl s Q I ht h hK
    cases c <;> simp only [okCode, isStuck] at hok <;> try (cases hok; done)
    rename_i id ops d
    simp only [exec] at h
    obtain ⟨s', h1, h2⟩ := Option.bind_eq_some_iff.1 h
    cases h2
    cases d with
    | true =>
      rw [if_pos rfl] at hok
      exact draw_wp (tm' := s.tm) (S' := s.st) hm hR hfol hok I ht h1 hK
    | false =>
      rw [if_neg (by simp)] at hok
      refine wp_region ?_
      rw [List.range_eq_range', ← Array.length_toList]
      exact ops_wp (tm' := s.tm) (S' := s.st) hm hR hok (fun k o hk => by simpa using hk) I ht h1 hK
  | seq p q ihp ihq =>
    intro c hok S J M w tm a fl s Q I ht h hK
    cases c <;> simp only [okCode, isStuck] at hok <;> try (cases hok; done)
    simp only [Bool.and_eq_true] at hok
    simp only [exec] at h
    obtain ⟨⟨fl1, s1⟩, h1, h2⟩ := Option.bind_eq_some_iff.1 h
    refine wp_seq (ihp _ hok.1 I ht h1 fun a' J' M' w' hd I' st' ht' => ?_)
    cases fl1 with
    | nrm => exact ihq _ hok.2 I' ht' h2 fun a2 J2 M2 w2 hd2 I2 st2 ht2 => hK a2 J2 M2 w2 (hd2.trans hd) I2 (st'.trans st2) ht2
    | ex id => simp only [afterFlow] at h2; cases h2; exact hK a' J' M' w' hd I' st' ht'
    | ret => simp only [afterFlow] at h2; cases h2; exact hK a' J' M' w' hd I' st' ht'
  | cond o p q ihp ihq =>
    intro c hok S J M w tm a fl s Q I ht h hK
    have hns : isStuck (.cond o p q) = false := by
      cases hh : isStuck (.cond o p q) with
      | false => rfl
      | true => rw [stuck_none hh] at h; cases h
    cases c <;> simp only [okCode, hns] at hok <;> try (cases hok; done)
    simp only [Bool.false_or, Bool.and_eq_true] at hok
    obtain ⟨⟨h1, h2⟩, h3⟩ := hok
    have hr := okOpd_rep hm ht h1
    simp only [exec] at h
    split at h
    · rename_i e; rw [e] at hr
      exact wp_cond_true hr.bool_inv (ihp _ h2 I ht h hK)
    · rename_i e; rw [e] at hr
      exact wp_cond_false hr.bool_inv (ihq _ h3 I ht h hK)
    · cases h
  | block id p ihp =>
    intro c hok S J M w tm a fl s Q I ht h hK
    cases c <;> simp only [okCode, isStuck] at hok <;> try (cases hok; done)
    simp only [Bool.and_eq_true, beq_iff_eq] at hok
    obtain ⟨rfl, hok⟩ := hok
    simp only [exec] at h
    obtain ⟨⟨fl1, s1⟩, h1, h2⟩ := Option.bind_eq_some_iff.1 h
    refine wp_block (ihp _ hok I ht h1 fun a' J' M' w' hd I' st' ht' => ?_)
    cases fl1 with
    | nrm => cases h2; exact hK a' J' M' w' hd I' st' ht'
    | ret => cases h2; exact hK a' J' M' w' hd I' st' ht'
    | ex i =>
      simp only [ofFlow, Exit.inBlock]
      simp only [catchEx, Option.some.injEq] at h2
      split at h2
      · rename_i hi; rw [if_pos hi]; cases h2; exact hK a' J' M' w' hd I' st' ht'
      · rename_i hi; rw [if_neg hi]; cases h2; exact hK a' J' M' w' hd I' st' ht'
  | loop live p ihp =>
    intro c hok S J M w tm a fl s Q I ht h hK
    cases c <;> simp only [okCode, isStuck] at hok <;> try (cases hok; done)
    rename_i c
    simp only [exec] at h
    obtain ⟨n, hn⟩ := iter_some.1 h
    refine LoopWp.loop ?_
    have key : ∀ (n : Nat) {S1 : Store} {J1 : JMap} {M1 : Mem} {w1 : World} {tm1 : List AV} {a1 : Act}, a1.defers = a.defers → Inv fid S1 J1 M1 w1 → Step S J M w S1 J1 M1 w1 → TRep fid J1 M1 tm1 a1.tmps →
        iterN n (fun s' => exec R iter p (head live S.length s')) ⟨tm1, S1⟩ = some (fl, s) → LoopWp P c Q a1 w1 := by
      intro n
      induction n with
      | zero => intro S1 J1 M1 w1 tm1 a1 hd I1 st1 ht1 h; simp [iterN] at h
      | succ n ih =>
        intro S1 J1 M1 w1 tm1 a1 hd I1 st1 ht1 h
        simp only [iterN] at h
        obtain ⟨⟨fl1, s1⟩, h1, h2⟩ := Option.bind_eq_some_iff.1 h
        obtain ⟨J2, I2, st2, ht2⟩ := head_sound I st1 I1 ht1 live rfl
        refine LoopWp.round (ihp _ hok I2 ht2 h1 fun a' J' M' w' hd' I' st' ht' => ?_)
        cases fl1 with
        | nrm => exact ih (hd'.trans hd) I' (st2.trans st') ht' h2
        | ex i => simp only [afterFlow] at h2; cases h2; exact hK a' J' M' w' (hd'.trans hd) I' (st2.trans st') ht'
        | ret => simp only [afterFlow] at h2; cases h2; exact hK a' J' M' w' (hd'.trans hd) I' (st2.trans st') ht'
    exact key n rfl I (Step.refl ..) ht hn
  | exit id =>
    intro c hok S J M w tm a fl s Q I ht h hK
    cases c <;> simp only [okCode, isStuck] at hok <;> try (cases hok; done)
    rename_i id'
    have : id' = id := by simpa using hok
    subst this
    simp only [exec] at h; cases h
    exact wp_exit (hK a J M w rfl I (Step.refl ..) ht)
  | ret =>
    intro c hok S J M w tm a fl s Q I ht h hK
    cases c <;> simp only [okCode, isStuck] at hok <;> try (cases hok; done)
    simp only [exec] at h; cases h
    exact wp_ret (hK a J M w rfl I (Step.refl ..) ht)

/-! ### Results -/
theorem res_one {v : ResultVar} {r : ARes} (hok : okRes1 P v r = true) (I : Inv fid S J M w) (ht : TRep fid J M tm a.tmps) {x : AV} (h : resA ⟨tm, S⟩ r = some x) :
    ∃ cv, ((match v with | .tmp t => pure (a.tmps.getD t undef) | .cell a' t => do loadVar t (← asAddr (a.tmps.getD a' undef)) : Sem Value)).run P w = .ok cv w ∧ ARep fid J M x cv := by
  cases v with
  | tmp t =>
    cases r with
    | c i ag n => cases hok
    | t i =>
      have : t = i := by simpa [okRes1] using hok
      subst this
      simp only [resA] at h; cases h
      exact ⟨_, rfl, ht.get t⟩
  | cell a' t =>
    cases r with
    | t i => cases hok
    | c i ag n =>
      simp only [okRes1, Bool.and_eq_true, beq_iff_eq] at hok
      obtain ⟨⟨⟨rfl, h1⟩, h2⟩, h3⟩ := hok
      simp only [resA] at h
      obtain ⟨ad, cv, e, hrun, hrep⟩ := loadA_rep (P := P) I h1 h2 h3 (ht.get a') h
      refine ⟨cv, ?_, hrep⟩
      show ((do loadVar t (← asAddr (a.tmps.getD a' undef))) : Sem Value).run P w = _
      rw [e]
      simp [asAddr, hrun]
theorem okRes_get : ∀ {vs : List ResultVar} {rs : List ARes}, okRes P vs rs = true → vs.length = rs.length ∧ ∀ (k : Nat) (v : ResultVar) (r : ARes), vs[k]? = some v → rs[k]? = some r → okRes1 P v r = true
  | [], [], _ => ⟨rfl, fun k v r h => by simp at h⟩
  | v :: vs, r :: rs, h => by
    simp only [okRes, Bool.and_eq_true] at h
    obtain ⟨hl, hq⟩ := okRes_get h.2
    refine ⟨by simp [hl], fun k v' r' hv hr => ?_⟩
    cases k with
    | zero => simp at hv hr; subst hv hr; exact h.1
    | succ k => exact hq k v' r' (by simpa using hv) (by simpa using hr)
  | [], _ :: _, h => by simp [okRes] at h
  | _ :: _, [], h => by simp [okRes] at h
theorem results_sound {fn : Func} {rs : List ARes} (hok : okRes P fn.results.toList rs = true) (I : Inv fid S J M w) (ht : TRep fid J M tm a.tmps) {x : AV} (h : resAll ⟨tm, S⟩ rs = some x) :
    ∃ cv, (results fn a.tmps).run P w = .ok cv w ∧ ARep fid J M x cv := by
  unfold resAll at h
  obtain ⟨xs, hxs, h⟩ := Option.bind_eq_some_iff.1 h
  simp only [Option.some.injEq] at h
  obtain ⟨hl, hq⟩ := mapM_some hxs
  obtain ⟨hl2, hok1⟩ := okRes_get hok
  let one : ResultVar → Sem Value := fun v => match v with | .tmp t => pure (a.tmps.getD t undef) | .cell a' t => do loadVar t (← asAddr (a.tmps.getD a' undef))
  have hone : ∀ (k : Nat) (v : ResultVar), fn.results.toList[k]? = some v → ∃ (x : AV) (cv : Value), xs[k]? = some x ∧ (one v).run P w = .ok cv w ∧ ARep fid J M x cv := by
    intro k v hv
    have hk := (List.getElem?_eq_some_iff.1 hv).1
    obtain ⟨r, hr⟩ : ∃ r, rs[k]? = some r := ⟨rs[k]'(by omega), List.getElem?_eq_getElem (by omega)⟩
    obtain ⟨y, hy, hry⟩ := hq k r hr
    obtain ⟨cv, c1, c2⟩ := res_one (hok1 k v r hv hr) I ht hry
    exact ⟨y, cv, hy, c1, c2⟩
  let g : ResultVar → Value := fun v => match (one v).run P w with | .ok cv _ => cv | _ => undef
  have hg : ∀ v ∈ fn.results.toList, (one v).run P w = .ok (g v) w := by
    intro v hv
    obtain ⟨k, hk⟩ := List.mem_iff_getElem?.1 hv
    obtain ⟨x, cv, _, h2, _⟩ := hone k v hk
    show _ = Result.ok (match (one v).run P w with | .ok cv _ => cv | _ => undef) w
    rw [h2]
  have hrun : (fn.results.mapM one).run P w = .ok (fn.results.map g) w := run_array_mapM one g w fn.results hg
  have hrep : ∀ (k : Nat) (y : AV), xs[k]? = some y → ∃ cv, (fn.results.map g)[k]? = some cv ∧ ARep fid J M y cv := by
    intro k y hy
    have hk := (List.getElem?_eq_some_iff.1 hy).1
    have hv : fn.results.toList[k]? = some (fn.results.toList[k]'(by omega)) := List.getElem?_eq_getElem (by omega)
    obtain ⟨x', cv, h1, h2, h3⟩ := hone k _ hv
    rw [hy] at h1; cases h1
    refine ⟨cv, ?_, h3⟩
    rw [Array.getElem?_map]
    have : fn.results[k]? = some (fn.results.toList[k]'(by omega)) := by rw [← hv]; simp
    rw [this]
    simp only [Option.map_some]
    show some (match (one _).run P w with | .ok cv _ => cv | _ => undef) = _
    rw [h2]
  have hsize : (fn.results.map g).size = xs.length := by simp; rw [hl, ← hl2]; simp
  generalize fn.results.map g = us at hrun hrep hsize
  have hres : (results fn a.tmps).run P w = .ok (if h : us.size = 1 then us[0] else .tuple us) w := by
    show ((do let vs ← fn.results.mapM one; pure (if h : vs.size = 1 then vs[0] else .tuple vs)) : Sem Value).run P w = _
    rw [Sem.run_bind, hrun]
    rfl
  refine ⟨_, hres, ?_⟩
  rw [← h]
  match xs, hsize, hrep with
  | [y], hs, hrep =>
    have h1 : us.size = 1 := hs
    obtain ⟨cv, c1, c2⟩ := hrep 0 y rfl
    have : us[0] = cv := by
      rw [Array.getElem?_eq_getElem (by omega)] at c1; exact Option.some.inj c1
    rw [dif_pos h1, this]
    exact c2
  | [], hs, hrep =>
    have h1 : ¬ us.size = 1 := by rw [hs]; simp
    rw [dif_neg h1]
    exact ARep.tup_mk hs hrep
  | x :: y :: zs, hs, hrep =>
    have h1 : ¬ us.size = 1 := by rw [hs]; simp
    rw [dif_neg h1]
    exact ARep.tup_mk hs hrep

/-! ### Functions -/
/-- The table of functions is told rightly. -/
def ProgOk (P : Program) (fid : Nat → FuncId) (mid : FuncId → Option Nat) (A : Prog) : Prop :=
  ∀ f af, A f = some af → ∃ fn, P.funcs[fid f]? = some fn ∧ okF P mid fn af = true

theorem enter_rep {args : List AV} {cargs : Array Value} (ha : AsRep fid J M args cargs) (af : AF) (nt : Nat) (hn : nt = af.nt) : TRep fid J M (enter af args S).tm (cargs ++ Array.replicate (nt - cargs.size) undef) := by
  obtain ⟨h1, h2⟩ := ha
  unfold enter
  refine ⟨by simp [h1, hn], fun i x hx => ?_⟩
  simp only at hx
  rw [List.getElem?_append] at hx
  rw [Array.getElem?_append, h1]
  split at hx
  · rename_i hlt; rw [if_pos hlt]; exact h2 i x hx
  · rename_i hlt
    rw [if_neg hlt]
    rw [List.getElem?_replicate] at hx
    rw [Array.getElem?_replicate, hn]
    split at hx
    · rename_i hl2
      rw [if_pos hl2]; cases hx
      exact ⟨undef, rfl, .tup [] #[] rfl (fun _ => default) (fun k x hx => by simp at hx) (fun k x hx => by simp at hx)⟩
    · cases hx

theorem body_sound (hm : MidOk fid mid) (hR : SoundR P fid R) (hfol : P.follows .mixedOrders = true) {f : FuncId} {fn : Func} {af : AF} (hf : P.funcs[f]? = some fn) (hok : okF P mid fn af = true) {args : List AV} {r : AV} (h : runBody R iter af args S = some (r, S')) :
    (∀ cargs w, (callFunc f cargs).run P w = .ok (.enter f cargs) w) ∧ ∀ J M w cargs, Inv fid S J M w → AsRep fid J M args cargs → Calls P f cargs w (Left fid S J M w r S') := by
  unfold okF at hok
  simp only [Bool.and_eq_true, beq_iff_eq, bne_iff_ne] at hok
  obtain ⟨⟨⟨hb, hnt⟩, hres⟩, hname⟩ := hok
  split at hb
  · rename_i c hbody
    have hnm : (fn.name == "runtime.NumGoroutine") = false := by simpa using hname
    refine ⟨fun cargs w => by simp only [callFunc, Sem.run_bind, run_program, Result.andThen_ok, hf, hnm, hbody]; simp, fun J M w cargs I ha => ?_⟩
    unfold runBody at h
    obtain ⟨_, h⟩ := chk_some.1 h
    obtain ⟨⟨fl, s⟩, h1, h2⟩ := Option.bind_eq_some_iff.1 h
    refine calls_of_wp hf hbody (exec_sound (S := S) (J := J) (M := M) (w := w) (tm := (enter af args S).tm) hm hR hfol af.body c hb I (enter_rep ha af fn.ntmps hnt) h1 fun a' J' M' w' hd I' st' ht' => ?_)
    cases fl with
    | ex id => simp at h2
    | nrm =>
      simp only at h2
      obtain ⟨v, h3, h4⟩ := Option.bind_eq_some_iff.1 h2
      cases h4
      obtain ⟨cv, c1, c2⟩ := results_sound (a := a') hres I' ht' h3
      exact ⟨hd, cv, c1, cv, J', M', rfl, I', st', c2⟩
    | ret =>
      simp only at h2
      obtain ⟨v, h3, h4⟩ := Option.bind_eq_some_iff.1 h2
      cases h4
      obtain ⟨cv, c1, c2⟩ := results_sound (a := a') hres I' ht' h3
      exact ⟨hd, cv, c1, cv, J', M', rfl, I', st', c2⟩
  · cases hb

theorem runN_sound (hm : MidOk fid mid) (hfol : P.follows .mixedOrders = true) {A : Prog} (hA : ProgOk P fid mid A) : ∀ n, SoundR P fid (runN A n)
  | 0 => fun f args S r S' h => by simp [runN] at h
  | n + 1 => fun f args S r S' h => by
    simp only [runN] at h
    obtain ⟨af, ha, h⟩ := Option.bind_eq_some_iff.1 h
    obtain ⟨fn, hf, hok⟩ := hA f af ha
    exact body_sound hm (runN_sound hm hfol hA n) hfol hf hok h
theorem run_sound (hm : MidOk fid mid) (hfol : P.follows .mixedOrders = true) {A : Prog} (hA : ProgOk P fid mid A) : SoundR P fid (run A) := fun f args S r S' h => by
  obtain ⟨n, hn⟩ := run_some.1 h
  exact runN_sound hm hfol hA n f args S r S' hn
end
end Go.AVM
