/- Single operations: what the abstract machine gives is what the machine gives. Operations that leave store and world alone. -/
import Derived.Test.YtlpbjbgfgfjnlaaAvCheck
set_option linter.unusedVariables false
set_option linter.unusedSimpArgs false
set_option linter.unusedSectionVars false
namespace Go.AVM

theorem plain_one {v : Value} : v.plain ↔ v.oneCell' = true := by
  cases v <;> simp [Value.plain, Value.oneCell']

section
variable {P : Program} {fid : Nat → FuncId} {mid : FuncId → Option Nat}

/-- The frame: its temporaries are told. -/
structure TRep (fid : Nat → FuncId) (J : JMap) (M : Mem) (tm : List AV) (ts : Array Value) : Prop where
  size : ts.size = tm.length
  at_ : ∀ (i : Nat) (x : AV), tm[i]? = some x → ∃ v, ts[i]? = some v ∧ ARep fid J M x v
theorem TRep.mono {J J' : JMap} {M M' : Mem} {tm : List AV} {ts : Array Value} (h : TRep fid J M tm ts) (hj : J.le J') (hm : M.le M') : TRep fid J' M' tm ts :=
  ⟨h.size, fun i x hx => let ⟨v, a, b⟩ := h.at_ i x hx; ⟨v, a, b.mono hj hm⟩⟩
theorem TRep.get {J : JMap} {M : Mem} {tm : List AV} {ts : Array Value} (h : TRep fid J M tm ts) (i : Nat) : ARep fid J M (tm.getD i .any) (ts.getD i undef) := by
  cases e : tm[i]? with
  | none => rw [List.getD_eq_getElem?_getD, e]; exact .any _
  | some x =>
    obtain ⟨v, hv, hr⟩ := h.at_ i x e
    rw [List.getD_eq_getElem?_getD, e]
    have : ts.getD i undef = v := by rw [Array.getD_eq_getD_getElem?, hv]; rfl
    rw [this]; exact hr
theorem TRep.put {J : JMap} {M : Mem} {tm : List AV} {a : Act} (h : TRep fid J M tm a.tmps) {d : Option Nat} {x : AV} {v : Value} (r : ARep fid J M x v) : TRep fid J M (Go.AVM.put tm d x) (a.put d v).tmps := by
  cases d with
  | none => exact h
  | some d =>
    refine ⟨by simp [Act.put, Go.AVM.put, h.size], fun i y hy => ?_⟩
    simp only [Go.AVM.put, Act.put] at hy ⊢
    by_cases hid : d = i
    · subst hid
      have hlt : d < tm.length := by have := (List.getElem?_eq_some_iff.1 hy).1; simpa using this
      rw [List.getElem?_set_self hlt] at hy; cases hy
      exact ⟨v, by rw [Array.getElem?_setIfInBounds_self_of_lt (by rw [h.size]; exact hlt)], r⟩
    · rw [List.getElem?_set_ne hid] at hy
      obtain ⟨u, hu, hr⟩ := h.at_ i y hy
      exact ⟨u, by rw [Array.getElem?_setIfInBounds_ne hid]; exact hu, hr⟩

theorem okV_rep {J : JMap} {M : Mem} {v : Value} {x : AV} (h : okV v x = true) : ARep fid J M x v := by
  unfold okV at h
  split at h <;> try (simp at h)
  · subst h; exact .fr (.bool _)
  · obtain ⟨rfl, rfl⟩ := h; exact .fr (.int _ _)
  · rename_i s t
    have : s = t := by cases s; cases t; simp at h; exact congrArg _ (Array.toList_inj.1 (by simpa using h))
    subst this; exact .fr (.str _)
  · exact .fr .nilp
  · exact .fr .nilfn
  · exact .fr (.slN _ _ _ _ (fun _ => rfl))
  · subst h; exact .tup [] #[] rfl (fun _ => default) (fun k x hx => by simp at hx) (fun k x hx => by simp at hx)
theorem okVs_rep {J : JMap} {M : Mem} : ∀ {vs : List Value} {xs : List AV}, okVs vs xs = true → vs.length = xs.length ∧ ∀ (k : Nat) (x : AV), xs[k]? = some x → ∃ v, vs[k]? = some v ∧ v.plain ∧ ARep fid J M x v
  | [], [], _ => ⟨rfl, fun k x hx => by simp at hx⟩
  | v :: vs, x :: xs, h => by
    simp only [okVs, Bool.and_eq_true] at h
    obtain ⟨hl, hq⟩ := okVs_rep (J := J) (M := M) h.2
    refine ⟨by simp [hl], fun k y hy => ?_⟩
    cases k with
    | zero => simp at hy; subst hy; exact ⟨v, rfl, plain_one.2 h.1.2, okV_rep h.1.1⟩
    | succ k => simp at hy; simpa using hq k y hy
theorem okC_rep {J : JMap} {M : Mem} {v : Value} {x : AV} (h : okC v x = true) : ARep fid J M x v := by
  unfold okC at h
  split at h
  · obtain ⟨hl, hq⟩ := okVs_rep (fid := fid) (J := J) (M := M) h
    exact ARep.agg_mk (by simpa using hl) (by simpa using hq)
  · exact okV_rep h

/-- The two numberings fit. -/
def MidOk (fid : Nat → FuncId) (mid : FuncId → Option Nat) : Prop := ∀ f m, mid f = some m → fid m = f

theorem okOpd_rep (hm : MidOk fid mid) {J : JMap} {M : Mem} {tm : List AV} {a : Act} (ht : TRep fid J M tm a.tmps) {x : Operand} {p : Opd} (h : okOpd mid x p = true) : ARep fid J M (p.ev tm) (a.eval x) := by
  unfold okOpd at h
  split at h
  · rename_i t i
    have : t = i := by simpa using h
    subst this
    exact ht.get t
  · exact okC_rep h
  · rename_i f m
    have : mid f = some m := by simpa using h
    have hf := hm f m this
    subst hf
    exact ARep.fn_mk rfl (fun k x hx => by simp at hx)
  · cases h
theorem okOpds_rep (hm : MidOk fid mid) {J : JMap} {M : Mem} {tm : List AV} {a : Act} (ht : TRep fid J M tm a.tmps) : ∀ {xs : List Operand} {ps : List Opd}, okOpds mid xs ps = true →
    xs.length = ps.length ∧ ∀ (k : Nat) (v : AV), (ps.map (·.ev tm))[k]? = some v → ∃ x, xs[k]? = some x ∧ ARep fid J M v (a.eval x)
  | [], [], _ => ⟨rfl, fun k v hv => by simp at hv⟩
  | x :: xs, p :: ps, h => by
    simp only [okOpds, Bool.and_eq_true] at h
    obtain ⟨hl, hq⟩ := okOpds_rep hm ht h.2
    refine ⟨by simp [hl], fun k v hv => ?_⟩
    cases k with
    | zero => simp at hv; subst hv; exact ⟨x, rfl, okOpd_rep hm ht h.1⟩
    | succ k => simp at hv; simpa using hq k v (by simpa using hv)
theorem okOpds1 (hm : MidOk fid mid) {J : JMap} {M : Mem} {tm : List AV} {a : Act} (ht : TRep fid J M tm a.tmps) {x : Operand} {ps : List Opd} (h : okOpds mid [x] ps = true) : ∃ v, ps.map (·.ev tm) = [v] ∧ ARep fid J M v (a.eval x) := by
  cases ps with
  | nil => simp [okOpds] at h
  | cons p ps =>
    cases ps with
    | nil => exact ⟨_, rfl, okOpd_rep hm ht (by simpa [okOpds] using h)⟩
    | cons q ps => simp [okOpds] at h
theorem okOpds2 (hm : MidOk fid mid) {J : JMap} {M : Mem} {tm : List AV} {a : Act} (ht : TRep fid J M tm a.tmps) {x y : Operand} {ps : List Opd} (h : okOpds mid [x, y] ps = true) :
    ∃ v u, ps.map (·.ev tm) = [v, u] ∧ ARep fid J M v (a.eval x) ∧ ARep fid J M u (a.eval y) := by
  cases ps with
  | nil => simp [okOpds] at h
  | cons p ps =>
    simp only [okOpds, Bool.and_eq_true] at h
    obtain ⟨u, hu, hr⟩ := okOpds1 hm ht (x := y) (ps := ps) (by simpa [okOpds] using h.2)
    exact ⟨_, u, by simp [hu], okOpd_rep hm ht h.1, hr⟩
theorem okOpds3 (hm : MidOk fid mid) {J : JMap} {M : Mem} {tm : List AV} {a : Act} (ht : TRep fid J M tm a.tmps) {x y z : Operand} {ps : List Opd} (h : okOpds mid [x, y, z] ps = true) :
    ∃ v u t, ps.map (·.ev tm) = [v, u, t] ∧ ARep fid J M v (a.eval x) ∧ ARep fid J M u (a.eval y) ∧ ARep fid J M t (a.eval z) := by
  cases ps with
  | nil => simp [okOpds] at h
  | cons p ps =>
    simp only [okOpds, Bool.and_eq_true] at h
    obtain ⟨u, t, hu, hr⟩ := okOpds2 hm ht (x := y) (y := z) (ps := ps) (by simpa [okOpds] using h.2)
    exact ⟨_, u, t, by simp [hu], okOpd_rep hm ht h.1, hr⟩

theorem szIs_run {t : TypeId} {n : Nat} (h : szIs P t n = true) (w : World) : (sizeOf t).run P w = .ok n w := by
  unfold szIs at h
  cases hi : P.info? t with
  | none => rw [hi] at h; cases h
  | some i =>
    rw [hi] at h
    have : i.size = n := by simpa using h
    simp [sizeOf, typeInfo, hi, this]
theorem aggIs_run {t : TypeId} {b : Bool} (h : aggIs P t b = true) (w : World) : (isAgg t).run P w = .ok b w := by
  unfold aggIs at h
  cases hu : P.underlying t with
  | none => rw [hu] at h; simp at h
  | some d =>
    rw [hu] at h
    cases d <;> simp [isAgg, run_underlying hu] at h ⊢ <;> simp [h]

/-- What a non-calling operation must show. -/
def Yields' (P : Program) (fid : Nat → FuncId) (r : World → Result Next) (S : Store) (J : JMap) (M : Mem) (w : World) (v' : AV) (S' : Store) : Prop :=
  ∃ cv J' M' w', (r w = .ok (.value cv) w' ∨ (r w = .ok .skip w' ∧ cv = undef)) ∧ Inv fid S' J' M' w' ∧ Step S J M w S' J' M' w' ∧ ARep fid J' M' v' cv
theorem Yields'.same {r : World → Result Next} {S : Store} {J : JMap} {M : Mem} {w : World} {v' : AV} (I : Inv fid S J M w) {cv : Value} (h : r w = .ok (.value cv) w) (hr : ARep fid J M v' cv) : Yields' P fid r S J M w v' S :=
  ⟨cv, J, M, w, .inl h, I, Step.refl .., hr⟩

/-! ### Numbers -/
theorem run_intBin {M : Mem} {op : BinOp} {k : IntKind} {a b : Int} {v : AV} (h : intBin op k a b = some v) (hs : op ≠ .shl ∧ op ≠ .shr) (t : TypeId) (w : World) : ∃ cv, (binOp op t (.int k a) (.int k b)).run P w = .ok cv w ∧ FRep fid M v cv := by
  unfold intBin at h
  cases op <;> simp only [chk_some] at h <;> try (obtain ⟨hb, h⟩ := h) <;> try (cases h)
  all_goals try (cases h)
  all_goals (first | (exact absurd rfl hs.1) | (exact absurd rfl hs.2) | skip)
  all_goals simp [binOp, Op.intArith, Op.intDiv, Op.intBits, Op.intCmp, *]
  all_goals first | exact .int _ _ | exact .bool _
theorem run_binA {M : Mem} {op : BinOp} {x y v : AV} (h : binA op x y = some v) {J : JMap} {cx cy : Value} (hx : ARep fid J M x cx) (hy : ARep fid J M y cy) (t : TypeId) (w : World) :
    ∃ cv, (binOp op t cx cy).run P w = .ok cv w ∧ FRep fid M v cv ∧ (∃ k a q b, cx = .int k a ∧ cy = .int q b) := by
  unfold binA at h
  split at h
  · rename_i k a q b
    obtain ⟨hb, h⟩ := chk_some.1 h
    cases h
    rw [hx.int_inv, hy.int_inv]
    have : ¬ b < 0 := by omega
    exact ⟨_, by simp [binOp, Op.shift, this], .int _ _, _, _, _, _, rfl, rfl⟩
  · rename_i k a q b
    obtain ⟨hb, h⟩ := chk_some.1 h
    cases h
    rw [hx.int_inv, hy.int_inv]
    have : ¬ b < 0 := by omega
    exact ⟨_, by simp [binOp, Op.shift, this], .int _ _, _, _, _, _, rfl, rfl⟩
  · rename_i k a k' b h1 h2
    obtain ⟨rfl, h'⟩ := chk_some.1 h
    rw [hx.int_inv, hy.int_inv]
    obtain ⟨cv, h3, h4⟩ := run_intBin (P := P) (fid := fid) (M := M) h' ⟨h1, h2⟩ t w
    exact ⟨cv, h3, h4, _, _, _, _, rfl, rfl⟩
  · cases h
theorem run_unA {M : Mem} {u : UnOp} {x v : AV} (h : unA u x = some v) {J : JMap} {cx : Value} (hx : ARep fid J M x cx) (w : World) : ∃ cv, (Op.unary u cx).run P w = .ok cv w ∧ FRep fid M v cv := by
  unfold unA at h
  split at h <;> cases h
  · rw [hx.int_inv]; exact ⟨_, by simp [Op.unary, Op.intArith], .int _ _⟩
  · rw [hx.int_inv]; exact ⟨_, by simp [Op.unary, Op.intBits], .int _ _⟩
  · rw [hx.bool_inv]; exact ⟨_, by simp [Op.unary], .bool _⟩
end
end Go.AVM
