/- Operations, one lemma a kind (fourth part: new blocks, composite values, stores). -/
import Derived.Test.YtlpbjbgfgfjnlaaAvOps4
set_option linter.unusedVariables false
set_option linter.unusedSimpArgs false
set_option linter.unusedSectionVars false
namespace Go.AVM
section
variable {P : Program} {fid : Nat → FuncId} {mid : FuncId → Option Nat} {S S' : Store} {J : JMap} {M : Mem} {w : World} {tm : List AV} {a : Act} {o : Oper} {ps : List Opd} {v' : AV} {R : RunF}

theorem plain_cells {cv : Value} (h : cv.plain) : cv.cells = #[cv] := by
  cases cv <;> first | rfl | (exact absurd rfl (h.1 _))
theorem one_cell {x : AV} {cv : Value} (hp : cv.plain) (r : ARep fid J M x cv) : CRep fid J M [x] cv.cells ∧ (∀ vs, cv ≠ .tuple vs) := by
  rw [plain_cells hp]
  refine ⟨⟨rfl, fun k y hy => ?_⟩, hp.2⟩
  cases k with
  | zero => simp at hy; subst hy; exact ⟨cv, rfl, hp, r⟩
  | succ k => simp at hy
/-- A value's cells. -/
theorem cells_rep {v : AV} {cv : Value} (hw : v.whole = true) (r : ARep fid J M v cv) : CRep fid J M v.cells cv.cells ∧ (∀ vs, cv ≠ .tuple vs) := by
  cases v with
  | agg cs =>
    obtain ⟨vs, rfl, hs, hq⟩ := r.agg_inv
    exact ⟨⟨hs, hq⟩, by simp⟩
  | any | tup | osl | tl => simp [AV.whole] at hw
  | bool b => exact one_cell (by rw [r.bool_inv]; simp [Value.plain]) r
  | int q n => exact one_cell (by rw [r.int_inv]; simp [Value.plain]) r
  | str s => exact one_cell (by rw [r.str_inv]; simp [Value.plain]) r
  | nilp => exact one_cell (by rw [r.nilp_inv]; simp [Value.plain]) r
  | nilfn =>
    have : cv = .nilFunc := by
      cases r with
      | fr h => cases h; rfl
    exact one_cell (by rw [this]; simp [Value.plain]) r
  | mptr b off vl =>
    obtain ⟨_, _, _, _, e⟩ := r.mptr_inv
    exact one_cell (by rw [e]; simp [Value.plain]) r
  | fptr cs =>
    obtain ⟨_, _, e, _⟩ := r.fptr_inv
    exact one_cell (by rw [e]; simp [Value.plain]) r
  | sl es sz t =>
    obtain ⟨_, _, e, _⟩ := r.sl_inv
    exact one_cell (by rw [e]; simp [Value.plain]) r
  | msl b off n sz vl cap =>
    rcases r.msl_inv with ⟨_, _, _, _, _, _, _, _, _, e⟩ | ⟨_, _, _, _, _, _, e⟩
    · exact one_cell (by rw [e]; simp [Value.plain]) r
    · exact one_cell (by rw [e]; simp [Value.plain]) r
  | fn f caps =>
    obtain ⟨_, e, _⟩ := r.fn_inv
    exact one_cell (by rw [e]; simp [Value.plain]) r
theorem CRep.mono {J' : JMap} {M' : Mem} {xs : List AV} {vs : Array Value} (h : CRep fid J M xs vs) (hj : J.le J') (hm : M.le M') : CRep fid J' M' xs vs :=
  ⟨h.1, fun k x hx => let ⟨cv, a1, a2, a3⟩ := h.2 k x hx; ⟨cv, a1, a2, a3.mono hj hm⟩⟩
theorem zeroIs_rep {t : TypeId} {z : List AV} (h : zeroIs P t z = true) : ∃ i v, P.info? t = some i ∧ i.zero = some v ∧ v.cells.size = i.size ∧ CRep fid J M z v.cells := by
  unfold zeroIs at h
  split at h
  · rename_i i hi
    split at h
    · rename_i v hv
      simp only [Bool.and_eq_true, beq_iff_eq] at h
      obtain ⟨hl, hq⟩ := okVs_rep (fid := fid) (J := J) (M := M) h.1
      exact ⟨i, v, hi, hv, h.2, ⟨by simpa using hl, by simpa using hq⟩⟩
    · cases h
  · cases h

/-- A new block of the world becomes a new block of the store. -/
theorem alloc_block (I : Inv fid S J M w) {cs : List AV} {ex : Bool} {arr : Array Value} {el : TypeId} {w1 : World} (h1 : w1.heap = w.heap.push (.cells arr el (0, 0))) (ho : w1.os = w.os) (ht : w1.tape = w.tape) (hp : w1.output = w.output)
    (hps : cs.length ≤ arr.size) (hex : ex = true → arr.size = cs.length) (hc : ∀ (k : Nat) (x : AV), cs[k]? = some x → ∃ v : Value, arr[k]? = some v ∧ v.plain ∧ ARep fid J M x v) :
    Inv fid (S ++ [.mu cs ex]) (J.put S.length cs.length (some (w.heap.size, 0, arr.size))) M w1 ∧ Step S J M w (S ++ [.mu cs ex]) (J.put S.length cs.length (some (w.heap.size, 0, arr.size))) M w1 := by
  have hf : ∀ i, i < w.heap.size → w1.heap[i]? = w.heap[i]? := fun i hi => by rw [h1, Array.getElem?_push, if_neg (by omega)]
  have hs : w.heap.size ≤ w1.heap.size := by rw [h1]; simp
  have I1 := I.grow hf
  have hh : w1.heap[w.heap.size]? = some (.cells arr el (0, 0)) := by rw [h1]; simp
  have hnw : ¬ Wr S J w.heap.size := fun h => by have := I.wr_lt h; omega
  have hM : ∀ o, M w.heap.size o = none := fun o => by
    cases e : M w.heap.size o with
    | none => rfl
    | some v => have := I.mem_lt e; omega
  exact ⟨I1.reg hh hnw hM (by simp) hps (fun e => by rw [hex e]) (by simpa using hc),
    ((Step.refl S J M w).grow hf hs ho ht hp).reg I.fresh (Nat.le_refl _)⟩

theorem sim_alloc (hm : MidOk fid mid) {z : List AV} : Sim P fid mid R o (.alloc z) := by
  intro ps S S' J M w tm a v' hok I ht h
  cases hop : o.op <;> simp only [okOp, hop] at hok <;> try (cases hok)
  rename_i t
  simp only [Bool.and_eq_true] at hok
  have hps : ps = [] := by simpa using hok.2
  subst hps
  simp only [List.map_nil, opA] at h
  cases h
  obtain ⟨i, v, hi, hv, hsz, hz⟩ := zeroIs_rep (fid := fid) (J := J) (M := M) hok.1
  obtain ⟨I1, st⟩ := alloc_block (w1 := w.alloc (.cells v.cells t)) I (cs := z) (ex := true) rfl rfl rfl rfl (by rw [hz.1]; exact Nat.le_refl _) (fun _ => hz.1) hz.2
  exact ⟨.pointer (some ⟨w.heap.size, 0, none⟩), _, M, w.alloc (.cells v.cells t), .inl (by simp [execOp, hop, Instr.alloc, zeroValue, typeInfo, hi, hv, newVar, newRow]), I1, st,
    ARep.mptr _ 0 _ w.heap.size 0 _ (JMap.put_self ..)⟩
theorem sim_box (hm : MidOk fid mid) {n : Nat} : Sim P fid mid R o (.box n) := by
  intro ps S S' J M w tm a v' hok I ht h
  cases hop : o.op <;> simp only [okOp, hop] at hok <;> try (cases hok)
  rename_i t ox
  simp only [Bool.and_eq_true] at hok
  obtain ⟨x, hx, hr⟩ := okOpds1 hm ht hok.2
  rw [hx] at h
  simp only [opA] at h
  replace h := chk_some.1 h; obtain ⟨⟨hw, hl⟩, h⟩ := h
  cases h
  obtain ⟨hc, _⟩ := cells_rep hw hr
  obtain ⟨I1, st⟩ := alloc_block (w1 := w.alloc (.cells (a.eval ox).cells t)) I (cs := x.cells) (ex := true) rfl rfl rfl rfl (by rw [hc.1]; exact Nat.le_refl _) (fun _ => hc.1) hc.2
  refine ⟨.pointer (some ⟨w.heap.size, 0, none⟩), _, M, w.alloc (.cells (a.eval ox).cells t), .inl (by simp [execOp, hop, Instr.box, newVar, newRow]), I1, st, ?_⟩
  rw [← hl]
  exact ARep.mptr _ 0 _ w.heap.size 0 _ (JMap.put_self ..)
theorem sim_own (hm : MidOk fid mid) {sz : Nat} : Sim P fid mid R o (.own sz) := by
  intro ps S S' J M w tm a v' hok I ht h
  cases hop : o.op <;> simp only [okOp, hop] at hok <;> try (cases hok)
  all_goals
    rename_i ox
    obtain ⟨x, hx, hr⟩ := okOpds1 hm ht hok
    rw [hx] at h
    cases x <;> simp only [opA] at h <;> try (cases h)
    rename_i es sz' t
    cases es with
    | cons e es => simp at h
    | nil =>
      cases t with
      | false => simp at h
      | true =>
        simp only at h
        replace h := chk_some.1 h; obtain ⟨hz, h⟩ := h
        cases h
        obtain ⟨ad, c, e1, _, ht1, _⟩ := hr.sl_inv
        have hc0 := ht1 rfl
        simp only [List.length_nil] at hc0
        subst hc0
        exact ⟨.slice ad 0 0, _, M, w, .inl (by simp [execOp, hop, e1]), I.regN, (Step.refl S J M w).regN I.fresh, ARep.mslN _ sz none ad (JMap.put_self ..) (.inl rfl)⟩

/-! ### Parts put into cells -/
theorem foldl_get (off : Nat) : ∀ (l : List Value) (j : Nat) (arr : Array Value), ((l.zipIdx j).foldl (fun cs (x : Value × Nat) => cs.setIfInBounds (off + x.2) x.1) arr).size = arr.size ∧
    ∀ k, ((l.zipIdx j).foldl (fun cs (x : Value × Nat) => cs.setIfInBounds (off + x.2) x.1) arr)[k]? = if off + j ≤ k ∧ k < off + j + l.length ∧ k < arr.size then l[k - (off + j)]? else arr[k]?
  | [], j, arr => ⟨rfl, fun k => by simp; omega⟩
  | v :: l, j, arr => by
    obtain ⟨h1, h2⟩ := foldl_get off l (j + 1) (arr.setIfInBounds (off + j) v)
    refine ⟨by simp only [List.zipIdx_cons, List.foldl_cons]; rw [h1]; simp, fun k => ?_⟩
    simp only [List.zipIdx_cons, List.foldl_cons]
    rw [h2 k]
    by_cases hk : k = off + j
    · subst hk
      by_cases hs : off + j < arr.size
      · rw [if_neg (by omega), if_pos (by simp; omega)]
        simp [hs]
      · rw [if_neg (by simp; omega), if_neg (by omega)]
        rw [Array.getElem?_eq_none (by simp; omega), Array.getElem?_eq_none (by omega)]
    · by_cases hin : off + (j + 1) ≤ k ∧ k < off + (j + 1) + l.length ∧ k < arr.size
      · rw [if_pos (by simpa using hin), if_pos (by simp; omega)]
        rw [show k - (off + j) = (k - (off + (j + 1))) + 1 by omega]
        simp
      · rw [if_neg (by simpa using hin), if_neg (by simp; omega)]
        rw [Array.getElem?_setIfInBounds_ne (by omega)]
theorem splice_get {cs : List AV} {off : Nat} {vs : List AV} (h : off + vs.length ≤ cs.length) (k : Nat) : (splice cs off vs)[k]? = if off ≤ k ∧ k < off + vs.length then vs[k - off]? else cs[k]? := by
  unfold splice
  by_cases h1 : k < off
  · rw [List.getElem?_append_left (by simp; omega), List.getElem?_take_of_lt h1, if_neg (by omega)]
  · rw [List.getElem?_append_right (by simp; omega)]
    have hmin : min off cs.length = off := by omega
    simp only [List.length_take, hmin]
    by_cases h2 : k - off < vs.length
    · rw [List.getElem?_append_left h2, if_pos (by omega)]
    · rw [List.getElem?_append_right (by omega), List.getElem?_drop, if_neg (by omega)]
      congr 1; omega
theorem splice_length {cs : List AV} {off : Nat} {vs : List AV} (h : off + vs.length ≤ cs.length) : (splice cs off vs).length = cs.length := by
  unfold splice; simp; omega
theorem CRep.fill {cs xs : List AV} {arr : Array Value} {us : Array Value} {off : Nat} (h : CRep fid J M cs arr) (hx : CRep fid J M xs us) (hl : off + xs.length ≤ cs.length) :
    CRep fid J M (splice cs off xs) (us.zipIdx.foldl (fun cs (x : Value × Nat) => cs.setIfInBounds (off + x.2) x.1) arr) := by
  have e : us.zipIdx.foldl (fun cs (x : Value × Nat) => cs.setIfInBounds (off + x.2) x.1) arr = (us.toList.zipIdx 0).foldl (fun cs (x : Value × Nat) => cs.setIfInBounds (off + x.2) x.1) arr := by
    rw [← Array.foldl_toList]; simp
  rw [e]
  obtain ⟨h1, h2⟩ := foldl_get off us.toList 0 arr
  refine ⟨by rw [h1, h.1, splice_length hl], fun k x hk => ?_⟩
  rw [splice_get hl] at hk
  rw [h2 k]
  have hus : us.toList.length = xs.length := by simpa using hx.1
  by_cases hin : off ≤ k ∧ k < off + xs.length
  · rw [if_pos hin] at hk
    obtain ⟨cv, a1, a2, a3⟩ := hx.2 _ x hk
    refine ⟨cv, ?_, a2, a3⟩
    rw [if_pos (by rw [hus, h.1]; omega)]
    simpa using a1
  · rw [if_neg hin] at hk
    obtain ⟨cv, a1, a2, a3⟩ := h.2 _ x hk
    refine ⟨cv, ?_, a2, a3⟩
    rw [if_neg (by rw [hus]; omega)]
    exact a1
theorem fill_rep {place : Nat → Option (Nat × Nat)} : ∀ {pl : List (Nat × Nat)} {vs : List AV} {cs cs' : List AV} {arr : Array Value} {parts : List (Nat × Value)}, fillA pl vs cs = some cs' → CRep fid J M cs arr →
    parts.length = pl.length → (∀ k, (h : k < parts.length) → (h' : k < pl.length) → place parts[k].1 = some pl[k]) → (∀ (k : Nat) (x : AV), vs[k]? = some x → ∃ p : Nat × Value, parts[k]? = some p ∧ ARep fid J M x p.2) →
    ∃ arr', Instr.fill place arr parts = some arr' ∧ CRep fid J M cs' arr'
  | [], [], cs, cs', arr, parts, h, hc, hl, hp, hq => by
    simp only [fillA] at h; cases h
    have : parts = [] := List.eq_nil_of_length_eq_zero hl
    subst this
    exact ⟨arr, rfl, hc⟩
  | [], _ :: _, _, _, _, _, h, _, _, _, _ => by simp [fillA] at h
  | _ :: _, [], _, _, _, _, h, _, _, _, _ => by simp [fillA] at h
  | (off, n) :: pl, v :: vs, cs, cs', arr, parts, h, hc, hl, hp, hq => by
    simp only [fillA] at h
    obtain ⟨⟨hw, hn, hfit⟩, h⟩ := chk_some.1 h
    cases parts with
    | nil => simp at hl
    | cons p parts =>
      obtain ⟨p', hp', hr⟩ := hq 0 v rfl
      simp at hp'; subst hp'
      obtain ⟨hcr, _⟩ := cells_rep hw hr
      obtain ⟨arr', h1, h2⟩ := fill_rep (place := place) h (hc.fill hcr (by omega)) (parts := parts) (by simpa using hl) (fun k hk hk' => by
        have := hp (k + 1) (by simp; omega) (by simp; omega)
        simpa using this) (fun k x hx => by simpa using hq (k + 1) x (by simpa using hx))
      refine ⟨arr', ?_, h2⟩
      have hpl := hp 0 (by simp) (by simp)
      simp only [List.getElem_cons_zero] at hpl
      obtain ⟨i, pv⟩ := p
      simp only at hpl hr hcr h1
      have hsz : pv.cells.size = n := by rw [hcr.1, hn]
      have hb : ¬ (off + pv.cells.size > arr.size) := by rw [hsz, hc.1]; omega
      simp only [Instr.fill, hpl]
      rw [if_neg (by simp [hsz]; rw [hc.1]; omega)]
      exact h1

theorem build_rep {parts : Array (Nat × Operand)} {a : Act} {vs : List AV} (hl : (parts.toList.map (·.2)).length = vs.length) (hq : ∀ (k : Nat) (v : AV), vs[k]? = some v → ∃ x, (parts.toList.map (·.2))[k]? = some x ∧ ARep fid J M v (a.eval x)) :
    ∀ (k : Nat) (x : AV), vs[k]? = some x → ∃ p : Nat × Value, (parts.toList.map fun p => (p.1, a.eval p.2))[k]? = some p ∧ ARep fid J M x p.2 := by
  intro k x hx
  obtain ⟨y, hy, hr⟩ := hq k x hx
  rw [List.getElem?_map] at hy
  obtain ⟨p, hp, e⟩ := Option.map_eq_some_iff.1 hy
  exact ⟨(p.1, a.eval p.2), by rw [List.getElem?_map, hp]; rfl, by subst e; exact hr⟩
theorem placesAre_get {fs : Array Field} : ∀ {pl : List (Nat × Nat)} {is : List Nat}, placesAre P fs.toList pl is = true → is.length = pl.length ∧ ∀ (k : Nat) (h : k < is.length) (h' : k < pl.length), ∃ f, fs[is[k]]? = some f ∧ f.offset = pl[k].1 ∧ szIs P f.type pl[k].2 = true
  | [], [], _ => ⟨rfl, fun k h => by simp at h⟩
  | [], _ :: _, h => by simp [placesAre] at h
  | (_, _) :: _, [], h => by simp [placesAre] at h
  | (off, n) :: pl, i :: is, h => by
    simp only [placesAre, Bool.and_eq_true] at h
    obtain ⟨h0, h1⟩ := h
    obtain ⟨e1, e2⟩ := placesAre_get h1
    refine ⟨by simp [e1], fun k hk hk' => ?_⟩
    cases k with
    | zero =>
      split at h0
      · rename_i f hf
        simp only [Bool.and_eq_true, beq_iff_eq] at h0
        exact ⟨f, by simpa using hf, h0.1, h0.2⟩
      · cases h0
    | succ k => simpa using e2 k (by simpa using hk) (by simpa using hk')
theorem rowsAre_get {sz : Nat} : ∀ {pl : List (Nat × Nat)} {is : List Nat}, rowsAre sz pl is = true → is.length = pl.length ∧ ∀ (k : Nat) (h : k < is.length) (h' : k < pl.length), pl[k] = (is[k] * sz, sz)
  | [], [], _ => ⟨rfl, fun k h => by simp at h⟩
  | [], _ :: _, h => by simp [rowsAre] at h
  | (_, _) :: _, [], h => by simp [rowsAre] at h
  | (off, n) :: pl, i :: is, h => by
    simp only [rowsAre, Bool.and_eq_true, beq_iff_eq] at h
    obtain ⟨⟨h0, h0'⟩, h1⟩ := h
    obtain ⟨e1, e2⟩ := rowsAre_get h1
    refine ⟨by simp [e1], fun k hk hk' => ?_⟩
    cases k with
    | zero => simp [h0, h0']
    | succ k => simpa using e2 k (by simpa using hk) (by simpa using hk')
end
end Go.AVM
