/- Operations, one lemma a kind (fifth part: composite values, literals, stores, make). -/
import Derived.Test.YtlpbjbgfgfjnlaaAvOps5
set_option linter.unusedVariables false
set_option linter.unusedSimpArgs false
set_option linter.unusedSectionVars false
namespace Go.AVM
section
variable {P : Program} {fid : Nat → FuncId} {mid : FuncId → Option Nat} {S S' : Store} {J : JMap} {M : Mem} {w : World} {tm : List AV} {a : Act} {o : Oper} {ps : List Opd} {v' : AV} {R : RunF}

theorem run_list_mapM {α β : Type} (f : α → Sem β) (g : α → β) (w : World) : ∀ (l : List α), (∀ x ∈ l, (f x).run P w = .ok (g x) w) → (l.mapM f).run P w = .ok (l.map g) w
  | [], _ => by simp
  | x :: l, h => by
    rw [List.mapM_cons]
    have ih := run_list_mapM f g w l (fun y hy => h y (List.mem_cons_of_mem _ hy))
    simp only [Sem.run_bind, h x (List.mem_cons_self ..), Result.andThen_ok, ih, Sem.run_pure, List.map_cons]
theorem run_array_mapM {α β : Type} (f : α → Sem β) (g : α → β) (w : World) (xs : Array α) (h : ∀ x ∈ xs.toList, (f x).run P w = .ok (g x) w) : (xs.mapM f).run P w = .ok (xs.map g) w := by
  rw [Array.mapM_eq_mapM_toList]
  simp only [Sem.run_map, run_list_mapM f g w xs.toList h, Result.andThen_ok]
  congr 1
  apply Array.ext'
  simp

theorem sim_build (hm : MidOk fid mid) {z : List AV} {pl : List (Nat × Nat)} : Sim P fid mid R o (.build z pl) := by
  intro ps S S' J M w tm a v' hok I ht h
  cases hop : o.op <;> simp only [okOp, hop] at hok <;> try (cases hok)
  rename_i t parts
  simp only [Bool.and_eq_true] at hok
  obtain ⟨⟨hz, h4⟩, hty⟩ := hok
  simp only [opA] at h
  obtain ⟨cs, hf, h⟩ := Option.bind_eq_some_iff.1 h
  cases h
  obtain ⟨i, v, hi, hv, hsz, hcz⟩ := zeroIs_rep (fid := fid) (J := J) (M := M) hz
  obtain ⟨hl, hq⟩ := okOpds_rep hm ht h4
  have hl' : (parts.toList.map (·.2)).length = (ps.map (·.ev tm)).length := by rw [hl]; simp
  have hb := build_rep (parts := parts) (a := a) hl' hq
  have hzero : ∀ w, (zeroValue t).run P w = .ok v w := fun w => by simp [zeroValue, typeInfo, hi, hv]
  have e0 : (parts.map fun (x : Nat × Operand) => (x.1, a.eval x.2)).toList = parts.toList.map fun p => (p.1, a.eval p.2) := by simp
  have fin : ∀ place : Nat → Option (Nat × Nat), (∀ k, (h : k < (parts.toList.map fun p => (p.1, a.eval p.2)).length) → (h' : k < pl.length) → place (parts.toList.map fun p => (p.1, a.eval p.2))[k].1 = some pl[k]) →
      (parts.toList.map fun p => (p.1, a.eval p.2)).length = pl.length → ∃ arr, Instr.fill place v.cells (parts.toList.map fun p => (p.1, a.eval p.2)) = some arr ∧ CRep fid J M cs arr := fun place h1 h2 => fill_rep hf hcz h2 h1 hb
  split at hty
  · rename_i fs hu
    simp only [Bool.and_eq_true] at hty
    obtain ⟨hp, hall⟩ := hty
    obtain ⟨hl2, hg⟩ := placesAre_get (fs := fs) hp
    have hrun := run_array_mapM (P := P) (fun f : Field => Prod.mk f.offset <$> sizeOf f.type) (fun f => (f.offset, ((P.info? f.type).map (·.size)).getD 0)) w fs (fun f hf => by
      have := List.all_eq_true.1 hall f hf
      obtain ⟨i', hi'⟩ := Option.isSome_iff_exists.1 this
      simp [sizeOf, typeInfo, hi'])
    obtain ⟨arr, h1, h2⟩ := fin (fun k => (fs.map fun f => (f.offset, ((P.info? f.type).map (·.size)).getD 0))[k]?) (fun k hk hk' => by
      obtain ⟨f, e1, e2, e3⟩ := hg k (by simpa using hk) hk'
      simp only [List.getElem_map] at e1 ⊢
      rw [Array.getElem?_map, e1]
      have : ((P.info? f.type).map (·.size)).getD 0 = pl[k].2 := by
        unfold szIs at e3
        split at e3
        · rename_i i' hi'; rw [hi']; simpa using e3
        · cases e3
      simp only [Option.map_some, this, e2]) (by simpa using hl2)
    refine .same I (cv := .agg arr) ?_ (ARep.agg_mk h2.1 h2.2)
    simp only [execOp, hop, Instr.build, bind_pure_comp, Sem.run_bind, hzero, Result.andThen_ok, run_underlying hu, Sem.run_map]
    rw [hrun]
    simp only [Result.andThen_ok, Array.toList_map]
    rw [h1]
    simp
  · rename_i n e hu
    split at hty
    · rename_i i' hi'
      obtain ⟨hl2, hg⟩ := rowsAre_get hty
      obtain ⟨arr, h1, h2⟩ := fin (fun k => some (k * i'.size, i'.size)) (fun k hk hk' => by
        rw [hg k (by simpa using hk) hk']; simp) (by simpa using hl2)
      refine .same I (cv := .agg arr) ?_ (ARep.agg_mk h2.1 h2.2)
      simp only [execOp, hop, Instr.build, bind_pure_comp, Sem.run_bind, hzero, Result.andThen_ok, run_underlying hu, Sem.run_map]
      simp [sizeOf, typeInfo, hi', h1]
    · cases hty
  · cases hty

/-! ### Literals -/
/-- Elements told one by one. -/
def ERep (fid : Nat → FuncId) (J : JMap) (M : Mem) (sz : Nat) (es : List AV) (arr : Array Value) : Prop :=
  arr.size = es.length * sz ∧ ∀ (i : Nat) (e : AV), es[i]? = some e → e.cells.length = sz ∧ ∀ (k : Nat) (x : AV), e.cells[k]? = some x → ∃ cv : Value, arr[i * sz + k]? = some cv ∧ cv.plain ∧ ARep fid J M x cv
theorem elt_cells {sz : Nat} {v : AV} {us : Array Value} (hl : v.cells.length = sz) (hc : CRep fid J M v.cells us) : (elt sz v).cells = v.cells := by
  unfold elt
  split
  · rename_i h1
    cases hv : v.cells with
    | nil => rw [hv] at hl; simp at hl; omega
    | cons x xs =>
      have hxs : xs = [] := by rw [hv] at hl; simp at hl; exact List.eq_nil_of_length_eq_zero (by omega)
      subst hxs
      obtain ⟨cv, _, hp, hr⟩ := hc.2 0 x (by rw [hv]; rfl)
      simp [hr.cells_of_plain hp]
  · rfl
theorem ERep.fill {sz : Nat} {es : List AV} {arr : Array Value} (h : ERep fid J M sz es arr) {i : Nat} {v : AV} {us : Array Value} (hi : i < es.length) (hl : v.cells.length = sz) (hc : CRep fid J M v.cells us) :
    ERep fid J M sz (es.set i (elt sz v)) (us.zipIdx.foldl (fun cs (x : Value × Nat) => cs.setIfInBounds (i * sz + x.2) x.1) arr) := by
  have e : us.zipIdx.foldl (fun cs (x : Value × Nat) => cs.setIfInBounds (i * sz + x.2) x.1) arr = (us.toList.zipIdx 0).foldl (fun cs (x : Value × Nat) => cs.setIfInBounds (i * sz + x.2) x.1) arr := by
    rw [← Array.foldl_toList]; simp
  rw [e]
  obtain ⟨h1, h2⟩ := foldl_get (i * sz) us.toList 0 arr
  have hus : us.toList.length = sz := by rw [← hl]; simpa using hc.1
  refine ⟨by rw [h1, h.1, List.length_set], fun j e' he' => ?_⟩
  have hbi : i * sz + sz ≤ es.length * sz := by rw [← Nat.succ_mul]; exact Nat.mul_le_mul_right _ hi
  by_cases hij : i = j
  · subst hij
    rw [List.getElem?_set_self hi] at he'; cases he'
    rw [elt_cells hl hc]
    refine ⟨hl, fun k x hk => ?_⟩
    have hk' : k < sz := by have := (List.getElem?_eq_some_iff.1 hk).1; omega
    obtain ⟨cv, a1, a2, a3⟩ := hc.2 k x hk
    refine ⟨cv, ?_, a2, a3⟩
    rw [h2, if_pos (by rw [hus, h.1]; omega)]
    simp only [Nat.add_zero]
    rw [show i * sz + k - i * sz = k by omega]
    simpa using a1
  · rw [List.getElem?_set_ne hij] at he'
    obtain ⟨b1, b2⟩ := h.2 j e' he'
    refine ⟨b1, fun k x hk => ?_⟩
    have hk' : k < sz := by have := (List.getElem?_eq_some_iff.1 hk).1; omega
    obtain ⟨cv, a1, a2, a3⟩ := b2 k x hk
    refine ⟨cv, ?_, a2, a3⟩
    rw [h2, if_neg ?_]
    · exact a1
    · rw [hus]
      rintro ⟨c1, c2, _⟩
      rcases Nat.lt_or_gt_of_ne hij with hlt | hgt
      · have : (i + 1) * sz ≤ j * sz := Nat.mul_le_mul_right _ hlt
        rw [Nat.succ_mul] at this; omega
      · have : (j + 1) * sz ≤ i * sz := Nat.mul_le_mul_right _ hgt
        rw [Nat.succ_mul] at this; omega
theorem fillE_length {sz : Nat} : ∀ {ix : List Nat} {vs es es' : List AV}, fillE sz ix vs es = some es' → es'.length = es.length
  | [], [], es, es', h => by simp only [fillE] at h; cases h; rfl
  | [], _ :: _, _, _, h => by simp [fillE] at h
  | _ :: _, [], _, _, h => by simp [fillE] at h
  | i :: ix, v :: vs, es, es', h => by
    simp only [fillE] at h
    obtain ⟨_, h⟩ := chk_some.1 h
    rw [fillE_length h, List.length_set]
theorem fillE_rep {sz : Nat} : ∀ {ix : List Nat} {vs es es' : List AV} {arr : Array Value} {parts : List (Nat × Value)}, fillE sz ix vs es = some es' → ERep fid J M sz es arr →
    parts.map (·.1) = ix → (∀ (k : Nat) (x : AV), vs[k]? = some x → ∃ p : Nat × Value, parts[k]? = some p ∧ ARep fid J M x p.2) →
    ∃ arr', Instr.fill (fun i => some (i * sz, sz)) arr parts = some arr' ∧ ERep fid J M sz es' arr'
  | [], [], es, es', arr, parts, h, he, hl, hq => by
    simp only [fillE] at h; cases h
    have : parts = [] := by simpa using hl
    subst this
    exact ⟨arr, rfl, he⟩
  | [], _ :: _, _, _, _, _, h, _, _, _ => by simp [fillE] at h
  | _ :: _, [], _, _, _, _, h, _, _, _ => by simp [fillE] at h
  | i :: ix, v :: vs, es, es', arr, parts, h, he, hl, hq => by
    simp only [fillE] at h
    obtain ⟨⟨hw, hn, hi⟩, h⟩ := chk_some.1 h
    cases parts with
    | nil => simp at hl
    | cons p parts =>
      obtain ⟨p', hp', hr⟩ := hq 0 v rfl
      simp at hp'; subst hp'
      obtain ⟨hcr, _⟩ := cells_rep hw hr
      simp only [List.map_cons, List.cons.injEq] at hl
      obtain ⟨arr', h1, h2⟩ := fillE_rep h (he.fill hi hn hcr) (parts := parts) hl.2 (fun k x hx => by simpa using hq (k + 1) x (by simpa using hx))
      refine ⟨arr', ?_, h2⟩
      obtain ⟨i', pv⟩ := p
      simp only at hl hr hcr h1
      rw [hl.1]
      have hsz : pv.cells.size = sz := by rw [hcr.1, hn]
      simp only [Instr.fill]
      rw [if_neg ?_]
      · exact h1
      · simp [hsz]
        have : (i + 1) * sz ≤ es.length * sz := Nat.mul_le_mul_right _ hi
        rw [Nat.succ_mul] at this
        rw [he.1]; omega

theorem fillE_mem {sz : Nat} : ∀ {ix : List Nat} {vs es es' : List AV}, fillE sz ix vs es = some es' → ∀ {e : AV}, e ∈ es' → e ∈ es ∨ ∃ v ∈ vs, e = elt sz v ∧ v.whole = true ∧ v.cells.length = sz
  | [], [], es, es', h, e, he => by simp only [fillE] at h; cases h; exact .inl he
  | [], _ :: _, _, _, h, _, _ => by simp [fillE] at h
  | _ :: _, [], _, _, h, _, _ => by simp [fillE] at h
  | i :: ix, v :: vs, es, es', h, e, he => by
    simp only [fillE] at h
    obtain ⟨⟨hw, hn, hi⟩, h⟩ := chk_some.1 h
    rcases fillE_mem h he with h1 | ⟨u, hu, r⟩
    · rcases List.mem_or_eq_of_mem_set h1 with h2 | h2
      · exact .inl h2
      · exact .inr ⟨v, List.mem_cons_self .., h2, hw, hn⟩
    · exact .inr ⟨u, List.mem_cons_of_mem _ hu, r⟩
theorem fzc_nrc {S : Store} {fuel : Nat} {v v' : AV} (h : nrc v = true) (e : fzc S fuel v = some v') : nrc v' = true := by
  cases v <;> simp [nrc] at h <;> cases fuel <;> simp only [fzc] at e <;> cases e <;> rfl
theorem nrc_nr1 {v : AV} (h : nrc v = true) : nr1 v = true := by
  cases v <;> simp [nrc] at h <;> rfl
theorem fz1_nr {S : Store} {v v' : AV} (h : nr1 v = true) (e : fz1 S v = some v') : ∀ x ∈ v'.cells, nr1 x = true := by
  unfold fz1 at e
  split at e
  · rename_i cs
    obtain ⟨cs', hc, e⟩ := Option.bind_eq_some_iff.1 e
    cases e
    intro x hx
    obtain ⟨k, hk⟩ := List.mem_iff_getElem?.1 hx
    obtain ⟨y, hy, hfy⟩ := mapM_inv hc hk
    exact nrc_nr1 (fzc_nrc (List.all_eq_true.1 h y (List.mem_of_getElem? hy)) hfy)
  · cases v with
    | fn f caps =>
      simp only [fzDepth, fzc] at e
      obtain ⟨cs', hc, e⟩ := Option.bind_eq_some_iff.1 e
      cases e
      intro x hx
      simp only [AV.cells, List.mem_singleton] at hx
      subst hx
      refine List.all_eq_true.2 fun y hy => ?_
      obtain ⟨k, hk⟩ := List.mem_iff_getElem?.1 hy
      obtain ⟨z, hz, hfz⟩ := mapM_inv hc hk
      exact fzc_nrc (List.all_eq_true.1 h z (List.mem_of_getElem? hz)) hfz
    | agg cs => rename_i hna; exact absurd rfl (hna cs)
    | _ =>
      simp only [fzDepth, fzc] at e <;> first
        | (cases e; intro x hx; simp only [AV.cells, List.mem_singleton] at hx; subst hx; rfl)
        | (simp [nr1, nrc] at h)
        | cases e
theorem okVs_nr : ∀ {vs : List Value} {xs : List AV}, okVs vs xs = true → ∀ x ∈ xs, nr1 x = true
  | [], [], _ => fun x hx => by cases hx
  | v :: vs, x :: xs, h => fun y hy => by
    simp only [okVs, Bool.and_eq_true] at h
    rcases List.mem_cons.1 hy with rfl | hy
    · have h1 := h.1.1
      have h2 := h.1.2
      unfold okV at h1
      split at h1 <;> first | rfl | (simp [Value.oneCell'] at h2; done) | cases h1
    · exact okVs_nr h.2 y hy
theorem zeroIs_nr {t : TypeId} {z : List AV} (h : zeroIs P t z = true) : ∀ x ∈ z, nr1 x = true := by
  unfold zeroIs at h
  split at h
  · split at h
    · simp only [Bool.and_eq_true] at h
      exact okVs_nr h.1
    · cases h
  · cases h

/-- Whole cells: all are told, all are plain. -/
theorem ERep.cells {sz : Nat} (hz : 0 < sz) {es : List AV} {arr : Array Value} (h : ERep fid J M sz es arr) : (es.flatMap AV.cells).length = arr.size ∧ ∀ (k : Nat) (x : AV), (es.flatMap AV.cells)[k]? = some x → ∃ v : Value, arr[k]? = some v ∧ v.plain ∧ ARep fid J M x v := by
  have key : ∀ (es : List AV) (base : Nat), (∀ (i : Nat) (e : AV), es[i]? = some e → e.cells.length = sz ∧ ∀ (k : Nat) (x : AV), e.cells[k]? = some x → ∃ cv : Value, arr[base + i * sz + k]? = some cv ∧ cv.plain ∧ ARep fid J M x cv) →
      (es.flatMap AV.cells).length = es.length * sz ∧ ∀ (k : Nat) (x : AV), (es.flatMap AV.cells)[k]? = some x → ∃ v : Value, arr[base + k]? = some v ∧ v.plain ∧ ARep fid J M x v := by
    intro es
    induction es with
    | nil => intro base _; exact ⟨by simp, fun k x hx => by simp at hx⟩
    | cons e es ih =>
      intro base hq
      obtain ⟨h1, h2⟩ := hq 0 e rfl
      obtain ⟨h3, h4⟩ := ih (base + sz) (fun i e' he' => by
        obtain ⟨b1, b2⟩ := hq (i + 1) e' (by simpa using he')
        refine ⟨b1, fun k x hx => ?_⟩
        have := b2 k x hx
        rwa [Nat.succ_mul, show base + (i * sz + sz) + k = base + sz + i * sz + k by omega] at this)
      refine ⟨by simp only [List.flatMap_cons, List.length_append, h1, h3, List.length_cons, Nat.succ_mul]; omega, fun k x hx => ?_⟩
      rw [List.flatMap_cons] at hx
      by_cases hk : k < e.cells.length
      · rw [List.getElem?_append_left hk] at hx
        simpa using h2 k x hx
      · rw [List.getElem?_append_right (by omega), h1] at hx
        have := h4 _ x hx
        rwa [show base + sz + (k - sz) = base + k by omega] at this
  obtain ⟨k1, k2⟩ := key es 0 (fun i e he => by simpa using h.2 i e he)
  exact ⟨by rw [k1, h.1], by simpa using k2⟩

/-- What was read only goes on being told when a block of the world is added that never changes. -/
noncomputable def Mem.add (M : Mem) (blk : Nat) (arr : Array Value) : Mem := fun b o => if b = blk then arr[o]? else M b o
theorem frozen_block (I : Inv fid S J M w) {arr : Array Value} {el : TypeId} {w1 : World} (h1 : w1.heap = w.heap.push (.cells arr el (0, 0))) (ho : w1.os = w.os) (ht : w1.tape = w.tape) (hp : w1.output = w.output)
    (hc : ∀ (k : Nat) (v : Value), arr[k]? = some v → v.plain) :
    Inv fid S J (M.add w.heap.size arr) w1 ∧ Step S J M w S J (M.add w.heap.size arr) w1 ∧ M.le (M.add w.heap.size arr) := by
  have hf : ∀ i, i < w.heap.size → w1.heap[i]? = w.heap[i]? := fun i hi => by rw [h1, Array.getElem?_push, if_neg (by omega)]
  have hh : w1.heap[w.heap.size]? = some (.cells arr el (0, 0)) := by rw [h1]; simp
  have hle : M.le (M.add w.heap.size arr) := fun b o v h => by
    unfold Mem.add
    rw [if_neg (by have := I.mem_lt h; omega)]
    exact h
  obtain ⟨a1, a2⟩ := after_keep (M' := M.add w.heap.size arr) I hle (fun b o v h => by
      unfold Mem.add at h
      split at h
      · right; omega
      · exact .inl h) (fun b o v h => by
      unfold Mem.add at h
      split at h
      · rename_i hb; subst hb; exact ⟨cell_of_arr hh h, hc _ _ h⟩
      · obtain ⟨e1, e2⟩ := I.mem _ _ _ h
        exact ⟨(cell_same (hf b (cell_lt e1)) o).trans e1, e2⟩) hf (by rw [h1]; simp) ho ht hp
  exact ⟨a1, a2, hle⟩

theorem zeros_rep {sz len : Nat} {z : AV} {t : TypeId} (hz : zeroIs P t z.cells = true) (hs : szIs P t sz = true) (hl : z.cells.length = sz) (hpos : 0 < sz) : ∃ i v, P.info? t = some i ∧ i.zero = some v ∧ i.size = sz ∧ v.cells.size = sz ∧
    ERep fid J M sz (List.replicate len z) ((Array.range (len * sz)).map (v.cells[· % v.cells.size]!)) := by
  obtain ⟨i, v, hi, hv, hsz, hc⟩ := zeroIs_rep (fid := fid) (J := J) (M := M) hz
  have his : i.size = sz := by
    unfold szIs at hs; rw [hi] at hs; simpa using hs
  refine ⟨i, v, hi, hv, his, by omega, by simp, fun j e he => ?_⟩
  have hj : j < len := by have := (List.getElem?_eq_some_iff.1 he).1; simpa using this
  rw [List.getElem?_replicate_of_lt hj] at he; cases he
  refine ⟨hl, fun k x hk => ?_⟩
  have hk' : k < sz := by have := (List.getElem?_eq_some_iff.1 hk).1; omega
  obtain ⟨cv, a1, a2, a3⟩ := hc.2 k x hk
  refine ⟨cv, ?_, a2, a3⟩
  have hb : j * sz + k < len * sz := by
    have : (j + 1) * sz ≤ len * sz := Nat.mul_le_mul_right _ hj
    rw [Nat.succ_mul] at this; omega
  have hmod : (j * sz + k) % v.cells.size = k := by
    rw [show v.cells.size = sz by omega, Nat.add_comm, Nat.add_mul_mod_self_right, Nat.mod_eq_of_lt hk']
  rw [Array.getElem?_map, Array.getElem?_range, if_pos hb]
  simp only [Option.map_some, hmod]
  rw [getElem!_pos v.cells k (by omega)]
  rw [Array.getElem?_eq_getElem (by omega)] at a1
  exact a1

theorem run_buildSlice {sz len : Nat} {z : AV} {t e : TypeId} {ix : List Nat} {vs es : List AV} {parts : List (Nat × Value)} (hu : P.underlying t = some (.slice e)) (hz : zeroIs P e z.cells = true) (hs : szIs P e sz = true) (hl : z.cells.length = sz) (hpos : 0 < sz)
    (hcap : len * sz ≤ 16777216) (hf : fillE sz ix vs (List.replicate len z) = some es) (hp : parts.map (·.1) = ix) (hq : ∀ (k : Nat) (x : AV), vs[k]? = some x → ∃ p : Nat × Value, parts[k]? = some p ∧ ARep fid J M x p.2) (w : World) :
    ∃ arr, (Instr.buildSlice t len parts.toArray).run P w = .ok (.slice (some ⟨w.heap.size, 0, none⟩) len len) (w.alloc (.cells arr e)) ∧ ERep fid J M sz es arr := by
  obtain ⟨i, v, hi, hv, his, hvs, hE⟩ := zeros_rep (fid := fid) (J := J) (M := M) (len := len) hz hs hl hpos
  obtain ⟨arr, h1, h2⟩ := fillE_rep hf hE hp hq
  refine ⟨arr, ?_, h2⟩
  have hsz : ∀ w, (sizeOf e).run P w = .ok sz w := fun w => szIs_run hs w
  have hzv : ∀ w, (zeroValue e).run P w = .ok v w := fun w => by simp [zeroValue, typeInfo, hi, hv]
  have hc' : ¬ (16777216 < len * sz) := by omega
  by_cases h0 : len * sz = 0
  · have hz0 : len = 0 := by
      rcases Nat.mul_eq_zero.1 h0 with h | h <;> omega
    subst hz0
    have : parts = [] := by
      cases parts with
      | nil => rfl
      | cons p r =>
        cases ix with
        | nil => simp at hp
        | cons i ix =>
          cases vs with
          | nil => simp [fillE] at hf
          | cons v vs =>
            simp only [fillE, List.replicate_zero] at hf
            have := (chk_some.1 hf).1.2.2
            simp at this
    subst this
    simp only [List.map_nil, Instr.fill, Nat.zero_mul, Array.range_zero', Array.map_empty, Option.some.injEq] at h1
    simp [Instr.buildSlice, run_underlying hu, hsz, newRow, Instr.fill, ← h1, Array.range_zero']
  · simp only [Instr.buildSlice, Sem.run_bind, run_underlying hu, Result.andThen_ok, hsz]
    simp [hc', h0, hzv, h1, newRow]

theorem sim_litm (hm : MidOk fid mid) {sz len : Nat} {z : AV} {ix : List Nat} : Sim P fid mid R o (.litm sz z len ix) := by
  intro ps S S' J M w tm a v' hok I ht h
  cases hop : o.op <;> simp only [okOp, hop] at hok <;> try (cases hok)
  rename_i t n parts
  simp only [Bool.and_eq_true, beq_iff_eq, decide_eq_true_eq] at hok
  obtain ⟨⟨⟨⟨rfl, hix⟩, h4⟩, hcap⟩, hty⟩ := hok
  split at hty
  · rename_i e hu
    simp only [Bool.and_eq_true, beq_iff_eq, decide_eq_true_eq] at hty
    obtain ⟨⟨⟨⟨hs, hz⟩, hl⟩, _⟩, hpos⟩ := hty
    simp only [opA] at h
    obtain ⟨es, hf, h⟩ := Option.bind_eq_some_iff.1 h
    cases h
    obtain ⟨hl', hq⟩ := okOpds_rep hm ht h4
    have hb := build_rep (parts := parts) (a := a) (by rw [hl']; simp) hq
    obtain ⟨arr, h1, h2⟩ := run_buildSlice (P := P) (parts := parts.toList.map fun p => (p.1, a.eval p.2)) hu hz hs hl hpos hcap hf (by rw [hix]; simp) hb w
    obtain ⟨c1, c2⟩ := h2.cells hpos
    have hel := fillE_length hf
    have hsize : arr.size = n * sz := by rw [h2.1, hel]; simp
    obtain ⟨I1, st⟩ := alloc_block (w1 := w.alloc (.cells arr e)) I (cs := es.flatMap AV.cells) (ex := true) rfl rfl rfl rfl (by omega) (fun _ => by omega) c2
    refine ⟨.slice (some ⟨w.heap.size, 0, none⟩) n n, _, M, _, .inl ?_, I1, st, ?_⟩
    · simp only [execOp, hop, Sem.run_bind]
      have : (parts.map fun (x : Nat × Operand) => (x.1, a.eval x.2)) = (parts.toList.map fun p => (p.1, a.eval p.2)).toArray := by apply Array.ext'; simp
      rw [this, h1]
      simp
    · have hlen : (es.flatMap AV.cells).length = n * sz := by omega
      rw [hlen]
      refine ARep.msl S.length 0 n sz (n * sz) none w.heap.size 0 arr.size n _ (JMap.put_self ..) (Nat.le_refl _) (.inl ⟨rfl, by omega⟩) (.inr rfl)
  · cases hty

theorem plain_all {sz : Nat} (hz : 0 < sz) {es : List AV} {arr : Array Value} (h : ERep fid J M sz es arr) : ∀ (k : Nat) (v : Value), arr[k]? = some v → v.plain := by
  intro k v hv
  obtain ⟨h1, h2⟩ := h.cells hz
  have hk := (Array.getElem?_eq_some_iff.1 hv).1
  obtain ⟨u, hu, hp, _⟩ := h2 k _ (List.getElem?_eq_getElem (by omega))
  rw [hv] at hu; cases hu; exact hp
theorem sim_lit (hm : MidOk fid mid) {sz len : Nat} {z : AV} {ix : List Nat} : Sim P fid mid R o (.lit sz z len ix) := by
  intro ps S S' J M w tm a v' hok I ht h
  cases hop : o.op <;> simp only [okOp, hop] at hok <;> try (cases hok)
  rename_i t n parts
  simp only [Bool.and_eq_true, beq_iff_eq, decide_eq_true_eq] at hok
  obtain ⟨⟨⟨⟨rfl, hix⟩, h4⟩, hcap⟩, hty⟩ := hok
  split at hty
  · rename_i e hu
    simp only [Bool.and_eq_true, beq_iff_eq, decide_eq_true_eq] at hty
    obtain ⟨⟨⟨⟨hs, hz⟩, hl⟩, hcan⟩, hpos⟩ := hty
    obtain ⟨hl', hq⟩ := okOpds_rep hm ht h4
    have hb := build_rep (parts := parts) (a := a) (by rw [hl']; simp) hq
    have hparts : (parts.map fun (x : Nat × Operand) => (x.1, a.eval x.2)) = (parts.toList.map fun p => (p.1, a.eval p.2)).toArray := by apply Array.ext'; simp
    simp only [opA] at h
    split at h
    · rename_i hnr
      obtain ⟨vs, hvs, h⟩ := Option.bind_eq_some_iff.1 h
      obtain ⟨es, hf, h⟩ := Option.bind_eq_some_iff.1 h
      cases h
      -- the parts, frozen
      have hbF : ∀ (k : Nat) (x : AV), vs[k]? = some x → ∃ p : Nat × Value, (parts.toList.map fun p => (p.1, a.eval p.2))[k]? = some p ∧ FRep fid M x p.2 := by
        intro k x hx
        obtain ⟨y, hy, hfy⟩ := mapM_inv hvs hx
        obtain ⟨p, hp, hr⟩ := hb k y hy
        have hn1 := List.all_eq_true.1 hnr y (List.mem_of_getElem? hy)
        have := fz1_sound (w := w) I (fun _ => False) hfy (fun b hb => by rw [nr1_ids hn1] at hb; cases hb) hr
        exact ⟨p, hp, by
          have e : Mset S J M w (fun _ => False) = M := by
            funext b o
            unfold Mset
            cases hm : M b o with
            | some v => rfl
            | none =>
              simp only
              rw [if_neg]
              rintro ⟨_, _, _, _, _, hf, _⟩
              exact hf
          rwa [e] at this⟩
      have hall : ∀ e ∈ es, ∀ x ∈ e.cells, nr1 x = true := by
        intro e' he' x hx
        rcases fillE_mem hf he' with h0 | ⟨v, hv, rfl, hvw, hvl⟩
        · have := (List.mem_replicate.1 h0).2
          subst this
          exact zeroIs_nr hz x hx
        · obtain ⟨k, hk⟩ := List.mem_iff_getElem?.1 hv
          obtain ⟨p, _, hpr⟩ := hbF k v hk
          rw [elt_cells (J := J) hvl (cells_rep hvw (ARep.fr hpr)).1] at hx
          obtain ⟨y, hy, hfy⟩ := mapM_inv hvs hk
          exact fz1_nr (List.all_eq_true.1 hnr y (List.mem_of_getElem? hy)) hfy x hx
      obtain ⟨arr, h1, h2⟩ := run_buildSlice (P := P) (fid := fid) (J := J) (M := M) (parts := parts.toList.map fun p => (p.1, a.eval p.2)) hu hz hs hl hpos hcap hf (by rw [hix]; simp) (fun k x hx => let ⟨p, a1, a2⟩ := hbF k x hx; ⟨p, a1, .fr a2⟩) w
      have hel : es.length = n := by have := fillE_length hf; simpa using this
      obtain ⟨I1, st, hle⟩ := frozen_block (w1 := w.alloc (.cells arr e)) I rfl rfl rfl rfl (plain_all hpos h2)
      refine ⟨.slice (some ⟨w.heap.size, 0, none⟩) n n, J, _, _, .inl ?_, I1, st, .fr ?_⟩
      · simp only [execOp, hop, Sem.run_bind]
        rw [hparts, h1]
        simp
      · have hfr : FRep fid (M.add w.heap.size arr) (.sl es sz true) (.slice (some ⟨w.heap.size, 0, none⟩) es.length es.length) := by
          refine FRep.sl_mk (Nat.le_refl _) (fun _ => rfl) (.inr ⟨w.heap.size, 0, rfl, fun i e' he' => ?_⟩)
          obtain ⟨b1, b2⟩ := h2.2 i e' he'
          refine ⟨b1, fun k x hx => ?_⟩
          obtain ⟨cv, c1, c2, c3⟩ := b2 k x hx
          refine ⟨cv, by simp [Mem.add, c1], ?_⟩
          exact (nr1_fr (hall e' (List.mem_of_getElem? he') x (List.mem_of_getElem? hx)) c3).mono hle
        rw [hel] at hfr
        exact hfr
    · obtain ⟨es, hf, h⟩ := Option.bind_eq_some_iff.1 h
      cases h
      obtain ⟨arr, h1, h2⟩ := run_buildSlice (P := P) (fid := fid) (J := J) (M := M) (parts := parts.toList.map fun p => (p.1, a.eval p.2)) hu hz hs hl hpos hcap hf (by rw [hix]; simp) hb w
      have hel : es.length = n := by have := fillE_length hf; simpa using this
      obtain ⟨I1, st, hle⟩ := frozen_block (w1 := w.alloc (.cells arr e)) I rfl rfl rfl rfl (plain_all hpos h2)
      refine ⟨.slice (some ⟨w.heap.size, 0, none⟩) n n, J, _, _, .inl ?_, I1, st, ?_⟩
      · simp only [execOp, hop, Sem.run_bind]
        rw [hparts, h1]
        simp
      · have hx : ∀ i k, ∃ cv, ∀ e', es[i]? = some e' → ∀ x, e'.cells[k]? = some x → (M.add w.heap.size arr) w.heap.size (i * sz + k) = some cv ∧ ARep fid J (M.add w.heap.size arr) x cv := by
          intro i k
          by_cases hh : ∃ e' x, es[i]? = some e' ∧ e'.cells[k]? = some x
          · obtain ⟨e', x, he', hx⟩ := hh
            obtain ⟨b1, b2⟩ := h2.2 i e' he'
            obtain ⟨cv, c1, c2, c3⟩ := b2 k x hx
            refine ⟨cv, fun e2 he2 x2 hx2 => ?_⟩
            rw [he'] at he2; cases he2
            rw [hx] at hx2; cases hx2
            exact ⟨by simp [Mem.add, c1], c3.mono (fun _ _ _ h => h) hle⟩
          · exact ⟨default, fun e' he' x hx => absurd ⟨e', x, he', hx⟩ hh⟩
        have := ARep.tl (fid := fid) (J := J) (M := M.add w.heap.size arr) es sz w.heap.size (fun i k => Classical.choose (hx i k)) (fun i e' he' => (h2.2 i e' he').1) (fun i e' he' k x hxx => (Classical.choose_spec (hx i k) e' he' x hxx).1) (fun i e' he' k x hxx => (Classical.choose_spec (hx i k) e' he' x hxx).2)
        rw [hel] at this
        exact this
  · cases hty
end
end Go.AVM
