/- Operations, one lemma a kind (sixth part: stores, make, append, copy, clear). -/
import Derived.Test.YtlpbjbgfgfjnlaaAvOps6
set_option linter.unusedVariables false
set_option linter.unusedSimpArgs false
set_option linter.unusedSectionVars false
namespace Go.AVM
section
variable {P : Program} {fid : Nat → FuncId} {mid : FuncId → Option Nat} {S S' : Store} {J : JMap} {M : Mem} {w : World} {tm : List AV} {a : Act} {o : Oper} {ps : List Opd} {v' : AV} {R : RunF}

theorem row_get (arr us : List Value) (k : Nat) {off : Nat} (h : off + us.length ≤ arr.length) : (arr.take off ++ us ++ arr.drop (off + us.length))[k]? = if off ≤ k ∧ k < off + us.length then us[k - off]? else arr[k]? := by
  by_cases h1 : k < off
  · rw [List.append_assoc, List.getElem?_append_left (by simp; omega), List.getElem?_take_of_lt h1, if_neg (by omega)]
  · rw [List.append_assoc, List.getElem?_append_right (by simp; omega)]
    have hmin : min off arr.length = off := by omega
    simp only [List.length_take, hmin]
    by_cases h2 : k - off < us.length
    · rw [List.getElem?_append_left h2, if_pos (by omega)]
    · rw [List.getElem?_append_right (by omega), List.getElem?_drop, if_neg (by omega)]
      congr 1; omega

/-- A row of cells stored into a block. -/
theorem store_row {blk o : Nat} {arr : Array Value} {el : TypeId} (hh : w.heap[blk]? = some (.cells arr el (0, 0))) {us : List Value} (hp : ∀ v ∈ us, v.plain) (hfit : o + us.length ≤ arr.size) :
    ∃ arr', (storeCells ⟨blk, o, none⟩ us).run P w = .ok () (w.setRow blk arr') ∧ arr'.size = arr.size ∧ ∀ k, arr'[k]? = if o ≤ k ∧ k < o + us.length then us[k - o]? else arr[k]? := by
  have h := run_storeCells_at P blk o el us 0 arr w hh (by simpa using hfit) (fun v hv => plain_one.1 (hp v hv))
  simp only [Nat.add_zero] at h
  refine ⟨_, h, by simp; omega, fun k => ?_⟩
  rw [List.getElem?_toArray, row_get arr.toList us k (by simpa using hfit)]
  simp
theorem setRow_frame (w : World) (blk : Nat) (arr : Array Value) : (∀ i, i ≠ blk → (w.setRow blk arr).heap[i]? = w.heap[i]?) ∧ (w.setRow blk arr).heap.size = w.heap.size := ⟨fun i hi => setRow_other w blk i arr hi, setRow_size w blk arr⟩

theorem wr_rep (I : Inv fid S J M w) {b off vl : Nat} {xs : List AV} (h : wr S b off vl xs = some S') {blk base p : Nat} (hj : J b vl = some (some (blk, base, p))) {us : Array Value} (hx : CRep fid J M xs us) :
    ∃ J' w', (storeCells ⟨blk, base + off, none⟩ us.toList).run P w = .ok () w' ∧ Inv fid S' J' M w' ∧ Step S J M w S' J' M w' := by
  unfold wr at h
  split at h
  · rename_i cs ex hb
    replace h := chk_some.1 h; obtain ⟨⟨hl, hfit⟩, h⟩ := h
    cases h
    have hjd : ∃ vl, J b vl ≠ none := ⟨vl, by rw [hj]; simp⟩
    rcases I.blk b cs ex hb hjd with ⟨rfl, _, h0⟩ | ⟨blk', base', ps', arr, el, hj', hh, hsz, hps, hex, hc, hn⟩
    · simp at hl; rw [← hl, h0] at hj; cases hj
    · rw [hl, hj] at hj'; cases hj'
      have hul : us.toList.length = xs.length := by simpa using hx.1
      have hpl : ∀ v ∈ us.toList, v.plain := by
        intro v hv
        obtain ⟨k, hk⟩ := List.mem_iff_getElem?.1 hv
        have hkl := (List.getElem?_eq_some_iff.1 hk).1
        obtain ⟨cv, c1, c2, _⟩ := hx.2 k (xs[k]'(by omega)) (by simp)
        rw [Array.getElem?_toList] at hk
        rw [hk] at c1; cases c1; exact c2
      obtain ⟨arr', hrun, hs', hg⟩ := store_row (P := P) (o := base + off) hh hpl (by rw [hul, hsz]; omega)
      have hlen := splice_length (cs := cs) (off := off) (vs := xs) (by omega)
      obtain ⟨f1, f2⟩ := setRow_frame w blk arr'
      have hset := I.setb (w' := w.setRow blk arr') (cs' := splice cs off xs) (ex' := ex) (blk := blk) (base := base) (ps := p) (arr := arr') (el := el) hb hjd (by omega) (.inr (by rw [hlen, hl]; exact hj))
        (fun i hi hne => f1 i fun e => hne base p (by rw [e, hl]; exact hj)) (.inr ⟨base, p, by rw [hl]; exact hj⟩) (setRow_heap w blk arr arr' el (0, 0) hh) (by omega) (by omega) (fun e => by rw [hlen]; exact hex e)
        (fun k x hk => by
          rw [splice_get (by omega)] at hk
          rw [hg]
          by_cases hin : off ≤ k ∧ k < off + xs.length
          · rw [if_pos hin] at hk
            rw [if_pos (by rw [hul]; omega)]
            obtain ⟨cv, c1, c2, c3⟩ := hx.2 _ x hk
            exact ⟨cv, by rw [show base + k - (base + off) = k - off by omega, Array.getElem?_toList]; exact c1, c2, c3⟩
          · rw [if_neg hin] at hk
            rw [if_neg (by rw [hul]; omega)]
            exact hc k x hk) (by rw [f2]; exact Nat.le_refl _) rfl rfl rfl
      exact ⟨_, _, hrun, hset.1, hset.2⟩
  · cases h

theorem sim_store (hm : MidOk fid mid) {n : Nat} : Sim P fid mid R o (.store n) := by
  intro ps S S' J M w tm a v' hok I ht h
  cases hop : o.op <;> simp only [okOp, hop] at hok <;> try (cases hok)
  rename_i t oa ox
  simp only [Bool.and_eq_true] at hok
  obtain ⟨x, y, hx, h1, h2⟩ := okOpds2 hm ht hok.2
  rw [hx] at h
  cases x <;> simp only [opA] at h <;> try (cases h)
  rename_i b off vl
  replace h := chk_some.1 h; obtain ⟨⟨hw, hl⟩, h⟩ := h
  obtain ⟨S1, hwr, h⟩ := Option.bind_eq_some_iff.1 h
  cases h
  obtain ⟨blk, base, p, hj, e1⟩ := h1.mptr_inv
  obtain ⟨hc, _⟩ := cells_rep hw h2
  obtain ⟨J', w', hrun, I', st⟩ := wr_rep (P := P) I hwr hj hc
  refine ⟨undef, J', M, w', .inr ⟨?_, rfl⟩, I', st, ?_⟩
  · have hcs : (a.eval ox).cells.size = n := by rw [hc.1, hl]
    simp [execOp, hop, Instr.storeAt, Instr.sureAddr, e1, storeVar, szIs_run hok.1, hcs, hrun]
  · exact .tup [] #[] rfl (fun _ => default) (fun k x hx => by simp at hx) (fun k x hx => by simp at hx)

/-! ### Made slices -/
theorem flat_cells {es : List AV} {sz : Nat} {Q : Nat → AV → Prop} (h : ∀ (i : Nat) (e : AV), es[i]? = some e → e.cells.length = sz ∧ ∀ (k : Nat) (x : AV), e.cells[k]? = some x → Q (i * sz + k) x) :
    (es.flatMap AV.cells).length = es.length * sz ∧ ∀ (k : Nat) (x : AV), (es.flatMap AV.cells)[k]? = some x → Q k x := by
  have key : ∀ (es : List AV) (base : Nat), (∀ (i : Nat) (e : AV), es[i]? = some e → e.cells.length = sz ∧ ∀ (k : Nat) (x : AV), e.cells[k]? = some x → Q (base + i * sz + k) x) →
      (es.flatMap AV.cells).length = es.length * sz ∧ ∀ (k : Nat) (x : AV), (es.flatMap AV.cells)[k]? = some x → Q (base + k) x := by
    intro es
    induction es with
    | nil => intro base _; exact ⟨by simp, fun k x hx => by simp at hx⟩
    | cons e es ih =>
      intro base hq
      obtain ⟨h1, h2⟩ := hq 0 e rfl
      obtain ⟨h3, h4⟩ := ih (base + sz) (fun i e' he' => by
        obtain ⟨b1, b2⟩ := hq (i + 1) e' (by simpa using he')
        refine ⟨b1, fun k x hx => ?_⟩
        have := b2 k x hx
        rwa [Nat.succ_mul, show base + (i * sz + sz) + k = base + sz + i * sz + k by omega] at this)
      refine ⟨by simp only [List.flatMap_cons, List.length_append, h1, h3, List.length_cons, Nat.succ_mul]; omega, fun k x hx => ?_⟩
      rw [List.flatMap_cons] at hx
      by_cases hk : k < e.cells.length
      · rw [List.getElem?_append_left hk] at hx
        simpa using h2 k x hx
      · rw [List.getElem?_append_right (by omega), h1] at hx
        have := h4 _ x hx
        rwa [show base + sz + (k - sz) = base + k by omega] at this
  obtain ⟨k1, k2⟩ := key es 0 (fun i e he => by simpa using h i e he)
  exact ⟨k1, by simpa using k2⟩

theorem sim_mks (hm : MidOk fid mid) {sz by_ : Nat} {z : List AV} : Sim P fid mid R o (.mks sz by_ z) := by
  intro ps S S' J M w tm a v' hok I ht h
  cases hop : o.op <;> simp only [okOp, hop] at hok <;> try (cases hok)
  rename_i t ol oc
  simp only [Bool.and_eq_true] at hok
  obtain ⟨hty, h4⟩ := hok
  obtain ⟨x, y, hx, h1, h2⟩ := okOpds2 hm ht h4
  rw [hx] at h
  split at hty
  · rename_i e hu
    simp only [Bool.and_eq_true] at hty
    obtain ⟨⟨hs, hb⟩, hz⟩ := hty
    cases x <;> simp only [opA] at h <;> try (cases h)
    cases y <;> simp only at h <;> try (cases h)
    rename_i kl l kc c
    replace h := chk_some.1 h; obtain ⟨⟨h0, hlc, hroom, hpos, hbig, hzl⟩, h⟩ := h
    cases h
    have e1 := h1.int_inv
    have e2 := h2.int_inv
    obtain ⟨i, v, hi, hv, his, hvs, hE⟩ := zeros_rep (fid := fid) (J := J) (M := M) (len := c.toNat) (z := .agg z) (t := e) hz hs hzl hpos
    have hby : i.bytes = by_ := by
      unfold byIs at hb; rw [hi] at hb; simpa using hb
    have hrun := run_make (P := P) w t e i v hu hi hv kl kc l c h0 hlc (by
      unfold room at hroom
      have : ((c.toNat * by_ : Nat) : Int) ≤ 140737488355328 := by omega
      rw [Int.natCast_mul, Int.toNat_of_nonneg (by omega)] at this
      rw [hby, Int.mul_comm]; omega) (by omega)
    obtain ⟨c1, c2⟩ := hE.cells hpos
    have hfl : (List.replicate c.toNat (AV.agg z)).flatMap AV.cells = (List.replicate c.toNat z).flatten := by
      rw [List.flatMap_def, List.map_replicate]; rfl
    rw [hfl] at c1 c2
    rw [his] at hrun
    obtain ⟨I1, st⟩ := alloc_block (w1 := w.alloc (.cells (madeCells v.cells (c.toNat * sz)) e)) I (cs := (List.replicate c.toNat z).flatten) (ex := true) rfl rfl rfl rfl (by rw [c1]; exact Nat.le_refl _) (fun _ => by rw [c1]; rfl) c2
    have hsize : (madeCells v.cells (c.toNat * sz)).size = c.toNat * sz := size_madeCells _ _
    have hlen : ((List.replicate c.toNat z).flatten).length = c.toNat * sz := by rw [c1]; exact hsize
    rw [hlen] at I1 st
    refine ⟨.slice (some ⟨w.heap.size, 0, none⟩) l.toNat c.toNat, _, M, _, .inl (by simp [execOp, hop, e1, e2, hrun]), I1, st, ?_⟩
    exact ARep.msl S.length 0 l.toNat sz (c.toNat * sz) none w.heap.size 0 _ c.toNat _ (JMap.put_self ..) (by omega) (.inl ⟨rfl, by rw [hsize]; rfl⟩) (.inr rfl)
  · cases hty

/-! ### append -/
/-- What a slice holds. -/
theorem held_rep (I : Inv fid S J M w) {sz m : Nat} {x : AV} {xs : List AV} {cx : Value} (h : held S sz x = some (m, xs)) (r : ARep fid J M x cx) :
    ∃ ad c, cx = .slice ad m c ∧ m ≤ c ∧ xs.length = m * sz ∧ (m * sz = 0 ∨ ∃ blk off, ad = some ⟨blk, off, none⟩ ∧ ∀ (k : Nat) (y : AV), xs[k]? = some y → ∃ v : Value, w.cell? ⟨blk, off + k, none⟩ = some v ∧ v.plain ∧ ARep fid J M y v) := by
  unfold held at h
  split at h
  · replace h := chk_some.1 h; obtain ⟨rfl, h⟩ := h
    cases h
    obtain ⟨ad, c, rfl, hc, _, hq⟩ := r.sl_inv
    rcases hq with rfl | ⟨blk, off, rfl, hq⟩
    · exact ⟨ad, c, rfl, hc, by simp, .inl (by simp)⟩
    · obtain ⟨f1, f2⟩ := flat_cells (Q := fun k y => ∃ v : Value, w.cell? ⟨blk, off + k, none⟩ = some v ∧ v.plain ∧ ARep fid J M y v) (fun i e he => by
        obtain ⟨b1, b2⟩ := hq i e he
        refine ⟨b1, fun k y hy => ?_⟩
        obtain ⟨v, hv, hr⟩ := b2 k y hy
        obtain ⟨q1, q2⟩ := I.mem _ _ _ hv
        exact ⟨v, by rw [← Nat.add_assoc]; exact q1, q2, .fr hr⟩)
      exact ⟨_, c, rfl, hc, f1, .inr ⟨blk, off, rfl, f2⟩⟩
  · replace h := chk_some.1 h; obtain ⟨rfl, h⟩ := h
    cases h
    obtain ⟨blk, rfl, hq⟩ := r.tl_inv
    obtain ⟨f1, f2⟩ := flat_cells (Q := fun k y => ∃ v : Value, w.cell? ⟨blk, 0 + k, none⟩ = some v ∧ v.plain ∧ ARep fid J M y v) (fun i e he => by
      obtain ⟨b1, b2⟩ := hq i e he
      refine ⟨b1, fun k y hy => ?_⟩
      obtain ⟨v, hv, hr⟩ := b2 k y hy
      obtain ⟨q1, q2⟩ := I.mem _ _ _ hv
      exact ⟨v, by rw [Nat.zero_add]; exact q1, q2, hr⟩)
    exact ⟨_, _, rfl, Nat.le_refl _, f1, .inr ⟨blk, 0, rfl, f2⟩⟩
  · replace h := chk_some.1 h; obtain ⟨rfl, h⟩ := h
    obtain ⟨cs, hr, h⟩ := Option.bind_eq_some_iff.1 h
    cases h
    rcases r.msl_inv with ⟨blk, base, p, c, ad, hj, hn, hcap, had, rfl⟩ | ⟨rfl, rfl, rfl, _, hj, ad, rfl⟩
    · obtain ⟨l1, l2⟩ := I.rd hr hj
      refine ⟨ad, c, rfl, hn, l1, ?_⟩
      rcases had with rfl | rfl
      · left; have : _ = 0 := Nat.le_zero.1 hn; simp [this]
      · exact .inr ⟨blk, _, rfl, l2⟩
    · have := rd_virtual I hr
      subst this
      exact ⟨ad, 0, rfl, Nat.le_refl _, by simp, .inl (by simp)⟩
  · cases h

theorem news_of {m sz : Nat} {xs : List AV} (hl : xs.length = m * sz) {blk off : Nat} (h : ∀ (k : Nat) (y : AV), xs[k]? = some y → ∃ v : Value, w.cell? ⟨blk, off + k, none⟩ = some v ∧ v.plain ∧ ARep fid J M y v) :
    ∃ news : List Value, news.length = m * sz ∧ (∀ j v, news[j]? = some v → w.cell? ((⟨blk, off, none⟩ : Addr).add j) = some v) ∧ (∀ v ∈ news, v.plain) ∧ CRep fid J M xs news.toArray := by
  obtain ⟨cv, hq⟩ := choose_cells h
  refine ⟨(List.range (m * sz)).map cv, by simp, fun j v hv => ?_, fun v hv => ?_, by simp [hl], fun k x hx => ?_⟩
  · have hj : j < m * sz := by have := (List.getElem?_eq_some_iff.1 hv).1; simpa using this
    simp [hj] at hv
    subst hv
    rw [Addr.add_lit]
    exact (hq j xs[j] (by simp [hl, hj])).1
  · obtain ⟨j, hj, rfl⟩ := List.mem_map.1 hv
    have hj' : j < m * sz := by simpa using hj
    exact (hq j xs[j] (by simp [hl, hj'])).2.1
  · have hk : k < m * sz := by have := (List.getElem?_eq_some_iff.1 hx).1; omega
    exact ⟨cv k, by simp [hk], (hq k x hx).2.1, (hq k x hx).2.2⟩

theorem run_append_zero {t ty e : TypeId} {sz : Nat} (hu : P.underlying t = some (.slice e)) (hs : szIs P e sz = true) {ad ad' : Option Addr} {n c c' : Nat} (hn : n ≤ c) (w : World) :
    (Builtin.append_ #[t, t] ty #[.slice ad n c, .slice ad' 0 c']).run P w = .ok (.slice ad n c) w := by
  cases ad <;> cases ad' <;> simp [Builtin.append_, run_underlying hu, szIs_run hs, Builtin.lenOf, hn, Builtin.firstCells, loadCells, loadCellsFrom, storeCells]

theorem run_append_in {t ty e : TypeId} {i : TypeInfo} (hu : P.underlying t = some (.slice e)) (hi : P.info? e = some i) {g off n c : Nat} {cur : Array Value} {el : TypeId} (hg : w.heap[g]? = some (.cells cur el (0, 0)))
    {b : Addr} {m c' : Nat} {news : List Value} (hl : news.length = m * i.size) (hnews : ∀ j v, news[j]? = some v → w.cell? (b.add j) = some v) (hp : ∀ v ∈ news, v.plain) (hroom : n + m ≤ c) (hfit : off + n * i.size + news.length ≤ cur.size) :
    ∃ arr', (Builtin.append_ #[t, t] ty #[.slice (some ⟨g, off, none⟩) n c, .slice (some b) m c']).run P w = .ok (.slice (some ⟨g, off, none⟩) (n + m) c) (w.setRow g arr') ∧ arr'.size = cur.size ∧
      ∀ k, arr'[k]? = if off + n * i.size ≤ k ∧ k < off + n * i.size + news.length then news[k - (off + n * i.size)]? else cur[k]? := by
  obtain ⟨arr', h1, h2, h3⟩ := store_row (P := P) (o := off + n * i.size) hg hp hfit
  have hf := run_firstCells_some (P := P) w i.size m b m c' news hl hnews
  refine ⟨arr', ?_, h2, h3⟩
  simp [Builtin.append_, run_underlying hu, sizeOf, typeInfo, hi, Builtin.lenOf, hroom, hf, Addr.add_lit, h1]

/-- append that makes a new row. -/
theorem append_grown (I : Inv fid S J M w) {t ty e : TypeId} {sz by_ : Nat} (hu : P.underlying t = some (.slice e)) {i : TypeInfo} (hi : P.info? e = some i) (his : i.size = sz) (hib : i.bytes = by_) {z : Value} (hz : i.zero = some z) (hzs : z.cells.size = sz)
    (hpos : 0 < sz) (hbp : 0 < by_) {ad ad' : Option Addr} {n c m c' : Nat} {os xs : List AV} (hol : os.length = n * sz) (hxl : xs.length = m * sz) (hnc : n ≤ c) (hc0 : ad = none → c = 0) (hlt : c < n + m) (hm : 0 < m) (hroom : room (n + m) by_)
    (ho : n = 0 ∨ ∃ blk off, ad = some ⟨blk, off, none⟩ ∧ ∀ (k : Nat) (y : AV), os[k]? = some y → ∃ v : Value, w.cell? ⟨blk, off + k, none⟩ = some v ∧ v.plain ∧ ARep fid J M y v)
    (hx : ∃ blk off, ad' = some ⟨blk, off, none⟩ ∧ ∀ (k : Nat) (y : AV), xs[k]? = some y → ∃ v : Value, w.cell? ⟨blk, off + k, none⟩ = some v ∧ v.plain ∧ ARep fid J M y v) :
    ∃ arr cap, (Builtin.append_ #[t, t] ty #[.slice ad n c, .slice ad' m c']).run P w = .ok (.slice (some ⟨w.heap.size, 0, none⟩) (n + m) cap) (w.drew.alloc (.cells arr e)) ∧ n + m ≤ cap ∧ arr.size = cap * sz ∧ (os ++ xs).length ≤ arr.size ∧
      ∀ (k : Nat) (y : AV), (os ++ xs)[k]? = some y → ∃ v : Value, arr[k]? = some v ∧ v.plain ∧ ARep fid J M y v := by
  subst his; subst hib
  obtain ⟨xb, xo, rfl, hx⟩ := hx
  obtain ⟨news, n1, n2, n3, n4⟩ := news_of hxl hx
  unfold room at hroom
  have h63 : (n + m) ≤ 140737488355328 := Nat.le_trans (Nat.le_mul_of_pos_right _ hbp) hroom
  have hfit := growslice_fits (need := n + m) (old := c) (bytes := i.bytes) hlt hroom
  have fin : ∀ (olds : List Value) (old : Nat), olds.length = n * i.size → CRep fid J M os olds.toArray → old < n + m →
      n + m ≤ grownCap w (n + m) old e ∧ (olds.toArray ++ news.toArray ++ Builtin.zeroCells z.cells (grownCap w (n + m) old e - (n + m))).size = grownCap w (n + m) old e * i.size ∧
      (os ++ xs).length ≤ (olds.toArray ++ news.toArray ++ Builtin.zeroCells z.cells (grownCap w (n + m) old e - (n + m))).size ∧
      ∀ (k : Nat) (y : AV), (os ++ xs)[k]? = some y → ∃ v : Value, (olds.toArray ++ news.toArray ++ Builtin.zeroCells z.cells (grownCap w (n + m) old e - (n + m)))[k]? = some v ∧ v.plain ∧ ARep fid J M y v := by
    intro olds old ho1 ho2 hlt'
    have hge := grownCap_ge w (n + m) old e
    refine ⟨hge, ?_, ?_, fun k y hy => ?_⟩
    · simp only [Array.size_append, List.size_toArray, ho1, n1, size_zeroCells, hzs, ← Nat.add_mul]
      congr 1; omega
    · simp only [Array.size_append, List.size_toArray, ho1, n1, List.length_append, hol, hxl]; omega
    · by_cases hk : k < os.length
      · rw [List.getElem?_append_left hk] at hy
        obtain ⟨v, v1, v2, v3⟩ := ho2.2 k y hy
        refine ⟨v, ?_, v2, v3⟩
        rw [Array.append_assoc, Array.getElem?_append_left (by simp; omega)]
        exact v1
      · rw [List.getElem?_append_right (by omega)] at hy
        have hk2 : k - os.length < xs.length := (List.getElem?_eq_some_iff.1 hy).1
        obtain ⟨v, v1, v2, v3⟩ := n4.2 _ y hy
        refine ⟨v, ?_, v2, v3⟩
        rw [Array.append_assoc, Array.getElem?_append_right (by simp; omega), Array.getElem?_append_left (by simp; omega)]
        simp only [List.size_toArray, ho1]
        rw [← hol]; exact v1
  rcases Nat.eq_zero_or_pos n with hn0 | hnp
  · subst hn0
    have hos : os = [] := List.eq_nil_of_length_eq_zero (by simpa using hol)
    subst hos
    have hcr : CRep fid J M [] ([] : List Value).toArray := ⟨rfl, fun k x hx => by simp at hx⟩
    cases ad with
    | none =>
      have hc := hc0 rfl
      subst hc
      have hrun := run_append_nil (P := P) w t ty e i z hu hi hz ⟨xb, xo, none⟩ m c' news n1 n2 hm (by omega) (by simp only [Nat.zero_add] at hroom; omega)
      obtain ⟨f1, f2, f3, f4⟩ := fin [] 0 (by simp) hcr (by omega)
      simp only [Nat.zero_add] at f1 f2 f3 f4 ⊢
      refine ⟨_, _, hrun, f1, by simpa using f2, by simpa using f3, fun k y hy => by simpa using f4 k y hy⟩
    | some ad =>
      have hrun := run_append_grow (P := P) w t ty e i z hu hi hz ad 0 c [] (by simp) (fun j v hv => by simp at hv) ⟨xb, xo, none⟩ m c' news n1 n2 hlt (by omega) (by omega)
      obtain ⟨f1, f2, f3, f4⟩ := fin [] c (by simp) hcr hlt
      exact ⟨_, _, hrun, f1, f2, f3, f4⟩
  · obtain ⟨blk, off, rfl, ho'⟩ := ho.resolve_left (by omega)
    obtain ⟨olds, o1, o2, o3, o4⟩ := news_of hol ho'
    have hrun := run_append_grow (P := P) w t ty e i z hu hi hz ⟨blk, off, none⟩ n c olds o1 o2 ⟨xb, xo, none⟩ m c' news n1 n2 hlt (by omega) (by omega)
    obtain ⟨f1, f2, f3, f4⟩ := fin olds c o1 o4 hlt
    exact ⟨_, _, hrun, f1, f2, f3, f4⟩
end
end Go.AVM
