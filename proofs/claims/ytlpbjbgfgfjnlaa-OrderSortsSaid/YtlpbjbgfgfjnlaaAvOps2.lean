/- Operations, one lemma a kind (first part: those that leave the store alone). -/
import Derived.Test.YtlpbjbgfgfjnlaaAvOps
import Derived.ChangeKeysEq
set_option linter.unusedVariables false
set_option linter.unusedSimpArgs false
set_option linter.unusedSectionVars false
namespace Go.AVM
section
variable {P : Program} {fid : Nat → FuncId} {mid : FuncId → Option Nat} {S S' : Store} {J : JMap} {M : Mem} {w : World} {tm : List AV} {a : Act} {o : Oper} {ps : List Opd} {v' : AV} {R : RunF}

def Sim (P : Program) (fid : Nat → FuncId) (mid : FuncId → Option Nat) (R : RunF) (o : Oper) (k : K) : Prop :=
  ∀ {ps : List Opd} {S S' : Store} {J : JMap} {M : Mem} {w : World} {tm : List AV} {a : Act} {v' : AV}, okOp P mid o.op k ps = true → Inv fid S J M w → TRep fid J M tm a.tmps →
    opA R k (ps.map (·.ev tm)) S = some (v', S') → Yields' P fid (fun w => (execOp a.eval o).run P w) S J M w v' S'

theorem sim_mv (hm : MidOk fid mid) : Sim P fid mid R o .mv := by
  intro ps S S' J M w tm a v' hok I ht h
  cases hop : o.op <;> simp only [okOp, hop] at hok <;> try (cases hok)
  all_goals
    obtain ⟨x, hx, hr⟩ := okOpds1 hm ht hok
    rw [hx] at h
    simp only [opA] at h
    cases h
    exact .same I (by simp [execOp, hop]) hr
theorem sim_pick (hm : MidOk fid mid) : Sim P fid mid R o .pick := by
  intro ps S S' J M w tm a v' hok I ht h
  cases hop : o.op <;> simp only [okOp, hop] at hok <;> try (cases hok)
  obtain ⟨x, y, z, hx, h1, h2, h3⟩ := okOpds3 hm ht hok
  rw [hx] at h
  cases x <;> simp only [opA] at h <;> cases h
  rename_i b
  have e := h1.bool_inv
  refine .same I (cv := if b then _ else _) (by simp [execOp, hop, e, asBool]; rfl) ?_
  cases b
  · exact h3
  · exact h2

/-- Cells that are read. -/
theorem load_rep {t : TypeId} {ag : Bool} {n : Nat} {cs : List AV} {blk o : Nat} {v' : AV} (ha : aggIs P t ag = true) (hs : szIs P t n = true) (h1 : (ag || n == 1) = true) (hl : cs.length = n)
    (hc : ∀ (k : Nat) (x : AV), cs[k]? = some x → ∃ v, w.cell? ⟨blk, o + k, none⟩ = some v ∧ v.plain ∧ ARep fid J M x v) (h : ofCells ag cs = some v') :
    ∃ cv, (loadVar t ⟨blk, o, none⟩).run P w = .ok cv w ∧ ARep fid J M v' cv := by
  obtain ⟨cv, hq⟩ := choose_cells hc
  cases ag with
  | true =>
    simp only [ofCells, if_true, Option.some.injEq] at h
    subst h
    have hrun := run_loadCells (P := P) w ⟨blk, o, none⟩ n cv (fun j hj => by
      have := (hq j cs[j] (by simp [hl, hj])).1
      rw [Addr.add_lit]; exact this)
    refine ⟨.agg ((List.range n).map cv).toArray, by simp [loadVar, aggIs_run ha, szIs_run hs, hrun], ?_⟩
    refine ARep.agg_mk (by simp [hl]) fun k x hx => ?_
    have hk : k < n := by have := (List.getElem?_eq_some_iff.1 hx).1; omega
    exact ⟨cv k, by simp [hk], (hq k x hx).2.1, (hq k x hx).2.2⟩
  | false =>
    have hn : n = 1 := by simpa using h1
    subst hn
    simp only [ofCells, Bool.false_eq_true, if_false] at h
    have h0 : cs[0]? = some v' := by rw [← h]; cases cs <;> simp
    obtain ⟨e1, e2, e3⟩ := hq 0 v' h0
    exact ⟨cv 0, by simp [loadVar, aggIs_run ha]; rw [show w.cell? ⟨blk, o, none⟩ = some (cv 0) from e1], e3⟩

theorem loadA_rep (I : Inv fid S J M w) {t : TypeId} {ag : Bool} {n : Nat} (ha : aggIs P t ag = true) (hs : szIs P t n = true) (h1 : (ag || n == 1) = true) {x v' : AV} {cx : Value} (hx : ARep fid J M x cx) (h : loadA S ag n x = some v') :
    ∃ ad cv, cx = .pointer (some ad) ∧ (loadVar t ad).run P w = .ok cv w ∧ ARep fid J M v' cv := by
  unfold loadA at h
  split at h
  · rename_i b off vl
    obtain ⟨cs, hr, h⟩ := Option.bind_eq_some_iff.1 h
    obtain ⟨blk, base, p, hj, rfl⟩ := hx.mptr_inv
    obtain ⟨hl, hc⟩ := I.rd hr hj
    obtain ⟨cv, h2, h3⟩ := load_rep (P := P) ha hs h1 hl hc h
    exact ⟨_, cv, rfl, h2, h3⟩
  · rename_i cs
    obtain ⟨hle, h⟩ := chk_some.1 h
    obtain ⟨blk, off, rfl, hc⟩ := hx.fptr_inv
    obtain ⟨cv, h2, h3⟩ := load_rep (P := P) (w := w) (fid := fid) (J := J) (M := M) (cs := cs.take n) (blk := blk) (o := off) ha hs h1 (by simp; omega) (fun k x hx => by
      have hk : k < n := by have := (List.getElem?_eq_some_iff.1 hx).1; simp at this; omega
      rw [List.getElem?_take_of_lt hk] at hx
      obtain ⟨v, hv, hr⟩ := hc k x hx
      obtain ⟨e1, e2⟩ := I.mem _ _ _ hv
      exact ⟨v, e1, e2, .fr hr⟩) h
    exact ⟨_, cv, rfl, h2, h3⟩
  · cases h
theorem sim_load (hm : MidOk fid mid) {ag : Bool} {n : Nat} : Sim P fid mid R o (.load ag n) := by
  intro ps S S' J M w tm a v' hok I ht h
  cases hop : o.op <;> simp only [okOp, hop] at hok <;> try (cases hok)
  simp only [Bool.and_eq_true] at hok
  obtain ⟨⟨⟨h1, h2⟩, h3⟩, h4⟩ := hok
  obtain ⟨x, hx, hr⟩ := okOpds1 hm ht h4
  rw [hx] at h
  simp only [opA] at h
  obtain ⟨v, hv, h⟩ := Option.bind_eq_some_iff.1 h
  cases h
  obtain ⟨ad, cv, e, hrun, hrep⟩ := loadA_rep (P := P) I h1 h2 h3 hr hv
  exact .same I (by simp [execOp, hop, Instr.loadAt, Instr.sureAddr, e, hrun]) hrep

theorem sim_nilChk (hm : MidOk fid mid) : Sim P fid mid R o .nilChk := by
  intro ps S S' J M w tm a v' hok I ht h
  cases hop : o.op <;> simp only [okOp, hop] at hok <;> try (cases hok)
  obtain ⟨x, hx, hr⟩ := okOpds1 hm ht hok
  rw [hx] at h
  cases x <;> simp only [opA] at h <;> cases h
  · obtain ⟨_, _, _, _, e⟩ := hr.mptr_inv
    exact .same I (cv := a.eval _) (by simp [execOp, hop, e]) hr
  · obtain ⟨_, _, e, _⟩ := hr.fptr_inv
    exact .same I (cv := a.eval _) (by simp [execOp, hop, e]) hr
  · obtain ⟨_, e, _⟩ := hr.fn_inv
    exact .same I (cv := a.eval _) (by simp [execOp, hop, e]) hr

theorem eqGuard_int (op : BinOp) (t : TypeId) (x y : Operand) (k q : IntKind) (m n : Int) : (eqGuard op t x y (.int k m) (.int q n)).run P w = .ok () w := by
  cases op <;> simp [eqGuard]
theorem sim_bin (hm : MidOk fid mid) {op : BinOp} : Sim P fid mid R o (.bin op) := by
  intro ps S S' J M w tm a v' hok I ht h
  cases hop : o.op <;> simp only [okOp, hop] at hok <;> try (cases hok)
  simp only [Bool.and_eq_true, beq_iff_eq] at hok
  obtain ⟨rfl, h4⟩ := hok
  obtain ⟨x, y, hx, h1, h2⟩ := okOpds2 hm ht h4
  rw [hx] at h
  simp only [opA] at h
  obtain ⟨v, hv, h⟩ := Option.bind_eq_some_iff.1 h
  cases h
  rename_i xt ox oy _
  obtain ⟨cv, hrun, hrep, k, m, q, n, e1, e2⟩ := run_binA (P := P) hv h1 h2 xt w
  refine .same I (cv := cv) ?_ (.fr hrep)
  rw [e1, e2] at hrun
  simp [execOp, hop, e1, e2, eqGuard_int, hrun]
theorem run_equal_bool {t : TypeId} (hu : P.underlying t = some .bool) (b c : Bool) (w : World) : (Op.equal t (.bool b) (.bool c)).run P w = .ok (b == c) w := by
  have : ∀ d, (Op.equalIn (d + 1) t (.bool b) (.bool c)).run P w = .ok (b == c) w := fun d => by simp [Op.equalIn, run_underlying hu]
  exact this 9999
theorem sim_eqb (hm : MidOk fid mid) {neg : Bool} : Sim P fid mid R o (.eqb neg) := by
  intro ps S S' J M w tm a v' hok I ht h
  cases hop : o.op <;> simp only [okOp, hop] at hok <;> try (cases hok)
  simp only [Bool.and_eq_true] at hok
  obtain ⟨⟨hb, hu⟩, h4⟩ := hok
  obtain ⟨x, y, hx, h1, h2⟩ := okOpds2 hm ht h4
  rw [hx] at h
  cases x <;> simp only [opA] at h <;> try (cases h)
  cases y <;> simp only [opA] at h <;> cases h
  rename_i bop xt ox oy _ b c
  have e1 := h1.bool_inv
  have e2 := h2.bool_inv
  have hu' : P.underlying xt = some .bool := by
    split at hu
    · assumption
    · cases hu
  cases neg
  · have : bop = BinOp.eql := by simpa using hb
    subst this
    exact .same I (cv := .bool (b == c)) (by simp [execOp, hop, e1, e2, eqGuard, binOp, run_equal_bool hu']) (.fr (.bool _))
  · have : bop = BinOp.neq := by simpa using hb
    subst this
    exact .same I (cv := .bool (b != c)) (by simp [execOp, hop, e1, e2, eqGuard, binOp, run_equal_bool hu']; cases b <;> cases c <;> rfl) (.fr (.bool _))

theorem eqcs_append {q : Option IntKind} {xs ys xs' ys' : List AV} (hl : xs.length = ys.length) : eqcs q (xs ++ xs') (ys ++ ys') = (eqcs q xs ys).bind fun b => (eqcs q xs' ys').bind fun c => some (b && c) := by
  induction xs generalizing ys with
  | nil =>
    cases ys with
    | nil => simp [eqcs]
    | cons y ys => simp at hl
  | cons x xs ih =>
    cases ys with
    | nil => simp at hl
    | cons y ys =>
      simp only [List.cons_append, eqcs, ih (by simpa using hl)]
      cases eqc q x y with
      | none => rfl
      | some b =>
        simp only [Option.bind_some]
        cases eqcs q xs ys with
        | none => rfl
        | some c =>
          simp only [Option.bind_some]
          cases eqcs q xs' ys' with
          | none => rfl
          | some d => simp [Bool.and_assoc]
/-- Cells told one by one. -/
def CRep (fid : Nat → FuncId) (J : JMap) (M : Mem) (xs : List AV) (vs : Array Value) : Prop := vs.size = xs.length ∧ ∀ (k : Nat) (x : AV), xs[k]? = some x → ∃ cv : Value, vs[k]? = some cv ∧ cv.plain ∧ ARep fid J M x cv
theorem CRep.extract {xs : List AV} {vs : Array Value} (h : CRep fid J M xs vs) (i n : Nat) (hl : i + n ≤ xs.length) : CRep fid J M ((xs.drop i).take n) (vs.extract i (i + n)) := by
  refine ⟨by simp [h.1]; omega, fun k x hx => ?_⟩
  have hk : k < n := by have := (List.getElem?_eq_some_iff.1 hx).1; simp at this; omega
  rw [List.getElem?_take_of_lt hk, List.getElem?_drop] at hx
  obtain ⟨cv, a1, a2, a3⟩ := h.2 _ x hx
  refine ⟨cv, ?_, a2, a3⟩
  rw [Array.getElem?_extract]
  have : k < min (i + n) vs.size - i := by rw [h.1]; omega
  rw [if_pos this]; exact a1
theorem part_rep {t : TypeId} {ag : Bool} {n off : Nat} {xs : List AV} {vs : Array Value} {v : AV} (ha : aggIs P t ag = true) (hs : szIs P t n = true) (h1 : (ag || n == 1) = true) (hx : CRep fid J M xs vs) (hl : off + n ≤ xs.length)
    (h : ofCells ag ((xs.drop off).take n) = some v) : ∃ cv, (part t vs off).run P w = .ok cv w ∧ ARep fid J M v cv := by
  cases ag with
  | true =>
    simp only [ofCells, if_true, Option.some.injEq] at h
    subst h
    obtain ⟨e1, e2⟩ := hx.extract off n hl
    exact ⟨.agg (vs.extract off (off + n)), by simp [part, aggIs_run ha, szIs_run hs], ARep.agg_mk e1 e2⟩
  | false =>
    have hn : n = 1 := by simpa using h1
    subst hn
    simp only [ofCells, Bool.false_eq_true, if_false] at h
    have h0 : xs[off]? = some v := by
      have hlt : off < xs.length := by omega
      rw [List.drop_eq_getElem_cons hlt] at h
      simp only [List.take_succ_cons, List.head?_cons, Option.some.injEq] at h
      simp [hlt, h]
    obtain ⟨cv, c1, c2, c3⟩ := hx.2 _ _ h0
    exact ⟨cv, by simp [part, aggIs_run ha, c1], c3⟩
theorem run_eqItems {q : Option IntKind} (d c : Nat) (e : TypeId) (w : World) {xs ys : List AV} {vs us : Array Value} (hx : CRep fid J M xs vs) (hy : CRep fid J M ys us)
    (step : ∀ i, (i + 1) * c ≤ xs.length → (i + 1) * c ≤ ys.length → ∀ b, eqcs q ((xs.drop (i * c)).take c) ((ys.drop (i * c)).take c) = some b →
      ∃ p r, (part e vs (i * c)).run P w = .ok p w ∧ (part e us (i * c)).run P w = .ok r w ∧ (Op.equalIn d e p r).run P w = .ok b w) :
    ∀ (n i : Nat) (b : Bool), (i + n) * c ≤ xs.length → (i + n) * c ≤ ys.length → eqcs q ((xs.drop (i * c)).take (n * c)) ((ys.drop (i * c)).take (n * c)) = some b →
      (Op.eqItems d e c vs us (List.range' i n)).run P w = .ok b w
  | 0, i, b, _, _, h => by simp [eqcs] at h; subst h; simp [Op.eqItems]
  | n + 1, i, b, hl1, hl2, h => by
    have hle : (i + 1) * c ≤ (i + (n + 1)) * c := Nat.mul_le_mul_right _ (by omega)
    have e1 : ∀ l : List AV, (l.drop (i * c)).take ((n + 1) * c) = (l.drop (i * c)).take c ++ (l.drop ((i + 1) * c)).take (n * c) := by
      intro l
      rw [Nat.succ_mul, Nat.add_comm (n * c) c, List.take_add, List.drop_drop, Nat.succ_mul i c]
    rw [e1, e1, eqcs_append (by simp; rw [Nat.succ_mul] at hle; omega)] at h
    cases hb1 : eqcs q ((xs.drop (i * c)).take c) ((ys.drop (i * c)).take c) with
    | none => rw [hb1] at h; cases h
    | some b1 =>
      rw [hb1] at h
      simp only [Option.bind_some] at h
      cases hb2 : eqcs q ((xs.drop ((i + 1) * c)).take (n * c)) ((ys.drop ((i + 1) * c)).take (n * c)) with
      | none => rw [hb2] at h; cases h
      | some b2 =>
        rw [hb2] at h
        simp only [Option.bind_some, Option.some.injEq] at h
        obtain ⟨p, r, r1, r2, r3⟩ := step i (by omega) (by omega) b1 hb1
        have ih := run_eqItems d c e w hx hy step n (i + 1) b2 (by rw [show i + 1 + n = i + (n + 1) by omega]; exact hl1) (by rw [show i + 1 + n = i + (n + 1) by omega]; exact hl2) hb2
        simp only [List.range'_succ, Op.eqItems, Sem.run_bind, r1, r2, r3, Result.andThen_ok]
        cases b1
        · simp at h; subst h; simp
        · simp at h; subst h; simpa using ih

theorem eqTy_agg {q : Option IntKind} {d : Nat} {t : TypeId} (h : eqTy P q d t = true) : aggIs P t true = true ∨ (aggIs P t false = true ∧ szIs P t 1 = true ∧ (q = none ∧ P.underlying t = some .bool ∨ ∃ k, q = some k ∧ P.underlying t = some (.int k))) := by
  cases d with
  | zero => simp [eqTy] at h
  | succ d =>
    unfold eqTy at h
    split at h
    · rename_i hu
      simp only [Bool.and_eq_true] at h
      exact .inr ⟨by simp [aggIs, hu], h.2, .inl ⟨by simpa using h.1, hu⟩⟩
    · rename_i k hu
      simp only [Bool.and_eq_true, beq_iff_eq] at h
      exact .inr ⟨by simp [aggIs, hu], h.2, .inr ⟨k, h.1, hu⟩⟩
    · rename_i n e hu
      exact .inl (by simp [aggIs, hu])
    · cases h
theorem szIs_fun {t : TypeId} {n m : Nat} (h : szIs P t n = true) (h' : szIs P t m = true) : n = m := by
  unfold szIs at h h'
  cases hi : P.info? t with
  | none => rw [hi] at h; cases h
  | some i => rw [hi] at h h'; simp at h h'; omega
theorem aggIs_fun {t : TypeId} {b c : Bool} (h : aggIs P t b = true) (h' : aggIs P t c = true) : b = c := by
  unfold aggIs at h h'
  cases hu : P.underlying t with
  | none => rw [hu] at h; cases h
  | some d => rw [hu] at h h'; cases d <;> simp_all

/-- A value of one type, its cells told. -/
def VRep (P : Program) (fid : Nat → FuncId) (J : JMap) (M : Mem) (t : TypeId) (xs : List AV) (v : Value) : Prop :=
  (aggIs P t true = true ∧ ∃ vs, v = .agg vs ∧ CRep fid J M xs vs) ∨ (aggIs P t false = true ∧ ∃ x, xs = [x] ∧ ARep fid J M x v)

theorem run_equalIn {q : Option IntKind} : ∀ (d f : Nat) (t : TypeId) (_ : d ≤ f) (xs ys : List AV) (b : Bool) (cx cy : Value), eqTy P q d t = true → eqcs q xs ys = some b →
    (∀ n, szIs P t n = true → xs.length = n ∧ ys.length = n) → VRep P fid J M t xs cx → VRep P fid J M t ys cy → (Op.equalIn f t cx cy).run P w = .ok b w
  | 0, _, _, _, _, _, _, _, _, he, _, _, _, _ => by simp [eqTy] at he
  | d + 1, 0, _, hd, _, _, _, _, _, _, _, _, _, _ => by omega
  | d + 1, f + 1, t, hd, xs, ys, b, cx, cy, he, hb, hsz, hx, hy => by
    rcases eqTy_agg he with ha | ⟨ha, hs, hq⟩
    · unfold eqTy at he
      split at he
      · rename_i hu; simp [aggIs, hu] at ha
      · rename_i k hu; simp [aggIs, hu] at ha
      · rename_i n e hu
        simp only [Bool.and_eq_true] at he
        obtain ⟨he, hse⟩ := he
        rcases hx with ⟨_, vs, rfl, hx⟩ | ⟨ha', _⟩
        · rcases hy with ⟨_, us, rfl, hy⟩ | ⟨ha', _⟩
          · cases hi : P.info? e with
            | none => rw [hi] at hse; cases hse
            | some i =>
              cases hj : P.info? t with
              | none => rw [hi, hj] at hse; cases hse
              | some j =>
                rw [hi, hj] at hse
                have hjs : j.size = n * i.size := by simpa using hse
                have hce : P.cellsOf e = i.size := by simp [Program.cellsOf, hi]
                have hl := hsz j.size (by simp [szIs, hj])
                rw [run_equalIn_array w f vs us hu hi, hce, List.range_eq_range']
                refine run_eqItems (q := q) f i.size e w hx hy (fun k h1 h2 b' hb' => ?_) n 0 b (by rw [Nat.zero_add]; omega) (by rw [Nat.zero_add]; omega) (by
                  rw [Nat.zero_mul, List.drop_zero, List.drop_zero, List.take_of_length_le (by omega), List.take_of_length_le (by omega)]; exact hb)
                have hsi : szIs P e i.size = true := by simp [szIs, hi]
                have hle : k * i.size + i.size ≤ xs.length := by rw [Nat.succ_mul] at h1; omega
                have hle' : k * i.size + i.size ≤ ys.length := by rw [Nat.succ_mul] at h2; omega
                have mk : ∀ {zs : List AV} {ws : Array Value}, k * i.size + i.size ≤ zs.length → CRep fid J M zs ws → ∃ p, (part e ws (k * i.size)).run P w = .ok p w ∧ VRep P fid J M e ((zs.drop (k * i.size)).take i.size) p := by
                  intro zs ws hz hc
                  rcases eqTy_agg he with hae | ⟨hae, hs1, _⟩
                  · obtain ⟨e1, e2⟩ := hc.extract (k * i.size) i.size hz
                    exact ⟨.agg (ws.extract (k * i.size) (k * i.size + i.size)), by simp [part, aggIs_run hae, szIs_run hsi], .inl ⟨hae, _, rfl, e1, e2⟩⟩
                  · have h1 := szIs_fun hsi hs1
                    rw [h1] at hz ⊢
                    obtain ⟨p, p1, p2⟩ := part_rep (P := P) (w := w) (ag := false) (n := 1) (off := k * 1) (v := zs[k * 1]'(by omega)) hae hs1 rfl hc hz (by
                      rw [List.drop_eq_getElem_cons (by omega)]; rfl)
                    exact ⟨p, p1, .inr ⟨hae, _, by rw [List.drop_eq_getElem_cons (by omega)]; rfl, p2⟩⟩
                obtain ⟨p, p1, p2⟩ := mk hle hx
                obtain ⟨r, r1, r2⟩ := mk hle' hy
                exact ⟨p, r, p1, r1, run_equalIn d f e (by omega) _ _ b' p r he hb' (fun m hm => by
                  have := szIs_fun hm hsi
                  subst this
                  constructor <;> simp <;> omega) p2 r2⟩
          · exact absurd (aggIs_fun ha ha') (by simp)
        · exact absurd (aggIs_fun ha ha') (by simp)
      · cases he
    · rcases hx with ⟨ha', _⟩ | ⟨_, x, rfl, hx⟩
      · exact absurd (aggIs_fun ha ha') (by simp)
      · rcases hy with ⟨ha', _⟩ | ⟨_, y, rfl, hy⟩
        · exact absurd (aggIs_fun ha ha') (by simp)
        · simp only [eqcs, Option.bind_some, Bool.and_true] at hb
          obtain ⟨b', hb', hb⟩ := Option.bind_eq_some_iff.1 hb
          cases hb
          unfold eqc at hb'
          split at hb' <;> try (cases hb')
          · rcases hq with ⟨_, hu⟩ | ⟨k, hk, _⟩
            · rw [hx.bool_inv, hy.bool_inv]; simp [Op.equalIn, run_underlying hu]
            · cases hk
          · obtain ⟨⟨rfl, rfl⟩, e⟩ := chk_some.1 hb'
            cases e
            rcases hq with ⟨hk, _⟩ | ⟨k, hk, hu⟩
            · cases hk
            · cases hk
              rw [hx.int_inv, hy.int_inv]; simp [Op.equalIn, run_underlying hu]
theorem sim_eqa (hm : MidOk fid mid) {neg : Bool} {q : Option IntKind} {n : Nat} : Sim P fid mid R o (.eqa neg q n) := by
  intro ps S S' J M w tm a v' hok I ht h
  cases hop : o.op <;> simp only [okOp, hop] at hok <;> try (cases hok)
  rename_i bop xt ox oy yt
  simp only [Bool.and_eq_true] at hok
  obtain ⟨⟨⟨⟨⟨hb, hty⟩, hag⟩, hsn⟩, hg⟩, h4⟩ := hok
  obtain ⟨x, y, hx, h1, h2⟩ := okOpds2 hm ht h4
  rw [hx] at h
  cases x <;> simp only [opA] at h <;> try (cases h)
  cases y <;> simp only [opA] at h <;> try (cases h)
  rename_i xs ys
  obtain ⟨⟨hl1, hl2⟩, h⟩ := chk_some.1 h
  obtain ⟨b, hb', h⟩ := Option.bind_eq_some_iff.1 h
  cases h
  obtain ⟨vs, e1, hc1⟩ := h1.agg_inv
  obtain ⟨us, e2, hc2⟩ := h2.agg_inv
  have hg' : P.eqGuardType P.depth xt = false := by simpa using hg
  have hsz : ∀ m, szIs P xt m = true → xs.length = m ∧ ys.length = m := fun m hm => by
    have := szIs_fun hm hsn
    omega
  have hrun : (Op.equal xt (.agg vs) (.agg us)).run P w = .ok b w :=
    run_equalIn 8 Op.maxDepth xt (by decide) xs ys b _ _ hty hb' hsz (.inl ⟨hag, vs, rfl, hc1⟩) (.inl ⟨hag, us, rfl, hc2⟩)
  cases neg
  · have : bop = BinOp.eql := by simpa using hb
    subst this
    exact .same I (cv := .bool b) (by simp [execOp, hop, e1, e2, run_eqGuard_agg (P := P) (w := w) _ xt ox oy vs us hg', binOp, hrun]) (.fr (.bool _))
  · have : bop = BinOp.neq := by simpa using hb
    subst this
    exact .same I (cv := .bool (!b)) (by simp [execOp, hop, e1, e2, run_eqGuard_agg (P := P) (w := w) _ xt ox oy vs us hg', binOp, hrun]) (.fr (.bool _))
end
end Go.AVM
