/- Regions whose operations may come in any order: the proof. -/
import Derived.Test.YtlpbjbgfgfjnlaaAvDraw
set_option linter.unusedVariables false
set_option linter.unusedSimpArgs false
set_option linter.unusedSectionVars false
namespace Go.AVM
section
variable {P : Program} {fid : Nat → FuncId} {mid : FuncId → Option Nat} {R : RunF} {S S' : Store} {J : JMap} {M : Mem} {w : World} {tm tm' : List AV} {a : Act} {ops : Array Oper} {rs : List ROp}

def unl (n : Nat) (listed : Array Bool) : Nat := (List.range n).countP fun i => !listed.getD i true
theorem countP_lt {α : Type} {p q : α → Bool} : ∀ {l : List α}, (∀ x ∈ l, q x = true → p x = true) → (∃ x ∈ l, p x = true ∧ q x = false) → l.countP q < l.countP p
  | [], _, h => by obtain ⟨x, hx, _⟩ := h; cases hx
  | y :: l, h, he => by
    have hle : l.countP q ≤ l.countP p := List.countP_mono_left fun x hx => h x (by simp [hx])
    rw [List.countP_cons, List.countP_cons]
    obtain ⟨x, hx, h1, h2⟩ := he
    rcases List.mem_cons.1 hx with rfl | hx
    · simp [h1, h2]; omega
    · have := countP_lt (fun x hx => h x (by simp [hx])) ⟨x, hx, h1, h2⟩
      have h3 := h y (by simp)
      cases hq : q y
      · simp; omega
      · simp [h3 hq]; omega
theorem unl_set {n : Nat} {listed : Array Bool} {i : Nat} (hi : i < n) (hn : listed.size = n) (h : listed.getD i true = false) : unl n (listed.setIfInBounds i true) < unl n listed := by
  refine countP_lt (fun x hx hq => ?_) ⟨i, List.mem_range.2 hi, by simpa using h, ?_⟩
  · by_cases hxi : i = x
    · subst hxi; simpa using h
    · rw [getD_set_ne true hxi] at hq; exact hq
  · simp [Array.getElem?_setIfInBounds_self_of_lt, hn, hi]

def Lst (listed : Array Bool) (i : Nat) : Prop := listed.getD i false = true
theorem lst_set {listed : Array Bool} {i j : Nat} (hi : i < listed.size) : Lst (listed.setIfInBounds i true) j ↔ Lst listed j ∨ j = i := by
  unfold Lst
  by_cases hij : i = j
  · subst hij; simp [Array.getElem?_setIfInBounds_self_of_lt, hi]
  · rw [getD_set_ne false hij]
    constructor
    · exact .inl
    · rintro (h | h)
      · exact h
      · exact absurd h.symm hij
theorem not_lst {listed : Array Bool} {j : Nat} (hj : j < listed.size) : listed.getD j true = false ↔ ¬ Lst listed j := by
  unfold Lst
  simp [Array.getElem?_eq_getElem hj]

/-- What comes before a listed operation is listed. -/
def Shut (ops : Array Oper) (listed : Array Bool) : Prop := ∀ (j : Nat) (o : Oper), ops[j]? = some o → Lst listed j → ∀ e ∈ bindsOf o, Lst listed e.on
theorem mem_binds {o : Oper} {e : Edge} : e ∈ bindsOf o ↔ e ∈ o.after ∧ Region.binds .any e = true := by
  unfold bindsOf; rw [List.mem_filter]; simp
theorem shut_clo {cl : List Nat} (hc : okClo cl 0 ops.toList = true) {listed : Array Bool} (hs : Shut ops listed) : ∀ (j : Nat) (o : Oper), ops[j]? = some o → (∀ e ∈ bindsOf o, Lst listed e.on) → ∀ i, (cl.getD j 0).testBit i = true → Lst listed i := by
  intro j
  induction j using Nat.strongRecOn with
  | _ j ih =>
    intro o ho hb i hi
    obtain ⟨h1, h2⟩ := okClo_get hc j o (by simpa using ho)
    rw [Nat.zero_add] at h1 h2
    rw [h1] at hi
    obtain ⟨e, he, hi⟩ := maskOf_bit hi
    have hl := hb e he
    rcases hi with hi | rfl
    · have hlt := h2 e he
      have hlt' : e.on < ops.size := by have := (Array.getElem?_eq_some_iff.1 ho).1; omega
      exact ih e.on hlt ops[e.on] (Array.getElem?_eq_getElem hlt') (hs e.on _ (Array.getElem?_eq_getElem hlt') hl) i hi
    · exact hl
theorem ready_all {cl : List Nat} (hc : okClo cl 0 ops.toList = true) {listed : Array Bool} (hn : listed.size = ops.size) (hr : Region.ready .any ops listed = []) : ∀ j, j < ops.size → Lst listed j := by
  intro j
  induction j using Nat.strongRecOn with
  | _ j ih =>
    intro hj
    refine Classical.byContradiction fun hl => ?_
    have hm : j ∈ Region.ready .any ops listed := by
      rw [mem_ready]
      refine ⟨(not_lst (by omega)).2 hl, ops[j], Array.getElem?_eq_getElem hj, fun e he hb => ?_⟩
      obtain ⟨_, h2⟩ := okClo_get hc j ops[j] (by simp)
      have := h2 e (mem_binds.2 ⟨he, hb⟩)
      exact ih e.on (by omega) (by omega)
    rw [hr] at hm
    cases hm

/-- How far the allocations reach. -/
theorem allocs_upto : ∀ {rs : List ROp}, allocsFirst rs = true → ∃ k, k ≤ rs.length ∧ ∀ (p : Nat) (r : ROp), rs[p]? = some r → (isAl r = true ↔ p < k)
  | [], _ => ⟨0, Nat.le_refl _, fun p r h => by simp at h⟩
  | r :: rs, h => by
    unfold allocsFirst at h
    split at h
    · rename_i hr
      obtain ⟨k, hk, hq⟩ := allocs_upto h
      refine ⟨k + 1, by simp; omega, fun p r' hp => ?_⟩
      cases p with
      | zero => simp at hp; subst hp; simp [hr]
      | succ p => rw [hq p r' (by simpa using hp)]; omega
    · rename_i hr
      refine ⟨0, Nat.zero_le _, fun p r' hp => ?_⟩
      cases p with
      | zero => simp at hp; subst hp; simp [hr]
      | succ p =>
        have := List.all_eq_true.1 h r' (List.mem_of_getElem? (by simpa using hp))
        simp only [Bool.not_eq_true'] at this
        simp [this]
theorem isAl_inv {r : ROp} (h : isAl r = true) : ∃ z, r.k = .alloc z ∧ r.g = none := by
  unfold isAl at h
  split at h
  · rename_i z h1 h2; exact ⟨z, h1, h2⟩
  · cases h
theorem allocs_run {st : Nat → St} {vl : Nat → AV} (hst : ∀ (p : Nat) (r : ROp), rs[p]? = some r → valR R r (st p).tm (st p).st = some (vl p, (st (p + 1)).st) ∧ (st (p + 1)).tm = put (st p).tm r.dst (vl p)) {k : Nat} (hk : k ≤ rs.length)
    (hal : ∀ (p : Nat) (r : ROp), rs[p]? = some r → (isAl r = true ↔ p < k)) : ∀ p, p ≤ k → ∃ bl, (st p).st = (st 0).st ++ bl ∧ bl.length = p ∧
      ∀ q, q < p → ∃ (r : ROp) (z : List AV), rs[q]? = some r ∧ r.k = .alloc z ∧ vl q = .mptr ((st 0).st.length + q) 0 z.length ∧ bl[q]? = some (.mu z true)
  | 0, _ => ⟨[], by simp, rfl, fun q hq => absurd hq (Nat.not_lt_zero _)⟩
  | p + 1, hp => by
    obtain ⟨bl, h1, h2, h3⟩ := allocs_run hst hk hal p (by omega)
    obtain ⟨r, hr⟩ : ∃ r, rs[p]? = some r := ⟨rs[p], List.getElem?_eq_getElem (by omega)⟩
    obtain ⟨z, hz, hg⟩ := isAl_inv ((hal p r hr).2 (by omega))
    obtain ⟨hv, _⟩ := hst p r hr
    unfold valR wants at hv
    rw [hg, hz] at hv
    simp only at hv
    generalize (r.args.map (·.ev (st p).tm)) = as at hv
    cases as with
    | cons x xs => simp [opA] at hv
    | nil =>
      simp only [opA, Option.some.injEq, Prod.mk.injEq] at hv
      obtain ⟨e1, e2⟩ := hv
      refine ⟨bl ++ [.mu z true], by rw [← e2, h1, List.append_assoc], by simp [h2], fun q hq => ?_⟩
      by_cases hqp : q = p
      · subst hqp
        refine ⟨r, z, hr, hz, ?_, ?_⟩
        · rw [← e1, h1, List.length_append, h2]
        · rw [List.getElem?_append_right (by omega), h2]; simp
      · obtain ⟨r', z', q1, q2, q3, q4⟩ := h3 q (by omega)
        exact ⟨r', z', q1, q2, q3, by rw [List.getElem?_append_left (by omega)]; exact q4⟩

theorem st_const {st : Nat → St} {vl : Nat → AV} (hst : ∀ (p : Nat) (r : ROp), rs[p]? = some r → valR R r (st p).tm (st p).st = some (vl p, (st (p + 1)).st) ∧ (st (p + 1)).tm = put (st p).tm r.dst (vl p)) {x : Nat} : ∀ {y : Nat}, x ≤ y → y ≤ rs.length →
    (∀ (q : Nat) (r : ROp), x ≤ q → q < y → rs[q]? = some r → r.k.cls ≠ .wrt) → (st y).st = (st x).st
  | y, hxy, hy, h => by
    rcases Nat.lt_or_ge x y with hlt | hge
    · obtain ⟨z, rfl⟩ : ∃ z, y = z + 1 := ⟨y - 1, by omega⟩
      obtain ⟨r, hr⟩ : ∃ r, rs[z]? = some r := ⟨rs[z], List.getElem?_eq_getElem (by omega)⟩
      have ih := st_const hst (x := x) (y := z) (by omega) (by omega) fun q r h1 h2 => h q r h1 (by omega)
      rw [← ih]
      obtain ⟨hv, _⟩ := hst z r hr
      have hw := h z r (by omega) (by omega) hr
      cases hc : r.k.cls with
      | free => exact (valR_free hc hv).1
      | rdr => exact valR_rdr hc hv
      | wrt => exact absurd hc hw
    · have : x = y := by omega
      rw [this]
theorem st_same {st : Nat → St} {vl : Nat → AV} (hst : ∀ (p : Nat) (r : ROp), rs[p]? = some r → valR R r (st p).tm (st p).st = some (vl p, (st (p + 1)).st) ∧ (st (p + 1)).tm = put (st p).tm r.dst (vl p)) {k x y : Nat} {D : Nat → Prop}
    (hx : k ≤ x) (hxl : x ≤ rs.length) (hy : k ≤ y) (hyl : y ≤ rs.length) (h1 : ∀ (q : Nat) (r : ROp), k ≤ q → rs[q]? = some r → r.k.cls = .wrt → (D q ↔ q < x)) (h2 : ∀ (q : Nat) (r : ROp), k ≤ q → rs[q]? = some r → r.k.cls = .wrt → (D q ↔ q < y)) : (st x).st = (st y).st := by
  rcases Nat.le_total x y with h | h
  · refine (st_const hst h hyl fun q r a b hr hw => ?_).symm
    have e1 := h1 q r (by omega) hr hw
    have e2 := h2 q r (by omega) hr hw
    have := e1.1 (e2.2 b); omega
  · refine st_const hst h hxl fun q r a b hr hw => ?_
    have e1 := h1 q r (by omega) hr hw
    have e2 := h2 q r (by omega) hr hw
    have := e2.1 (e1.2 b); omega

/-- An allocation, when its block is in the store already. -/
theorem alloc_wp {i : Nat} {o : Oper} {r : ROp} {Q : Exit → Act → World → Prop} (hi : ops[i]? = some o) (hok : okR P mid ops o r = true) {z : List AV} (hz : r.k = .alloc z) (hg : r.g = none) {S0 : Store} {J0 : JMap} {M0 : Mem} {w0 : World} (I : Inv fid S J M w) (hst : Step S0 J0 M0 w0 S J M w)
    {b : Nat} (hge : S0.length ≤ b) (hb : S[b]? = some (.mu z true)) (hJ : ∀ vl, J b vl = none) {K : Act → World → Prop}
    (hK : ∀ cv J' w', Inv fid S J' M w' → Step S0 J0 M0 w0 S J' M w' → J.le J' → (∀ b' vl, b' ≠ b → J' b' vl = J b' vl) → ARep fid J' M (.mptr b 0 z.length) cv → K (a.put o.dst cv) w') : wpOp P ops Q i K a w := by
  unfold okR at hok
  simp only [Bool.and_eq_true] at hok
  obtain ⟨⟨hd, hop⟩, hgd⟩ := hok
  have hog : o.guard = none := by
    unfold okGuard at hgd
    rw [hg] at hgd
    cases h : o.guard with
    | none => rfl
    | some x => rw [h] at hgd; cases hgd
  rw [hz] at hop
  unfold okOp at hop
  simp only at hop
  split at hop
  · rename_i t hot
    simp only [Bool.and_eq_true] at hop
    obtain ⟨ti, v, hti, hv, hsz, hzc⟩ := zeroIs_rep (fid := fid) (J := J) (M := M) hop.1
    unfold wpOp
    rw [hi]
    simp only [Region.wanted, hog, if_true]
    refine .inl ?_
    unfold Oper.wp
    have hrun : (execOp a.eval o).run P w = .ok (.value (.pointer (some ⟨w.heap.size, 0, none⟩))) (w.alloc (.cells v.cells t)) := by
      simp [execOp, hot, Instr.alloc, zeroValue, typeInfo, hti, hv, newVar, newRow]
    rw [hrun]
    have h1 : (w.alloc (.cells v.cells t)).heap = w.heap.push (.cells v.cells t (0, 0)) := rfl
    have hf : ∀ i, i < w.heap.size → (w.alloc (.cells v.cells t)).heap[i]? = w.heap[i]? := fun i hi => by rw [h1, Array.getElem?_push, if_neg (by omega)]
    have hs : w.heap.size ≤ (w.alloc (.cells v.cells t)).heap.size := by rw [h1]; simp
    have I1 := I.grow hf
    have hh : (w.alloc (.cells v.cells t)).heap[w.heap.size]? = some (.cells v.cells t (0, 0)) := by rw [h1]; simp
    have hnw : ¬ Wr S J w.heap.size := fun h => by have := I.wr_lt h; omega
    have hM : ∀ o, M w.heap.size o = none := fun o => by
      cases e : M w.heap.size o with
      | none => rfl
      | some v => have := I.mem_lt e; omega
    refine hK _ (J.put b z.length (some (w.heap.size, 0, v.cells.size))) _ (I1.regp hb hJ hh hnw hM (by simp) (by rw [hzc.1]; exact Nat.le_refl _) (fun _ => hzc.1) (by simpa using hzc.2)) ((hst.grow hf hs rfl rfl rfl).regp hb hJ hge hst.size)
      (JMap.put_le (.inl (hJ _))) (fun b' vl hne => by simp [JMap.put, hne]) (ARep.mptr _ 0 _ w.heap.size 0 _ (JMap.put_self ..))
  · cases hop

theorem draw_go (hm : MidOk fid mid) (hR : SoundR P fid R) {Q : Exit → Act → World → Prop} {ord cl : List Nat} (hc : okClo cl 0 ops.toList = true) (hat : okAt P mid ops ord rs = true) (hpr : okPairs cl rs ord = true) (hmem : ∀ i, i < ops.size ↔ i ∈ ord) (hnd : ord.Nodup)
    {st : Nat → St} {vl : Nat → AV} (hst : ∀ (p : Nat) (r : ROp), rs[p]? = some r → valR R r (st p).tm (st p).st = some (vl p, (st (p + 1)).st) ∧ (st (p + 1)).tm = put (st p).tm r.dst (vl p))
    {k : Nat} (hk : k ≤ rs.length) (hal : ∀ (p : Nat) (r : ROp), rs[p]? = some r → (isAl r = true ↔ p < k)) (h0t : (st 0).tm = tm)
    (hvl : ∀ q, q < k → ∃ (r : ROp) (z : List AV), rs[q]? = some r ∧ r.k = .alloc z ∧ vl q = .mptr (S.length + q) 0 z.length)
    (hK : ∀ a' J' M' w', a'.defers = a.defers → Inv fid (st rs.length).st J' M' w' → Step S J M w (st rs.length).st J' M' w' → TRep fid J' M' (st rs.length).tm a'.tmps → Q .normal a' w') :
    ∀ (fuel : Nat) (listed : Array Bool) (a' : Act) (w' : World) (tmD : List AV) (p : Nat) (J' : JMap) (M' : Mem), listed.size = ops.size → unl ops.size listed ≤ fuel → Shut ops listed → k ≤ p → p ≤ rs.length →
      (∀ (q : Nat) (r : ROp), k ≤ q → rs[q]? = some r → r.k.cls = .wrt → ((∃ i, ord[q]? = some i ∧ Lst listed i) ↔ q < p)) → Told rs vl (fun q => ∃ i, ord[q]? = some i ∧ Lst listed i) tm tmD → TRep fid J' M' tmD a'.tmps → Inv fid (st p).st J' M' w' →
      Step S J M w (st p).st J' M' w' → (∀ q, q < k → ¬ (∃ i, ord[q]? = some i ∧ Lst listed i) → (∀ vl, J' (S.length + q) vl = none) ∧ ∃ (r : ROp) (z : List AV), rs[q]? = some r ∧ r.k = .alloc z ∧ (st p).st[S.length + q]? = some (.mu z true)) → a'.defers = a.defers →
      wpAny P .any ops Q fuel listed a' w' := by
  have hlen := (okAt_get hat).1
  have hap : Apart rs := by
    intro p q r s hpq hr hs d hd hd'
    have hi : ∀ x, x < rs.length → ord[x]? = some ord[x]! := fun x hx => by rw [getElem!_pos ord x (by omega)]; exact List.getElem?_eq_getElem (by omega)
    have hp := (List.getElem?_eq_some_iff.1 hr).1
    have hq := (List.getElem?_eq_some_iff.1 hs).1
    rcases Nat.lt_or_gt_of_ne hpq with h | h
    · have := (okPairs_get hpr p q _ _ r s h hr (hi p hp) hs (hi q hq)).1
      simp [sameDst, hd, hd'] at this
    · have := (okPairs_get hpr q p _ _ s r h hs (hi q hq) hr (hi p hp)).1
      simp [sameDst, hd, hd'] at this
  have fin : ∀ (listed : Array Bool) (a' : Act) (w' : World) (tmD : List AV) (p : Nat) (J' : JMap) (M' : Mem), listed.size = ops.size → k ≤ p → p ≤ rs.length →
      (∀ (q : Nat) (r : ROp), k ≤ q → rs[q]? = some r → r.k.cls = .wrt → ((∃ i, ord[q]? = some i ∧ Lst listed i) ↔ q < p)) → Told rs vl (fun q => ∃ i, ord[q]? = some i ∧ Lst listed i) tm tmD → TRep fid J' M' tmD a'.tmps → Inv fid (st p).st J' M' w' →
      Step S J M w (st p).st J' M' w' → a'.defers = a.defers → Region.ready .any ops listed = [] → Q .normal a' w' := by
    intro listed a' w' tmD p J' M' hn hkp hp hw ht hr I st' hd hready
    have hall := ready_all hc hn hready
    have hD : ∀ (q : Nat) (r : ROp), rs[q]? = some r → ((∃ i, ord[q]? = some i ∧ Lst listed i) ↔ q < rs.length) := fun q r hq => by
      have hlt := (List.getElem?_eq_some_iff.1 hq).1
      refine ⟨fun _ => hlt, fun _ => ⟨ord[q]'(by omega), List.getElem?_eq_getElem (by omega), hall _ ((hmem _).2 (List.getElem_mem _))⟩⟩
    have he := ht.ext (h0t ▸ told_upto hap (fun p r h => (hst p r h).2) rs.length (Nat.le_refl _)) hD
    have hs := st_same hst hkp hp hk (Nat.le_refl _) hw fun q r _ hq _ => hD q r hq
    subst he
    rw [hs] at I st'
    exact hK a' J' M' w' hd I st' hr
  intro fuel
  induction fuel with
  | zero =>
    intro listed a' w' tmD p J' M' hn hu hsh hkp hp hw ht hr I st' hpend hd
    have hready : Region.ready .any ops listed = [] := by
      refine List.eq_nil_iff_forall_not_mem.2 fun j hj => ?_
      obtain ⟨h1, o, ho, _⟩ := mem_ready.1 hj
      have : 0 < unl ops.size listed := List.countP_pos_iff.2 ⟨j, List.mem_range.2 (Array.getElem?_eq_some_iff.1 ho).1, by simp [h1]⟩
      omega
    exact ⟨hready, fin listed a' w' tmD p J' M' hn hkp hp hw ht hr I st' hd hready⟩
  | succ fuel ih =>
    intro listed a' w' tmD p J' M' hn hu hsh hkp hp hw ht hr I st' hpend hd
    refine ⟨fin listed a' w' tmD p J' M' hn hkp hp hw ht hr I st' hd, fun i hi => ?_⟩
    obtain ⟨hi1, o, ho, hafter⟩ := mem_ready.1 hi
    have hib := (Array.getElem?_eq_some_iff.1 ho).1
    have hbinds : ∀ e ∈ bindsOf o, Lst listed e.on := fun e he => hafter e (mem_binds.1 he).1 (mem_binds.1 he).2
    obtain ⟨p', hp'⟩ := List.mem_iff_getElem?.1 ((hmem i).1 hib)
    have hp'l : p' < rs.length := by have := (List.getElem?_eq_some_iff.1 hp').1; omega
    obtain ⟨r, hr'⟩ : ∃ r, rs[p']? = some r := ⟨rs[p'], List.getElem?_eq_getElem hp'l⟩
    obtain ⟨o', ho', hok⟩ := (okAt_get hat).2 p' i r hp' hr'
    rw [ho] at ho'; cases ho'
    have hdst : o.dst = r.dst := by
      unfold okR at hok
      simp only [Bool.and_eq_true, beq_iff_eq] at hok
      exact hok.1.1
    have hni : ¬ Lst listed i := (not_lst (by omega)).1 hi1
    have hnp : ¬ ∃ i, ord[p']? = some i ∧ Lst listed i := by
      rintro ⟨j, hj, hl⟩
      rw [hp'] at hj; cases hj
      exact hni hl
    have hD' : ∀ q, (∃ j, ord[q]? = some j ∧ Lst (listed.setIfInBounds i true) j) ↔ (∃ j, ord[q]? = some j ∧ Lst listed j) ∨ q = p' := by
      intro q
      constructor
      · rintro ⟨j, hj, hl⟩
        rcases (lst_set (by omega)).1 hl with hl | rfl
        · exact .inl ⟨j, hj, hl⟩
        · right
          have h1 := (List.getElem?_eq_some_iff.1 hj).1
          have h2 := (List.getElem?_eq_some_iff.1 hp').1
          exact (List.getElem_inj hnd).1 ((List.getElem?_eq_some_iff.1 hj).2.trans (List.getElem?_eq_some_iff.1 hp').2.symm)
      · rintro (⟨j, hj, hl⟩ | rfl)
        · exact ⟨j, hj, (lst_set (by omega)).2 (.inl hl)⟩
        · exact ⟨i, hp', (lst_set (by omega)).2 (.inr rfl)⟩
    have hn' : (listed.setIfInBounds i true).size = ops.size := by simpa using hn
    have hu' : unl ops.size (listed.setIfInBounds i true) ≤ fuel := by have := unl_set hib hn hi1; omega
    have hsh' : Shut ops (listed.setIfInBounds i true) := by
      intro j oj hoj hl e he
      refine (lst_set (by omega)).2 (.inl ?_)
      rcases (lst_set (by omega)).1 hl with hl | rfl
      · exact hsh j oj hoj hl e he
      · rw [ho] at hoj; cases hoj; exact hbinds e he
    have hdep : ∀ (q : Nat) (s : ROp), rs[q]? = some s → dep s r = true → ((∃ j, ord[q]? = some j ∧ Lst listed j) ↔ q < p') := by
      intro q s hs hds
      have hql := (List.getElem?_eq_some_iff.1 hs).1
      have hq : ord[q]? = some (ord[q]'(by omega)) := List.getElem?_eq_getElem (by omega)
      rcases Nat.lt_trichotomy q p' with hlt | rfl | hgt
      · have hb := (okPairs_get hpr q p' _ _ s r hlt hs hq hr' hp').2 hds
        exact ⟨fun _ => hlt, fun _ => ⟨_, hq, shut_clo hc hsh i o ho hbinds _ hb⟩⟩
      · exact ⟨fun h => absurd h hnp, fun h => absurd h (Nat.lt_irrefl _)⟩
      · have hb := (okPairs_get hpr p' q _ _ r s hgt hr' hp' hs hq).2 (by rw [dep_comm]; exact hds)
        refine ⟨fun h => ?_, fun h => by omega⟩
        obtain ⟨j, hj, hl⟩ := h
        rw [hq] at hj; cases hj
        have hjn : ord[q]'(by omega) < ops.size := (hmem _).2 (List.getElem_mem _)
        exact absurd (shut_clo hc hsh _ _ (Array.getElem?_eq_getElem hjn) (hsh _ _ (Array.getElem?_eq_getElem hjn) hl) _ hb) hni
    have hput : ∀ (b : Act) (v : Value), (b.put o.dst v).defers = b.defers := fun b v => by unfold Act.put; split <;> rfl
    by_cases hpk : p' < k
    · -- an allocation
      obtain ⟨hJn, r2, z, hr2, hz, hb⟩ := hpend p' hpk hnp
      rw [hr'] at hr2; cases hr2
      obtain ⟨z', hz', hg⟩ := isAl_inv ((hal p' r hr').2 hpk)
      rw [hz] at hz'; cases hz'
      refine alloc_wp ho hok hz hg I st' (by omega) hb hJn fun cv J2 w2 I2 st2 hjle hjo hrep => ?_
      refine ih _ _ w2 _ p J2 M' hn' hu' hsh' hkp hp (fun q s hkq hs hc => ?_) (ht.put hap hr' hD') ?_ I2 st2 (fun q hq hnq => ?_) ((hput _ _).trans hd)
      · rw [hD' q, ← hw q s hkq hs hc]
        exact ⟨fun h => h.resolve_right (by omega), .inl⟩
      · obtain ⟨r3, z3, q1, q2, q3⟩ := hvl p' hpk
        rw [hr'] at q1; cases q1
        rw [hz] at q2; cases q2
        rw [q3, hdst]
        exact (hr.mono hjle fun _ _ _ h => h).put hrep
      · obtain ⟨h1, h2⟩ := hpend q hq fun h => hnq ((hD' q).2 (.inl h))
        have hqp : q ≠ p' := fun h => hnq ((hD' q).2 (.inr h))
        exact ⟨fun vl => by rw [hjo _ _ (by omega)]; exact h1 vl, h2⟩
    · -- any other
      have hnal : isAl r = false := by
        cases h : isAl r with
        | false => rfl
        | true => exact absurd ((hal p' r hr').1 h) hpk
      obtain ⟨hv, _⟩ := hst p' r hr'
      have htm : ∀ X, valR R r tmD X = valR R r (st p').tm X := fun X => valR_congr fun t htl => by
        refine ht.at (h0t ▸ told_upto hap (fun p r h => (hst p r h).2) p' (by omega)) fun q s hs hds => ?_
        refine hdep q s hs ?_
        unfold dep
        have : dstIn s.dst r.looks = true := by simp [dstIn, hds, htl]
        simp [this]
      rw [← htm] at hv
      have go : ∀ (S1 : Store) (p1 : Nat), valR R r tmD (st p).st = some (vl p', S1) → (st p1).st = S1 → k ≤ p1 → p1 ≤ rs.length → (∀ (q : Nat) (s : ROp), k ≤ q → rs[q]? = some s → s.k.cls = .wrt → ((∃ j, ord[q]? = some j ∧ Lst listed j) ∨ q = p' ↔ q < p1)) →
          wpOp P ops Q i (wpAny P .any ops Q fuel (listed.setIfInBounds i true)) a' w' := by
        intro S1 p1 hv1 hS1 hk1 hl1 hw1
        refine op_wp hm hR ho hok I hr hv1 fun cv J2 M2 w2 I2 st2 hrep => ?_
        rw [← hS1] at I2 st2
        refine ih _ _ w2 _ p1 J2 M2 hn' hu' hsh' hk1 hl1 (fun q s hkq hs hc => ?_) (ht.put hap hr' hD') ?_ I2 (st'.trans st2) (fun q hq hnq => ?_) ((hput _ _).trans hd)
        · rw [hD' q]; exact hw1 q s hkq hs hc
        · rw [hdst]
          exact (hr.mono st2.jle st2.mle).put hrep
        · obtain ⟨h1, r2, z, h2, h3, h4⟩ := hpend q hq fun h => hnq ((hD' q).2 (.inl h))
          obtain ⟨k1, k2⟩ := st2.keep (S.length + q) (List.getElem?_eq_some_iff.1 h4).1 h1
          exact ⟨k2, r2, z, h2, h3, by rw [k1]; exact h4⟩
      have hpw : r.k.cls ≠ .wrt → ∀ (q : Nat) (s : ROp), k ≤ q → rs[q]? = some s → s.k.cls = .wrt → ((∃ j, ord[q]? = some j ∧ Lst listed j) ∨ q = p' ↔ q < p) := by
        intro hne q s hkq hs hc
        rw [← hw q s hkq hs hc]
        refine ⟨fun h => h.resolve_right ?_, .inl⟩
        rintro rfl
        rw [hr'] at hs; cases hs
        exact hne hc
      by_cases hfree : r.k.cls = .free
      · obtain ⟨_, h2⟩ := valR_free hfree hv
        exact go _ p (h2 _) rfl hkp hp (hpw (by rw [hfree]; simp))
      · have hdw : ∀ (q : Nat) (s : ROp), k ≤ q → rs[q]? = some s → s.k.cls = .wrt → ((∃ j, ord[q]? = some j ∧ Lst listed j) ↔ q < p') := by
          intro q s hkq hs hc
          refine hdep q s hs ?_
          have hsn : isAl s = false := by
            cases h : isAl s with
            | false => rfl
            | true => have := (hal q s hs).1 h; omega
          unfold dep
          have h1 : (s.k.cls == Cls.wrt) = true := by simp [hc]
          have h2 : (r.k.cls != Cls.free) = true := by simpa using hfree
          simp [h1, h2, hnal, hsn]
        have hsame := st_same hst hkp hp (by omega) (Nat.le_of_lt hp'l) hw hdw
        rw [← hsame] at hv
        by_cases hwr : r.k.cls = .wrt
        · refine go _ (p' + 1) hv rfl (by omega) (by omega) fun q s hkq hs hc => ?_
          rw [hdw q s hkq hs hc]; omega
        · have hrd : r.k.cls = .rdr := by
            cases h : r.k.cls with
            | free => exact absurd h hfree
            | rdr => rfl
            | wrt => exact absurd h hwr
          have e := valR_rdr hrd hv
          exact go _ p (e ▸ hv) rfl hkp hp (hpw hwr)

/-- A region that draws its order. -/
theorem draw_wp (hm : MidOk fid mid) (hR : SoundR P fid R) {id : Nat} {Q : Exit → Act → World → Prop} (hfol : P.follows .mixedOrders = true) (hd : okDraw P mid ops rs = true) (I : Inv fid S J M w) (ht : TRep fid J M tm a.tmps) (h : runOps R rs ⟨tm, S⟩ = some ⟨tm', S'⟩)
    (hK : ∀ a' J' M' w', a'.defers = a.defers → Inv fid S' J' M' w' → Step S J M w S' J' M' w' → TRep fid J' M' tm' a'.tmps → Q .normal a' w') : (Code.region id ops true).wp P Q a w := by
  unfold okDraw at hd
  simp only [Bool.and_eq_true] at hd
  obtain ⟨⟨⟨hc, hat⟩, hpr⟩, haf⟩ := hd
  obtain ⟨hmem, hnd⟩ := ordOf_spec ops.toList
  obtain ⟨st, vl, h0, hn, hst⟩ := trace_of h
  obtain ⟨k, hk, hal⟩ := allocs_upto haf
  obtain ⟨bl, hb1, hb2, hb3⟩ := allocs_run hst hk hal k (Nat.le_refl _)
  rw [h0] at hb1 hb3
  have I0 : Inv fid (st k).st J M { w with drawn := w.drawn + 1 } := by
    rw [hb1]
    exact (I.pend bl).grow fun _ _ => rfl
  have st0 : Step S J M w (st k).st J M { w with drawn := w.drawn + 1 } := by
    rw [hb1]
    exact (Step.pend I bl).grow (fun _ _ => rfl) (Nat.le_refl _) rfl rfl rfl
  have hJ : ∀ q vl, J (S.length + q) vl = none := fun q vl => by
    cases e : J (S.length + q) vl with
    | none => rfl
    | some l => have := I.jlt (S.length + q) vl (by rw [e]; simp); omega
  have hnl : ∀ i, ¬ Lst (Array.replicate ops.size false) i := fun i h => by
    unfold Lst at h
    by_cases hi : i < ops.size
    · simp [Array.getElem?_replicate, hi] at h
    · simp [Array.getElem?_replicate, hi] at h
  refine wp_region_any hfol (draw_go (S := S) (J := J) (M := M) (w := w) (tm := tm) (a := a) hm hR hc hat hpr (by simpa using hmem) hnd hst hk hal (by rw [h0]) (fun q hq => let ⟨r, z, h1, h2, h3, _⟩ := hb3 q hq; ⟨r, z, h1, h2, h3⟩)
    (fun a' J' M' w' hd' I' st' hr' => hK a' J' M' w' hd' (by rw [hn] at I'; exact I') (by rw [hn] at st'; exact st') (by rw [hn] at hr'; exact hr')) ops.size _ a _ tm k J M (by simp) ?_ ?_ (Nat.le_refl _) hk ?_ ⟨rfl, ?_, fun _ _ => rfl⟩ ht I0 st0 ?_ rfl)
  · unfold unl
    exact Nat.le_trans List.countP_le_length (by simp)
  · intro j o _ hl
    exact absurd hl (hnl j)
  · intro q r hkq hr _
    refine ⟨fun ⟨i, _, hl⟩ => absurd hl (hnl i), fun h => by omega⟩
  · rintro q r _ ⟨i, _, hl⟩
    exact absurd hl (hnl i)
  · intro q hq _
    obtain ⟨r, z, h1, h2, h3, h4⟩ := hb3 q hq
    refine ⟨hJ q, r, z, h1, h2, ?_⟩
    rw [hb1, List.getElem?_append_right (by simp), show S.length + q - S.length = q by omega]
    exact h4
end
end Go.AVM
