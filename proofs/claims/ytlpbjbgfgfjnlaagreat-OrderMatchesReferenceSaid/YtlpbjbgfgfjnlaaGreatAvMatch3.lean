/- Texts joined: AvDraw2, AvExec. -/
import Derived.Test.YtlpbjbgfgfjnlaaGreatAvMatch2
set_option linter.unusedVariables false
set_option linter.unusedSimpArgs false
set_option linter.unusedSectionVars false
namespace Go.AVM
section
variable {P : Program} {fid : Nat → FuncId} {mid : FuncId → Option Nat} {R : RunF} {S S' : Store} {J : JMap} {M : Mem} {w : World} {tm tm' : List AV} {a : Act} {ops : Array Oper} {rs : List ROp}
def unl (n : Nat) (listed : Array Bool) : Nat := (List.range n).countP fun i => !listed.getD i true
theorem countP_lt {α : Type} {p q : α → Bool} : ∀ {l : List α}, (∀ x ∈ l, q x = true → p x = true) → (∃ x ∈ l, p x = true ∧ q x = false) → l.countP q < l.countP p
  | [], _, h => by obtain ⟨x, hx, _⟩ := h; cases hx
  | y :: l, h, he => by
    have hle : l.countP q ≤ l.countP p := List.countP_mono_left fun x hx => h x (by simp [hx])
    rw [List.countP_cons, List.countP_cons]
    obtain ⟨x, hx, h1, h2⟩ := he
    rcases List.mem_cons.1 hx with rfl | hx
    · simp [h1, h2]; omega
    · have := countP_lt (fun x hx => h x (by simp [hx])) ⟨x, hx, h1, h2⟩
      have h3 := h y (by simp)
      cases hq : q y
      · simp; omega
      · simp [h3 hq]; omega
theorem unl_set {n : Nat} {listed : Array Bool} {i : Nat} (hi : i < n) (hn : listed.size = n) (h : listed.getD i true = false) : unl n (listed.setIfInBounds i true) < unl n listed := by
  refine countP_lt (fun x hx hq => ?_) ⟨i, List.mem_range.2 hi, by simpa using h, ?_⟩
  · by_cases hxi : i = x
    · subst hxi; simpa using h
    · rw [getD_set_ne true hxi] at hq; exact hq
  · simp [Array.getElem?_setIfInBounds_self_of_lt, hn, hi]
def Lst (listed : Array Bool) (i : Nat) : Prop := listed.getD i false = true
theorem lst_set {listed : Array Bool} {i j : Nat} (hi : i < listed.size) : Lst (listed.setIfInBounds i true) j ↔ Lst listed j ∨ j = i := by
  unfold Lst
  by_cases hij : i = j
  · subst hij; simp [Array.getElem?_setIfInBounds_self_of_lt, hi]
  · rw [getD_set_ne false hij]
    constructor
    · exact .inl
    · rintro (h | h)
      · exact h
      · exact absurd h.symm hij
theorem not_lst {listed : Array Bool} {j : Nat} (hj : j < listed.size) : listed.getD j true = false ↔ ¬ Lst listed j := by
  unfold Lst
  simp [Array.getElem?_eq_getElem hj]
def Shut (ops : Array Oper) (listed : Array Bool) : Prop := ∀ (j : Nat) (o : Oper), ops[j]? = some o → Lst listed j → ∀ e ∈ bindsOf o, Lst listed e.on
theorem mem_binds {o : Oper} {e : Edge} : e ∈ bindsOf o ↔ e ∈ o.after ∧ Region.binds .any e = true := by
  unfold bindsOf; rw [List.mem_filter]; simp
theorem shut_clo {cl : List Nat} (hc : okClo cl 0 ops.toList = true) {listed : Array Bool} (hs : Shut ops listed) : ∀ (j : Nat) (o : Oper), ops[j]? = some o → (∀ e ∈ bindsOf o, Lst listed e.on) → ∀ i, (cl.getD j 0).testBit i = true → Lst listed i := by
  intro j
  induction j using Nat.strongRecOn with
  | _ j ih =>
    intro o ho hb i hi
    obtain ⟨h1, h2⟩ := okClo_get hc j o (by simpa using ho)
    rw [Nat.zero_add] at h1 h2
    rw [h1] at hi
    obtain ⟨e, he, hi⟩ := maskOf_bit hi
    have hl := hb e he
    rcases hi with hi | rfl
    · have hlt := h2 e he
      have hlt' : e.on < ops.size := by have := (Array.getElem?_eq_some_iff.1 ho).1; omega
      exact ih e.on hlt ops[e.on] (Array.getElem?_eq_getElem hlt') (hs e.on _ (Array.getElem?_eq_getElem hlt') hl) i hi
    · exact hl
theorem ready_all {cl : List Nat} (hc : okClo cl 0 ops.toList = true) {listed : Array Bool} (hn : listed.size = ops.size) (hr : Region.ready .any ops listed = []) : ∀ j, j < ops.size → Lst listed j := by
  intro j
  induction j using Nat.strongRecOn with
  | _ j ih =>
    intro hj
    refine Classical.byContradiction fun hl => ?_
    have hm : j ∈ Region.ready .any ops listed := by
      rw [mem_ready]
      refine ⟨(not_lst (by omega)).2 hl, ops[j], Array.getElem?_eq_getElem hj, fun e he hb => ?_⟩
      obtain ⟨_, h2⟩ := okClo_get hc j ops[j] (by simp)
      have := h2 e (mem_binds.2 ⟨he, hb⟩)
      exact ih e.on (by omega) (by omega)
    rw [hr] at hm
    cases hm
theorem allocs_upto : ∀ {rs : List ROp}, allocsFirst rs = true → ∃ k, k ≤ rs.length ∧ ∀ (p : Nat) (r : ROp), rs[p]? = some r → (isAl r = true ↔ p < k)
  | [], _ => ⟨0, Nat.le_refl _, fun p r h => by simp at h⟩
  | r :: rs, h => by
    unfold allocsFirst at h
    split at h
    · rename_i hr
      obtain ⟨k, hk, hq⟩ := allocs_upto h
      refine ⟨k + 1, by simp; omega, fun p r' hp => ?_⟩
      cases p with
      | zero => simp at hp; subst hp; simp [hr]
      | succ p => rw [hq p r' (by simpa using hp)]; omega
    · rename_i hr
      refine ⟨0, Nat.zero_le _, fun p r' hp => ?_⟩
      cases p with
      | zero => simp at hp; subst hp; simp [hr]
      | succ p =>
        have := List.all_eq_true.1 h r' (List.mem_of_getElem? (by simpa using hp))
        simp only [Bool.not_eq_true'] at this
        simp [this]
theorem isAl_inv {r : ROp} (h : isAl r = true) : ∃ z, r.k = .alloc z ∧ r.g = none := by
  unfold isAl at h
  split at h
  · rename_i z h1 h2; exact ⟨z, h1, h2⟩
  · cases h
theorem allocs_run {st : Nat → St} {vl : Nat → AV} (hst : ∀ (p : Nat) (r : ROp), rs[p]? = some r → valR R r (st p).tm (st p).st = some (vl p, (st (p + 1)).st) ∧ (st (p + 1)).tm = put (st p).tm r.dst (vl p)) {k : Nat} (hk : k ≤ rs.length)
    (hal : ∀ (p : Nat) (r : ROp), rs[p]? = some r → (isAl r = true ↔ p < k)) : ∀ p, p ≤ k → ∃ bl, (st p).st = (st 0).st ++ bl ∧ bl.length = p ∧
      ∀ q, q < p → ∃ (r : ROp) (z : List AV), rs[q]? = some r ∧ r.k = .alloc z ∧ vl q = .mptr ((st 0).st.length + q) 0 z.length ∧ bl[q]? = some (.mu z true)
  | 0, _ => ⟨[], by simp, rfl, fun q hq => absurd hq (Nat.not_lt_zero _)⟩
  | p + 1, hp => by
    obtain ⟨bl, h1, h2, h3⟩ := allocs_run hst hk hal p (by omega)
    obtain ⟨r, hr⟩ : ∃ r, rs[p]? = some r := ⟨rs[p], List.getElem?_eq_getElem (by omega)⟩
    obtain ⟨z, hz, hg⟩ := isAl_inv ((hal p r hr).2 (by omega))
    obtain ⟨hv, _⟩ := hst p r hr
    unfold valR wants at hv
    rw [hg, hz] at hv
    simp only at hv
    generalize (r.args.map (·.ev (st p).tm)) = as at hv
    cases as with
    | cons x xs => simp [opA] at hv
    | nil =>
      simp only [opA, Option.some.injEq, Prod.mk.injEq] at hv
      obtain ⟨e1, e2⟩ := hv
      refine ⟨bl ++ [.mu z true], by rw [← e2, h1, List.append_assoc], by simp [h2], fun q hq => ?_⟩
      by_cases hqp : q = p
      · subst hqp
        refine ⟨r, z, hr, hz, ?_, ?_⟩
        · rw [← e1, h1, List.length_append, h2]
        · rw [List.getElem?_append_right (by omega), h2]; simp
      · obtain ⟨r', z', q1, q2, q3, q4⟩ := h3 q (by omega)
        exact ⟨r', z', q1, q2, q3, by rw [List.getElem?_append_left (by omega)]; exact q4⟩
theorem st_const {st : Nat → St} {vl : Nat → AV} (hst : ∀ (p : Nat) (r : ROp), rs[p]? = some r → valR R r (st p).tm (st p).st = some (vl p, (st (p + 1)).st) ∧ (st (p + 1)).tm = put (st p).tm r.dst (vl p)) {x : Nat} : ∀ {y : Nat}, x ≤ y → y ≤ rs.length →
    (∀ (q : Nat) (r : ROp), x ≤ q → q < y → rs[q]? = some r → r.k.cls ≠ .wrt) → (st y).st = (st x).st
  | y, hxy, hy, h => by
    rcases Nat.lt_or_ge x y with hlt | hge
    · obtain ⟨z, rfl⟩ : ∃ z, y = z + 1 := ⟨y - 1, by omega⟩
      obtain ⟨r, hr⟩ : ∃ r, rs[z]? = some r := ⟨rs[z], List.getElem?_eq_getElem (by omega)⟩
      have ih := st_const hst (x := x) (y := z) (by omega) (by omega) fun q r h1 h2 => h q r h1 (by omega)
      rw [← ih]
      obtain ⟨hv, _⟩ := hst z r hr
      have hw := h z r (by omega) (by omega) hr
      cases hc : r.k.cls with
      | free => exact (valR_free hc hv).1
      | rdr => exact valR_rdr hc hv
      | wrt => exact absurd hc hw
    · have : x = y := by omega
      rw [this]
theorem st_same {st : Nat → St} {vl : Nat → AV} (hst : ∀ (p : Nat) (r : ROp), rs[p]? = some r → valR R r (st p).tm (st p).st = some (vl p, (st (p + 1)).st) ∧ (st (p + 1)).tm = put (st p).tm r.dst (vl p)) {k x y : Nat} {D : Nat → Prop}
    (hx : k ≤ x) (hxl : x ≤ rs.length) (hy : k ≤ y) (hyl : y ≤ rs.length) (h1 : ∀ (q : Nat) (r : ROp), k ≤ q → rs[q]? = some r → r.k.cls = .wrt → (D q ↔ q < x)) (h2 : ∀ (q : Nat) (r : ROp), k ≤ q → rs[q]? = some r → r.k.cls = .wrt → (D q ↔ q < y)) : (st x).st = (st y).st := by
  rcases Nat.le_total x y with h | h
  · refine (st_const hst h hyl fun q r a b hr hw => ?_).symm
    have e1 := h1 q r (by omega) hr hw
    have e2 := h2 q r (by omega) hr hw
    have := e1.1 (e2.2 b); omega
  · refine st_const hst h hxl fun q r a b hr hw => ?_
    have e1 := h1 q r (by omega) hr hw
    have e2 := h2 q r (by omega) hr hw
    have := e2.1 (e1.2 b); omega
theorem alloc_wp {i : Nat} {o : Oper} {r : ROp} {Q : Exit → Act → World → Prop} (hi : ops[i]? = some o) (hok : okR P mid ops o r = true) {z : List AV} (hz : r.k = .alloc z) (hg : r.g = none) {S0 : Store} {J0 : JMap} {M0 : Mem} {w0 : World} (I : Inv fid S J M w) (hst : Step S0 J0 M0 w0 S J M w)
    {b : Nat} (hge : S0.length ≤ b) (hb : S[b]? = some (.mu z true)) (hJ : ∀ vl, J b vl = none) {K : Act → World → Prop}
    (hK : ∀ cv J' w', Inv fid S J' M w' → Step S0 J0 M0 w0 S J' M w' → J.le J' → (∀ b' vl, b' ≠ b → J' b' vl = J b' vl) → ARep fid J' M (.mptr b 0 z.length) cv → K (a.put o.dst cv) w') : wpOp P ops Q i K a w := by
  unfold okR at hok
  simp only [Bool.and_eq_true] at hok
  obtain ⟨⟨hd, hop⟩, hgd⟩ := hok
  have hog : o.guard = none := by
    unfold okGuard at hgd
    rw [hg] at hgd
    cases h : o.guard with
    | none => rfl
    | some x => rw [h] at hgd; cases hgd
  rw [hz] at hop
  unfold okOp at hop
  simp only at hop
  split at hop
  · rename_i t hot
    simp only [Bool.and_eq_true] at hop
    obtain ⟨ti, v, hti, hv, hsz, hzc⟩ := zeroIs_rep (fid := fid) (J := J) (M := M) hop.1
    unfold wpOp
    rw [hi]
    simp only [Region.wanted, hog, if_true]
    refine .inl ?_
    unfold Oper.wp
    have hrun : (execOp a.eval o).run P w = .ok (.value (.pointer (some ⟨w.heap.size, 0, none⟩))) (w.alloc (.cells v.cells t)) := by
      simp [execOp, hot, Instr.alloc, zeroValue, typeInfo, hti, hv, newVar, newRow]
    rw [hrun]
    have h1 : (w.alloc (.cells v.cells t)).heap = w.heap.push (.cells v.cells t (0, 0)) := rfl
    have hf : ∀ i, i < w.heap.size → (w.alloc (.cells v.cells t)).heap[i]? = w.heap[i]? := fun i hi => by rw [h1, Array.getElem?_push, if_neg (by omega)]
    have hs : w.heap.size ≤ (w.alloc (.cells v.cells t)).heap.size := by rw [h1]; simp
    have I1 := I.grow hf
    have hh : (w.alloc (.cells v.cells t)).heap[w.heap.size]? = some (.cells v.cells t (0, 0)) := by rw [h1]; simp
    have hnw : ¬ Wr S J w.heap.size := fun h => by have := I.wr_lt h; omega
    have hM : ∀ o, M w.heap.size o = none := fun o => by
      cases e : M w.heap.size o with
      | none => rfl
      | some v => have := I.mem_lt e; omega
    refine hK _ (J.put b z.length (some (w.heap.size, 0, v.cells.size))) _ (I1.regp hb hJ hh hnw hM (by simp) (by rw [hzc.1]; exact Nat.le_refl _) (fun _ => hzc.1) (by simpa using hzc.2)) ((hst.grow hf hs rfl rfl rfl).regp hb hJ hge hst.size)
      (JMap.put_le (.inl (hJ _))) (fun b' vl hne => by simp [JMap.put, hne]) (ARep.mptr _ 0 _ w.heap.size 0 _ (JMap.put_self ..))
  · cases hop
theorem draw_go (hm : MidOk fid mid) (hR : SoundR P fid R) {Q : Exit → Act → World → Prop} {ord cl : List Nat} (hc : okClo cl 0 ops.toList = true) (hat : okAt P mid ops ord rs = true) (hpr : okPairs cl rs ord = true) (hmem : ∀ i, i < ops.size ↔ i ∈ ord) (hnd : ord.Nodup)
    {st : Nat → St} {vl : Nat → AV} (hst : ∀ (p : Nat) (r : ROp), rs[p]? = some r → valR R r (st p).tm (st p).st = some (vl p, (st (p + 1)).st) ∧ (st (p + 1)).tm = put (st p).tm r.dst (vl p))
    {k : Nat} (hk : k ≤ rs.length) (hal : ∀ (p : Nat) (r : ROp), rs[p]? = some r → (isAl r = true ↔ p < k)) (h0t : (st 0).tm = tm)
    (hvl : ∀ q, q < k → ∃ (r : ROp) (z : List AV), rs[q]? = some r ∧ r.k = .alloc z ∧ vl q = .mptr (S.length + q) 0 z.length)
    (hK : ∀ a' J' M' w', a'.defers = a.defers → Inv fid (st rs.length).st J' M' w' → Step S J M w (st rs.length).st J' M' w' → TRep fid J' M' (st rs.length).tm a'.tmps → Q .normal a' w') :
    ∀ (fuel : Nat) (listed : Array Bool) (a' : Act) (w' : World) (tmD : List AV) (p : Nat) (J' : JMap) (M' : Mem), listed.size = ops.size → unl ops.size listed ≤ fuel → Shut ops listed → k ≤ p → p ≤ rs.length →
      (∀ (q : Nat) (r : ROp), k ≤ q → rs[q]? = some r → r.k.cls = .wrt → ((∃ i, ord[q]? = some i ∧ Lst listed i) ↔ q < p)) → Told rs vl (fun q => ∃ i, ord[q]? = some i ∧ Lst listed i) tm tmD → TRep fid J' M' tmD a'.tmps → Inv fid (st p).st J' M' w' →
      Step S J M w (st p).st J' M' w' → (∀ q, q < k → ¬ (∃ i, ord[q]? = some i ∧ Lst listed i) → (∀ vl, J' (S.length + q) vl = none) ∧ ∃ (r : ROp) (z : List AV), rs[q]? = some r ∧ r.k = .alloc z ∧ (st p).st[S.length + q]? = some (.mu z true)) → a'.defers = a.defers →
      wpAny P .any ops Q fuel listed a' w' := by
  have hlen := (okAt_get hat).1
  have hap : Apart rs := by
    intro p q r s hpq hr hs d hd hd'
    have hi : ∀ x, x < rs.length → ord[x]? = some ord[x]! := fun x hx => by rw [getElem!_pos ord x (by omega)]; exact List.getElem?_eq_getElem (by omega)
    have hp := (List.getElem?_eq_some_iff.1 hr).1
    have hq := (List.getElem?_eq_some_iff.1 hs).1
    rcases Nat.lt_or_gt_of_ne hpq with h | h
    · have := (okPairs_get hpr p q _ _ r s h hr (hi p hp) hs (hi q hq)).1
      simp [sameDst, hd, hd'] at this
    · have := (okPairs_get hpr q p _ _ s r h hs (hi q hq) hr (hi p hp)).1
      simp [sameDst, hd, hd'] at this
  have fin : ∀ (listed : Array Bool) (a' : Act) (w' : World) (tmD : List AV) (p : Nat) (J' : JMap) (M' : Mem), listed.size = ops.size → k ≤ p → p ≤ rs.length →
      (∀ (q : Nat) (r : ROp), k ≤ q → rs[q]? = some r → r.k.cls = .wrt → ((∃ i, ord[q]? = some i ∧ Lst listed i) ↔ q < p)) → Told rs vl (fun q => ∃ i, ord[q]? = some i ∧ Lst listed i) tm tmD → TRep fid J' M' tmD a'.tmps → Inv fid (st p).st J' M' w' →
      Step S J M w (st p).st J' M' w' → a'.defers = a.defers → Region.ready .any ops listed = [] → Q .normal a' w' := by
    intro listed a' w' tmD p J' M' hn hkp hp hw ht hr I st' hd hready
    have hall := ready_all hc hn hready
    have hD : ∀ (q : Nat) (r : ROp), rs[q]? = some r → ((∃ i, ord[q]? = some i ∧ Lst listed i) ↔ q < rs.length) := fun q r hq => by
      have hlt := (List.getElem?_eq_some_iff.1 hq).1
      refine ⟨fun _ => hlt, fun _ => ⟨ord[q]'(by omega), List.getElem?_eq_getElem (by omega), hall _ ((hmem _).2 (List.getElem_mem _))⟩⟩
    have he := ht.ext (h0t ▸ told_upto hap (fun p r h => (hst p r h).2) rs.length (Nat.le_refl _)) hD
    have hs := st_same hst hkp hp hk (Nat.le_refl _) hw fun q r _ hq _ => hD q r hq
    subst he
    rw [hs] at I st'
    exact hK a' J' M' w' hd I st' hr
  intro fuel
  induction fuel with
  | zero =>
    intro listed a' w' tmD p J' M' hn hu hsh hkp hp hw ht hr I st' hpend hd
    have hready : Region.ready .any ops listed = [] := by
      refine List.eq_nil_iff_forall_not_mem.2 fun j hj => ?_
      obtain ⟨h1, o, ho, _⟩ := mem_ready.1 hj
      have : 0 < unl ops.size listed := List.countP_pos_iff.2 ⟨j, List.mem_range.2 (Array.getElem?_eq_some_iff.1 ho).1, by simp [h1]⟩
      omega
    exact ⟨hready, fin listed a' w' tmD p J' M' hn hkp hp hw ht hr I st' hd hready⟩
  | succ fuel ih =>
    intro listed a' w' tmD p J' M' hn hu hsh hkp hp hw ht hr I st' hpend hd
    refine ⟨fin listed a' w' tmD p J' M' hn hkp hp hw ht hr I st' hd, fun i hi => ?_⟩
    obtain ⟨hi1, o, ho, hafter⟩ := mem_ready.1 hi
    have hib := (Array.getElem?_eq_some_iff.1 ho).1
    have hbinds : ∀ e ∈ bindsOf o, Lst listed e.on := fun e he => hafter e (mem_binds.1 he).1 (mem_binds.1 he).2
    obtain ⟨p', hp'⟩ := List.mem_iff_getElem?.1 ((hmem i).1 hib)
    have hp'l : p' < rs.length := by have := (List.getElem?_eq_some_iff.1 hp').1; omega
    obtain ⟨r, hr'⟩ : ∃ r, rs[p']? = some r := ⟨rs[p'], List.getElem?_eq_getElem hp'l⟩
    obtain ⟨o', ho', hok⟩ := (okAt_get hat).2 p' i r hp' hr'
    rw [ho] at ho'; cases ho'
    have hdst : o.dst = r.dst := by
      unfold okR at hok
      simp only [Bool.and_eq_true, beq_iff_eq] at hok
      exact hok.1.1
    have hni : ¬ Lst listed i := (not_lst (by omega)).1 hi1
    have hnp : ¬ ∃ i, ord[p']? = some i ∧ Lst listed i := by
      rintro ⟨j, hj, hl⟩
      rw [hp'] at hj; cases hj
      exact hni hl
    have hD' : ∀ q, (∃ j, ord[q]? = some j ∧ Lst (listed.setIfInBounds i true) j) ↔ (∃ j, ord[q]? = some j ∧ Lst listed j) ∨ q = p' := by
      intro q
      constructor
      · rintro ⟨j, hj, hl⟩
        rcases (lst_set (by omega)).1 hl with hl | rfl
        · exact .inl ⟨j, hj, hl⟩
        · right
          have h1 := (List.getElem?_eq_some_iff.1 hj).1
          have h2 := (List.getElem?_eq_some_iff.1 hp').1
          exact (List.getElem_inj hnd).1 ((List.getElem?_eq_some_iff.1 hj).2.trans (List.getElem?_eq_some_iff.1 hp').2.symm)
      · rintro (⟨j, hj, hl⟩ | rfl)
        · exact ⟨j, hj, (lst_set (by omega)).2 (.inl hl)⟩
        · exact ⟨i, hp', (lst_set (by omega)).2 (.inr rfl)⟩
    have hn' : (listed.setIfInBounds i true).size = ops.size := by simpa using hn
    have hu' : unl ops.size (listed.setIfInBounds i true) ≤ fuel := by have := unl_set hib hn hi1; omega
    have hsh' : Shut ops (listed.setIfInBounds i true) := by
      intro j oj hoj hl e he
      refine (lst_set (by omega)).2 (.inl ?_)
      rcases (lst_set (by omega)).1 hl with hl | rfl
      · exact hsh j oj hoj hl e he
      · rw [ho] at hoj; cases hoj; exact hbinds e he
    have hdep : ∀ (q : Nat) (s : ROp), rs[q]? = some s → dep s r = true → ((∃ j, ord[q]? = some j ∧ Lst listed j) ↔ q < p') := by
      intro q s hs hds
      have hql := (List.getElem?_eq_some_iff.1 hs).1
      have hq : ord[q]? = some (ord[q]'(by omega)) := List.getElem?_eq_getElem (by omega)
      rcases Nat.lt_trichotomy q p' with hlt | rfl | hgt
      · have hb := (okPairs_get hpr q p' _ _ s r hlt hs hq hr' hp').2 hds
        exact ⟨fun _ => hlt, fun _ => ⟨_, hq, shut_clo hc hsh i o ho hbinds _ hb⟩⟩
      · exact ⟨fun h => absurd h hnp, fun h => absurd h (Nat.lt_irrefl _)⟩
      · have hb := (okPairs_get hpr p' q _ _ r s hgt hr' hp' hs hq).2 (by rw [dep_comm]; exact hds)
        refine ⟨fun h => ?_, fun h => by omega⟩
        obtain ⟨j, hj, hl⟩ := h
        rw [hq] at hj; cases hj
        have hjn : ord[q]'(by omega) < ops.size := (hmem _).2 (List.getElem_mem _)
        exact absurd (shut_clo hc hsh _ _ (Array.getElem?_eq_getElem hjn) (hsh _ _ (Array.getElem?_eq_getElem hjn) hl) _ hb) hni
    have hput : ∀ (b : Act) (v : Value), (b.put o.dst v).defers = b.defers := fun b v => by unfold Act.put; split <;> rfl
    by_cases hpk : p' < k
    · -- an allocation
      obtain ⟨hJn, r2, z, hr2, hz, hb⟩ := hpend p' hpk hnp
      rw [hr'] at hr2; cases hr2
      obtain ⟨z', hz', hg⟩ := isAl_inv ((hal p' r hr').2 hpk)
      rw [hz] at hz'; cases hz'
      refine alloc_wp ho hok hz hg I st' (by omega) hb hJn fun cv J2 w2 I2 st2 hjle hjo hrep => ?_
      refine ih _ _ w2 _ p J2 M' hn' hu' hsh' hkp hp (fun q s hkq hs hc => ?_) (ht.put hap hr' hD') ?_ I2 st2 (fun q hq hnq => ?_) ((hput _ _).trans hd)
      · rw [hD' q, ← hw q s hkq hs hc]
        exact ⟨fun h => h.resolve_right (by omega), .inl⟩
      · obtain ⟨r3, z3, q1, q2, q3⟩ := hvl p' hpk
        rw [hr'] at q1; cases q1
        rw [hz] at q2; cases q2
        rw [q3, hdst]
        exact (hr.mono hjle fun _ _ _ h => h).put hrep
      · obtain ⟨h1, h2⟩ := hpend q hq fun h => hnq ((hD' q).2 (.inl h))
        have hqp : q ≠ p' := fun h => hnq ((hD' q).2 (.inr h))
        exact ⟨fun vl => by rw [hjo _ _ (by omega)]; exact h1 vl, h2⟩
    · -- any other
      have hnal : isAl r = false := by
        cases h : isAl r with
        | false => rfl
        | true => exact absurd ((hal p' r hr').1 h) hpk
      obtain ⟨hv, _⟩ := hst p' r hr'
      have htm : ∀ X, valR R r tmD X = valR R r (st p').tm X := fun X => valR_congr fun t htl => by
        refine ht.at (h0t ▸ told_upto hap (fun p r h => (hst p r h).2) p' (by omega)) fun q s hs hds => ?_
        refine hdep q s hs ?_
        unfold dep
        have : dstIn s.dst r.looks = true := by simp [dstIn, hds, htl]
        simp [this]
      rw [← htm] at hv
      have go : ∀ (S1 : Store) (p1 : Nat), valR R r tmD (st p).st = some (vl p', S1) → (st p1).st = S1 → k ≤ p1 → p1 ≤ rs.length → (∀ (q : Nat) (s : ROp), k ≤ q → rs[q]? = some s → s.k.cls = .wrt → ((∃ j, ord[q]? = some j ∧ Lst listed j) ∨ q = p' ↔ q < p1)) →
          wpOp P ops Q i (wpAny P .any ops Q fuel (listed.setIfInBounds i true)) a' w' := by
        intro S1 p1 hv1 hS1 hk1 hl1 hw1
        refine op_wp hm hR ho hok I hr hv1 fun cv J2 M2 w2 I2 st2 hrep => ?_
        rw [← hS1] at I2 st2
        refine ih _ _ w2 _ p1 J2 M2 hn' hu' hsh' hk1 hl1 (fun q s hkq hs hc => ?_) (ht.put hap hr' hD') ?_ I2 (st'.trans st2) (fun q hq hnq => ?_) ((hput _ _).trans hd)
        · rw [hD' q]; exact hw1 q s hkq hs hc
        · rw [hdst]
          exact (hr.mono st2.jle st2.mle).put hrep
        · obtain ⟨h1, r2, z, h2, h3, h4⟩ := hpend q hq fun h => hnq ((hD' q).2 (.inl h))
          obtain ⟨k1, k2⟩ := st2.keep (S.length + q) (List.getElem?_eq_some_iff.1 h4).1 h1
          exact ⟨k2, r2, z, h2, h3, by rw [k1]; exact h4⟩
      have hpw : r.k.cls ≠ .wrt → ∀ (q : Nat) (s : ROp), k ≤ q → rs[q]? = some s → s.k.cls = .wrt → ((∃ j, ord[q]? = some j ∧ Lst listed j) ∨ q = p' ↔ q < p) := by
        intro hne q s hkq hs hc
        rw [← hw q s hkq hs hc]
        refine ⟨fun h => h.resolve_right ?_, .inl⟩
        rintro rfl
        rw [hr'] at hs; cases hs
        exact hne hc
      by_cases hfree : r.k.cls = .free
      · obtain ⟨_, h2⟩ := valR_free hfree hv
        exact go _ p (h2 _) rfl hkp hp (hpw (by rw [hfree]; simp))
      · have hdw : ∀ (q : Nat) (s : ROp), k ≤ q → rs[q]? = some s → s.k.cls = .wrt → ((∃ j, ord[q]? = some j ∧ Lst listed j) ↔ q < p') := by
          intro q s hkq hs hc
          refine hdep q s hs ?_
          have hsn : isAl s = false := by
            cases h : isAl s with
            | false => rfl
            | true => have := (hal q s hs).1 h; omega
          unfold dep
          have h1 : (s.k.cls == Cls.wrt) = true := by simp [hc]
          have h2 : (r.k.cls != Cls.free) = true := by simpa using hfree
          simp [h1, h2, hnal, hsn]
        have hsame := st_same hst hkp hp (by omega) (Nat.le_of_lt hp'l) hw hdw
        rw [← hsame] at hv
        by_cases hwr : r.k.cls = .wrt
        · refine go _ (p' + 1) hv rfl (by omega) (by omega) fun q s hkq hs hc => ?_
          rw [hdw q s hkq hs hc]; omega
        · have hrd : r.k.cls = .rdr := by
            cases h : r.k.cls with
            | free => exact absurd h hfree
            | rdr => rfl
            | wrt => exact absurd h hwr
          have e := valR_rdr hrd hv
          exact go _ p (e ▸ hv) rfl hkp hp (hpw hwr)
theorem draw_wp (hm : MidOk fid mid) (hR : SoundR P fid R) {id : Nat} {Q : Exit → Act → World → Prop} (hfol : P.follows .mixedOrders = true) (hd : okDraw P mid ops rs = true) (I : Inv fid S J M w) (ht : TRep fid J M tm a.tmps) (h : runOps R rs ⟨tm, S⟩ = some ⟨tm', S'⟩)
    (hK : ∀ a' J' M' w', a'.defers = a.defers → Inv fid S' J' M' w' → Step S J M w S' J' M' w' → TRep fid J' M' tm' a'.tmps → Q .normal a' w') : (Code.region id ops true).wp P Q a w := by
  unfold okDraw at hd
  simp only [Bool.and_eq_true] at hd
  obtain ⟨⟨⟨hc, hat⟩, hpr⟩, haf⟩ := hd
  obtain ⟨hmem, hnd⟩ := ordOf_spec ops.toList
  obtain ⟨st, vl, h0, hn, hst⟩ := trace_of h
  obtain ⟨k, hk, hal⟩ := allocs_upto haf
  obtain ⟨bl, hb1, hb2, hb3⟩ := allocs_run hst hk hal k (Nat.le_refl _)
  rw [h0] at hb1 hb3
  have I0 : Inv fid (st k).st J M { w with drawn := w.drawn + 1 } := by
    rw [hb1]
    exact (I.pend bl).grow fun _ _ => rfl
  have st0 : Step S J M w (st k).st J M { w with drawn := w.drawn + 1 } := by
    rw [hb1]
    exact (Step.pend I bl).grow (fun _ _ => rfl) (Nat.le_refl _) rfl rfl rfl
  have hJ : ∀ q vl, J (S.length + q) vl = none := fun q vl => by
    cases e : J (S.length + q) vl with
    | none => rfl
    | some l => have := I.jlt (S.length + q) vl (by rw [e]; simp); omega
  have hnl : ∀ i, ¬ Lst (Array.replicate ops.size false) i := fun i h => by
    unfold Lst at h
    by_cases hi : i < ops.size
    · simp [Array.getElem?_replicate, hi] at h
    · simp [Array.getElem?_replicate, hi] at h
  refine wp_region_any hfol (draw_go (S := S) (J := J) (M := M) (w := w) (tm := tm) (a := a) hm hR hc hat hpr (by simpa using hmem) hnd hst hk hal (by rw [h0]) (fun q hq => let ⟨r, z, h1, h2, h3, _⟩ := hb3 q hq; ⟨r, z, h1, h2, h3⟩)
    (fun a' J' M' w' hd' I' st' hr' => hK a' J' M' w' hd' (by rw [hn] at I'; exact I') (by rw [hn] at st'; exact st') (by rw [hn] at hr'; exact hr')) ops.size _ a _ tm k J M (by simp) ?_ ?_ (Nat.le_refl _) hk ?_ ⟨rfl, ?_, fun _ _ => rfl⟩ ht I0 st0 ?_ rfl)
  · unfold unl
    exact Nat.le_trans List.countP_le_length (by simp)
  · intro j o _ hl
    exact absurd hl (hnl j)
  · intro q r hkq hr _
    refine ⟨fun ⟨i, _, hl⟩ => absurd hl (hnl i), fun h => by omega⟩
  · rintro q r _ ⟨i, _, hl⟩
    exact absurd hl (hnl i)
  · intro q hq _
    obtain ⟨r, z, h1, h2, h3, h4⟩ := hb3 q hq
    refine ⟨hJ q, r, z, h1, h2, ?_⟩
    rw [hb1, List.getElem?_append_right (by simp), show S.length + q - S.length = q by omega]
    exact h4
end
section
variable (P : Program) (mid : FuncId → Option Nat)
def isStuck : AC → Bool
  | .cond (.c .any) .skip .skip => true
  | _ => false
def okCode : Code → AC → Bool
  | .skip, .skip => true
  | .region _ ops d, .reg rs => if d then okDraw P mid ops rs else okRs P mid ops ops.toList rs
  | .seq a b, .seq x y => okCode a x && okCode b y
  | .cond c a b, .cond o x y => isStuck (.cond o x y) || (okOpd mid c o && okCode a x && okCode b y)
  | .block id b, .block id' y => id == id' && okCode b y
  | .loop b, .loop _ y => okCode b y
  | .exit id, .exit id' => id == id'
  | .ret, .ret => true
  | _, x => isStuck x
def okRes1 : ResultVar → ARes → Bool
  | .tmp t, .t i => t == i
  | .cell a t, .c i ag n => a == i && aggIs P t ag && szIs P t n && (ag || n == 1)
  | _, _ => false
def okRes : List ResultVar → List ARes → Bool
  | [], [] => true
  | v :: vs, x :: xs => okRes1 P v x && okRes vs xs
  | _, _ => false
def okF (fn : Func) (af : AF) : Bool :=
  (match fn.body with | some c => okCode P mid c af.body | none => false) && fn.ntmps == af.nt && okRes P fn.results.toList af.res && fn.name != "runtime.NumGoroutine"
end
section
variable {P : Program} {fid : Nat → FuncId} {mid : FuncId → Option Nat} {R : RunF} {S S' : Store} {J : JMap} {M : Mem} {w : World} {tm tm' : List AV} {a : Act} {ops : Array Oper} {rs : List ROp}
theorem ops_wp (hm : MidOk fid mid) (hR : SoundR P fid R) {Q : Exit → Act → World → Prop} : ∀ {os : List Oper} {rs : List ROp} {i : Nat}, okRs P mid ops os rs = true → (∀ k o, os[k]? = some o → ops[i + k]? = some o) → ∀ {S : Store} {J : JMap} {M : Mem} {w : World} {tm : List AV} {a : Act},
    Inv fid S J M w → TRep fid J M tm a.tmps → runOps R rs ⟨tm, S⟩ = some ⟨tm', S'⟩ →
    (∀ a' J' M' w', a'.defers = a.defers → Inv fid S' J' M' w' → Step S J M w S' J' M' w' → TRep fid J' M' tm' a'.tmps → Q .normal a' w') → wpOps P ops Q (List.range' i os.length) a w
  | [], [], i, _, _, S, J, M, w, tm, a, I, ht, h, hK => by
    simp only [runOps] at h; cases h
    exact hK a J M w rfl I (Step.refl ..) ht
  | o :: os, r :: rs, i, hok, hget, S, J, M, w, tm, a, I, ht, h, hK => by
    simp only [okRs, Bool.and_eq_true] at hok
    simp only [runOps] at h
    obtain ⟨s1, h1, h2⟩ := Option.bind_eq_some_iff.1 h
    rw [stepR_val] at h1
    obtain ⟨⟨v, S1⟩, hv, e⟩ := Option.bind_eq_some_iff.1 h1
    cases e
    rw [List.length_cons, List.range'_succ, wpOps_cons]
    refine op_wp hm hR (hget 0 o rfl) hok.1 I ht hv fun cv J1 M1 w1 I1 st1 hr => ?_
    have hd : o.dst = r.dst := by
      have := hok.1
      unfold okR at this
      simp only [Bool.and_eq_true, beq_iff_eq] at this
      exact this.1.1
    have hput : ∀ (b : Act) (v : Value), (b.put o.dst v).defers = b.defers := fun b v => by unfold Act.put; split <;> rfl
    refine ops_wp hm hR hok.2 (fun k o' hk => ?_) I1 (by rw [hd]; exact (ht.mono st1.jle st1.mle).put hr) h2 fun a' J' M' w' hd' I' st' hr' => ?_
    · have := hget (k + 1) o' (by simpa using hk)
      rw [show i + 1 + k = i + (k + 1) by omega]; exact this
    · exact hK a' J' M' w' (hd'.trans (hput _ _)) I' (st1.trans st') hr'
  | [], _ :: _, _, hok, _, _, _, _, _, _, _, _, _, _, _ => by simp [okRs] at hok
  | _ :: _, [], _, hok, _, _, _, _, _, _, _, _, _, _, _ => by simp [okRs] at hok
def LoopWp (P : Program) (c : Code) (Q : Exit → Act → World → Prop) (a : Act) (w : World) : Prop :=
  ∀ (b : Frame) (k : List Item) (cs : List Frame), ∃ e a' w', Q e a' w' ∧ Arrives P (lone (b.at a (.code c :: .inLoop c :: k)) cs w) b k cs e a' w'
theorem LoopWp.loop {c : Code} {Q : Exit → Act → World → Prop} (h : LoopWp P c Q a w) : (Code.loop c).wp P Q a w := fun b k cs =>
  let ⟨e, a', w', hq, harr⟩ := h b k cs
  ⟨e, a', w', hq, .of_steps (.one step_loop) harr⟩
theorem LoopWp.round {c : Code} {Q : Exit → Act → World → Prop} (h : c.wp P (Exit.then (LoopWp P c Q) Q) a w) : LoopWp P c Q a w := by
  intro b k cs
  obtain ⟨e, a₁, w₁, hq, harr⟩ := h b (.inLoop c :: k) cs
  cases e with
  | normal =>
    obtain ⟨e₂, a₂, w₂, hq₂, harr₂⟩ := hq b k cs
    exact ⟨e₂, a₂, w₂, hq₂, .of_steps (Steps.trans harr (.one step_inLoop)) harr₂⟩
  | exit id => exact ⟨_, a₁, w₁, hq, .pass (x := .inLoop c) rfl (fun _ _ => .inl (by simp)) harr⟩
  | goto l => exact ⟨_, a₁, w₁, hq, .pass (x := .inLoop c) rfl (fun _ _ => .inl (by simp)) harr⟩
  | ret => exact ⟨_, a₁, w₁, hq, .pass (x := .inLoop c) rfl (fun _ _ => .inl (by simp)) harr⟩
  | panic ch => exact ⟨_, a₁, w₁, hq, .pass (x := .inLoop c) rfl (fun _ _ => .inl (by simp)) harr⟩
  | outgrown => exact ⟨_, a₁, w₁, hq, .pass (x := .inLoop c) rfl (fun _ _ => .inl (by simp)) harr⟩
theorem mask_get : ∀ (live : List Bool) (vs : List AV) (i : Nat) (x : AV), (mask live vs)[i]? = some x → x = .any ∨ vs[i]? = some x
  | live, [], i, x, h => by cases live <;> simp [mask] at h
  | [], v :: vs, 0, x, h => by simp [mask] at h; exact .inl h.symm
  | [], v :: vs, i + 1, x, h => by simpa using mask_get [] vs i x (by simpa [mask] using h)
  | b :: bs, v :: vs, 0, x, h => by
    cases b <;> simp [mask] at h
    · exact .inl h.symm
    · exact .inr (by simpa using h)
  | b :: bs, v :: vs, i + 1, x, h => by simpa using mask_get bs vs i x (by simpa [mask] using h)
theorem mask_length : ∀ (live : List Bool) (vs : List AV), (mask live vs).length = vs.length
  | live, [] => by cases live <;> rfl
  | [], v :: vs => by simp [mask, mask_length [] vs]
  | b :: bs, v :: vs => by simp [mask, mask_length bs vs]
theorem TRep.mask (h : TRep fid J M tm a.tmps) (live : List Bool) : TRep fid J M (Go.AVM.mask live tm) a.tmps := by
  refine ⟨by rw [h.size, mask_length], fun i x hx => ?_⟩
  rcases mask_get live tm i x hx with rfl | hx'
  · have hi : i < a.tmps.size := by
      have := (List.getElem?_eq_some_iff.1 hx).1
      rw [mask_length] at this
      rw [h.size]; exact this
    exact ⟨a.tmps[i], Array.getElem?_eq_getElem hi, .any _⟩
  · exact h.at_ i x hx'
theorem head_sound {S0 : Store} {J0 : JMap} {M0 : Mem} {w0 : World} (I0 : Inv fid S0 J0 M0 w0) (st : Step S0 J0 M0 w0 S J M w) (I : Inv fid S J M w) (ht : TRep fid J M tm a.tmps) (live : List Bool) {s : St} (hs : head live S0.length ⟨tm, S⟩ = s) :
    ∃ J', Inv fid s.st J' M w ∧ Step S0 J0 M0 w0 s.st J' M w ∧ TRep fid J' M s.tm a.tmps := by
  unfold head at hs
  subst hs
  have hm := ht.mask live
  simp only
  unfold trunc
  split
  · rename_i h
    simp only [Bool.and_eq_true, List.all_eq_true] at h
    refine ⟨J.cut S0.length, I.cut (by rw [List.all_eq_true]; exact h.2), st.cut I0, hm.size, fun i x hx => ?_⟩
    obtain ⟨v, hv, hr⟩ := hm.at_ i x hx
    exact ⟨v, hv, lt1_rep (h.1 x (List.mem_of_getElem? hx)) hr⟩
  · exact ⟨J, I, st, hm⟩
def ofFlow : Flow → Exit
  | .nrm => .normal
  | .ex id => .exit id
  | .ret => .ret
def Ends (fid : Nat → FuncId) (S : Store) (J : JMap) (M : Mem) (w : World) (a : Act) (fl : Flow) (s : St) (Q : Exit → Act → World → Prop) : Prop :=
  ∀ a' J' M' w', a'.defers = a.defers → Inv fid s.st J' M' w' → Step S J M w s.st J' M' w' → TRep fid J' M' s.tm a'.tmps → Q (ofFlow fl) a' w'
theorem stuck_none {x : AC} (h : isStuck x = true) {R : RunF} {it : IterF} {s : St} : exec R it x s = none := by
  unfold isStuck at h
  split at h
  · rfl
  · cases h
theorem exec_sound (hm : MidOk fid mid) (hR : SoundR P fid R) (hfol : P.follows .mixedOrders = true) : ∀ (x : AC) (c : Code), okCode P mid c x = true → ∀ {S : Store} {J : JMap} {M : Mem} {w : World} {tm : List AV} {a : Act} {fl : Flow} {s : St} {Q : Exit → Act → World → Prop},
    Inv fid S J M w → TRep fid J M tm a.tmps → exec R iter x ⟨tm, S⟩ = some (fl, s) → Ends fid S J M w a fl s Q → c.wp P Q a w := by
  intro x
  induction x with
  | skip =>
    intro c hok S J M w tm a fl s Q I ht h hK
    cases c <;> simp [okCode, isStuck] at hok
    simp only [exec] at h; cases h
    exact wp_skip (hK a J M w rfl I (Step.refl ..) ht)
  | reg rs =>
    intro c hok S J M w tm a fl s Q I ht h hK
    cases c <;> simp only [okCode, isStuck] at hok <;> try (cases hok; done)
    rename_i id ops d
    simp only [exec] at h
    obtain ⟨s', h1, h2⟩ := Option.bind_eq_some_iff.1 h
    cases h2
    cases d with
    | true =>
      rw [if_pos rfl] at hok
      exact draw_wp (tm' := s.tm) (S' := s.st) hm hR hfol hok I ht h1 hK
    | false =>
      rw [if_neg (by simp)] at hok
      refine wp_region ?_
      rw [List.range_eq_range', ← Array.length_toList]
      exact ops_wp (tm' := s.tm) (S' := s.st) hm hR hok (fun k o hk => by simpa using hk) I ht h1 hK
  | seq p q ihp ihq =>
    intro c hok S J M w tm a fl s Q I ht h hK
    cases c <;> simp only [okCode, isStuck] at hok <;> try (cases hok; done)
    simp only [Bool.and_eq_true] at hok
    simp only [exec] at h
    obtain ⟨⟨fl1, s1⟩, h1, h2⟩ := Option.bind_eq_some_iff.1 h
    refine wp_seq (ihp _ hok.1 I ht h1 fun a' J' M' w' hd I' st' ht' => ?_)
    cases fl1 with
    | nrm => exact ihq _ hok.2 I' ht' h2 fun a2 J2 M2 w2 hd2 I2 st2 ht2 => hK a2 J2 M2 w2 (hd2.trans hd) I2 (st'.trans st2) ht2
    | ex id => simp only [afterFlow] at h2; cases h2; exact hK a' J' M' w' hd I' st' ht'
    | ret => simp only [afterFlow] at h2; cases h2; exact hK a' J' M' w' hd I' st' ht'
  | cond o p q ihp ihq =>
    intro c hok S J M w tm a fl s Q I ht h hK
    have hns : isStuck (.cond o p q) = false := by
      cases hh : isStuck (.cond o p q) with
      | false => rfl
      | true => rw [stuck_none hh] at h; cases h
    cases c <;> simp only [okCode, hns] at hok <;> try (cases hok; done)
    simp only [Bool.false_or, Bool.and_eq_true] at hok
    obtain ⟨⟨h1, h2⟩, h3⟩ := hok
    have hr := okOpd_rep hm ht h1
    simp only [exec] at h
    split at h
    · rename_i e; rw [e] at hr
      exact wp_cond_true hr.bool_inv (ihp _ h2 I ht h hK)
    · rename_i e; rw [e] at hr
      exact wp_cond_false hr.bool_inv (ihq _ h3 I ht h hK)
    · cases h
  | block id p ihp =>
    intro c hok S J M w tm a fl s Q I ht h hK
    cases c <;> simp only [okCode, isStuck] at hok <;> try (cases hok; done)
    simp only [Bool.and_eq_true, beq_iff_eq] at hok
    obtain ⟨rfl, hok⟩ := hok
    simp only [exec] at h
    obtain ⟨⟨fl1, s1⟩, h1, h2⟩ := Option.bind_eq_some_iff.1 h
    refine wp_block (ihp _ hok I ht h1 fun a' J' M' w' hd I' st' ht' => ?_)
    cases fl1 with
    | nrm => cases h2; exact hK a' J' M' w' hd I' st' ht'
    | ret => cases h2; exact hK a' J' M' w' hd I' st' ht'
    | ex i =>
      simp only [ofFlow, Exit.inBlock]
      simp only [catchEx, Option.some.injEq] at h2
      split at h2
      · rename_i hi; rw [if_pos hi]; cases h2; exact hK a' J' M' w' hd I' st' ht'
      · rename_i hi; rw [if_neg hi]; cases h2; exact hK a' J' M' w' hd I' st' ht'
  | loop live p ihp =>
    intro c hok S J M w tm a fl s Q I ht h hK
    cases c <;> simp only [okCode, isStuck] at hok <;> try (cases hok; done)
    rename_i c
    simp only [exec] at h
    obtain ⟨n, hn⟩ := iter_some.1 h
    refine LoopWp.loop ?_
    have key : ∀ (n : Nat) {S1 : Store} {J1 : JMap} {M1 : Mem} {w1 : World} {tm1 : List AV} {a1 : Act}, a1.defers = a.defers → Inv fid S1 J1 M1 w1 → Step S J M w S1 J1 M1 w1 → TRep fid J1 M1 tm1 a1.tmps →
        iterN n (fun s' => exec R iter p (head live S.length s')) ⟨tm1, S1⟩ = some (fl, s) → LoopWp P c Q a1 w1 := by
      intro n
      induction n with
      | zero => intro S1 J1 M1 w1 tm1 a1 hd I1 st1 ht1 h; simp [iterN] at h
      | succ n ih =>
        intro S1 J1 M1 w1 tm1 a1 hd I1 st1 ht1 h
        simp only [iterN] at h
        obtain ⟨⟨fl1, s1⟩, h1, h2⟩ := Option.bind_eq_some_iff.1 h
        obtain ⟨J2, I2, st2, ht2⟩ := head_sound I st1 I1 ht1 live rfl
        refine LoopWp.round (ihp _ hok I2 ht2 h1 fun a' J' M' w' hd' I' st' ht' => ?_)
        cases fl1 with
        | nrm => exact ih (hd'.trans hd) I' (st2.trans st') ht' h2
        | ex i => simp only [afterFlow] at h2; cases h2; exact hK a' J' M' w' (hd'.trans hd) I' (st2.trans st') ht'
        | ret => simp only [afterFlow] at h2; cases h2; exact hK a' J' M' w' (hd'.trans hd) I' (st2.trans st') ht'
    exact key n rfl I (Step.refl ..) ht hn
  | exit id =>
    intro c hok S J M w tm a fl s Q I ht h hK
    cases c <;> simp only [okCode, isStuck] at hok <;> try (cases hok; done)
    rename_i id'
    have : id' = id := by simpa using hok
    subst this
    simp only [exec] at h; cases h
    exact wp_exit (hK a J M w rfl I (Step.refl ..) ht)
  | ret =>
    intro c hok S J M w tm a fl s Q I ht h hK
    cases c <;> simp only [okCode, isStuck] at hok <;> try (cases hok; done)
    simp only [exec] at h; cases h
    exact wp_ret (hK a J M w rfl I (Step.refl ..) ht)
theorem res_one {v : ResultVar} {r : ARes} (hok : okRes1 P v r = true) (I : Inv fid S J M w) (ht : TRep fid J M tm a.tmps) {x : AV} (h : resA ⟨tm, S⟩ r = some x) :
    ∃ cv, ((match v with | .tmp t => pure (a.tmps.getD t undef) | .cell a' t => do loadVar t (← asAddr (a.tmps.getD a' undef)) : Sem Value)).run P w = .ok cv w ∧ ARep fid J M x cv := by
  cases v with
  | tmp t =>
    cases r with
    | c i ag n => cases hok
    | t i =>
      have : t = i := by simpa [okRes1] using hok
      subst this
      simp only [resA] at h; cases h
      exact ⟨_, rfl, ht.get t⟩
  | cell a' t =>
    cases r with
    | t i => cases hok
    | c i ag n =>
      simp only [okRes1, Bool.and_eq_true, beq_iff_eq] at hok
      obtain ⟨⟨⟨rfl, h1⟩, h2⟩, h3⟩ := hok
      simp only [resA] at h
      obtain ⟨ad, cv, e, hrun, hrep⟩ := loadA_rep (P := P) I h1 h2 h3 (ht.get a') h
      refine ⟨cv, ?_, hrep⟩
      show ((do loadVar t (← asAddr (a.tmps.getD a' undef))) : Sem Value).run P w = _
      rw [e]
      simp [asAddr, hrun]
theorem okRes_get : ∀ {vs : List ResultVar} {rs : List ARes}, okRes P vs rs = true → vs.length = rs.length ∧ ∀ (k : Nat) (v : ResultVar) (r : ARes), vs[k]? = some v → rs[k]? = some r → okRes1 P v r = true
  | [], [], _ => ⟨rfl, fun k v r h => by simp at h⟩
  | v :: vs, r :: rs, h => by
    simp only [okRes, Bool.and_eq_true] at h
    obtain ⟨hl, hq⟩ := okRes_get h.2
    refine ⟨by simp [hl], fun k v' r' hv hr => ?_⟩
    cases k with
    | zero => simp at hv hr; subst hv hr; exact h.1
    | succ k => exact hq k v' r' (by simpa using hv) (by simpa using hr)
  | [], _ :: _, h => by simp [okRes] at h
  | _ :: _, [], h => by simp [okRes] at h
theorem results_sound {fn : Func} {rs : List ARes} (hok : okRes P fn.results.toList rs = true) (I : Inv fid S J M w) (ht : TRep fid J M tm a.tmps) {x : AV} (h : resAll ⟨tm, S⟩ rs = some x) :
    ∃ cv, (results fn a.tmps).run P w = .ok cv w ∧ ARep fid J M x cv := by
  unfold resAll at h
  obtain ⟨xs, hxs, h⟩ := Option.bind_eq_some_iff.1 h
  simp only [Option.some.injEq] at h
  obtain ⟨hl, hq⟩ := mapM_some hxs
  obtain ⟨hl2, hok1⟩ := okRes_get hok
  let one : ResultVar → Sem Value := fun v => match v with | .tmp t => pure (a.tmps.getD t undef) | .cell a' t => do loadVar t (← asAddr (a.tmps.getD a' undef))
  have hone : ∀ (k : Nat) (v : ResultVar), fn.results.toList[k]? = some v → ∃ (x : AV) (cv : Value), xs[k]? = some x ∧ (one v).run P w = .ok cv w ∧ ARep fid J M x cv := by
    intro k v hv
    have hk := (List.getElem?_eq_some_iff.1 hv).1
    obtain ⟨r, hr⟩ : ∃ r, rs[k]? = some r := ⟨rs[k]'(by omega), List.getElem?_eq_getElem (by omega)⟩
    obtain ⟨y, hy, hry⟩ := hq k r hr
    obtain ⟨cv, c1, c2⟩ := res_one (hok1 k v r hv hr) I ht hry
    exact ⟨y, cv, hy, c1, c2⟩
  let g : ResultVar → Value := fun v => match (one v).run P w with | .ok cv _ => cv | _ => undef
  have hg : ∀ v ∈ fn.results.toList, (one v).run P w = .ok (g v) w := by
    intro v hv
    obtain ⟨k, hk⟩ := List.mem_iff_getElem?.1 hv
    obtain ⟨x, cv, _, h2, _⟩ := hone k v hk
    show _ = Result.ok (match (one v).run P w with | .ok cv _ => cv | _ => undef) w
    rw [h2]
  have hrun : (fn.results.mapM one).run P w = .ok (fn.results.map g) w := run_array_mapM one g w fn.results hg
  have hrep : ∀ (k : Nat) (y : AV), xs[k]? = some y → ∃ cv, (fn.results.map g)[k]? = some cv ∧ ARep fid J M y cv := by
    intro k y hy
    have hk := (List.getElem?_eq_some_iff.1 hy).1
    have hv : fn.results.toList[k]? = some (fn.results.toList[k]'(by omega)) := List.getElem?_eq_getElem (by omega)
    obtain ⟨x', cv, h1, h2, h3⟩ := hone k _ hv
    rw [hy] at h1; cases h1
    refine ⟨cv, ?_, h3⟩
    rw [Array.getElem?_map]
    have : fn.results[k]? = some (fn.results.toList[k]'(by omega)) := by rw [← hv]; simp
    rw [this]
    simp only [Option.map_some]
    show some (match (one _).run P w with | .ok cv _ => cv | _ => undef) = _
    rw [h2]
  have hsize : (fn.results.map g).size = xs.length := by simp; rw [hl, ← hl2]; simp
  generalize fn.results.map g = us at hrun hrep hsize
  have hres : (results fn a.tmps).run P w = .ok (if h : us.size = 1 then us[0] else .tuple us) w := by
    show ((do let vs ← fn.results.mapM one; pure (if h : vs.size = 1 then vs[0] else .tuple vs)) : Sem Value).run P w = _
    rw [Sem.run_bind, hrun]
    rfl
  refine ⟨_, hres, ?_⟩
  rw [← h]
  match xs, hsize, hrep with
  | [y], hs, hrep =>
    have h1 : us.size = 1 := hs
    obtain ⟨cv, c1, c2⟩ := hrep 0 y rfl
    have : us[0] = cv := by
      rw [Array.getElem?_eq_getElem (by omega)] at c1; exact Option.some.inj c1
    rw [dif_pos h1, this]
    exact c2
  | [], hs, hrep =>
    have h1 : ¬ us.size = 1 := by rw [hs]; simp
    rw [dif_neg h1]
    exact ARep.tup_mk hs hrep
  | x :: y :: zs, hs, hrep =>
    have h1 : ¬ us.size = 1 := by rw [hs]; simp
    rw [dif_neg h1]
    exact ARep.tup_mk hs hrep
def ProgOk (P : Program) (fid : Nat → FuncId) (mid : FuncId → Option Nat) (A : Prog) : Prop :=
  ∀ f af, A f = some af → ∃ fn, P.funcs[fid f]? = some fn ∧ okF P mid fn af = true
theorem enter_rep {args : List AV} {cargs : Array Value} (ha : AsRep fid J M args cargs) (af : AF) (nt : Nat) (hn : nt = af.nt) : TRep fid J M (enter af args S).tm (cargs ++ Array.replicate (nt - cargs.size) undef) := by
  obtain ⟨h1, h2⟩ := ha
  unfold enter
  refine ⟨by simp [h1, hn], fun i x hx => ?_⟩
  simp only at hx
  rw [List.getElem?_append] at hx
  rw [Array.getElem?_append, h1]
  split at hx
  · rename_i hlt; rw [if_pos hlt]; exact h2 i x hx
  · rename_i hlt
    rw [if_neg hlt]
    rw [List.getElem?_replicate] at hx
    rw [Array.getElem?_replicate, hn]
    split at hx
    · rename_i hl2
      rw [if_pos hl2]; cases hx
      exact ⟨undef, rfl, .tup [] #[] rfl (fun _ => default) (fun k x hx => by simp at hx) (fun k x hx => by simp at hx)⟩
    · cases hx
theorem body_sound (hm : MidOk fid mid) (hR : SoundR P fid R) (hfol : P.follows .mixedOrders = true) {f : FuncId} {fn : Func} {af : AF} (hf : P.funcs[f]? = some fn) (hok : okF P mid fn af = true) {args : List AV} {r : AV} (h : runBody R iter af args S = some (r, S')) :
    (∀ cargs w, (callFunc f cargs).run P w = .ok (.enter f cargs) w) ∧ ∀ J M w cargs, Inv fid S J M w → AsRep fid J M args cargs → Calls P f cargs w (Left fid S J M w r S') := by
  unfold okF at hok
  simp only [Bool.and_eq_true, beq_iff_eq, bne_iff_ne] at hok
  obtain ⟨⟨⟨hb, hnt⟩, hres⟩, hname⟩ := hok
  split at hb
  · rename_i c hbody
    have hnm : (fn.name == "runtime.NumGoroutine") = false := by simpa using hname
    refine ⟨fun cargs w => by simp only [callFunc, Sem.run_bind, run_program, Result.andThen_ok, hf, hnm, hbody]; simp, fun J M w cargs I ha => ?_⟩
    unfold runBody at h
    obtain ⟨_, h⟩ := chk_some.1 h
    obtain ⟨⟨fl, s⟩, h1, h2⟩ := Option.bind_eq_some_iff.1 h
    refine calls_of_wp hf hbody (exec_sound (S := S) (J := J) (M := M) (w := w) (tm := (enter af args S).tm) hm hR hfol af.body c hb I (enter_rep ha af fn.ntmps hnt) h1 fun a' J' M' w' hd I' st' ht' => ?_)
    cases fl with
    | ex id => simp at h2
    | nrm =>
      simp only at h2
      obtain ⟨v, h3, h4⟩ := Option.bind_eq_some_iff.1 h2
      cases h4
      obtain ⟨cv, c1, c2⟩ := results_sound (a := a') hres I' ht' h3
      exact ⟨hd, cv, c1, cv, J', M', rfl, I', st', c2⟩
    | ret =>
      simp only at h2
      obtain ⟨v, h3, h4⟩ := Option.bind_eq_some_iff.1 h2
      cases h4
      obtain ⟨cv, c1, c2⟩ := results_sound (a := a') hres I' ht' h3
      exact ⟨hd, cv, c1, cv, J', M', rfl, I', st', c2⟩
  · cases hb
theorem runN_sound (hm : MidOk fid mid) (hfol : P.follows .mixedOrders = true) {A : Prog} (hA : ProgOk P fid mid A) : ∀ n, SoundR P fid (runN A n)
  | 0 => fun f args S r S' h => by simp [runN] at h
  | n + 1 => fun f args S r S' h => by
    simp only [runN] at h
    obtain ⟨af, ha, h⟩ := Option.bind_eq_some_iff.1 h
    obtain ⟨fn, hf, hok⟩ := hA f af ha
    exact body_sound hm (runN_sound hm hfol hA n) hfol hf hok h
theorem run_sound (hm : MidOk fid mid) (hfol : P.follows .mixedOrders = true) {A : Prog} (hA : ProgOk P fid mid A) : SoundR P fid (run A) := fun f args S r S' h => by
  obtain ⟨n, hn⟩ := run_some.1 h
  exact runN_sound hm hfol hA n f args S r S' hn
end
end Go.AVM
