/- Regions whose operations may come in any order: the order in which their telling runs them is as good as any. -/
import Derived.Test.YtlpbjbgfgfjnlaaAvSound1
set_option linter.unusedVariables false
set_option linter.unusedSimpArgs false
set_option linter.unusedSectionVars false
namespace Go.AVM

/-! ### What an operation does to the store -/
inductive Cls where
  | free | rdr | wrt
  deriving DecidableEq
def K.cls : K → Cls
  | .mv | .pick | .build .. | .lit .. | .loadf .. | .nilChk | .bin _ | .eqb _ | .eqa .. | .un _ | .conv _ | .mkfn _ | .slc .. | .slca .. | .faddr .. | .fld .. | .iaa .. | .ias _ | .ixa .. | .ixs | .ext _ | .len | .lens | .lenc _ | .mn | .mx => .free
  | .load .. | .call .pure true _ | .callv .pure true => .rdr
  | _ => .wrt

theorem fzc_nrc2 {S S2 : Store} (fuel : Nat) {v : AV} (h : nrc v = true) : fzc S fuel v = fzc S2 fuel v := by
  cases v <;> simp [nrc] at h <;> cases fuel <;> rfl
theorem mapM_congr {α β : Type} {f g : α → Option β} : ∀ {l : List α}, (∀ x ∈ l, f x = g x) → l.mapM f = l.mapM g
  | [], _ => rfl
  | x :: l, h => by
    simp only [List.mapM_cons]
    rw [h x (by simp), mapM_congr (l := l) fun y hy => h y (by simp [hy])]
theorem fz1_nr1 {S S2 : Store} {v : AV} (h : nr1 v = true) : fz1 S v = fz1 S2 v := by
  cases v
  case agg cs =>
    simp only [nr1, List.all_eq_true] at h
    unfold fz1
    simp only
    rw [mapM_congr (g := fzc S2 5) fun x hx => fzc_nrc2 _ (h x hx)]
  case fn f cs =>
    simp only [nr1, List.all_eq_true] at h
    show fzc S (5 + 1) _ = fzc S2 (5 + 1) _
    simp only [fzc]
    rw [mapM_congr (g := fzc S2 5) fun x hx => fzc_nrc2 _ (h x hx)]
  all_goals exact fzc_nrc2 (S2 := S2) _ h

theorem free_key {g : Store → Option (AV × Store)} (x : Option AV) (hg : ∀ S, g S = x.bind fun v => some (v, S)) {S S1 : Store} {v : AV} (hs : g S = some (v, S1)) : S1 = S ∧ ∀ S2, g S2 = some (v, S2) := by
  rw [hg] at hs
  obtain ⟨u, hu, hs⟩ := Option.bind_eq_some_iff.1 hs
  cases hs
  exact ⟨rfl, fun S2 => by rw [hg, hu]; rfl⟩
theorem free_same {R : RunF} {k : K} (hk : k.cls = .free) (vs : List AV) (S : Store) : opA R k vs S = ((opA R k vs []).map (·.1)).bind fun v => some (v, S) := by
  unfold opA
  split <;> first | rfl | (cases hk; done) | skip
  case h_7 sz z len ix =>
    split
    · rename_i hn
      rw [mapM_congr (g := fz1 []) fun x hx => fz1_nr1 (List.all_eq_true.1 hn x hx)]
      simp [Function.comp_def, Option.map_bind, Option.bind_assoc]
    · simp [Function.comp_def, Option.map_bind, Option.bind_assoc]
  all_goals first
    | (simp only [chk]; split <;> rfl)
    | (simp [Function.comp_def, Option.map_bind, Option.bind_assoc]; done)
    | (simp only [chk]; split <;> simp [Function.comp_def, Option.map_bind, Option.bind_assoc]; done)
    | (exfalso; revert hk; rename_i m st _ _; cases m <;> cases st <;> (intro hk; cases hk))
    | (exfalso; revert hk; rename_i m st _; cases m <;> cases st <;> (intro hk; cases hk))
    | (exfalso; revert hk; rename_i m st _ _ _; cases m <;> cases st <;> (intro hk; cases hk))
theorem opA_cls_free {R : RunF} {k : K} (hk : k.cls = .free) {vs : List AV} {S S1 : Store} {v : AV} (h : opA R k vs S = some (v, S1)) : S1 = S ∧ ∀ S2, opA R k vs S2 = some (v, S2) :=
  free_key (g := fun S => opA R k vs S) _ (free_same hk vs) h

theorem opA_cls_rdr {R : RunF} {k : K} (hk : k.cls = .rdr) {vs : List AV} {S S1 : Store} {v : AV} (h : opA R k vs S = some (v, S1)) : S1 = S := by
  have call : ∀ {f : Nat} {as : List AV}, doCall R .pure true f as S = some (v, S1) → S1 = S := by
    intro f as h
    simp only [doCall] at h
    obtain ⟨fs, _, h⟩ := Option.bind_eq_some_iff.1 h
    obtain ⟨r, _, h⟩ := Option.bind_eq_some_iff.1 h
    obtain ⟨S2, ha, h⟩ := Option.bind_eq_some_iff.1 h
    cases h
    unfold after at ha
    split at ha
    · cases ha; rfl
    · simp at ha
  cases k <;> first | (simp [K.cls] at hk; done) | skip
  case load ag n =>
    cases vs with
    | nil => simp [opA] at h
    | cons x xs =>
      cases xs with
      | cons y ys => simp [opA] at h
      | nil =>
        simp only [opA] at h
        obtain ⟨u, _, h⟩ := Option.bind_eq_some_iff.1 h
        cases h; rfl
  case call m st f =>
    cases m <;> cases st <;> simp [K.cls] at hk
    exact call (f := f) (as := vs) (by cases vs <;> exact h)
  case callv m st =>
    cases m <;> cases st <;> simp [K.cls] at hk
    cases vs with
    | nil => simp [opA] at h
    | cons x xs => cases x <;> simp only [opA] at h <;> first | exact call h | cases h

/-! ### The check -/
def ROp.looks (r : ROp) : List Nat := (r.args.filterMap fun | .t i => some i | .c _ => none) ++ (match r.g with | some (t, _) => [t] | none => [])
/-- Which operations must have come before: a mask of bits for each. -/
def maskOf (cl : List Nat) : List Edge → Nat
  | [] => 0
  | e :: es => (maskOf cl es ||| cl.getD e.on 0) ||| (1 <<< e.on)
def bindsOf (o : Oper) : List Edge := o.after.toList.filter (Region.binds .any)
def cloOf : List Oper → List Nat → List Nat
  | [], acc => acc
  | o :: os, acc => cloOf os (acc ++ [maskOf acc (bindsOf o)])
def okClo (cl : List Nat) : Nat → List Oper → Bool
  | _, [] => true
  | i, o :: os => cl.getD i 0 == maskOf cl (bindsOf o) && (bindsOf o).all (fun e => decide (e.on < i)) && okClo cl (i + 1) os
def isAl (r : ROp) : Bool := match r.k, r.g with | .alloc _, none => true | _, _ => false
def isAlo (ops : List Oper) (i : Nat) : Bool := match ops[i]? with | some o => (match o.op, o.guard with | .alloc _, none => true | _, _ => false) | none => false
def ordOf (ops : List Oper) : List Nat := (List.range ops.length).filter (isAlo ops) ++ (List.range ops.length).filter (fun i => !isAlo ops i)
def dstIn (d : Option Nat) (l : List Nat) : Bool := match d with | some d => l.contains d | none => false
/-- These two must keep their order. -/
def dep (p q : ROp) : Bool :=
  dstIn p.dst q.looks || dstIn q.dst p.looks || (!isAl p && !isAl q && ((p.k.cls == .wrt && q.k.cls != .free) || (q.k.cls == .wrt && p.k.cls != .free)))
def sameDst (p q : ROp) : Bool := match p.dst, q.dst with | some d, some e => d == e | _, _ => false
/-- Against all that come later. -/
def okLate (cl : List Nat) (p : ROp) (i : Nat) : List ROp → List Nat → Bool
  | q :: qs, j :: js => !sameDst p q && (!dep p q || (cl.getD j 0).testBit i) && okLate cl p i qs js
  | [], [] => true
  | _, _ => false
def okPairs (cl : List Nat) : List ROp → List Nat → Bool
  | p :: ps, i :: is => okLate cl p i ps is && okPairs cl ps is
  | [], [] => true
  | _, _ => false
def allocsFirst : List ROp → Bool
  | [] => true
  | r :: rs => if isAl r then allocsFirst rs else rs.all (fun q => !isAl q)
section
variable (P : Program) (mid : FuncId → Option Nat)
def okAt (ops : Array Oper) : List Nat → List ROp → Bool
  | i :: is, r :: rs => (match ops[i]? with | some o => okR P mid ops o r | none => false) && okAt ops is rs
  | [], [] => true
  | _, _ => false
def okDraw (ops : Array Oper) (rs : List ROp) : Bool :=
  let cl := cloOf ops.toList []
  let ord := ordOf ops.toList
  okClo cl 0 ops.toList && okAt P mid ops ord rs && okPairs cl rs ord && allocsFirst rs
end

/-! ### The check, read -/
theorem maskOf_bit {cl : List Nat} {i : Nat} : ∀ {es : List Edge}, (maskOf cl es).testBit i = true → ∃ e ∈ es, (cl.getD e.on 0).testBit i = true ∨ e.on = i
  | [], h => by simp [maskOf] at h
  | e :: es, h => by
    simp only [maskOf, Nat.testBit_or, Bool.or_eq_true] at h
    rcases h with (h | h) | h
    · obtain ⟨e', h1, h2⟩ := maskOf_bit h
      exact ⟨e', by simp [h1], h2⟩
    · exact ⟨e, by simp, .inl h⟩
    · refine ⟨e, by simp, .inr ?_⟩
      rw [Nat.testBit_shiftLeft] at h
      simp only [Bool.and_eq_true, decide_eq_true_eq, Nat.testBit_one_eq_true_iff_self_eq_zero] at h
      omega
theorem okClo_get {cl : List Nat} : ∀ {os : List Oper} {i : Nat}, okClo cl i os = true → ∀ (j : Nat) (o : Oper), os[j]? = some o → cl.getD (i + j) 0 = maskOf cl (bindsOf o) ∧ ∀ e ∈ bindsOf o, e.on < i + j
  | [], i, h, j, o, ho => by simp at ho
  | o' :: os, i, h, j, o, ho => by
    simp only [okClo, Bool.and_eq_true, beq_iff_eq, List.all_eq_true, decide_eq_true_eq] at h
    obtain ⟨⟨h1, h2⟩, h3⟩ := h
    cases j with
    | zero => simp at ho; subst ho; exact ⟨h1, h2⟩
    | succ j =>
      have := okClo_get h3 j o (by simpa using ho)
      rw [show i + 1 + j = i + (j + 1) by omega] at this
      exact this
theorem okAt_get {P : Program} {mid : FuncId → Option Nat} {ops : Array Oper} : ∀ {is : List Nat} {rs : List ROp}, okAt P mid ops is rs = true → is.length = rs.length ∧ ∀ (p i : Nat) (r : ROp), is[p]? = some i → rs[p]? = some r → ∃ o, ops[i]? = some o ∧ okR P mid ops o r = true
  | [], [], _ => ⟨rfl, fun p i r h => by simp at h⟩
  | i :: is, r :: rs, h => by
    simp only [okAt, Bool.and_eq_true] at h
    obtain ⟨h1, h2⟩ := h
    obtain ⟨hl, hq⟩ := okAt_get h2
    refine ⟨by simp [hl], fun p i' r' hi hr => ?_⟩
    cases p with
    | zero =>
      simp at hi hr; subst hi hr
      split at h1
      · rename_i o ho; exact ⟨o, ho, h1⟩
      · cases h1
    | succ p => exact hq p i' r' (by simpa using hi) (by simpa using hr)
  | [], _ :: _, h => by simp [okAt] at h
  | _ :: _, [], h => by simp [okAt] at h
theorem okLate_get {cl : List Nat} {p : ROp} {i : Nat} : ∀ {qs : List ROp} {js : List Nat}, okLate cl p i qs js = true → ∀ (k j : Nat) (q : ROp), qs[k]? = some q → js[k]? = some j → sameDst p q = false ∧ (dep p q = true → (cl.getD j 0).testBit i = true)
  | [], [], _, k, j, q, h, _ => by simp at h
  | q' :: qs, j' :: js, h, k, j, q, hq, hj => by
    simp only [okLate, Bool.and_eq_true, Bool.not_eq_true', Bool.or_eq_true] at h
    obtain ⟨⟨h1, h2⟩, h3⟩ := h
    cases k with
    | zero =>
      simp at hq hj; subst hq hj
      exact ⟨h1, fun hd => h2.resolve_left (by simp [hd])⟩
    | succ k => exact okLate_get h3 k j q (by simpa using hq) (by simpa using hj)
  | [], _ :: _, h, _, _, _, _, _ => by simp [okLate] at h
  | _ :: _, [], h, _, _, _, _, _ => by simp [okLate] at h
theorem okPairs_get {cl : List Nat} : ∀ {rs : List ROp} {is : List Nat}, okPairs cl rs is = true → ∀ (p q i j : Nat) (r s : ROp), p < q → rs[p]? = some r → is[p]? = some i → rs[q]? = some s → is[q]? = some j → sameDst r s = false ∧ (dep r s = true → (cl.getD j 0).testBit i = true)
  | [], [], _, p, q, i, j, r, s, _, h, _, _, _ => by simp at h
  | r' :: rs, i' :: is, h, p, q, i, j, r, s, hpq, hr, hi, hs, hj => by
    simp only [okPairs, Bool.and_eq_true] at h
    obtain ⟨q, rfl⟩ : ∃ q', q = q' + 1 := ⟨q - 1, by omega⟩
    cases p with
    | zero =>
      simp at hr hi; subst hr hi
      exact okLate_get h.1 q j s (by simpa using hs) (by simpa using hj)
    | succ p => exact okPairs_get h.2 p q i j r s (by omega) (by simpa using hr) (by simpa using hi) (by simpa using hs) (by simpa using hj)
  | [], _ :: _, h, _, _, _, _, _, _, _, _, _, _, _ => by simp [okPairs] at h
  | _ :: _, [], h, _, _, _, _, _, _, _, _, _, _, _ => by simp [okPairs] at h
theorem ordOf_spec (ops : List Oper) : (∀ i, i < ops.length ↔ i ∈ ordOf ops) ∧ (ordOf ops).Nodup := by
  unfold ordOf
  constructor
  · intro i
    simp only [List.mem_append, List.mem_filter, List.mem_range]
    constructor
    · intro h
      cases hh : isAlo ops i
      · exact .inr ⟨h, rfl⟩
      · exact .inl ⟨h, rfl⟩
    · rintro (h | h) <;> exact h.1
  · rw [List.nodup_append]
    refine ⟨List.nodup_range.filter _, List.nodup_range.filter _, fun a ha b hb => ?_⟩
    rw [List.mem_filter] at ha hb
    rintro rfl
    have := hb.2
    rw [ha.2] at this
    cases this
theorem dep_comm (p q : ROp) : dep p q = dep q p := by
  unfold dep
  cases dstIn p.dst q.looks <;> cases dstIn q.dst p.looks <;> cases isAl p <;> cases isAl q <;> simp [Bool.or_comm]

/-! ### A run, place by place -/
section
variable {P : Program} {fid : Nat → FuncId} {mid : FuncId → Option Nat} {R : RunF}
theorem trace_of : ∀ {rs : List ROp} {s s' : St}, runOps R rs s = some s' → ∃ (st : Nat → St) (vl : Nat → AV), st 0 = s ∧ st rs.length = s' ∧
    ∀ (p : Nat) (r : ROp), rs[p]? = some r → valR R r (st p).tm (st p).st = some (vl p, (st (p + 1)).st) ∧ (st (p + 1)).tm = put (st p).tm r.dst (vl p)
  | [], s, s', h => ⟨fun _ => s, fun _ => .any, rfl, by simp only [runOps] at h; cases h; rfl, fun p r hr => by simp at hr⟩
  | r :: rs, s, s', h => by
    simp only [runOps] at h
    obtain ⟨s1, h1, h2⟩ := Option.bind_eq_some_iff.1 h
    rw [stepR_val] at h1
    obtain ⟨⟨v, S1⟩, hv, e⟩ := Option.bind_eq_some_iff.1 h1
    cases e
    obtain ⟨st, vl, a, b, c⟩ := trace_of h2
    refine ⟨fun p => match p with | 0 => s | p + 1 => st p, fun p => match p with | 0 => v | p + 1 => vl p, rfl, b, ?_⟩
    intro p r' hr
    cases p with
    | zero =>
      simp at hr; subst hr
      simp only [a]
      exact ⟨hv, trivial⟩
    | succ p => exact c p r' (by simpa using hr)

/-- The temporaries after these operations. -/
structure Told (rs : List ROp) (vl : Nat → AV) (D : Nat → Prop) (tm0 tm : List AV) : Prop where
  len : tm.length = tm0.length
  new : ∀ (q : Nat) (r : ROp), rs[q]? = some r → D q → ∀ t, r.dst = some t → t < tm0.length → tm[t]? = some (vl q)
  old : ∀ t, (∀ (q : Nat) (r : ROp), rs[q]? = some r → D q → r.dst ≠ some t) → tm[t]? = tm0[t]?
def Apart (rs : List ROp) : Prop := ∀ (p q : Nat) (r s : ROp), p ≠ q → rs[p]? = some r → rs[q]? = some s → ∀ d, r.dst = some d → s.dst ≠ some d
theorem Told.put {rs : List ROp} {vl : Nat → AV} {D D' : Nat → Prop} {tm0 tm : List AV} (h : Told rs vl D tm0 tm) (ha : Apart rs) {p : Nat} {r : ROp} (hr : rs[p]? = some r) (hD : ∀ q, D' q ↔ D q ∨ q = p) :
    Told rs vl D' tm0 (Go.AVM.put tm r.dst (vl p)) := by
  cases hd : r.dst with
  | none =>
    refine ⟨h.len, fun q r' hq hq' t ht => ?_, fun t ht => h.old t fun q r' hq hq' => ht q r' hq ((hD q).2 (.inl hq'))⟩
    rcases (hD q).1 hq' with hq' | rfl
    · exact h.new q r' hq hq' t ht
    · rw [hr] at hq; cases hq; rw [hd] at ht; cases ht
  | some d =>
    refine ⟨by simp [Go.AVM.put, h.len], fun q r' hq hq' t ht hlt => ?_, fun t ht => ?_⟩
    · simp only [Go.AVM.put]
      by_cases hqp : q = p
      · subst hqp
        rw [hr] at hq; cases hq
        rw [hd] at ht; cases ht
        rw [List.getElem?_set_self (by rw [h.len]; exact hlt)]
      · have hne : d ≠ t := fun e => ha p q r r' (Ne.symm hqp) hr hq d hd (e ▸ ht)
        rw [List.getElem?_set_ne hne]
        rcases (hD q).1 hq' with hq' | rfl
        · exact h.new q r' hq hq' t ht hlt
        · exact absurd rfl hqp
    · simp only [Go.AVM.put]
      have hne : d ≠ t := fun e => ht p r hr ((hD p).2 (.inr rfl)) (e ▸ hd)
      rw [List.getElem?_set_ne hne]
      exact h.old t fun q r' hq hq' => ht q r' hq ((hD q).2 (.inl hq'))
theorem Told.at {rs : List ROp} {vl : Nat → AV} {D D' : Nat → Prop} {tm0 x y : List AV} (h : Told rs vl D tm0 x) (h' : Told rs vl D' tm0 y) {t : Nat} (hD : ∀ (q : Nat) (r : ROp), rs[q]? = some r → r.dst = some t → (D q ↔ D' q)) : x[t]? = y[t]? := by
  by_cases hex : ∃ (q : Nat) (r : ROp), rs[q]? = some r ∧ D q ∧ r.dst = some t
  · obtain ⟨q, r, hr, hq, hd⟩ := hex
    by_cases hlt : t < tm0.length
    · rw [h.new q r hr hq t hd hlt, h'.new q r hr ((hD q r hr hd).1 hq) t hd hlt]
    · rw [List.getElem?_eq_none (by rw [h.len]; omega), List.getElem?_eq_none (by rw [h'.len]; omega)]
  · rw [h.old t fun q r hr hq hd => hex ⟨q, r, hr, hq, hd⟩, h'.old t fun q r hr hq hd => hex ⟨q, r, hr, (hD q r hr hd).2 hq, hd⟩]
theorem Told.ext {rs : List ROp} {vl : Nat → AV} {D D' : Nat → Prop} {tm0 x y : List AV} (h : Told rs vl D tm0 x) (h' : Told rs vl D' tm0 y) (hD : ∀ (q : Nat) (r : ROp), rs[q]? = some r → (D q ↔ D' q)) : x = y :=
  List.ext_getElem? fun t => h.at h' fun q r hr _ => hD q r hr
theorem told_upto {rs : List ROp} {vl : Nat → AV} {st : Nat → St} (ha : Apart rs) (hst : ∀ (p : Nat) (r : ROp), rs[p]? = some r → (st (p + 1)).tm = put (st p).tm r.dst (vl p)) : ∀ p, p ≤ rs.length → Told rs vl (· < p) (st 0).tm (st p).tm
  | 0, _ => ⟨rfl, fun q r _ hq => absurd hq (Nat.not_lt_zero _), fun t _ => rfl⟩
  | p + 1, hp => by
    obtain ⟨r, hr⟩ : ∃ r, rs[p]? = some r := ⟨rs[p], List.getElem?_eq_getElem (by omega)⟩
    rw [hst p r hr]
    exact (told_upto ha hst p (by omega)).put ha hr fun q => by omega

theorem valR_congr {r : ROp} {x y : List AV} {S : Store} (h : ∀ t ∈ r.looks, x[t]? = y[t]?) : valR R r x S = valR R r y S := by
  have hg : ∀ t ∈ r.looks, x.getD t .any = y.getD t .any := fun t ht => by rw [List.getD_eq_getElem?_getD, List.getD_eq_getElem?_getD, h t ht]
  have h1 : wants x r.g = wants y r.g := by
    unfold wants
    cases hgd : r.g with
    | none => rfl
    | some g =>
      obtain ⟨t, w⟩ := g
      simp only
      rw [hg t (by simp [ROp.looks, hgd])]
  have h2 : r.args.map (·.ev x) = r.args.map (·.ev y) := List.map_congr_left fun o ho => by
    cases o with
    | c v => rfl
    | t i => exact hg i (List.mem_append_left _ (List.mem_filterMap.2 ⟨.t i, ho, rfl⟩))
  unfold valR
  rw [h1, h2]
theorem valR_free {r : ROp} (hk : r.k.cls = .free) {tm : List AV} {S S1 : Store} {v : AV} (h : valR R r tm S = some (v, S1)) : S1 = S ∧ ∀ S2, valR R r tm S2 = some (v, S2) := by
  unfold valR at h ⊢
  cases hw : wants tm r.g with
  | yes => rw [hw] at h; exact opA_cls_free hk h
  | no => rw [hw] at h; cases h; exact ⟨rfl, fun _ => rfl⟩
  | lost => rw [hw] at h; cases h
theorem valR_rdr {r : ROp} (hk : r.k.cls = .rdr) {tm : List AV} {S S1 : Store} {v : AV} (h : valR R r tm S = some (v, S1)) : S1 = S := by
  unfold valR at h
  cases hw : wants tm r.g with
  | yes => rw [hw] at h; exact opA_cls_rdr hk h
  | no => rw [hw] at h; cases h; rfl
  | lost => rw [hw] at h; cases h

/-! ### Blocks that are yet to come -/
variable {S : Store} {J : JMap} {M : Mem} {w : World}
theorem Inv.pend (I : Inv fid S J M w) (bl : List Blk) : Inv fid (S ++ bl) J M w := by
  have hlt : ∀ b vl, J b vl ≠ none → (S ++ bl)[b]? = S[b]? := fun b vl h => List.getElem?_append_left (I.jlt b vl h)
  refine ⟨I.mem, fun b cs ex hb hj => ?_, fun b cs hb hj => ?_, fun b vl h => ?_, fun b vl cs ex hb h => ?_, I.jps, ?_⟩
  · obtain ⟨vl, h⟩ := hj
    exact I.blk b cs ex (by rw [← hlt b vl h]; exact hb) ⟨vl, h⟩
  · obtain ⟨vl, h⟩ := hj
    exact I.fzb b cs (by rw [← hlt b vl h]; exact hb) ⟨vl, h⟩
  · have := I.jlt b vl h; rw [List.length_append]; omega
  · exact I.jmx b vl cs ex (by rw [← hlt b vl h]; exact hb) h
  · intro b1 b2 c1 e1 c2 e2 blk base ps base' ps' hb1 hj1 hb2 hj2
    rw [hlt b1 _ (by rw [hj1]; simp)] at hb1
    rw [hlt b2 _ (by rw [hj2]; simp)] at hb2
    exact I.inj b1 b2 c1 e1 c2 e2 blk base ps base' ps' hb1 hj1 hb2 hj2
theorem Step.pend (I : Inv fid S J M w) (bl : List Blk) : Step S J M w (S ++ bl) J M w := by
  refine ⟨fun _ _ _ h => h, fun _ _ _ h => h, fun _ _ _ h => .inl h, fun _ _ _ => rfl, fun i hi => ?_, Nat.le_refl _, rfl, rfl, rfl, by simp, fun b hb hj => ⟨List.getElem?_append_left hb, hj⟩⟩
  obtain ⟨b, cs, ex, base, ps, hb, hj⟩ := hi
  rw [List.getElem?_append_left (I.jlt b _ (by rw [hj]; simp))] at hb
  exact .inl ⟨b, cs, ex, base, ps, hb, hj⟩
theorem Inv.regp (I : Inv fid S J M w) {b : Nat} {cs : List AV} {ex : Bool} (hb : S[b]? = some (.mu cs ex)) (hJ : ∀ vl, J b vl = none) {blk base ps : Nat} {arr : Array Value} {el : TypeId}
    (hh : w.heap[blk]? = some (.cells arr el (0, 0))) (hn : ¬ Wr S J blk) (hM : ∀ o, M blk o = none) (hsz : arr.size = base + ps) (hps : cs.length ≤ ps) (hex : ex = true → ps = cs.length)
    (hc : ∀ (k : Nat) (x : AV), cs[k]? = some x → ∃ v, arr[base + k]? = some v ∧ v.plain ∧ ARep fid J M x v) :
    Inv fid S (J.put b cs.length (some (blk, base, ps))) M w := by
  have hle : J.le (J.put b cs.length (some (blk, base, ps))) := JMap.put_le (.inl (hJ _))
  have hjne : ∀ b' vl, b' ≠ b → (J.put b cs.length (some (blk, base, ps))) b' vl = J b' vl := by
    intro b' vl hne; simp [JMap.put, hne]
  refine ⟨I.mem, fun b' c e hb' hj => ?_, fun b' c hb' hj => ?_, fun b' vl h => ?_, fun b' vl c e hb' h => ?_, fun b' vl blk1 base1 ps1 h => ?_, ?_⟩
  · by_cases hbb : b' = b
    · subst hbb; rw [hb] at hb'; cases hb'
      exact .inr ⟨blk, base, ps, arr, el, JMap.put_self .., hh, hsz, hps, hex, fun k x hx => let ⟨v, a1, a2, a3⟩ := hc k x hx; ⟨v, a1, a2, a3.mono hle fun _ _ _ h => h⟩, hM⟩
    · have hj' : ∃ vl, J b' vl ≠ none := by obtain ⟨vl, h⟩ := hj; exact ⟨vl, by rwa [hjne b' vl hbb] at h⟩
      rcases I.blk b' c e hb' hj' with ⟨a1, a2, a3⟩ | ⟨blk', base', ps', arr', el', a1, a2, a3, a4, a5, a6, a7⟩
      · exact .inl ⟨a1, a2, by rw [hjne b' 0 hbb]; exact a3⟩
      · exact .inr ⟨blk', base', ps', arr', el', hle _ _ _ a1, a2, a3, a4, a5, fun k x hx => let ⟨v, u1, u2, u3⟩ := a6 k x hx; ⟨v, u1, u2, u3.mono hle fun _ _ _ h => h⟩, a7⟩
  · by_cases hbb : b' = b
    · subst hbb; rw [hb] at hb'; cases hb'
    · have hj' : ∃ vl, J b' vl ≠ none := by obtain ⟨vl, h⟩ := hj; exact ⟨vl, by rwa [hjne b' vl hbb] at h⟩
      rcases I.fzb b' c hb' hj' with ⟨a1, a2⟩ | ⟨blk', base', ps', a1, a2⟩
      · exact .inl ⟨a1, by rw [hjne b' 0 hbb]; exact a2⟩
      · exact .inr ⟨blk', base', ps', hle _ _ _ a1, a2⟩
  · by_cases hbb : b' = b
    · subst hbb; exact (List.getElem?_eq_some_iff.1 hb).1
    · rw [hjne b' vl hbb] at h; exact I.jlt b' vl h
  · by_cases hbb : b' = b
    · subst hbb; rw [hb] at hb'; cases hb'
      by_cases hv : vl = cs.length
      · omega
      · simp [JMap.put, hv, hJ] at h
    · rw [hjne b' vl hbb] at h
      exact I.jmx b' vl c e hb' h
  · unfold JMap.put at h
    split at h
    · rename_i hh; obtain ⟨rfl, rfl⟩ := hh; cases h; exact hps
    · exact I.jps _ _ _ _ _ h
  · intro b1 b2 c1 e1 c2 e2 blk' base1 ps1 base2 ps2 hb1 hj1 hb2 hj2
    by_cases h1 : b1 = b
    · by_cases h2 : b2 = b
      · rw [h1, h2]
      · subst h1; rw [hb] at hb1; cases hb1
        rw [JMap.put_self] at hj1; cases hj1
        rw [hjne b2 _ h2] at hj2
        exact absurd ⟨b2, c2, e2, base2, ps2, hb2, hj2⟩ hn
    · rw [hjne b1 _ h1] at hj1
      by_cases h2 : b2 = b
      · subst h2; rw [hb] at hb2; cases hb2
        rw [JMap.put_self] at hj2; cases hj2
        exact absurd ⟨b1, c1, e1, base1, ps1, hb1, hj1⟩ hn
      · rw [hjne b2 _ h2] at hj2
        exact I.inj b1 b2 c1 e1 c2 e2 blk' base1 ps1 base2 ps2 hb1 hj1 hb2 hj2
theorem Step.regp {S0 : Store} {J0 : JMap} {M0 : Mem} {w0 : World} (h : Step S0 J0 M0 w0 S J M w) {b : Nat} {cs : List AV} {ex : Bool} (hb : S[b]? = some (.mu cs ex)) (hJ : ∀ vl, J b vl = none) (hge : S0.length ≤ b) {blk base ps : Nat} (hblk : w0.heap.size ≤ blk) :
    Step S0 J0 M0 w0 S (J.put b cs.length (some (blk, base, ps))) M w := by
  refine ⟨fun b' vl l e => JMap.put_le (.inl (hJ _)) _ _ _ (h.jle _ _ _ e), h.mle, h.mnew, h.frame, fun i hi => ?_, h.size, h.os, h.tape, h.output, h.slen, fun b' hb' hj => ?_⟩
  · obtain ⟨b', c, e, base', ps', hb', hj'⟩ := hi
    by_cases hbb : b' = b
    · subst hbb; rw [hb] at hb'; cases hb'
      rw [JMap.put_self] at hj'; cases hj'; exact .inr hblk
    · exact h.wnew i ⟨b', c, e, base', ps', hb', by simpa [JMap.put, hbb] using hj'⟩
  · obtain ⟨a1, a2⟩ := h.keep b' hb' hj
    exact ⟨a1, fun vl => by have hne : b' ≠ b := by omega
                            simp [JMap.put, hne, a2]⟩
end
end Go.AVM
