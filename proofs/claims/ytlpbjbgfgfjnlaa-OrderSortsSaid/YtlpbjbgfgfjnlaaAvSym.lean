/- Rules by which a run of the abstract machine is shown step by step. -/
import Derived.Test.YtlpbjbgfgfjnlaaAvRun
set_option linter.unusedVariables false
set_option linter.unusedSimpArgs false
set_option linter.unusedSectionVars false
namespace Go.AVM
abbrev FQ := Flow → St → Prop
def wpE (R : RunF) (c : AC) (s : St) (Q : FQ) : Prop := ∃ fl s', exec R iter c s = some (fl, s') ∧ Q fl s'
def wpR (R : RunF) (os : List ROp) (s : St) (Q : FQ) : Prop := ∃ s', runOps R os s = some s' ∧ Q .nrm s'
def thenQ (k : St → Prop) (Q : FQ) : FQ := fun fl s => match fl with | .nrm => k s | .ex i => Q (.ex i) s | .ret => Q .ret s
def blockQ (id : Nat) (Q : FQ) : FQ := fun fl s => match fl with | .nrm => Q .nrm s | .ex i => if i = id then Q .nrm s else Q (.ex i) s | .ret => Q .ret s
def condQ (v : AV) (p q : Prop) : Prop := match v with | .bool b => (b = true → p) ∧ (b = false → q) | _ => False
@[simp] theorem thenQ_nrm (k : St → Prop) (Q : FQ) (s : St) : thenQ k Q .nrm s = k s := rfl
@[simp] theorem thenQ_ex (k : St → Prop) (Q : FQ) (i : Nat) (s : St) : thenQ k Q (.ex i) s = Q (.ex i) s := rfl
@[simp] theorem thenQ_ret (k : St → Prop) (Q : FQ) (s : St) : thenQ k Q .ret s = Q .ret s := rfl
@[simp] theorem blockQ_nrm (id : Nat) (Q : FQ) (s : St) : blockQ id Q .nrm s = Q .nrm s := rfl
@[simp] theorem blockQ_ex (id : Nat) (Q : FQ) (i : Nat) (s : St) : blockQ id Q (.ex i) s = if i = id then Q .nrm s else Q (.ex i) s := rfl
@[simp] theorem blockQ_ret (id : Nat) (Q : FQ) (s : St) : blockQ id Q .ret s = Q .ret s := rfl
@[simp] theorem condQ_bool (b : Bool) (p q : Prop) : condQ (.bool b) p q = ((b = true → p) ∧ (b = false → q)) := rfl

section
variable {R : RunF} {s : St} {S : Store} {tm : List AV} {Q : FQ}
@[simp] theorem wpE_skip : wpE R .skip s Q ↔ Q .nrm s := by
  constructor
  · rintro ⟨fl, s', h, hq⟩; simp only [exec] at h; cases h; exact hq
  · exact fun h => ⟨_, _, rfl, h⟩
@[simp] theorem wpE_exit {i : Nat} : wpE R (.exit i) s Q ↔ Q (.ex i) s := by
  constructor
  · rintro ⟨fl, s', h, hq⟩; simp only [exec] at h; cases h; exact hq
  · exact fun h => ⟨_, _, rfl, h⟩
@[simp] theorem wpE_ret : wpE R .ret s Q ↔ Q .ret s := by
  constructor
  · rintro ⟨fl, s', h, hq⟩; simp only [exec] at h; cases h; exact hq
  · exact fun h => ⟨_, _, rfl, h⟩
@[simp] theorem wpE_reg {os : List ROp} : wpE R (.reg os) s Q ↔ wpR R os s Q := by
  constructor
  · rintro ⟨fl, s', h, hq⟩
    simp only [exec] at h
    obtain ⟨s1, h1, h2⟩ := Option.bind_eq_some_iff.1 h
    cases h2; exact ⟨_, h1, hq⟩
  · rintro ⟨s', h, hq⟩; exact ⟨_, _, by simp only [exec, h]; rfl, hq⟩
/-- What must hold after the first part of a sequence. -/
def seqQ (R : RunF) (b : AC) (Q : FQ) : FQ := fun fl s => match fl with | .nrm => wpE R b s Q | .ex i => Q (.ex i) s | .ret => Q .ret s
@[simp] theorem seqQ_nrm {b : AC} : seqQ R b Q .nrm s = wpE R b s Q := rfl
@[simp] theorem seqQ_ex {b : AC} {i : Nat} : seqQ R b Q (.ex i) s = Q (.ex i) s := rfl
@[simp] theorem seqQ_ret {b : AC} : seqQ R b Q .ret s = Q .ret s := rfl
@[simp] theorem wpE_seq {a b : AC} : wpE R (.seq a b) s Q ↔ wpE R a s (seqQ R b Q) := by
  constructor
  · rintro ⟨fl, s', h, hq⟩
    simp only [exec] at h
    obtain ⟨⟨fl1, s1⟩, h1, h2⟩ := Option.bind_eq_some_iff.1 h
    refine ⟨fl1, s1, h1, ?_⟩
    cases fl1 with
    | nrm => exact ⟨fl, s', h2, hq⟩
    | ex i => simp only [afterFlow] at h2; cases h2; exact hq
    | ret => simp only [afterFlow] at h2; cases h2; exact hq
  · rintro ⟨fl1, s1, h1, hq⟩
    cases fl1 with
    | nrm => obtain ⟨fl, s', h2, hq⟩ := hq; exact ⟨fl, s', by simp only [exec, h1]; exact h2, hq⟩
    | ex i => exact ⟨.ex i, s1, by simp only [exec, h1]; rfl, hq⟩
    | ret => exact ⟨.ret, s1, by simp only [exec, h1]; rfl, hq⟩
theorem wpE_cond {c : Opd} {a b : AC} : wpE R (.cond c a b) s Q ↔ condQ (c.ev s.tm) (wpE R a s Q) (wpE R b s Q) := by
  unfold wpE
  simp only [exec]
  generalize c.ev s.tm = v
  cases v with
  | bool t => cases t <;> simp
  | _ => simp [condQ]
@[simp] theorem wpE_cond_t {c : Opd} {a b : AC} (h : c.ev s.tm = .bool true) : wpE R (.cond c a b) s Q ↔ wpE R a s Q := by
  rw [wpE_cond, h]; simp
@[simp] theorem wpE_cond_f {c : Opd} {a b : AC} (h : c.ev s.tm = .bool false) : wpE R (.cond c a b) s Q ↔ wpE R b s Q := by
  rw [wpE_cond, h]; simp
@[simp] theorem wpE_block {id : Nat} {b : AC} : wpE R (.block id b) s Q ↔ wpE R b s (blockQ id Q) := by
  constructor
  · rintro ⟨fl, s', h, hq⟩
    simp only [exec] at h
    obtain ⟨⟨fl1, s1⟩, h1, h2⟩ := Option.bind_eq_some_iff.1 h
    refine ⟨fl1, s1, h1, ?_⟩
    cases fl1 with
    | nrm => cases h2; exact hq
    | ret => cases h2; exact hq
    | ex i =>
      simp only [catchEx, Option.some.injEq] at h2
      simp only [blockQ_ex]
      split at h2
      · rename_i hi; rw [if_pos hi]; cases h2; exact hq
      · rename_i hi; rw [if_neg hi]; cases h2; exact hq
  · rintro ⟨fl1, s1, h1, hq⟩
    cases fl1 with
    | nrm => exact ⟨.nrm, s1, by simp only [exec, h1]; rfl, hq⟩
    | ret => exact ⟨.ret, s1, by simp only [exec, h1]; rfl, hq⟩
    | ex i =>
      simp only [blockQ_ex] at hq
      split at hq
      · rename_i hi; exact ⟨.nrm, s1, by simp only [exec, h1, catchEx, Option.bind_some, if_pos hi], hq⟩
      · rename_i hi; exact ⟨.ex i, s1, by simp only [exec, h1, catchEx, Option.bind_some, if_neg hi], hq⟩
theorem wpE_mono {c : AC} {Q' : FQ} (h : wpE R c s Q) (hq : ∀ fl s, Q fl s → Q' fl s) : wpE R c s Q' := by
  obtain ⟨fl, s', h1, h2⟩ := h
  exact ⟨fl, s', h1, hq _ _ h2⟩

/-! ### Loops -/
noncomputable def loopF (R : RunF) (live : List Bool) (base : Nat) (b : AC) (h : St) : Option (Flow × St) :=
  (exec R iter b h).bind (afterFlow (iter fun s' => exec R iter b (head live base s')))
def wpL (R : RunF) (live : List Bool) (base : Nat) (b : AC) (h : St) (Q : FQ) : Prop := ∃ fl s', loopF R live base b h = some (fl, s') ∧ Q fl s'
@[simp] theorem wpE_loop {live : List Bool} {b : AC} : wpE R (.loop live b) s Q ↔ wpL R live s.st.length b (head live s.st.length s) Q := by
  unfold wpE wpL loopF
  simp only [exec]
  rw [iter_eq]
theorem wpL_eq {live : List Bool} {base : Nat} {b : AC} : wpL R live base b s Q ↔ wpE R b s (thenQ (fun s' => wpL R live base b (head live base s') Q) Q) := by
  unfold wpL wpE loopF
  constructor
  · rintro ⟨fl, s', h, hq⟩
    obtain ⟨⟨fl1, s1⟩, h1, h2⟩ := Option.bind_eq_some_iff.1 h
    refine ⟨fl1, s1, h1, ?_⟩
    cases fl1 with
    | nrm => simp only [afterFlow] at h2; rw [iter_eq] at h2; exact ⟨fl, s', h2, hq⟩
    | ex i => simp only [afterFlow] at h2; cases h2; exact hq
    | ret => simp only [afterFlow] at h2; cases h2; exact hq
  · rintro ⟨fl1, s1, h1, hq⟩
    cases fl1 with
    | nrm => obtain ⟨fl, s', h2, hq⟩ := hq; exact ⟨fl, s', by rw [h1]; simp only [Option.bind_some, afterFlow]; rw [iter_eq]; exact h2, hq⟩
    | ex i => exact ⟨.ex i, s1, by rw [h1]; rfl, hq⟩
    | ret => exact ⟨.ret, s1, by rw [h1]; rfl, hq⟩
/-- A loop, by what holds at its head and what grows less. -/
theorem wpL_ind {live : List Bool} {base : Nat} {b : AC} (I : Nat → St → Prop) {n : Nat} (h0 : I n s) (step : ∀ n s, I n s → wpE R b s (thenQ (fun s' => ∃ m, m < n ∧ I m (head live base s')) Q)) : wpL R live base b s Q := by
  induction n using Nat.strongRecOn generalizing s with
  | _ n ih =>
    rw [wpL_eq]
    refine wpE_mono (step n s h0) fun fl s' h => ?_
    cases fl with
    | nrm => obtain ⟨m, hm, hI⟩ := h; exact ih m hm hI
    | ex i => exact h
    | ret => exact h

/-! ### Operations -/
@[simp] theorem wpR_nil : wpR R [] s Q ↔ Q .nrm s := by
  constructor
  · rintro ⟨s', h, hq⟩; simp only [runOps] at h; cases h; exact hq
  · exact fun h => ⟨_, rfl, h⟩
theorem wpR_cons {o : ROp} {os : List ROp} : wpR R (o :: os) s Q ↔ ∃ s', stepR R o s = some s' ∧ wpR R os s' Q := by
  constructor
  · rintro ⟨s', h, hq⟩
    simp only [runOps] at h
    obtain ⟨s1, h1, h2⟩ := Option.bind_eq_some_iff.1 h
    exact ⟨s1, h1, s', h2, hq⟩
  · rintro ⟨s1, h1, s', h2, hq⟩
    exact ⟨s', by simp only [runOps, h1]; exact h2, hq⟩
/-- What is left to show when an operation has given x. -/
def contQ (R : RunF) (x : Option (AV × Store)) (d : Option Nat) (tm : List AV) (os : List ROp) (Q : FQ) : Prop := ∃ p, x = some p ∧ wpR R os ⟨put tm d p.1, p.2⟩ Q
@[simp] theorem contQ_some {v : AV} {d : Option Nat} {os : List ROp} : contQ R (some (v, S)) d tm os Q ↔ wpR R os ⟨put tm d v, S⟩ Q := by
  unfold contQ
  constructor
  · rintro ⟨p, h, hq⟩; cases h; exact hq
  · exact fun h => ⟨_, rfl, h⟩
@[simp] theorem contQ_chk {c : Prop} [Decidable c] {x : Option (AV × Store)} {d : Option Nat} {os : List ROp} : contQ R (chk c x) d tm os Q ↔ c ∧ contQ R x d tm os Q := by
  unfold contQ
  simp only [chk_some]
  constructor
  · rintro ⟨p, ⟨hc, h⟩, hq⟩; exact ⟨hc, p, h, hq⟩
  · rintro ⟨hc, p, h, hq⟩; exact ⟨p, ⟨hc, h⟩, hq⟩
theorem contQ_of {x : Option (AV × Store)} {v : AV} {d : Option Nat} {os : List ROp} (h : x = some (v, S)) (hq : wpR R os ⟨put tm d v, S⟩ Q) : contQ R x d tm os Q := ⟨_, h, hq⟩
@[simp] theorem wpR_op {d : Option Nat} {k : K} {args : List Opd} {os : List ROp} :
    wpR R (⟨d, k, args, none⟩ :: os) ⟨tm, S⟩ Q ↔ contQ R (opA R k (args.map (·.ev tm)) S) d tm os Q := by
  rw [wpR_cons]
  unfold contQ stepR wants
  simp only
  constructor
  · rintro ⟨s', h, hq⟩
    obtain ⟨⟨v, S'⟩, h1, h2⟩ := Option.bind_eq_some_iff.1 h
    cases h2; exact ⟨(v, S'), h1, hq⟩
  · rintro ⟨p, h1, hq⟩
    exact ⟨_, by rw [h1]; rfl, hq⟩
@[simp] theorem wpR_yes {d : Option Nat} {k : K} {args : List Opd} {g : Nat} {w : Bool} {os : List ROp} (h : wants tm (some (g, w)) = .yes) :
    wpR R (⟨d, k, args, some (g, w)⟩ :: os) ⟨tm, S⟩ Q ↔ contQ R (opA R k (args.map (·.ev tm)) S) d tm os Q := by
  rw [wpR_cons]
  unfold contQ stepR
  simp only [h]
  constructor
  · rintro ⟨s', h, hq⟩
    obtain ⟨⟨v, S'⟩, h1, h2⟩ := Option.bind_eq_some_iff.1 h
    cases h2; exact ⟨(v, S'), h1, hq⟩
  · rintro ⟨p, h1, hq⟩
    exact ⟨_, by rw [h1]; rfl, hq⟩
@[simp] theorem wpR_no {d : Option Nat} {k : K} {args : List Opd} {g : Nat} {w : Bool} {os : List ROp} (h : wants tm (some (g, w)) = .no) :
    wpR R (⟨d, k, args, some (g, w)⟩ :: os) ⟨tm, S⟩ Q ↔ wpR R os ⟨put tm d (.tup []), S⟩ Q := by
  rw [wpR_cons]
  unfold stepR
  simp [h]
def wanB (v : AV) (w : Bool) : Wan := match v with | .bool b => if b = w then .yes else .no | .tup [] => .no | _ => .lost
@[simp] theorem wants_some (tm : List AV) (t : Nat) (w : Bool) : wants tm (some (t, w)) = wanB (tm.getD t .any) w := rfl
@[simp] theorem wanB_tt : wanB (.bool true) true = .yes := rfl
@[simp] theorem wanB_tf : wanB (.bool true) false = .no := rfl
@[simp] theorem wanB_ft : wanB (.bool false) true = .no := rfl
@[simp] theorem wanB_ff : wanB (.bool false) false = .yes := rfl
@[simp] theorem wanB_skip (w : Bool) : wanB (.tup []) w = .no := rfl
@[simp] theorem put_some (tm : List AV) (d : Nat) (v : AV) : put tm (some d) v = tm.set d v := rfl
@[simp] theorem put_none (tm : List AV) (v : AV) : put tm none v = tm := rfl
@[simp] theorem ev_t (tm : List AV) (i : Nat) : (Opd.t i).ev tm = tm.getD i .any := rfl
@[simp] theorem ev_c (tm : List AV) (v : AV) : (Opd.c v).ev tm = v := rfl
@[simp] theorem chk_bind_some {α β : Type} {c : Prop} [Decidable c] {x : Option α} {k : α → Option β} : (chk c x).bind k = chk c (x.bind k) := by unfold chk; split <;> rfl

section
variable {x y v : AV} {n sz sz' b off vl o i f : Nat} {k q : IntKind} {cs es vs : List AV} {t ag st : Bool} {cap : Option Nat} {j l c : Int}
@[simp] theorem opA_mv : opA R .mv [x] S = some (x, S) := rfl
@[simp] theorem opA_own : opA R (.own sz) [.sl [] sz' true] S = chk (0 < sz) (some (.msl S.length 0 0 sz 0 none, S ++ [.mu [] false])) := rfl
@[simp] theorem opA_pickt : opA R .pick [.bool true, x, y] S = some (x, S) := rfl
@[simp] theorem opA_pickf : opA R .pick [.bool false, x, y] S = some (y, S) := rfl
@[simp] theorem opA_alloc {z : List AV} : opA R (.alloc z) [] S = some (.mptr S.length 0 z.length, S ++ [.mu z true]) := rfl
@[simp] theorem opA_box : opA R (.box n) [v] S = chk (v.whole = true ∧ v.cells.length = n) (some (.mptr S.length 0 n, S ++ [.mu v.cells true])) := rfl
@[simp] theorem opA_build {z : List AV} {ps : List (Nat × Nat)} : opA R (.build z ps) vs S = (fillA ps vs z).bind fun cs => some (.agg cs, S) := rfl
theorem opA_litn {z : AV} {len : Nat} {ix : List Nat} (h : vs.all nr1 = true) : opA R (.lit sz z len ix) vs S = (vs.mapM (fz1 S)).bind fun vs => (fillE sz ix vs (List.replicate len z)).bind fun es => some (.sl es sz true, S) := by
  simp only [opA]; rw [if_pos h]
@[simp] theorem opA_lit0 {z : AV} : opA R (.lit sz z 0 []) [] S = some (.sl [] sz true, S) := rfl
@[simp] theorem opA_litm {z : AV} {len : Nat} {ix : List Nat} : opA R (.litm sz z len ix) vs S = (fillE sz ix vs (List.replicate len z)).bind fun es => some (.msl S.length 0 len sz (len * sz) none, S ++ [.mu (es.flatMap AV.cells) true]) := rfl
@[simp] theorem opA_load : opA R (.load ag n) [x] S = (loadA S ag n x).bind fun v => some (v, S) := rfl
@[simp] theorem opA_loadf : opA R (.loadf ag n) [.fptr cs] S = chk (n ≤ cs.length) ((ofCells ag (cs.take n)).bind fun v => some (v, S)) := rfl
@[simp] theorem opA_store : opA R (.store n) [.mptr b off vl, v] S = chk (v.whole = true ∧ v.cells.length = n) ((wr S b off vl v.cells).bind fun S' => some (.tup [], S')) := rfl
@[simp] theorem opA_nilf : opA R .nilChk [.fn f cs] S = some (.fn f cs, S) := rfl
@[simp] theorem opA_nilm : opA R .nilChk [.mptr b off vl] S = some (.mptr b off vl, S) := rfl
@[simp] theorem opA_nilp : opA R .nilChk [.fptr cs] S = some (.fptr cs, S) := rfl
@[simp] theorem opA_bin {op : BinOp} : opA R (.bin op) [x, y] S = (binA op x y).bind fun v => some (v, S) := rfl
@[simp] theorem opA_eqb {u w : Bool} : opA R (.eqb t) [.bool u, .bool w] S = some (.bool (if t then u != w else u == w), S) := rfl
@[simp] theorem opA_eqa {qq : Option IntKind} {xs ys : List AV} : opA R (.eqa t qq n) [.agg xs, .agg ys] S = chk (xs.length = n ∧ ys.length = n) ((eqcs qq xs ys).bind fun b => some (.bool (if t then !b else b), S)) := rfl
@[simp] theorem opA_un {op : UnOp} : opA R (.un op) [x] S = (unA op x).bind fun v => some (v, S) := rfl
@[simp] theorem opA_conv : opA R (.conv k) [.int q j] S = some (.int k (k.wrap j), S) := rfl
@[simp] theorem opA_mkfn : opA R (.mkfn f) vs S = some (.fn f vs, S) := by cases vs <;> rfl
@[simp] theorem opA_mks {bytes : Nat} {z : List AV} : opA R (.mks sz bytes z) [.int k l, .int q c] S = chk (0 ≤ l ∧ l ≤ c ∧ room c.toNat bytes ∧ 0 < sz ∧ c ≤ 281474976710656 ∧ z.length = sz) (some (.msl S.length 0 l.toNat sz (c.toNat * sz) none, S ++ [.mu (List.replicate c.toNat z).flatten true])) := rfl
@[simp] theorem opA_slc {lo hi mx : Bool} : opA R (.slc sz lo hi mx) (x :: vs) S = (sliceA sz lo hi mx x vs).bind fun v => some (v, S) := rfl
@[simp] theorem opA_slca {lo hi mx : Bool} : opA R (.slca n sz lo hi mx) (x :: vs) S = (sliceArr n sz lo hi mx x vs).bind fun v => some (v, S) := rfl
@[simp] theorem opA_faddrm : opA R (.faddr off n) [.mptr b o vl] S = chk (o + off + n ≤ vl) (some (.mptr b (o + off) vl, S)) := rfl
@[simp] theorem opA_faddrf : opA R (.faddr off n) [.fptr cs] S = chk (off + n ≤ cs.length) (some (.fptr (cs.drop off), S)) := rfl
@[simp] theorem opA_fld : opA R (.fld ag off n) [.agg cs] S = chk (off + n ≤ cs.length) ((ofCells ag ((cs.drop off).take n)).bind fun v => some (v, S)) := rfl
@[simp] theorem opA_iaam : opA R (.iaa n sz) [.mptr b off vl, .int k j] S = chk (0 ≤ j ∧ j < n) (some (.mptr b (off + j.toNat * sz) vl, S)) := rfl
@[simp] theorem opA_iaaf : opA R (.iaa n sz) [.fptr cs, .int k j] S = chk (0 ≤ j ∧ j < n) (some (.fptr (cs.drop (j.toNat * sz)), S)) := rfl
@[simp] theorem opA_iass : opA R (.ias sz) [.sl es sz' t, .int k j] S = chk (0 ≤ j ∧ j < es.length ∧ sz = sz') ((es[j.toNat]?).bind fun e => some (.fptr e.cells, S)) := rfl
@[simp] theorem opA_iasm : opA R (.ias sz) [.msl b off n sz' vl cap, .int k j] S = chk (0 ≤ j ∧ j < n ∧ sz = sz') (some (.mptr b (off + j.toNat * sz) vl, S)) := rfl
@[simp] theorem opA_ixa : opA R (.ixa ag n sz) [.agg cs, .int k j] S = chk (0 ≤ j ∧ j < n ∧ n * sz ≤ cs.length) ((ofCells ag ((cs.drop (j.toNat * sz)).take sz)).bind fun v => some (v, S)) := rfl
@[simp] theorem opA_ext : opA R (.ext i) [.tup vs] S = (vs[i]?).bind fun v => some (v, S) := rfl
@[simp] theorem opA_lenl : opA R .len [.sl es sz t] S = some (.int .i64 es.length, S) := rfl
@[simp] theorem opA_lenm : opA R .len [.msl b off n sz vl cap] S = some (.int .i64 n, S) := rfl
@[simp] theorem opA_lens {s : ByteArray} : opA R .lens [.str s] S = some (.int .i64 s.size, S) := rfl
@[simp] theorem opA_lenc : opA R (.lenc n) [x] S = some (.int .i64 n, S) := rfl
@[simp] theorem opA_app {bytes : Nat} : opA R (.app sz bytes) [x, y] S = appA sz bytes S x y := rfl
@[simp] theorem opA_clone {bytes : Nat} : opA R (.clone sz bytes) [x] S = appA sz bytes S (.sl [] sz true) x := rfl
@[simp] theorem opA_mn : opA R .mn vs S = (minA vs).bind fun v => some (v, S) := by cases vs <;> rfl
@[simp] theorem opA_mx : opA R .mx vs S = (maxA vs).bind fun v => some (v, S) := by cases vs <;> rfl
@[simp] theorem opA_pure : opA R (.call .pure st f) vs S = (vs.mapM (fz1 S)).bind fun as => (callPure R f as).bind fun r => (after st S vs r).bind fun S' => some (r, S') := by cases vs <;> rfl
@[simp] theorem opA_ownc : opA R (.call (.own i) st f) vs S = (vs.mapM (fz1 S)).bind fun as => (callOwn R i f as).bind fun r => (after st S vs r).bind fun S' => some (land S' r) := by cases vs <;> rfl
@[simp] theorem opA_shc : opA R (.call .sh st f) vs S = callSh R f vs S := by cases vs <;> rfl
@[simp] theorem opA_vpure : opA R (.callv .pure st) (.fn f cs :: vs) S = ((vs ++ cs).mapM (fz1 S)).bind fun as => (callPure R f as).bind fun r => (after st S (vs ++ cs) r).bind fun S' => some (r, S') := rfl
@[simp] theorem opA_vsh : opA R (.callv .sh st) (.fn f cs :: vs) S = callSh R f (vs ++ cs) S := rfl
end
variable {QO : AV → Store → Prop}
/-! ### Whole functions -/
def retQ (rs : List ARes) (Q : AV → Store → Prop) : FQ := fun fl s => match fl with | .ex _ => False | .nrm => ∃ v, resAll s rs = some v ∧ Q v s.st | .ret => ∃ v, resAll s rs = some v ∧ Q v s.st
@[simp] theorem retQ_nrm {rs : List ARes} : retQ rs QO .nrm s = ∃ v, resAll s rs = some v ∧ QO v s.st := rfl
@[simp] theorem retQ_ret {rs : List ARes} : retQ rs QO .ret s = ∃ v, resAll s rs = some v ∧ QO v s.st := rfl
def wpF (R : RunF) (f : Nat) (args : List AV) (S : Store) (Q : AV → Store → Prop) : Prop := ∃ r S', R f args S = some (r, S') ∧ Q r S'
theorem wpF_of {A : Prog} {f : Nat} {af : AF} {args : List AV} (ha : A f = some af) (hl : args.length = af.np) (h : wpE (run A) af.body (enter af args S) (retQ af.res QO)) : wpF (run A) f args S QO := by
  obtain ⟨fl, s', h1, h2⟩ := h
  cases fl with
  | ex i => exact h2.elim
  | nrm =>
    obtain ⟨v, h3, h4⟩ := h2
    exact ⟨v, s'.st, by rw [run_eq, ha]; simp only [Option.bind_some, runBody, chk_pos hl, h1]; rw [h3]; rfl, h4⟩
  | ret =>
    obtain ⟨v, h3, h4⟩ := h2
    exact ⟨v, s'.st, by rw [run_eq, ha]; simp only [Option.bind_some, runBody, chk_pos hl, h1]; rw [h3]; rfl, h4⟩
theorem callPure_of {f : Nat} {args : List AV} {r : AV} (h : wpF R f args [] fun v S' => fzv S' v = some r) : callPure R f args = some r := by
  obtain ⟨v, S', h1, h2⟩ := h
  unfold callPure
  rw [h1]
  exact h2
theorem callOwn_of {i f : Nat} {args : List AV} {r : AV} (h : wpF R f args [] fun v S' => ownRes S' i v = some r) : callOwn R i f args = some r := by
  obtain ⟨v, S', h1, h2⟩ := h
  unfold callOwn
  rw [h1]
  exact h2
end
end Go.AVM
