/- Texts joined: AvTab, AvSym, AvLib, AvNum, AvBits, AvInt1, AvInt2, AvInt3, AvInt4, AvInt5, AvInt6, AvInt7, AvInt8, AvInt9, AvInt10, AvUn, AvSto, AvInt11, AvInt12, AvInt13. -/
import Derived.Test.YtlpbjbgfgfjnlaaAvPermutes4
import Derived.Test.YtlpbjbgfgfjnlaaAvPermutes1
/- The table of the functions told. -/
namespace Go.AVM
def tab : Prog := fun n => match n with
  | 6 => some f6
  | 8 => some f8
  | 9 => some f9
  | 11 => some f11
  | 13 => some f13
  | 15 => some f15
  | 17 => some f17
  | 19 => some f19
  | 20 => some f20
  | 21 => some f21
  | 22 => some f22
  | 23 => some f23
  | 24 => some f24
  | 27 => some f27
  | 28 => some f28
  | 29 => some f29
  | 30 => some f30
  | 31 => some f31
  | 32 => some f32
  | 34 => some f34
  | 36 => some f36
  | 37 => some f37
  | 38 => some f38
  | 39 => some f39
  | 40 => some f40
  | 41 => some f41
  | 42 => some f42
  | 43 => some f43
  | 45 => some f45
  | 49 => some f49
  | 50 => some f50
  | 51 => some f51
  | 52 => some f52
  | 53 => some f53
  | 54 => some f54
  | 55 => some f55
  | 56 => some f56
  | 57 => some f57
  | 58 => some f58
  | 59 => some f59
  | 60 => some f60
  | 61 => some f61
  | 62 => some f62
  | 63 => some f63
  | 64 => some f64
  | 65 => some f65
  | 66 => some f66
  | 67 => some f67
  | 68 => some f68
  | 69 => some f69
  | 70 => some f70
  | 71 => some f71
  | 72 => some f72
  | 73 => some f73
  | 74 => some f74
  | 75 => some f75
  | 76 => some f76
  | 77 => some f77
  | 78 => some f78
  | 79 => some f79
  | 80 => some f80
  | 81 => some f81
  | 82 => some f82
  | 83 => some f83
  | 84 => some f84
  | 85 => some f85
  | 86 => some f86
  | 87 => some f87
  | 88 => some f88
  | 89 => some f89
  | 90 => some f90
  | 91 => some f91
  | 93 => some f93
  | 94 => some f94
  | 95 => some f95
  | 96 => some f96
  | 97 => some f97
  | 98 => some f98
  | 99 => some f99
  | 100 => some f100
  | 101 => some f101
  | 102 => some f102
  | 103 => some f103
  | 104 => some f104
  | 105 => some f105
  | 106 => some f106
  | 107 => some f107
  | 108 => some f108
  | _ => none
theorem tab_6 : tab 6 = some f6 := rfl
theorem tab_9 : tab 9 = some f9 := rfl
theorem tab_13 : tab 13 = some f13 := rfl
theorem tab_15 : tab 15 = some f15 := rfl
theorem tab_17 : tab 17 = some f17 := rfl
theorem tab_24 : tab 24 = some f24 := rfl
theorem tab_27 : tab 27 = some f27 := rfl
theorem tab_28 : tab 28 = some f28 := rfl
theorem tab_29 : tab 29 = some f29 := rfl
theorem tab_30 : tab 30 = some f30 := rfl
theorem tab_31 : tab 31 = some f31 := rfl
theorem tab_32 : tab 32 = some f32 := rfl
theorem tab_39 : tab 39 = some f39 := rfl
theorem tab_45 : tab 45 = some f45 := rfl
theorem tab_51 : tab 51 = some f51 := rfl
theorem tab_52 : tab 52 = some f52 := rfl
theorem tab_53 : tab 53 = some f53 := rfl
theorem tab_54 : tab 54 = some f54 := rfl
theorem tab_55 : tab 55 = some f55 := rfl
theorem tab_56 : tab 56 = some f56 := rfl
theorem tab_57 : tab 57 = some f57 := rfl
theorem tab_58 : tab 58 = some f58 := rfl
theorem tab_59 : tab 59 = some f59 := rfl
theorem tab_68 : tab 68 = some f68 := rfl
theorem tab_70 : tab 70 = some f70 := rfl
theorem tab_71 : tab 71 = some f71 := rfl
theorem tab_72 : tab 72 = some f72 := rfl
theorem tab_73 : tab 73 = some f73 := rfl
theorem tab_74 : tab 74 = some f74 := rfl
theorem tab_75 : tab 75 = some f75 := rfl
theorem tab_76 : tab 76 = some f76 := rfl
theorem tab_77 : tab 77 = some f77 := rfl
theorem tab_83 : tab 83 = some f83 := rfl
theorem tab_84 : tab 84 = some f84 := rfl
theorem tab_85 : tab 85 = some f85 := rfl
theorem tab_86 : tab 86 = some f86 := rfl
theorem tab_87 : tab 87 = some f87 := rfl
theorem tab_88 : tab 88 = some f88 := rfl
theorem tab_89 : tab 89 = some f89 := rfl
theorem tab_91 : tab 91 = some f91 := rfl
theorem tab_93 : tab 93 = some f93 := rfl
theorem tab_94 : tab 94 = some f94 := rfl
theorem tab_95 : tab 95 = some f95 := rfl
theorem tab_96 : tab 96 = some f96 := rfl
theorem tab_97 : tab 97 = some f97 := rfl
theorem tab_98 : tab 98 = some f98 := rfl
theorem tab_99 : tab 99 = some f99 := rfl
theorem tab_100 : tab 100 = some f100 := rfl
theorem tab_101 : tab 101 = some f101 := rfl
theorem tab_102 : tab 102 = some f102 := rfl
theorem tab_103 : tab 103 = some f103 := rfl
theorem tab_104 : tab 104 = some f104 := rfl
theorem tab_105 : tab 105 = some f105 := rfl
theorem tab_106 : tab 106 = some f106 := rfl
theorem tab_107 : tab 107 = some f107 := rfl
theorem tab_108 : tab 108 = some f108 := rfl
end Go.AVM

/- Rules by which a run of the abstract machine is shown step by step. -/
set_option linter.unusedVariables false
set_option linter.unusedSimpArgs false
set_option linter.unusedSectionVars false
namespace Go.AVM
abbrev FQ := Flow → St → Prop
def wpE (R : RunF) (c : AC) (s : St) (Q : FQ) : Prop := ∃ fl s', exec R iter c s = some (fl, s') ∧ Q fl s'
def wpR (R : RunF) (os : List ROp) (s : St) (Q : FQ) : Prop := ∃ s', runOps R os s = some s' ∧ Q .nrm s'
def thenQ (k : St → Prop) (Q : FQ) : FQ := fun fl s => match fl with | .nrm => k s | .ex i => Q (.ex i) s | .ret => Q .ret s
def blockQ (id : Nat) (Q : FQ) : FQ := fun fl s => match fl with | .nrm => Q .nrm s | .ex i => if i = id then Q .nrm s else Q (.ex i) s | .ret => Q .ret s
def condQ (v : AV) (p q : Prop) : Prop := match v with | .bool b => (b = true → p) ∧ (b = false → q) | _ => False
@[simp] theorem thenQ_nrm (k : St → Prop) (Q : FQ) (s : St) : thenQ k Q .nrm s = k s := rfl
@[simp] theorem thenQ_ex (k : St → Prop) (Q : FQ) (i : Nat) (s : St) : thenQ k Q (.ex i) s = Q (.ex i) s := rfl
@[simp] theorem thenQ_ret (k : St → Prop) (Q : FQ) (s : St) : thenQ k Q .ret s = Q .ret s := rfl
@[simp] theorem blockQ_nrm (id : Nat) (Q : FQ) (s : St) : blockQ id Q .nrm s = Q .nrm s := rfl
@[simp] theorem blockQ_ex (id : Nat) (Q : FQ) (i : Nat) (s : St) : blockQ id Q (.ex i) s = if i = id then Q .nrm s else Q (.ex i) s := rfl
@[simp] theorem blockQ_ret (id : Nat) (Q : FQ) (s : St) : blockQ id Q .ret s = Q .ret s := rfl
@[simp] theorem condQ_bool (b : Bool) (p q : Prop) : condQ (.bool b) p q = ((b = true → p) ∧ (b = false → q)) := rfl

section
variable {R : RunF} {s : St} {S : Store} {tm : List AV} {Q : FQ}
@[simp] theorem wpE_skip : wpE R .skip s Q ↔ Q .nrm s := by
  constructor
  · rintro ⟨fl, s', h, hq⟩; simp only [exec] at h; cases h; exact hq
  · exact fun h => ⟨_, _, rfl, h⟩
@[simp] theorem wpE_exit {i : Nat} : wpE R (.exit i) s Q ↔ Q (.ex i) s := by
  constructor
  · rintro ⟨fl, s', h, hq⟩; simp only [exec] at h; cases h; exact hq
  · exact fun h => ⟨_, _, rfl, h⟩
@[simp] theorem wpE_ret : wpE R .ret s Q ↔ Q .ret s := by
  constructor
  · rintro ⟨fl, s', h, hq⟩; simp only [exec] at h; cases h; exact hq
  · exact fun h => ⟨_, _, rfl, h⟩
@[simp] theorem wpE_reg {os : List ROp} : wpE R (.reg os) s Q ↔ wpR R os s Q := by
  constructor
  · rintro ⟨fl, s', h, hq⟩
    simp only [exec] at h
    obtain ⟨s1, h1, h2⟩ := Option.bind_eq_some_iff.1 h
    cases h2; exact ⟨_, h1, hq⟩
  · rintro ⟨s', h, hq⟩; exact ⟨_, _, by simp only [exec, h]; rfl, hq⟩
/-- What must hold after the first part of a sequence. -/
def seqQ (R : RunF) (b : AC) (Q : FQ) : FQ := fun fl s => match fl with | .nrm => wpE R b s Q | .ex i => Q (.ex i) s | .ret => Q .ret s
@[simp] theorem seqQ_nrm {b : AC} : seqQ R b Q .nrm s = wpE R b s Q := rfl
@[simp] theorem seqQ_ex {b : AC} {i : Nat} : seqQ R b Q (.ex i) s = Q (.ex i) s := rfl
@[simp] theorem seqQ_ret {b : AC} : seqQ R b Q .ret s = Q .ret s := rfl
@[simp] theorem wpE_seq {a b : AC} : wpE R (.seq a b) s Q ↔ wpE R a s (seqQ R b Q) := by
  constructor
  · rintro ⟨fl, s', h, hq⟩
    simp only [exec] at h
    obtain ⟨⟨fl1, s1⟩, h1, h2⟩ := Option.bind_eq_some_iff.1 h
    refine ⟨fl1, s1, h1, ?_⟩
    cases fl1 with
    | nrm => exact ⟨fl, s', h2, hq⟩
    | ex i => simp only [afterFlow] at h2; cases h2; exact hq
    | ret => simp only [afterFlow] at h2; cases h2; exact hq
  · rintro ⟨fl1, s1, h1, hq⟩
    cases fl1 with
    | nrm => obtain ⟨fl, s', h2, hq⟩ := hq; exact ⟨fl, s', by simp only [exec, h1]; exact h2, hq⟩
    | ex i => exact ⟨.ex i, s1, by simp only [exec, h1]; rfl, hq⟩
    | ret => exact ⟨.ret, s1, by simp only [exec, h1]; rfl, hq⟩
theorem wpE_cond {c : Opd} {a b : AC} : wpE R (.cond c a b) s Q ↔ condQ (c.ev s.tm) (wpE R a s Q) (wpE R b s Q) := by
  unfold wpE
  simp only [exec]
  generalize c.ev s.tm = v
  cases v with
  | bool t => cases t <;> simp
  | _ => simp [condQ]
@[simp] theorem wpE_cond_t {c : Opd} {a b : AC} (h : c.ev s.tm = .bool true) : wpE R (.cond c a b) s Q ↔ wpE R a s Q := by
  rw [wpE_cond, h]; simp
@[simp] theorem wpE_cond_f {c : Opd} {a b : AC} (h : c.ev s.tm = .bool false) : wpE R (.cond c a b) s Q ↔ wpE R b s Q := by
  rw [wpE_cond, h]; simp
@[simp] theorem wpE_block {id : Nat} {b : AC} : wpE R (.block id b) s Q ↔ wpE R b s (blockQ id Q) := by
  constructor
  · rintro ⟨fl, s', h, hq⟩
    simp only [exec] at h
    obtain ⟨⟨fl1, s1⟩, h1, h2⟩ := Option.bind_eq_some_iff.1 h
    refine ⟨fl1, s1, h1, ?_⟩
    cases fl1 with
    | nrm => cases h2; exact hq
    | ret => cases h2; exact hq
    | ex i =>
      simp only [catchEx, Option.some.injEq] at h2
      simp only [blockQ_ex]
      split at h2
      · rename_i hi; rw [if_pos hi]; cases h2; exact hq
      · rename_i hi; rw [if_neg hi]; cases h2; exact hq
  · rintro ⟨fl1, s1, h1, hq⟩
    cases fl1 with
    | nrm => exact ⟨.nrm, s1, by simp only [exec, h1]; rfl, hq⟩
    | ret => exact ⟨.ret, s1, by simp only [exec, h1]; rfl, hq⟩
    | ex i =>
      simp only [blockQ_ex] at hq
      split at hq
      · rename_i hi; exact ⟨.nrm, s1, by simp only [exec, h1, catchEx, Option.bind_some, if_pos hi], hq⟩
      · rename_i hi; exact ⟨.ex i, s1, by simp only [exec, h1, catchEx, Option.bind_some, if_neg hi], hq⟩
/-! ### Loops -/
noncomputable def loopF (R : RunF) (live : List Bool) (base : Nat) (b : AC) (h : St) : Option (Flow × St) :=
  (exec R iter b h).bind (afterFlow (iter fun s' => exec R iter b (head live base s')))
def wpL (R : RunF) (live : List Bool) (base : Nat) (b : AC) (h : St) (Q : FQ) : Prop := ∃ fl s', loopF R live base b h = some (fl, s') ∧ Q fl s'
@[simp] theorem wpE_loop {live : List Bool} {b : AC} : wpE R (.loop live b) s Q ↔ wpL R live s.st.length b (head live s.st.length s) Q := by
  unfold wpE wpL loopF
  simp only [exec]
  rw [iter_eq]
theorem wpL_eq {live : List Bool} {base : Nat} {b : AC} : wpL R live base b s Q ↔ wpE R b s (thenQ (fun s' => wpL R live base b (head live base s') Q) Q) := by
  unfold wpL wpE loopF
  constructor
  · rintro ⟨fl, s', h, hq⟩
    obtain ⟨⟨fl1, s1⟩, h1, h2⟩ := Option.bind_eq_some_iff.1 h
    refine ⟨fl1, s1, h1, ?_⟩
    cases fl1 with
    | nrm => simp only [afterFlow] at h2; rw [iter_eq] at h2; exact ⟨fl, s', h2, hq⟩
    | ex i => simp only [afterFlow] at h2; cases h2; exact hq
    | ret => simp only [afterFlow] at h2; cases h2; exact hq
  · rintro ⟨fl1, s1, h1, hq⟩
    cases fl1 with
    | nrm => obtain ⟨fl, s', h2, hq⟩ := hq; exact ⟨fl, s', by rw [h1]; simp only [Option.bind_some, afterFlow]; rw [iter_eq]; exact h2, hq⟩
    | ex i => exact ⟨.ex i, s1, by rw [h1]; rfl, hq⟩
    | ret => exact ⟨.ret, s1, by rw [h1]; rfl, hq⟩
/-! ### Operations -/
@[simp] theorem wpR_nil : wpR R [] s Q ↔ Q .nrm s := by
  constructor
  · rintro ⟨s', h, hq⟩; simp only [runOps] at h; cases h; exact hq
  · exact fun h => ⟨_, rfl, h⟩
theorem wpR_cons {o : ROp} {os : List ROp} : wpR R (o :: os) s Q ↔ ∃ s', stepR R o s = some s' ∧ wpR R os s' Q := by
  constructor
  · rintro ⟨s', h, hq⟩
    simp only [runOps] at h
    obtain ⟨s1, h1, h2⟩ := Option.bind_eq_some_iff.1 h
    exact ⟨s1, h1, s', h2, hq⟩
  · rintro ⟨s1, h1, s', h2, hq⟩
    exact ⟨s', by simp only [runOps, h1]; exact h2, hq⟩
/-- What is left to show when an operation has given x. -/
def contQ (R : RunF) (x : Option (AV × Store)) (d : Option Nat) (tm : List AV) (os : List ROp) (Q : FQ) : Prop := ∃ p, x = some p ∧ wpR R os ⟨put tm d p.1, p.2⟩ Q
@[simp] theorem contQ_some {v : AV} {d : Option Nat} {os : List ROp} : contQ R (some (v, S)) d tm os Q ↔ wpR R os ⟨put tm d v, S⟩ Q := by
  unfold contQ
  constructor
  · rintro ⟨p, h, hq⟩; cases h; exact hq
  · exact fun h => ⟨_, rfl, h⟩
@[simp] theorem contQ_chk {c : Prop} [Decidable c] {x : Option (AV × Store)} {d : Option Nat} {os : List ROp} : contQ R (chk c x) d tm os Q ↔ c ∧ contQ R x d tm os Q := by
  unfold contQ
  simp only [chk_some]
  constructor
  · rintro ⟨p, ⟨hc, h⟩, hq⟩; exact ⟨hc, p, h, hq⟩
  · rintro ⟨hc, p, h, hq⟩; exact ⟨p, ⟨hc, h⟩, hq⟩
@[simp] theorem wpR_op {d : Option Nat} {k : K} {args : List Opd} {os : List ROp} :
    wpR R (⟨d, k, args, none⟩ :: os) ⟨tm, S⟩ Q ↔ contQ R (opA R k (args.map (·.ev tm)) S) d tm os Q := by
  rw [wpR_cons]
  unfold contQ stepR wants
  simp only
  constructor
  · rintro ⟨s', h, hq⟩
    obtain ⟨⟨v, S'⟩, h1, h2⟩ := Option.bind_eq_some_iff.1 h
    cases h2; exact ⟨(v, S'), h1, hq⟩
  · rintro ⟨p, h1, hq⟩
    exact ⟨_, by rw [h1]; rfl, hq⟩
@[simp] theorem wpR_yes {d : Option Nat} {k : K} {args : List Opd} {g : Nat} {w : Bool} {os : List ROp} (h : wants tm (some (g, w)) = .yes) :
    wpR R (⟨d, k, args, some (g, w)⟩ :: os) ⟨tm, S⟩ Q ↔ contQ R (opA R k (args.map (·.ev tm)) S) d tm os Q := by
  rw [wpR_cons]
  unfold contQ stepR
  simp only [h]
  constructor
  · rintro ⟨s', h, hq⟩
    obtain ⟨⟨v, S'⟩, h1, h2⟩ := Option.bind_eq_some_iff.1 h
    cases h2; exact ⟨(v, S'), h1, hq⟩
  · rintro ⟨p, h1, hq⟩
    exact ⟨_, by rw [h1]; rfl, hq⟩
@[simp] theorem wpR_no {d : Option Nat} {k : K} {args : List Opd} {g : Nat} {w : Bool} {os : List ROp} (h : wants tm (some (g, w)) = .no) :
    wpR R (⟨d, k, args, some (g, w)⟩ :: os) ⟨tm, S⟩ Q ↔ wpR R os ⟨put tm d (.tup []), S⟩ Q := by
  rw [wpR_cons]
  unfold stepR
  simp [h]
def wanB (v : AV) (w : Bool) : Wan := match v with | .bool b => if b = w then .yes else .no | .tup [] => .no | _ => .lost
@[simp] theorem wants_some (tm : List AV) (t : Nat) (w : Bool) : wants tm (some (t, w)) = wanB (tm.getD t .any) w := rfl
@[simp] theorem wanB_tt : wanB (.bool true) true = .yes := rfl
@[simp] theorem wanB_tf : wanB (.bool true) false = .no := rfl
@[simp] theorem wanB_ft : wanB (.bool false) true = .no := rfl
@[simp] theorem wanB_ff : wanB (.bool false) false = .yes := rfl
@[simp] theorem wanB_skip (w : Bool) : wanB (.tup []) w = .no := rfl
@[simp] theorem put_some (tm : List AV) (d : Nat) (v : AV) : put tm (some d) v = tm.set d v := rfl
@[simp] theorem put_none (tm : List AV) (v : AV) : put tm none v = tm := rfl
@[simp] theorem ev_t (tm : List AV) (i : Nat) : (Opd.t i).ev tm = tm.getD i .any := rfl
@[simp] theorem ev_c (tm : List AV) (v : AV) : (Opd.c v).ev tm = v := rfl
@[simp] theorem chk_bind_some {α β : Type} {c : Prop} [Decidable c] {x : Option α} {k : α → Option β} : (chk c x).bind k = chk c (x.bind k) := by unfold chk; split <;> rfl

section
variable {x y v : AV} {n sz sz' b off vl o i f : Nat} {k q : IntKind} {cs es vs : List AV} {t ag st : Bool} {cap : Option Nat} {j l c : Int}
@[simp] theorem opA_mv : opA R .mv [x] S = some (x, S) := rfl
@[simp] theorem opA_own : opA R (.own sz) [.sl [] sz' true] S = chk (0 < sz) (some (.msl S.length 0 0 sz 0 none, S ++ [.mu [] false])) := rfl
@[simp] theorem opA_pickt : opA R .pick [.bool true, x, y] S = some (x, S) := rfl
@[simp] theorem opA_pickf : opA R .pick [.bool false, x, y] S = some (y, S) := rfl
@[simp] theorem opA_alloc {z : List AV} : opA R (.alloc z) [] S = some (.mptr S.length 0 z.length, S ++ [.mu z true]) := rfl
@[simp] theorem opA_box : opA R (.box n) [v] S = chk (v.whole = true ∧ v.cells.length = n) (some (.mptr S.length 0 n, S ++ [.mu v.cells true])) := rfl
@[simp] theorem opA_build {z : List AV} {ps : List (Nat × Nat)} : opA R (.build z ps) vs S = (fillA ps vs z).bind fun cs => some (.agg cs, S) := rfl
theorem opA_litn {z : AV} {len : Nat} {ix : List Nat} (h : vs.all nr1 = true) : opA R (.lit sz z len ix) vs S = (vs.mapM (fz1 S)).bind fun vs => (fillE sz ix vs (List.replicate len z)).bind fun es => some (.sl es sz true, S) := by
  simp only [opA]; rw [if_pos h]
@[simp] theorem opA_lit0 {z : AV} : opA R (.lit sz z 0 []) [] S = some (.sl [] sz true, S) := rfl
@[simp] theorem opA_litm {z : AV} {len : Nat} {ix : List Nat} : opA R (.litm sz z len ix) vs S = (fillE sz ix vs (List.replicate len z)).bind fun es => some (.msl S.length 0 len sz (len * sz) none, S ++ [.mu (es.flatMap AV.cells) true]) := rfl
@[simp] theorem opA_load : opA R (.load ag n) [x] S = (loadA S ag n x).bind fun v => some (v, S) := rfl
@[simp] theorem opA_loadf : opA R (.loadf ag n) [.fptr cs] S = chk (n ≤ cs.length) ((ofCells ag (cs.take n)).bind fun v => some (v, S)) := rfl
@[simp] theorem opA_store : opA R (.store n) [.mptr b off vl, v] S = chk (v.whole = true ∧ v.cells.length = n) ((wr S b off vl v.cells).bind fun S' => some (.tup [], S')) := rfl
@[simp] theorem opA_nilf : opA R .nilChk [.fn f cs] S = some (.fn f cs, S) := rfl
@[simp] theorem opA_nilm : opA R .nilChk [.mptr b off vl] S = some (.mptr b off vl, S) := rfl
@[simp] theorem opA_nilp : opA R .nilChk [.fptr cs] S = some (.fptr cs, S) := rfl
@[simp] theorem opA_bin {op : BinOp} : opA R (.bin op) [x, y] S = (binA op x y).bind fun v => some (v, S) := rfl
@[simp] theorem opA_eqb {u w : Bool} : opA R (.eqb t) [.bool u, .bool w] S = some (.bool (if t then u != w else u == w), S) := rfl
@[simp] theorem opA_eqa {qq : Option IntKind} {xs ys : List AV} : opA R (.eqa t qq n) [.agg xs, .agg ys] S = chk (xs.length = n ∧ ys.length = n) ((eqcs qq xs ys).bind fun b => some (.bool (if t then !b else b), S)) := rfl
@[simp] theorem opA_un {op : UnOp} : opA R (.un op) [x] S = (unA op x).bind fun v => some (v, S) := rfl
@[simp] theorem opA_conv : opA R (.conv k) [.int q j] S = some (.int k (k.wrap j), S) := rfl
@[simp] theorem opA_mkfn : opA R (.mkfn f) vs S = some (.fn f vs, S) := by cases vs <;> rfl
@[simp] theorem opA_mks {bytes : Nat} {z : List AV} : opA R (.mks sz bytes z) [.int k l, .int q c] S = chk (0 ≤ l ∧ l ≤ c ∧ room c.toNat bytes ∧ 0 < sz ∧ c ≤ 281474976710656 ∧ z.length = sz) (some (.msl S.length 0 l.toNat sz (c.toNat * sz) none, S ++ [.mu (List.replicate c.toNat z).flatten true])) := rfl
@[simp] theorem opA_slc {lo hi mx : Bool} : opA R (.slc sz lo hi mx) (x :: vs) S = (sliceA sz lo hi mx x vs).bind fun v => some (v, S) := rfl
@[simp] theorem opA_slca {lo hi mx : Bool} : opA R (.slca n sz lo hi mx) (x :: vs) S = (sliceArr n sz lo hi mx x vs).bind fun v => some (v, S) := rfl
@[simp] theorem opA_faddrm : opA R (.faddr off n) [.mptr b o vl] S = chk (o + off + n ≤ vl) (some (.mptr b (o + off) vl, S)) := rfl
@[simp] theorem opA_faddrf : opA R (.faddr off n) [.fptr cs] S = chk (off + n ≤ cs.length) (some (.fptr (cs.drop off), S)) := rfl
@[simp] theorem opA_fld : opA R (.fld ag off n) [.agg cs] S = chk (off + n ≤ cs.length) ((ofCells ag ((cs.drop off).take n)).bind fun v => some (v, S)) := rfl
@[simp] theorem opA_iaam : opA R (.iaa n sz) [.mptr b off vl, .int k j] S = chk (0 ≤ j ∧ j < n) (some (.mptr b (off + j.toNat * sz) vl, S)) := rfl
@[simp] theorem opA_iaaf : opA R (.iaa n sz) [.fptr cs, .int k j] S = chk (0 ≤ j ∧ j < n) (some (.fptr (cs.drop (j.toNat * sz)), S)) := rfl
@[simp] theorem opA_iass : opA R (.ias sz) [.sl es sz' t, .int k j] S = chk (0 ≤ j ∧ j < es.length ∧ sz = sz') ((es[j.toNat]?).bind fun e => some (.fptr e.cells, S)) := rfl
@[simp] theorem opA_iasm : opA R (.ias sz) [.msl b off n sz' vl cap, .int k j] S = chk (0 ≤ j ∧ j < n ∧ sz = sz') (some (.mptr b (off + j.toNat * sz) vl, S)) := rfl
@[simp] theorem opA_ixa : opA R (.ixa ag n sz) [.agg cs, .int k j] S = chk (0 ≤ j ∧ j < n ∧ n * sz ≤ cs.length) ((ofCells ag ((cs.drop (j.toNat * sz)).take sz)).bind fun v => some (v, S)) := rfl
@[simp] theorem opA_ext : opA R (.ext i) [.tup vs] S = (vs[i]?).bind fun v => some (v, S) := rfl
@[simp] theorem opA_lenl : opA R .len [.sl es sz t] S = some (.int .i64 es.length, S) := rfl
@[simp] theorem opA_lenm : opA R .len [.msl b off n sz vl cap] S = some (.int .i64 n, S) := rfl
@[simp] theorem opA_lens {s : ByteArray} : opA R .lens [.str s] S = some (.int .i64 s.size, S) := rfl
@[simp] theorem opA_lenc : opA R (.lenc n) [x] S = some (.int .i64 n, S) := rfl
@[simp] theorem opA_app {bytes : Nat} : opA R (.app sz bytes) [x, y] S = appA sz bytes S x y := rfl
@[simp] theorem opA_clone {bytes : Nat} : opA R (.clone sz bytes) [x] S = appA sz bytes S (.sl [] sz true) x := rfl
@[simp] theorem opA_mn : opA R .mn vs S = (minA vs).bind fun v => some (v, S) := by cases vs <;> rfl
@[simp] theorem opA_mx : opA R .mx vs S = (maxA vs).bind fun v => some (v, S) := by cases vs <;> rfl
@[simp] theorem opA_pure : opA R (.call .pure st f) vs S = (vs.mapM (fz1 S)).bind fun as => (callPure R f as).bind fun r => (after st S vs r).bind fun S' => some (r, S') := by cases vs <;> rfl
@[simp] theorem opA_ownc : opA R (.call (.own i) st f) vs S = (vs.mapM (fz1 S)).bind fun as => (callOwn R i f as).bind fun r => (after st S vs r).bind fun S' => some (land S' r) := by cases vs <;> rfl
@[simp] theorem opA_shc : opA R (.call .sh st f) vs S = callSh R f vs S := by cases vs <;> rfl
@[simp] theorem opA_vpure : opA R (.callv .pure st) (.fn f cs :: vs) S = ((vs ++ cs).mapM (fz1 S)).bind fun as => (callPure R f as).bind fun r => (after st S (vs ++ cs) r).bind fun S' => some (r, S') := rfl
@[simp] theorem opA_vsh : opA R (.callv .sh st) (.fn f cs :: vs) S = callSh R f (vs ++ cs) S := rfl
end
variable {QO : AV → Store → Prop}
/-! ### Whole functions -/
def retQ (rs : List ARes) (Q : AV → Store → Prop) : FQ := fun fl s => match fl with | .ex _ => False | .nrm => ∃ v, resAll s rs = some v ∧ Q v s.st | .ret => ∃ v, resAll s rs = some v ∧ Q v s.st
@[simp] theorem retQ_nrm {rs : List ARes} : retQ rs QO .nrm s = ∃ v, resAll s rs = some v ∧ QO v s.st := rfl
@[simp] theorem retQ_ret {rs : List ARes} : retQ rs QO .ret s = ∃ v, resAll s rs = some v ∧ QO v s.st := rfl
def wpF (R : RunF) (f : Nat) (args : List AV) (S : Store) (Q : AV → Store → Prop) : Prop := ∃ r S', R f args S = some (r, S') ∧ Q r S'
theorem wpF_of {A : Prog} {f : Nat} {af : AF} {args : List AV} (ha : A f = some af) (hl : args.length = af.np) (h : wpE (run A) af.body (enter af args S) (retQ af.res QO)) : wpF (run A) f args S QO := by
  obtain ⟨fl, s', h1, h2⟩ := h
  cases fl with
  | ex i => exact h2.elim
  | nrm =>
    obtain ⟨v, h3, h4⟩ := h2
    exact ⟨v, s'.st, by rw [run_eq, ha]; simp only [Option.bind_some, runBody, chk_pos hl, h1]; rw [h3]; rfl, h4⟩
  | ret =>
    obtain ⟨v, h3, h4⟩ := h2
    exact ⟨v, s'.st, by rw [run_eq, ha]; simp only [Option.bind_some, runBody, chk_pos hl, h1]; rw [h3]; rfl, h4⟩
theorem callPure_of {f : Nat} {args : List AV} {r : AV} (h : wpF R f args [] fun v S' => fzv S' v = some r) : callPure R f args = some r := by
  obtain ⟨v, S', h1, h2⟩ := h
  unfold callPure
  rw [h1]
  exact h2
theorem callOwn_of {i f : Nat} {args : List AV} {r : AV} (h : wpF R f args [] fun v S' => ownRes S' i v = some r) : callOwn R i f args = some r := by
  obtain ⟨v, S', h1, h2⟩ := h
  unfold callOwn
  rw [h1]
  exact h2
end
end Go.AVM

/- Small facts for showing runs: numbers, lists of cells. -/
set_option linter.unusedVariables false
set_option linter.unusedSimpArgs false
set_option linter.unusedSectionVars false
namespace Go.AVM
section
variable {k : IntKind} {a b : Int}
@[simp] theorem binA_add : binA .add (.int k a) (.int k b) = some (.int k (k.wrap (a + b))) := by simp [binA, intBin, chk]
@[simp] theorem binA_sub : binA .sub (.int k a) (.int k b) = some (.int k (k.wrap (a - b))) := by simp [binA, intBin, chk]
@[simp] theorem binA_mul : binA .mul (.int k a) (.int k b) = some (.int k (k.wrap (a * b))) := by simp [binA, intBin, chk]
@[simp] theorem binA_quo : binA .quo (.int k a) (.int k b) = chk (b ≠ 0) (some (.int k (k.wrap (a.tdiv b)))) := by simp [binA, intBin, chk]
@[simp] theorem binA_rem : binA .rem (.int k a) (.int k b) = chk (b ≠ 0) (some (.int k (a.tmod b))) := by simp [binA, intBin, chk]
theorem binA_and : binA .and (.int k a) (.int k b) = some (.int k (k.wrap (BitVec.ofInt k.bits a &&& BitVec.ofInt k.bits b).toNat)) := by simp [binA, intBin, chk]
theorem binA_or : binA .or (.int k a) (.int k b) = some (.int k (k.wrap (BitVec.ofInt k.bits a ||| BitVec.ofInt k.bits b).toNat)) := by simp [binA, intBin, chk]
@[simp] theorem binA_eql : binA .eql (.int k a) (.int k b) = some (.bool (decide (a = b))) := by
  by_cases h : a = b <;> simp [binA, intBin, chk, h]
@[simp] theorem binA_neq : binA .neq (.int k a) (.int k b) = some (.bool (decide (a ≠ b))) := by
  by_cases h : a = b <;> simp [binA, intBin, chk, h]
@[simp] theorem binA_lss : binA .lss (.int k a) (.int k b) = some (.bool (decide (a < b))) := by simp [binA, intBin, chk]
@[simp] theorem binA_leq : binA .leq (.int k a) (.int k b) = some (.bool (decide (a ≤ b))) := by simp [binA, intBin, chk]
@[simp] theorem binA_gtr : binA .gtr (.int k a) (.int k b) = some (.bool (decide (b < a))) := by simp [binA, intBin, chk]
@[simp] theorem binA_geq : binA .geq (.int k a) (.int k b) = some (.bool (decide (b ≤ a))) := by simp [binA, intBin, chk]
@[simp] theorem binA_shl {q : IntKind} : binA .shl (.int k a) (.int q b) = chk (0 ≤ b) (some (.int k (k.wrap (a * 2 ^ (min b.toNat k.bits))))) := by simp [binA]
@[simp] theorem binA_shr {q : IntKind} : binA .shr (.int k a) (.int q b) = chk (0 ≤ b) (some (.int k (a.fdiv (2 ^ (min b.toNat k.bits))))) := by simp [binA]
@[simp] theorem unA_neg : unA .neg (.int k a) = some (.int k (k.wrap (0 - a))) := rfl
@[simp] theorem unA_not {b : Bool} : unA .not (.bool b) = some (.bool !b) := rfl
@[simp] theorem minA2 : minA [.int k a, .int k b] = some (.int k (if b < a then b else a)) := by simp [minA, chk]
@[simp] theorem maxA2 : maxA [.int k a, .int k b] = some (.int k (if b > a then b else a)) := by simp [maxA, chk]
end

/-! ### Wrapping -/
theorem wrap_i64_eq (n : Int) : IntKind.i64.wrap n = if 9223372036854775808 ≤ n % 18446744073709551616 then n % 18446744073709551616 - 18446744073709551616 else n % 18446744073709551616 := by simp [IntKind.wrap, IntKind.bits, IntKind.signed]
theorem wrap_i64 {n : Int} (h1 : -9223372036854775808 ≤ n) (h2 : n < 9223372036854775808) : IntKind.i64.wrap n = n := by
  rw [wrap_i64_eq]
  split <;> omega
theorem wrap_u64 (n : Int) : IntKind.u64.wrap n = n % 18446744073709551616 := by simp [IntKind.wrap, IntKind.bits, IntKind.signed]
theorem wrap_u32 (n : Int) : IntKind.u32.wrap n = n % 4294967296 := by simp [IntKind.wrap, IntKind.bits, IntKind.signed]
theorem wrap_u8 (n : Int) : IntKind.u8.wrap n = n % 256 := by simp [IntKind.wrap, IntKind.bits, IntKind.signed]

/-! ### Cells -/
@[simp] theorem cells_int (k : IntKind) (n : Int) : (AV.int k n).cells = [.int k n] := rfl
@[simp] theorem cells_bool (b : Bool) : (AV.bool b).cells = [.bool b] := rfl
@[simp] theorem cells_agg (cs : List AV) : (AV.agg cs).cells = cs := rfl
@[simp] theorem cells_sl (es : List AV) (sz : Nat) (t : Bool) : (AV.sl es sz t).cells = [.sl es sz t] := rfl
@[simp] theorem cells_msl (b off n sz vl : Nat) (c : Option Nat) : (AV.msl b off n sz vl c).cells = [.msl b off n sz vl c] := rfl
@[simp] theorem whole_int (k : IntKind) (n : Int) : (AV.int k n).whole = true := rfl
@[simp] theorem whole_bool (b : Bool) : (AV.bool b).whole = true := rfl
@[simp] theorem whole_agg (cs : List AV) : (AV.agg cs).whole = true := rfl
@[simp] theorem whole_sl (es : List AV) (sz : Nat) (t : Bool) : (AV.sl es sz t).whole = true := rfl
@[simp] theorem whole_msl (b off n sz vl : Nat) (c : Option Nat) : (AV.msl b off n sz vl c).whole = true := rfl
@[simp] theorem ofCells_true (cs : List AV) : ofCells true cs = some (.agg cs) := rfl
@[simp] theorem ofCells_false (cs : List AV) : ofCells false cs = cs.head? := rfl
@[simp] theorem loadA_fptr (S : Store) (ag : Bool) (n : Nat) (cs : List AV) : loadA S ag n (.fptr cs) = chk (n ≤ cs.length) (ofCells ag (cs.take n)) := rfl
@[simp] theorem loadA_mptr (S : Store) (ag : Bool) (n b off vl : Nat) : loadA S ag n (.mptr b off vl) = (rd S b off vl n).bind (ofCells ag) := rfl
@[simp] theorem chk_eq_some {α : Type} {c : Prop} [Decidable c] {x : Option α} {r : α} : (chk c x = some r) = (c ∧ x = some r) := propext chk_some

/-- Numbers of a kind, as cells. -/
def nums (k : IntKind) (xs : List Int) : List AV := xs.map (.int k)
@[simp] theorem nums_length (k : IntKind) (xs : List Int) : (nums k xs).length = xs.length := by simp [nums]
@[simp] theorem nums_get (k : IntKind) (xs : List Int) (i : Nat) : (nums k xs)[i]? = (xs[i]?).map (.int k) := by simp [nums]
@[simp] theorem nums_nil (k : IntKind) : nums k [] = [] := rfl
@[simp] theorem nums_cons (k : IntKind) (x : Int) (xs : List Int) : nums k (x :: xs) = .int k x :: nums k xs := rfl
theorem nums_take (k : IntKind) (xs : List Int) (n : Nat) : (nums k xs).take n = nums k (xs.take n) := by simp [nums, List.map_take]
theorem nums_drop (k : IntKind) (xs : List Int) (n : Nat) : (nums k xs).drop n = nums k (xs.drop n) := by simp [nums, List.map_drop]
theorem nums_append (k : IntKind) (xs ys : List Int) : nums k xs ++ nums k ys = nums k (xs ++ ys) := by simp [nums]
@[simp] theorem head_take_drop {α : Type} (l : List α) (i : Nat) : ((l.drop i).take 1).head? = l[i]? := by
  rw [List.head?_take]; simp [List.head?_drop]
@[simp] theorem nums_cells (k : IntKind) (xs : List Int) : (nums k xs).flatMap AV.cells = nums k xs := by
  induction xs with
  | nil => rfl
  | cons x xs ih => simp [ih]
@[simp] theorem nums_fzc (S : Store) (fuel : Nat) (k : IntKind) (xs : List Int) : (nums k xs).mapM (fzc S fuel) = some (nums k xs) := by
  induction xs with
  | nil => rfl
  | cons x xs ih => cases fuel <;> simp [List.mapM_cons, fzc, ih]
@[simp] theorem nums_nrc (k : IntKind) (xs : List Int) : (nums k xs).all nrc = true := by simp [nums, nrc]
@[simp] theorem nums_lt1 (k : IntKind) (xs : List Int) (n : Nat) : (nums k xs).all (lt1 n) = true := by simp [nums, lt1, ltc]
@[simp] theorem nums_ltc (k : IntKind) (xs : List Int) (n : Nat) : (nums k xs).all (ltc n) = true := by simp [nums, ltc]
theorem nums_set (k : IntKind) (xs : List Int) (i : Nat) (v : Int) : (nums k xs).set i (.int k v) = nums k (xs.set i v) := by simp [nums, List.map_set]
@[simp] theorem nums_chunk1 (k : IntKind) (xs : List Int) : chunk 1 xs.length (nums k xs) = nums k xs := by
  induction xs with
  | nil => rfl
  | cons x xs ih => simp [chunk, ih]
/-! ### Freezing -/
section
variable {S : Store} {fuel : Nat}
@[simp] theorem fzc_int (k : IntKind) (n : Int) : fzc S fuel (.int k n) = some (.int k n) := by cases fuel <;> rfl
@[simp] theorem fzc_bool (b : Bool) : fzc S fuel (.bool b) = some (.bool b) := by cases fuel <;> rfl
@[simp] theorem fzc_str (b : ByteArray) : fzc S fuel (.str b) = some (.str b) := by cases fuel <;> rfl
@[simp] theorem fzc_sl (es : List AV) (sz : Nat) (t : Bool) : fzc S fuel (.sl es sz t) = some (.sl es sz false) := by cases fuel <;> rfl
@[simp] theorem fzc_fptr (cs : List AV) : fzc S fuel (.fptr cs) = some (.fptr cs) := by cases fuel <;> rfl
@[simp] theorem fzc_nilp : fzc S fuel .nilp = some .nilp := by cases fuel <;> rfl
@[simp] theorem fz1_int (k : IntKind) (n : Int) : fz1 S (.int k n) = some (.int k n) := rfl
@[simp] theorem fz1_bool (b : Bool) : fz1 S (.bool b) = some (.bool b) := rfl
@[simp] theorem fz1_str (b : ByteArray) : fz1 S (.str b) = some (.str b) := rfl
@[simp] theorem fz1_sl (es : List AV) (sz : Nat) (t : Bool) : fz1 S (.sl es sz t) = some (.sl es sz false) := rfl
@[simp] theorem fz1_fptr (cs : List AV) : fz1 S (.fptr cs) = some (.fptr cs) := rfl
@[simp] theorem fz1_agg (cs : List AV) : fz1 S (.agg cs) = (cs.mapM (fzc S 5)).bind fun cs' => some (.agg cs') := rfl
@[simp] theorem fz1_fn (f : Nat) (cs : List AV) : fz1 S (.fn f cs) = (cs.mapM (fzc S 5)).bind fun cs' => some (.fn f cs') := rfl
@[simp] theorem fz1_msl (b off n sz vl : Nat) (c : Option Nat) : fz1 S (.msl b off n sz vl c) = fzc S (5 + 1) (.msl b off n sz vl c) := rfl
@[simp] theorem fzv_int (k : IntKind) (n : Int) : fzv S (.int k n) = some (.int k n) := rfl
@[simp] theorem fzv_bool (b : Bool) : fzv S (.bool b) = some (.bool b) := rfl
@[simp] theorem fzv_str (b : ByteArray) : fzv S (.str b) = some (.str b) := rfl
@[simp] theorem fzv_sl (es : List AV) (sz : Nat) (t : Bool) : fzv S (.sl es sz t) = some (.sl es sz false) := rfl
@[simp] theorem fzv_agg (cs : List AV) : fzv S (.agg cs) = fz1 S (.agg cs) := rfl
@[simp] theorem fzv_tup (cs : List AV) : fzv S (.tup cs) = (cs.mapM (fz1 S)).bind fun cs' => some (.tup cs') := rfl
@[simp] theorem fzv_msl (b off n sz vl : Nat) (c : Option Nat) : fzv S (.msl b off n sz vl c) = fz1 S (.msl b off n sz vl c) := rfl
@[simp] theorem nr1_int (k : IntKind) (n : Int) : nr1 (.int k n) = true := rfl
@[simp] theorem nr1_bool (b : Bool) : nr1 (.bool b) = true := rfl
@[simp] theorem nr1_sl (es : List AV) (sz : Nat) (t : Bool) : nr1 (.sl es sz t) = true := rfl
@[simp] theorem nr1_fptr (cs : List AV) : nr1 (.fptr cs) = true := rfl
@[simp] theorem nr1_str (b : ByteArray) : nr1 (.str b) = true := rfl
@[simp] theorem nr1_agg (cs : List AV) : nr1 (.agg cs) = cs.all nrc := rfl
@[simp] theorem nrc_int (k : IntKind) (n : Int) : nrc (.int k n) = true := rfl
@[simp] theorem nrc_bool (b : Bool) : nrc (.bool b) = true := rfl
@[simp] theorem nrc_sl (es : List AV) (sz : Nat) (t : Bool) : nrc (.sl es sz t) = true := rfl
@[simp] theorem mapM_nil' {f : AV → Option AV} : [].mapM f = some [] := rfl
@[simp] theorem mapM_cons' {f : AV → Option AV} {x : AV} {xs : List AV} : (x :: xs).mapM f = (f x).bind fun y => (xs.mapM f).bind fun ys => some (y :: ys) := by simp [List.mapM_cons]
theorem after_nr {st : Bool} {S : Store} {args : List AV} {r : AV} (h : args.all nr1 = true) : after st S args r = some S := by unfold after; simp [h]
theorem after_bare {st : Bool} {S : Store} {args : List AV} {r : AV} (h : r.bare = true) : after st S args r = some S := by unfold after; simp [h]
@[simp] theorem resA_t (s : St) (i : Nat) : resA s (.t i) = some (s.tm.getD i .any) := rfl
@[simp] theorem resA_c (s : St) (i : Nat) (ag : Bool) (n : Nat) : resA s (.c i ag n) = loadA s.st ag n (s.tm.getD i .any) := rfl
@[simp] theorem resAll1 (s : St) (r : ARes) : resAll s [r] = resA s r := by
  unfold resAll
  cases h : resA s r <;> simp [List.mapM_cons, h]
@[simp] theorem resAll2 (s : St) (r q : ARes) : resAll s [r, q] = (resA s r).bind fun a => (resA s q).bind fun b => some (.tup [a, b]) := by
  unfold resAll
  cases h : resA s r <;> cases h' : resA s q <;> simp [List.mapM_cons, h, h']
@[simp] theorem resAll3 (s : St) (r q o : ARes) : resAll s [r, q, o] = (resA s r).bind fun a => (resA s q).bind fun b => (resA s o).bind fun c => some (.tup [a, b, c]) := by
  unfold resAll
  cases h : resA s r <;> cases h' : resA s q <;> cases h'' : resA s o <;> simp [List.mapM_cons, h, h', h'']
theorem enter_eq (af : AF) (args : List AV) (S : Store) : enter af args S = ⟨args ++ List.replicate (af.nt - args.length) (.tup []), S⟩ := rfl
end

/-! ### The store -/
theorem trunc_len {n : Nat} {vs : List AV} {S : Store} (h : S.length ≤ n) : trunc n vs S = S := by
  unfold trunc
  split
  · exact List.take_of_length_le h
  · rfl
@[simp] theorem trunc_one (n : Nat) (vs : List AV) (x : Blk) : trunc (n + 1) vs [x] = [x] := trunc_len (by simp)
@[simp] theorem trunc_nil (n : Nat) (vs : List AV) : trunc n vs [] = [] := trunc_len (by simp)
theorem mask_map : ∀ (live : List Bool) (tm : List AV), mask live tm = (List.range tm.length).map fun i => bif live.getD i false then tm.getD i .any else .any
  | live, [] => by cases live <;> rfl
  | [], v :: vs => by
    rw [mask, mask_map [] vs, List.length_cons, List.range_succ_eq_map]
    simp
  | b :: bs, v :: vs => by
    rw [mask, mask_map bs vs, List.length_cons, List.range_succ_eq_map]
    simp
theorem mask_of {live : List Bool} {tm : List AV} {n : Nat} (h : tm.length = n) : mask live tm = (List.range n).map fun i => bif live.getD i false then tm.getD i .any else .any := by
  subst h; exact mask_map live tm

/-! ### Equations, told once -/
end Go.AVM

/- Numbers as rows of words: plain arithmetic, no machine. -/
set_option linter.unusedVariables false
set_option linter.unusedSimpArgs false
set_option linter.unusedSectionVars false
namespace Go.AVM
abbrev B : Nat := 4294967296
def val : List Nat → Nat
  | [] => 0
  | w :: ws => w + B * val ws
def Wd (ws : List Nat) : Prop := ∀ w ∈ ws, w < B
def dig (n : Nat) : List Nat := if h : n = 0 then [] else n % B :: dig (n / B)
termination_by n
decreasing_by exact Nat.div_lt_self (Nat.pos_of_ne_zero h) (by decide)
@[simp] theorem dig_zero : dig 0 = [] := by rw [dig]; simp
theorem dig_pos {n : Nat} (h : n ≠ 0) : dig n = n % B :: dig (n / B) := by rw [dig]; simp [h]
theorem Wd.cons {w : Nat} {ws : List Nat} (h : Wd (w :: ws)) : w < B ∧ Wd ws := ⟨h w (by simp), fun x hx => h x (by simp [hx])⟩
theorem Wd.mk {w : Nat} {ws : List Nat} (h : w < B) (h' : Wd ws) : Wd (w :: ws) := fun x hx => by
  rcases List.mem_cons.1 hx with rfl | hx
  · exact h
  · exact h' x hx
theorem Wd.nil : Wd [] := fun x hx => by cases hx
theorem Wd.app {a b : List Nat} (ha : Wd a) (hb : Wd b) : Wd (a ++ b) := fun x hx => by
  rcases List.mem_append.1 hx with h | h
  · exact ha x h
  · exact hb x h
theorem Wd.take {a : List Nat} (ha : Wd a) (n : Nat) : Wd (a.take n) := fun x hx => ha x (List.mem_of_mem_take hx)
theorem Wd.drop {a : List Nat} (ha : Wd a) (n : Nat) : Wd (a.drop n) := fun x hx => ha x (List.mem_of_mem_drop hx)
theorem Wd.rep {n w : Nat} (h : w < B) : Wd (List.replicate n w) := fun x hx => by rw [(List.mem_replicate.1 hx).2]; exact h
theorem Wd.set {a : List Nat} (ha : Wd a) {i w : Nat} (h : w < B) : Wd (a.set i w) := fun x hx => by
  rcases List.mem_or_eq_of_mem_set hx with h' | rfl
  · exact ha x h'
  · exact h
theorem Wd.get {a : List Nat} (ha : Wd a) {i w : Nat} (h : a[i]? = some w) : w < B := ha w (List.mem_of_getElem? h)
theorem dig_wd : ∀ n, Wd (dig n) := by
  intro n
  induction n using Nat.strongRecOn with
  | _ n ih =>
    by_cases h : n = 0
    · subst h; simp; exact Wd.nil
    · rw [dig_pos h]
      exact Wd.mk (Nat.mod_lt _ (by decide)) (ih _ (Nat.div_lt_self (Nat.pos_of_ne_zero h) (by decide)))
@[simp] theorem val_dig : ∀ n, val (dig n) = n := by
  intro n
  induction n using Nat.strongRecOn with
  | _ n ih =>
    by_cases h : n = 0
    · subst h; simp [val]
    · rw [dig_pos h, val, ih _ (Nat.div_lt_self (Nat.pos_of_ne_zero h) (by decide))]
      exact Nat.mod_add_div n B
theorem dig_cons {w n : Nat} (hw : w < B) (h : w ≠ 0 ∨ n ≠ 0) : dig (w + B * n) = w :: dig n := by
  have h0 : w + B * n ≠ 0 := by
    rcases h with h | h
    · omega
    · have : 0 < B * n := Nat.mul_pos (by decide) (Nat.pos_of_ne_zero h); omega
  rw [dig_pos h0]
  have h1 : (w + B * n) % B = w := by rw [Nat.add_mul_mod_self_left, Nat.mod_eq_of_lt hw]
  have h2 : (w + B * n) / B = n := by rw [Nat.add_mul_div_left _ _ (by decide), Nat.div_eq_of_lt hw, Nat.zero_add]
  rw [h1, h2]
/-- The last word is not 0. -/
def Top (ws : List Nat) : Prop := ∀ w, ws.getLast? = some w → w ≠ 0
theorem val_pos {ws : List Nat} (h : Top ws) (hne : ws ≠ []) : val ws ≠ 0 := by
  induction ws with
  | nil => exact absurd rfl hne
  | cons w ws ih =>
    cases ws with
    | nil =>
      have := h w rfl
      simp [val, this]
    | cons v vs =>
      have := ih (fun x hx => h x (by rw [List.getLast?_cons_cons]; exact hx)) (by simp)
      simp only [val]
      have h1 : 0 < B * (val (v :: vs)) := Nat.mul_pos (by decide) (Nat.pos_of_ne_zero this)
      simp only [val] at h1
      omega
theorem dig_val {ws : List Nat} (hw : Wd ws) (ht : Top ws) : dig (val ws) = ws := by
  induction ws with
  | nil => simp [val]
  | cons w ws ih =>
    simp only [val]
    cases ws with
    | nil => rw [dig_cons (hw.cons.1) (.inl (ht w rfl))]; simp [val]
    | cons v vs =>
      have ht' : Top (v :: vs) := fun x hx => ht x (by rw [List.getLast?_cons_cons]; exact hx)
      rw [dig_cons hw.cons.1 (.inr (val_pos ht' (by simp))), ih hw.cons.2 ht']
theorem val_append (a b : List Nat) : val (a ++ b) = val a + B ^ a.length * val b := by
  induction a with
  | nil => simp [val]
  | cons w a ih => simp only [List.cons_append, val, ih, List.length_cons, Nat.pow_succ]; rw [Nat.mul_add, Nat.add_assoc, ← Nat.mul_assoc, Nat.mul_comm B (B ^ a.length)]
theorem val_zeros {a : List Nat} (h : ∀ w ∈ a, w = 0) : val a = 0 := by
  induction a with
  | nil => rfl
  | cons w a ih => simp [val, h w (by simp), ih fun x hx => h x (by simp [hx])]
theorem val_lt {ws : List Nat} (h : Wd ws) : val ws < B ^ ws.length := by
  induction ws with
  | nil => simp [val]
  | cons w ws ih =>
    have h1 := ih h.cons.2
    have h2 := h.cons.1
    simp only [val, List.length_cons, Nat.pow_succ]
    have : B * (val ws + 1) ≤ B * B ^ ws.length := Nat.mul_le_mul_left _ h1
    rw [Nat.mul_add] at this
    rw [Nat.mul_comm (B ^ ws.length)]
    omega
/-- Cut where only zeros follow. -/
theorem cut_dig {ws : List Nat} (hw : Wd ws) {n : Nat} (hn : n ≤ ws.length) (hz : ∀ w ∈ ws.drop n, w = 0) (ht : n = 0 ∨ ∃ w, ws[n - 1]? = some w ∧ w ≠ 0) : ws.take n = dig (val ws) := by
  have h1 : val ws = val (ws.take n) := by
    conv => lhs; rw [← List.take_append_drop n ws, val_append, val_zeros hz]
    simp
  rw [h1, dig_val (hw.take n)]
  intro w hw'
  rcases ht with rfl | ⟨v, hv, hv0⟩
  · simp at hw'
  · by_cases h0 : n = 0
    · subst h0; simp at hw'
    · rw [List.getLast?_eq_getElem?, List.length_take, Nat.min_eq_left hn, List.getElem?_take_of_lt (by omega), hv] at hw'
      cases hw'; exact hv0
theorem dig_top (n : Nat) : Top (dig n) := by
  induction n using Nat.strongRecOn with
  | _ n ih =>
    by_cases h : n = 0
    · subst h; intro w hw; simp at hw
    · rw [dig_pos h]
      intro w hw
      by_cases h1 : n / B = 0
      · rw [h1] at hw; simp at hw
        subst hw
        have : n < B := by
          rcases Nat.lt_or_ge n B with h2 | h2
          · exact h2
          · have := Nat.div_pos h2 (by decide); omega
        rw [Nat.mod_eq_of_lt this]; exact h
      · have hne : dig (n / B) ≠ [] := by rw [dig_pos h1]; simp
        have : (n % B :: dig (n / B)).getLast? = (dig (n / B)).getLast? := by
          cases hd : dig (n / B) with
          | nil => exact absurd hd hne
          | cons a l => exact List.getLast?_cons_cons
        rw [this] at hw
        exact ih _ (Nat.div_lt_self (Nat.pos_of_ne_zero h) (by decide)) w hw
theorem dig_nil {n : Nat} : dig n = [] ↔ n = 0 := by
  constructor
  · intro h
    have := val_dig n
    rw [h] at this; simpa [val] using this.symm
  · rintro rfl; simp
/-- How many words. -/
def size (n : Nat) : Nat := (dig n).length
theorem lt_size (n : Nat) : n < B ^ size n := by
  have := val_lt (dig_wd n)
  rwa [val_dig] at this
theorem le_of_size {n : Nat} (h : n ≠ 0) : B ^ (size n - 1) ≤ n := by
  induction n using Nat.strongRecOn with
  | _ n ih =>
    unfold size
    rw [dig_pos h]
    by_cases h1 : n / B = 0
    · rw [h1]; simp; omega
    · have := ih _ (Nat.div_lt_self (Nat.pos_of_ne_zero h) (by decide)) h1
      unfold size at this
      have hp : 0 < (dig (n / B)).length := by
        rw [dig_pos h1]; simp
      simp only [List.length_cons, Nat.add_sub_cancel]
      obtain ⟨k, hk⟩ : ∃ k, (dig (n / B)).length = k + 1 := ⟨_, (Nat.succ_pred_eq_of_pos hp).symm⟩
      rw [hk] at this ⊢
      simp only [Nat.add_sub_cancel] at this
      rw [Nat.pow_succ]
      exact Nat.le_trans (Nat.mul_le_mul_right _ this) (Nat.div_mul_le_self n B)
theorem size_le {n k : Nat} (h : n < B ^ k) : size n ≤ k := by
  by_cases h0 : n = 0
  · subst h0; simp [size]
  · have := le_of_size h0
    have h1 : B ^ (size n - 1) < B ^ k := Nat.lt_of_le_of_lt this h
    have := (Nat.pow_lt_pow_iff_right (by decide : 1 < B)).1 h1
    omega
theorem size_mono {a b : Nat} (h : a ≤ b) : size a ≤ size b := size_le (Nat.lt_of_le_of_lt h (lt_size b))
theorem exists_cut (ws : List Nat) : ∃ n, n ≤ ws.length ∧ (∀ w ∈ ws.drop n, w = 0) ∧ (n = 0 ∨ ∃ w, ws[n - 1]? = some w ∧ w ≠ 0) := by
  have : ∀ n, n ≤ ws.length → (∀ w ∈ ws.drop n, w = 0) → ∃ n, n ≤ ws.length ∧ (∀ w ∈ ws.drop n, w = 0) ∧ (n = 0 ∨ ∃ w, ws[n - 1]? = some w ∧ w ≠ 0) := by
    intro n
    induction n with
    | zero => exact fun h1 h2 => ⟨0, h1, h2, .inl rfl⟩
    | succ n ih =>
      intro h1 h2
      by_cases h0 : ws[n] = 0
      · refine ih (by omega) fun v hv => ?_
        rw [List.drop_eq_getElem_cons (by omega)] at hv
        rcases List.mem_cons.1 hv with rfl | hv
        · exact h0
        · exact h2 v hv
      · exact ⟨n + 1, h1, h2, .inr ⟨ws[n], by simp, h0⟩⟩
  exact this ws.length (Nat.le_refl _) (by simp)
theorem norm_take {ws : List Nat} (hw : Wd ws) : ws.take (dig (val ws)).length = dig (val ws) ∧ (dig (val ws)).length ≤ ws.length := by
  obtain ⟨n, h1, h2, h3⟩ := exists_cut ws
  have := cut_dig hw h1 h2 h3
  have hl := congrArg List.length this
  rw [List.length_take, Nat.min_eq_left h1] at hl
  exact ⟨by rw [← hl]; exact this, by omega⟩
theorem val_take_succ (x : List Nat) (i : Nat) : val (x.take (i + 1)) = val (x.take i) + B ^ i * x.getD i 0 := by
  by_cases h : i < x.length
  · rw [List.take_add_one, val_append, List.length_take, Nat.min_eq_left (by omega)]
    have : x[i]? = some x[i] := List.getElem?_eq_getElem h
    rw [this, List.getD_eq_getElem?_getD, this]
    simp [val]
  · rw [List.take_of_length_le (by omega), List.take_of_length_le (by omega), List.getD_eq_getElem?_getD, List.getElem?_eq_none (by omega)]
    simp
theorem val_rep0 (n : Nat) : val (List.replicate n 0) = 0 := val_zeros fun w hw => (List.mem_replicate.1 hw).2
theorem val_set {ws : List Nat} {j w w' : Nat} (h : ws[j]? = some w) : val (ws.set j w') + B ^ j * w = val ws + B ^ j * w' := by
  induction ws generalizing j with
  | nil => simp at h
  | cons x ws ih =>
    cases j with
    | zero =>
      simp at h; subst h
      simp [val]; omega
    | succ j =>
      have := ih (j := j) (by simpa using h)
      simp only [List.set_cons_succ, val, Nat.pow_succ]
      have e : B * (val (ws.set j w') + B ^ j * w) = B * (val ws + B ^ j * w') := by rw [this]
      simp only [Nat.mul_add] at e
      rw [Nat.mul_comm (B ^ j) B, Nat.mul_assoc, Nat.mul_assoc]
      omega
theorem val_ge {ws : List Nat} {j w : Nat} (h : ws[j]? = some w) : B ^ j * w ≤ val ws := by
  have := val_set (w' := 0) h
  omega
end Go.AVM

/- Bits of words. -/
set_option linter.unusedVariables false
set_option linter.unusedSimpArgs false
namespace Go.AVM
theorem ofInt_nat (n x : Nat) : (BitVec.ofInt n (x : Int)).toNat = x % 2 ^ n := by
  rw [BitVec.toNat_ofInt]; omega
section
variable {k : IntKind} {x y : Nat}
theorem wrap_nat {n : Nat} (hs : k.signed = false) (h : n < 2 ^ k.bits) : k.wrap (n : Int) = n := by
  unfold IntKind.wrap
  rw [hs]
  simp only [Bool.false_and, Bool.false_eq_true, if_false]
  have : ((2 : Int) ^ k.bits) = ((2 ^ k.bits : Nat) : Int) := by push_cast; rfl
  rw [this, Int.emod_eq_of_lt (by omega) (by omega)]
theorem and_nat (hs : k.signed = false) (hx : x < 2 ^ k.bits) (hy : y < 2 ^ k.bits) : binA .and (.int k (x : Int)) (.int k (y : Int)) = some (.int k ((x &&& y : Nat) : Int)) := by
  rw [binA_and]
  have h1 : (BitVec.ofInt k.bits (x : Int) &&& BitVec.ofInt k.bits (y : Int)).toNat = x &&& y := by
    rw [BitVec.toNat_and, ofInt_nat, ofInt_nat, Nat.mod_eq_of_lt hx, Nat.mod_eq_of_lt hy]
  rw [h1, wrap_nat hs (Nat.lt_of_le_of_lt Nat.and_le_left hx)]
theorem or_nat (hs : k.signed = false) (hx : x < 2 ^ k.bits) (hy : y < 2 ^ k.bits) : binA .or (.int k (x : Int)) (.int k (y : Int)) = some (.int k ((x ||| y : Nat) : Int)) := by
  rw [binA_or]
  have h1 : (BitVec.ofInt k.bits (x : Int) ||| BitVec.ofInt k.bits (y : Int)).toNat = x ||| y := by
    rw [BitVec.toNat_or, ofInt_nat, ofInt_nat, Nat.mod_eq_of_lt hx, Nat.mod_eq_of_lt hy]
  rw [h1, wrap_nat hs (Nat.or_lt_two_pow hx hy)]
theorem xor_nat (hs : k.signed = false) (hx : x < 2 ^ k.bits) (hy : y < 2 ^ k.bits) : binA .xor (.int k (x : Int)) (.int k (y : Int)) = some (.int k ((x ^^^ y : Nat) : Int)) := by
  have h0 : binA .xor (.int k (x : Int)) (.int k (y : Int)) = some (.int k (k.wrap (BitVec.ofInt k.bits (x : Int) ^^^ BitVec.ofInt k.bits (y : Int)).toNat)) := by simp [binA, intBin, chk]
  rw [h0]
  have h1 : (BitVec.ofInt k.bits (x : Int) ^^^ BitVec.ofInt k.bits (y : Int)).toNat = x ^^^ y := by
    rw [BitVec.toNat_xor, ofInt_nat, ofInt_nat, Nat.mod_eq_of_lt hx, Nat.mod_eq_of_lt hy]
  rw [h1, wrap_nat hs (Nat.xor_lt_two_pow hx hy)]
theorem not_u32 (hx : x < B) : unA .xor (.int .u32 (x : Int)) = some (.int .u32 ((4294967295 ^^^ x : Nat) : Int)) := by
  have h0 : unA .xor (.int .u32 (x : Int)) = some (.int .u32 (IntKind.u32.wrap (BitVec.ofInt 32 (4294967295 : Int) ^^^ BitVec.ofInt 32 (x : Int)).toNat)) := rfl
  rw [h0]
  have h1 : (BitVec.ofInt 32 (4294967295 : Int) ^^^ BitVec.ofInt 32 (x : Int)).toNat = 4294967295 ^^^ x := by
    rw [BitVec.toNat_xor, ofInt_nat]
    rw [Nat.mod_eq_of_lt hx]; rfl
  rw [h1, wrap_nat (k := .u32) rfl (Nat.xor_lt_two_pow (n := 32) (by decide) hx)]
end
theorem top_bit {v : Nat} (h : v < B) : v / 2147483648 = (v.testBit 31).toNat := by
  rw [Nat.testBit_eq_decide_div_mod_eq]
  have h1 : v / 2 ^ 31 < 2 := by have : v < 4294967296 := h; omega
  have h2 : v / 2147483648 = v / 2 ^ 31 := by rfl
  rw [h2]
  have : v / 2 ^ 31 = 0 ∨ v / 2 ^ 31 = 1 := by omega
  rcases this with h | h <;> rw [h] <;> rfl
theorem bit31 {x : Nat} (h : x < B) : x.testBit 31 = decide (2147483648 ≤ x) := by
  rw [Nat.testBit_eq_decide_div_mod_eq]
  have : x < 4294967296 := h
  by_cases h1 : 2147483648 ≤ x
  · have : x / 2 ^ 31 = 1 := by omega
    simp [this, h1]
  · have : x / 2 ^ 31 = 0 := by omega
    simp [this, h1]
/-- The borrow of a subtraction of words, as the library finds it. -/
theorem borrow_bits {x y b d : Nat} (hx : x < B) (hy : y < B) (hb : b ≤ 1) (hd : d = (x + 2 * B - y - b) % B) :
    (((4294967295 ^^^ x) &&& y) ||| ((4294967295 ^^^ (x ^^^ y)) &&& d)) / 2147483648 = if x < y + b then 1 else 0 := by
  have hdB : d < B := by rw [hd]; exact Nat.mod_lt _ (by decide)
  have hF : (4294967295 : Nat) < 2 ^ 32 := by decide
  have h1 : 4294967295 ^^^ x < 2 ^ 32 := Nat.xor_lt_two_pow hF hx
  have h2 : 4294967295 ^^^ (x ^^^ y) < 2 ^ 32 := Nat.xor_lt_two_pow hF (Nat.xor_lt_two_pow (n := 32) hx hy)
  have h3 : (4294967295 ^^^ x) &&& y < 2 ^ 32 := Nat.lt_of_le_of_lt Nat.and_le_left h1
  have h4 : (4294967295 ^^^ (x ^^^ y)) &&& d < 2 ^ 32 := Nat.lt_of_le_of_lt Nat.and_le_left h2
  rw [top_bit (Nat.or_lt_two_pow h3 h4)]
  rw [Nat.testBit_or, Nat.testBit_and, Nat.testBit_and, Nat.testBit_xor, Nat.testBit_xor, Nat.testBit_xor]
  rw [bit31 hx, bit31 hy, bit31 hdB]
  have hf : Nat.testBit 4294967295 31 = true := by decide
  rw [hf]
  have e : B = 4294967296 := rfl
  rw [e] at hx hy hdB hd
  by_cases c1 : 2147483648 ≤ x <;> by_cases c2 : 2147483648 ≤ y <;> by_cases c3 : 2147483648 ≤ d <;> by_cases c4 : x < y + b <;> simp [c1, c2, c3, c4] <;> omega
end Go.AVM

/- Integers: what the functions on rows of words compute (first part). -/
set_option linter.unusedVariables false
set_option linter.unusedSimpArgs false
set_option linter.unusedSectionVars false
namespace Go.AVM
noncomputable abbrev RT : RunF := run tab
def wds (ws : List Nat) : List AV := ws.map fun (w : Nat) => .int .u32 (w : Int)
@[simp] theorem wds_length (ws : List Nat) : (wds ws).length = ws.length := by simp [wds]
@[simp] theorem wds_get (ws : List Nat) (i : Nat) : (wds ws)[i]? = (ws[i]?).map fun (w : Nat) => AV.int .u32 (w : Int) := by simp [wds]
theorem wds_take (ws : List Nat) (n : Nat) : (wds ws).take n = wds (ws.take n) := by simp [wds, List.map_take]
theorem wds_drop (ws : List Nat) (n : Nat) : (wds ws).drop n = wds (ws.drop n) := by simp [wds, List.map_drop]
@[simp] theorem wds_cells (ws : List Nat) : (wds ws).flatMap AV.cells = wds ws := by
  induction ws with
  | nil => rfl
  | cons w ws ih => simpa [wds] using ih
@[simp] theorem wds_fzc (S : Store) (fuel : Nat) (ws : List Nat) : (wds ws).mapM (fzc S fuel) = some (wds ws) := by
  induction ws with
  | nil => rfl
  | cons w ws ih =>
    have : wds (w :: ws) = AV.int .u32 (w : Int) :: wds ws := rfl
    rw [this]
    cases fuel <;> simp [List.mapM_cons, fzc, ih]
@[simp] theorem wds_lt1 (ws : List Nat) (n : Nat) : (wds ws).all (lt1 n) = true := by simp [wds, lt1, ltc]
@[simp] theorem wds_ltc (ws : List Nat) (n : Nat) : (wds ws).all (ltc n) = true := by simp [wds, ltc]
theorem wds_set (ws : List Nat) (i w : Nat) : (wds ws).set i (.int .u32 (w : Int)) = wds (ws.set i w) := by simp [wds, List.map_set]
/-- A row of words, frozen. -/
abbrev W (ws : List Nat) : AV := .sl (wds ws) 1 false
/-- A number. -/
abbrev N (n : Nat) : AV := W (dig n)

theorem norm_loop {ws : List Nat} {t : Bool} (hw : Wd ws) (hlen : ws.length < 9223372036854775808) {base : Nat} {Q : FQ} (hQ : ∀ (tm : List AV) (hl : tm.length = 22), tm[0] = .sl (wds ws) 1 t → tm[3] = .int .i64 ((dig (val ws)).length : Int) → Q (.ex 0) ⟨tm, []⟩) :
    ∀ n, n ≤ ws.length → (∀ w ∈ ws.drop n, w = 0) → wpL RT f91_0m base f91_0 ⟨[.sl (wds ws) 1 t, .any, .any, .int .i64 (n : Int), .any, .any, .any, .any, .any, .any, .any, .any, .any, .any, .any, .any, .any, .any, .any, .any, .any, .any], []⟩ Q := by
  intro n
  induction n with
  | zero =>
    intro hn hz
    have hcut := cut_dig hw hn hz (.inl rfl)
    rw [wpL_eq]
    generalize hK : (fun s' => wpL RT f91_0m base f91_0 (head f91_0m base s') Q) = K
    simp [f91_0]
    refine hQ _ rfl rfl ?_
    rw [← hcut]; simp
  | succ n ih =>
    intro hn hz
    have hnw : IntKind.i64.wrap (n : Int) = n := wrap_i64 (by omega) (by omega)
    obtain ⟨w, hget⟩ : ∃ w, ws[n]? = some w := ⟨ws[n], List.getElem?_eq_getElem (by omega)⟩
    rw [wpL_eq]
    generalize hK : (fun s' => wpL RT f91_0m base f91_0 (head f91_0m base s') Q) = K
    by_cases h0 : w = 0
    · subst h0
      simp [f91_0, hnw, hget]
      refine ⟨by omega, ?_⟩
      subst hK
      simp [head, f91_0m, mask, trunc]
      refine ih (by omega) fun v hv => ?_
      rw [List.drop_eq_getElem_cons (by omega)] at hv
      rcases List.mem_cons.1 hv with rfl | hv
      · rw [List.getElem?_eq_getElem (by omega)] at hget; exact Option.some.inj hget
      · exact hz v hv
    · have hcut := cut_dig hw hn hz (.inr ⟨w, hget, h0⟩)
      simp [f91_0, hnw, hget, h0]
      refine ⟨by omega, hQ _ rfl rfl ?_⟩
      have := congrArg List.length hcut
      simp at this
      rw [← this, Nat.min_eq_left hn]; rfl
theorem run_norm {ws : List Nat} {t : Bool} (hw : Wd ws) (hlen : ws.length < 9223372036854775808) : callPure RT 91 [.sl (wds ws) 1 t] = some (N (val ws)) := by
  refine callPure_of (wpF_of tab_91 rfl ?_)
  simp [f91, enter]
  simp [head, f91_0m, mask, trunc]
  refine norm_loop (t := t) hw hlen ?_ ws.length (Nat.le_refl _) (by simp)
  intro tm hl h0 h3
  obtain ⟨hcut, hle⟩ := norm_take hw
  simp [hl, h0, h3, sliceA, bounds, bound, hle, wds_take, hcut]

/-! ### Words -/
theorem run_at {ws : List Nat} {t : Bool} {i : Nat} (hlen : ws.length < 9223372036854775808) : callPure RT 104 [.sl (wds ws) 1 t, .int .i64 (i : Int)] = some (.int .u32 ((ws.getD i 0 : Nat) : Int)) := by
  refine callPure_of (wpF_of tab_104 rfl ?_)
  by_cases h : i < ws.length
  · have hg : ws[i]? = some ws[i] := List.getElem?_eq_getElem h
    have h' : (i : Int) < (ws.length : Int) := by omega
    simp [f104, enter, h', hg]
  · have h' : ¬ (i : Int) < (ws.length : Int) := by omega
    simp [f104, enter, h']
    rw [List.getElem?_eq_none (by omega)]; rfl
theorem fdiv_word (a : Int) : a.fdiv 4294967296 = a / 4294967296 := Int.fdiv_eq_ediv_of_nonneg _ (by decide)
theorem run_Add32 {x y c : Nat} (hx : x < B) (hy : y < B) (hc : c < B) : callPure RT 103 [.int .u32 (x : Int), .int .u32 (y : Int), .int .u32 (c : Int)] = some (.tup [.int .u32 (((x + y + c) % B : Nat) : Int), .int .u32 (((x + y + c) / B : Nat) : Int)]) := by
  refine callPure_of (wpF_of tab_103 rfl ?_)
  simp [f103, enter, wrap_u64, wrap_u32, IntKind.bits, fdiv_word]
  have e : B = 4294967296 := rfl
  omega
theorem run_Sub32 {x y b : Nat} (hx : x < B) (hy : y < B) (hb : b ≤ 1) : callPure RT 105 [.int .u32 (x : Int), .int .u32 (y : Int), .int .u32 (b : Int)] =
    some (.tup [.int .u32 (((x + 2 * B - y - b) % B : Nat) : Int), .int .u32 ((if x < y + b then 1 else 0 : Nat) : Int)]) := by
  refine callPure_of (wpF_of tab_105 rfl ?_)
  have hlast := borrow_bits hx hy hb rfl
  generalize hd : (x + 2 * B - y - b) % B = d at hlast ⊢
  have hB : B = 4294967296 := rfl
  have e1 : (((x : Int) - y) % 4294967296 - b) % 4294967296 = (d : Int) := by
    rw [hB] at hx hy hd; omega
  have hdB : d < 2 ^ IntKind.u32.bits := by rw [← hd]; exact Nat.mod_lt _ (by decide)
  have hF : (4294967295 : Nat) < 2 ^ 32 := by decide
  have hx' : x < 2 ^ IntKind.u32.bits := hx
  have hy' : y < 2 ^ IntKind.u32.bits := hy
  have hxy : x ^^^ y < 2 ^ IntKind.u32.bits := Nat.xor_lt_two_pow hx' hy'
  have h1 : 4294967295 ^^^ x < 2 ^ IntKind.u32.bits := Nat.xor_lt_two_pow hF hx
  have h2 : 4294967295 ^^^ (x ^^^ y) < 2 ^ IntKind.u32.bits := Nat.xor_lt_two_pow hF hxy
  have h3 : (4294967295 ^^^ x) &&& y < 2 ^ IntKind.u32.bits := Nat.lt_of_le_of_lt Nat.and_le_left h1
  have h4 : (4294967295 ^^^ (x ^^^ y)) &&& d < 2 ^ IntKind.u32.bits := Nat.lt_of_le_of_lt Nat.and_le_left h2
  have hv := Nat.or_lt_two_pow h3 h4
  simp only [f105, enter]
  simp [wrap_u32, e1]
  rw [not_u32 hx]
  simp
  rw [and_nat rfl h1 hy']
  simp
  rw [xor_nat rfl hx' hy']
  simp
  rw [not_u32 hxy]
  simp
  rw [and_nat rfl h2 hdB]
  simp
  rw [or_nat rfl h3 h4]
  simp
  have e2 : Int.fdiv ((((4294967295 ^^^ x) &&& y ||| (4294967295 ^^^ (x ^^^ y)) &&& d : Nat) : Int)) (2 ^ min 31 IntKind.u32.bits) = ((if x < y + b then 1 else 0 : Nat) : Int) := by
    rw [← hlast, Int.fdiv_eq_ediv_of_nonneg _ (by decide)]
    rfl
  simp [e2]

/-! ### Comparing -/
theorem run_isNaN (n : Int) : callPure RT 70 [.int .i64 n] = some (.bool false) := by
  refine callPure_of (wpF_of tab_70 rfl ?_)
  simp [f70, enter]
theorem run_isNaN32 (n : Int) : callPure RT 108 [.int .u32 n] = some (.bool false) := by
  refine callPure_of (wpF_of tab_108 rfl ?_)
  simp [f108, enter]
def cmpI (a b : Int) : Int := if a < b then -1 else if b < a then 1 else 0
theorem run_cmpI (a b : Int) : callPure RT 51 [.int .i64 a, .int .i64 b] = some (.int .i64 (cmpI a b)) := by
  refine callPure_of (wpF_of tab_51 rfl ?_)
  simp [f51, enter, run_isNaN, after_nr]
  unfold cmpI
  by_cases h1 : a < b
  · simp [h1]
  · by_cases h2 : b < a
    · simp [h1, h2]
    · simp [h1, h2]
theorem run_cmp32 (a b : Int) : callPure RT 106 [.int .u32 a, .int .u32 b] = some (.int .i64 (cmpI a b)) := by
  refine callPure_of (wpF_of tab_106 rfl ?_)
  simp [f106, enter, run_isNaN32, after_nr]
  unfold cmpI
  by_cases h1 : a < b
  · simp [h1]
  · by_cases h2 : b < a
    · simp [h1, h2]
    · simp [h1, h2]
end Go.AVM

/- Integers: what the functions on rows of words compute (second part). -/
set_option linter.unusedVariables false
set_option linter.unusedSimpArgs false
set_option linter.unusedSectionVars false
namespace Go.AVM
/-- So many words and no more. -/
abbrev Lim : Nat := 1099511627776
theorem wds_chunk {ws : List Nat} {n : Nat} (h : ws.length = n) : chunk 1 n (wds ws) = wds ws := by
  subst h
  induction ws with
  | nil => rfl
  | cons w ws ih =>
    have : wds (w :: ws) = AV.int .u32 (w : Int) :: wds ws := rfl
    rw [this]
    simp only [List.length_cons, chunk, if_true, List.headD_cons, List.drop_one, List.tail_cons]
    rw [ih]
@[simp] theorem wds_nil : wds [] = [] := rfl
@[simp] theorem wds_one (w : Nat) : wds [w] = [.int .u32 (w : Int)] := rfl
theorem wds_cons (w : Nat) (ws : List Nat) : wds (w :: ws) = .int .u32 (w : Int) :: wds ws := rfl
/-- A row in the store, frozen. -/
theorem fzc_msl {S : Store} {b n : Nat} {ex : Bool} {ws : List Nat} {cap : Option Nat} {fuel : Nat} (h : S[b]? = some (.mu (wds ws) ex)) (hn : n ≤ ws.length) :
    fzc S (fuel + 1) (.msl b 0 n 1 ws.length cap) = some (W (ws.take n)) := by
  have hr : rd S b 0 ws.length (n * 1) = some (wds (ws.take n)) := by
    unfold rd
    rw [h, Nat.mul_one]
    simp only [wds_length, List.drop_zero, wds_take]
    exact chk_pos ⟨trivial, by omega⟩
  simp only [fzc, hr, Option.bind_some, wds_fzc]
  rw [wds_chunk (by simp; omega)]
theorem fzc_mslv {S : Store} {b n vl : Nat} {ex : Bool} {ws : List Nat} {cap : Option Nat} {fuel : Nat} (h : S[b]? = some (.mu (wds ws) ex)) (hv : vl = ws.length) (hn : n ≤ ws.length) :
    fzc S (fuel + 1) (.msl b 0 n 1 vl cap) = some (W (ws.take n)) := by subst hv; exact fzc_msl h hn
theorem dig_len_le {ws : List Nat} (hw : Wd ws) : (dig (val ws)).length ≤ ws.length := (norm_take hw).2
theorem run_signed {ws : List Nat} {t neg : Bool} (hw : Wd ws) (hlen : ws.length ≤ Lim) : callPure RT 84 [.sl (wds ws) 1 t, .bool neg] = some (.agg [.bool (neg && decide (val ws ≠ 0)), N (val ws)]) := by
  refine callPure_of (wpF_of tab_84 rfl ?_)
  have hL : Lim = 1099511627776 := rfl
  have hn := run_norm (t := false) hw (by omega)
  have hd := dig_len_le hw
  by_cases h0 : val ws = 0
  · cases neg
    · simp [f84, enter, hn, h0, after_nr, appA, held, chk, fillA, splice, wr, rd]
    · simp [f84, enter, hn, h0, after_nr, appA, held, chk, fillA, splice, wr, rd]
  · have h1 : (dig (val ws)).length ≠ 0 := fun h => h0 (dig_nil.1 (List.eq_nil_of_length_eq_zero h))
    have h2 : 0 < (dig (val ws)).length := by omega
    have hroom : room (dig (val ws)).length 4 := by unfold room; omega
    have hf : ∀ x : Blk, fzc [x, .mu (wds (dig (val ws))) false] 5 (.msl 1 0 (dig (val ws)).length 1 (dig (val ws)).length none) = some (N (val ws)) := fun x => by
      rw [fzc_msl (ex := false) rfl (Nat.le_refl _), List.take_length]
    cases neg
    · simp [f84, enter, hn, h0, h1, h2, after_nr, appA, held, chk, hroom, fillA, splice, wr, rd, hf]
    · simp [f84, enter, hn, h0, h1, h2, after_nr, appA, held, chk, hroom, fillA, splice, wr, rd, hf]
theorem run_natural {n : Nat} (h : n < 18446744073709551616) : callPure RT 83 [.int .u64 (n : Int)] = some (N n) := by
  refine callPure_of (wpF_of tab_83 rfl ?_)
  obtain ⟨lo, hlo⟩ : ∃ lo, lo = n % 4294967296 := ⟨_, rfl⟩
  obtain ⟨hi, hhi⟩ : ∃ hi, hi = n / 4294967296 := ⟨_, rfl⟩
  have e1 : (n : Int) % 4294967296 = (lo : Int) := by omega
  have e2 : (n : Int) / 4294967296 % 4294967296 = (hi : Int) := by omega
  have hw : Wd [lo, hi] := Wd.mk (show lo < 4294967296 by omega) (Wd.mk (show hi < 4294967296 by omega) Wd.nil)
  have hn := run_norm (t := false) hw (by simp)
  have hv : val [lo, hi] = n := by
    simp only [val]
    have : B = 4294967296 := rfl
    rw [this]; omega
  rw [hv, wds_cons, wds_one] at hn
  simp [f83, enter, wrap_u32, fdiv_word, IntKind.bits, opA_litn, fillE, elt, e1, e2, hn, after_nr]

/-! ### One word of a row in the store -/
theorem rd_word {S : Store} {b i vl : Nat} {ws : List Nat} {ex : Bool} (h : S[b]? = some (.mu (wds ws) ex)) (hv : vl = ws.length) (hi : i < ws.length) : rd S b i vl 1 = some [.int .u32 ((ws[i] : Nat) : Int)] := by
  subst hv
  unfold rd
  rw [h]
  simp only [wds_length]
  rw [chk_pos ⟨trivial, by omega⟩, wds_drop, wds_take]
  have : (ws.drop i).take 1 = [ws[i]] := by
    rw [List.drop_eq_getElem_cons hi]; rfl
  rw [this, wds_one]
theorem wr_word {S : Store} {b i vl w : Nat} {ws : List Nat} {ex : Bool} (h : S[b]? = some (.mu (wds ws) ex)) (hv : vl = ws.length) (hi : i < ws.length) : wr S b i vl [.int .u32 (w : Int)] = some (S.set b (.mu (wds (ws.set i w)) ex)) := by
  subst hv
  unfold wr
  rw [h]
  simp only [wds_length, List.length_singleton]
  rw [chk_pos ⟨trivial, by omega⟩]
  congr 4
  unfold splice
  rw [← wds_set, List.set_eq_take_append_cons_drop]
  simp [hi]

theorem wds_ids (S : Store) (fuel : Nat) (ws : List Nat) : (wds ws).flatMap (ids S fuel) = [] := by
  rw [List.flatMap_eq_nil_iff]
  intro x hx
  unfold wds at hx
  obtain ⟨w, _, rfl⟩ := List.mem_map.1 hx
  cases fuel <;> rfl
/-- A row handed to a call that gives back a part of it is written no more. -/
theorem after_row {S : Store} {b off n vl : Nat} {cap : Option Nat} {ws : List Nat} {ex : Bool} {r : AV} (h : S[b]? = some (.mu (wds ws) ex)) (hr : r.bare = false) :
    after false S [.msl b off n 1 vl cap] r = some (S.set b (.fz (wds ws))) := by
  have hi : ids S fzDepth (.msl b off n 1 vl cap) = [b] := by
    show ids S (5 + 1) _ = _
    simp only [ids, h, wds_ids]
  unfold after
  have h1 : ([AV.msl b off n 1 vl cap].all nr1 || r.bare) = false := by rw [hr]; rfl
  rw [h1]
  simp only [Bool.false_eq_true, if_false, List.flatMap_cons, List.flatMap_nil, List.append_nil, hi, settle, h, wds_ids, List.all_nil, wds_fzc]
  rfl

/-! ### Adding -/
def rep (n : Nat) (v : AV) : List AV := List.replicate n v
theorem add_loop {xs ys : List Nat} (hx : Wd xs) (hy : Wd ys) (hlx : xs.length ≤ Lim) (hly : ys.length ≤ Lim) {n : Nat} (hn : n = max xs.length ys.length) {Q : FQ}
    (hQ : ∀ (tm : List AV) (hl : tm.length = 42) (ds : List Nat) (c : Nat), tm[5] = .int .i64 (n : Int) → tm[6] = .msl 0 0 (n + 1) 1 (n + 1) none → tm[7] = .int .u32 (c : Int) → ds.length = n → Wd ds → c ≤ 1 → val ds + B ^ n * c = val xs + val ys → Q (.ex 0) ⟨tm, [.mu (wds (ds ++ [0])) true]⟩) :
    ∀ (m i : Nat), i + m = n → ∀ (ds : List Nat) (c : Nat), ds.length = i → Wd ds → c ≤ 1 → val ds + B ^ i * c = val (xs.take i) + val (ys.take i) →
    wpL RT f95_0m 1 f95_0 ⟨[.sl (wds xs) 1 false, .sl (wds ys) 1 false, .any, .any, .any, .int .i64 (n : Int), .msl 0 0 (n + 1) 1 (n + 1) none, .int .u32 (c : Int), .any, .any, .any, .any, .any, .any, .any, .any, .any, .int .i64 (n : Int), .int .i64 (i : Int), .any, .any, .any, .any, .any, .any, .any, .any, .any, .any, .any, .any, .any, .any, .any, .any, .any, .any, .any, .any, .any, .any, .any],
      [.mu (wds (ds ++ List.replicate (m + 1) 0)) true]⟩ Q := by
  have hL : Lim = 1099511627776 := rfl
  intro m
  induction m with
  | zero =>
    intro i hi ds c hds hwd hc he
    have hi' : i = n := by omega
    subst hi'
    rw [wpL_eq]
    generalize hK : (fun s' => wpL RT f95_0m 1 f95_0 (head f95_0m 1 s') Q) = K
    simp [f95_0]
    rw [List.take_of_length_le (by omega), List.take_of_length_le (by omega)] at he
    exact hQ _ rfl ds c rfl rfl rfl hds hwd hc he
  | succ m ih =>
    intro i hi ds c hds hwd hc he
    rw [wpL_eq]
    generalize hK : (fun s' => wpL RT f95_0m 1 f95_0 (head f95_0m 1 s') Q) = K
    have hlt : (i : Int) < (n : Int) := by omega
    have ha1 := run_at (ws := xs) (t := false) (i := i) (by omega)
    have ha2 := run_at (ws := ys) (t := false) (i := i) (by omega)
    have hbx : xs.getD i 0 < B := by
      rw [List.getD_eq_getElem?_getD]
      cases h : xs[i]? with
      | none => decide
      | some w => exact hx.get h
    have hby : ys.getD i 0 < B := by
      rw [List.getD_eq_getElem?_getD]
      cases h : ys[i]? with
      | none => decide
      | some w => exact hy.get h
    have had := run_Add32 hbx hby (show c < B from Nat.lt_of_le_of_lt hc (by decide))
    have e1 := val_take_succ xs i
    have e2 := val_take_succ ys i
    generalize xs.getD i 0 = a at *
    generalize ys.getD i 0 = b at *
    obtain ⟨s, hs⟩ : ∃ s, s = (a + b + c) % B := ⟨_, rfl⟩
    obtain ⟨d, hd⟩ : ∃ d, d = (a + b + c) / B := ⟨_, rfl⟩
    rw [← hs, ← hd] at had
    have hsB : s < B := by rw [hs]; exact Nat.mod_lt _ (by decide)
    have hwr := wr_word (S := [.mu (wds (ds ++ List.replicate (m + 1 + 1) 0)) true]) (b := 0) (i := i) (vl := n + 1) (w := s) rfl (by simp; omega) (by simp; omega)
    have hset : (ds ++ List.replicate (m + 1 + 1) 0).set i s = (ds ++ [s]) ++ List.replicate (m + 1) 0 := by
      rw [List.set_append_right _ _ (by omega), hds, Nat.sub_self, List.replicate_succ, List.set_cons_zero]
      simp
    rw [hset] at hwr
    have hwi : IntKind.i64.wrap ((i : Int) + 1) = ((i + 1 : Nat) : Int) := wrap_i64 (by omega) (by omega)
    simp [f95_0, hlt, ha1, ha2, had, after_nr]
    refine ⟨by omega, ?_⟩
    rw [hwr]
    simp [hwi]
    subst hK
    simp [head, f95_0m, mask]
    have := ih (i + 1) (by omega) (ds ++ [s]) d (by simp [hds]) (Wd.app hwd (Wd.mk hsB Wd.nil)) (by
      rw [hd]
      exact Nat.lt_succ_iff.1 (Nat.div_lt_of_lt_mul (by omega))) (by
      rw [val_append, hds, e1, e2]
      have hdm := Nat.mod_add_div (a + b + c) B
      rw [← hs, ← hd] at hdm
      simp only [val, Nat.pow_succ]
      have e3 : B ^ i * (s + B * 0) + B ^ i * B * d = B ^ i * (a + b + c) := by
        rw [← hdm, Nat.mul_assoc, ← Nat.mul_add]; simp
      simp only [Nat.mul_zero, Nat.add_zero, Nat.mul_add] at e3 ⊢
      omega)
    simpa [f95_0m] using this
theorem wds_rep (n w : Nat) : List.replicate n (AV.int .u32 (w : Int)) = wds (List.replicate n w) := by simp [wds]
theorem run_nadd {x y : Nat} (hx : size x ≤ Lim) (hy : size y ≤ Lim) : callPure RT 95 [N x, N y] = some (N (x + y)) := by
  refine callPure_of (wpF_of tab_95 rfl ?_)
  have hL : Lim = 1099511627776 := rfl
  unfold size at hx hy
  obtain ⟨n, hn⟩ : ∃ n, n = max (dig x).length (dig y).length := ⟨_, rfl⟩
  have hmax : (if (dig x).length < (dig y).length then ((dig y).length : Int) else ((dig x).length : Int)) = (n : Int) := by
    split <;> omega
  have hwn : IntKind.i64.wrap ((n : Int) + 1) = ((n + 1 : Nat) : Int) := wrap_i64 (by omega) (by omega)
  have hroom : room (n + 1) 4 := by unfold room; omega
  have hln : (n : Int) + 1 ≤ 281474976710656 := by omega
  have htn : ((n : Int) + 1).toNat = n + 1 := by omega
  have hnn : (0 : Int) ≤ (n : Int) + 1 := by omega
  simp only [f95, enter_eq]
  simp [hmax, hwn, htn, hln, hnn, hroom]
  simp [head, mask, f95_0m]
  have hst : List.replicate (n + 1) (AV.int .u32 0) = wds ([] ++ List.replicate (n + 1) 0) := wds_rep (n + 1) 0
  rw [hst]
  refine add_loop (dig_wd x) (dig_wd y) hx hy hn ?_ n 0 (by omega) [] 0 rfl Wd.nil (by omega) (by simp [val])
  intro tm hl ds c h5 h6 h7 hds hwd hc he
  have hwr := wr_word (S := [.mu (wds (ds ++ [0])) true]) (b := 0) (i := n) (vl := n + 1) (w := c) rfl (by simp [hds]) (by simp [hds])
  have hset : (ds ++ [0]).set n c = ds ++ [c] := by
    rw [List.set_append_right _ _ (by omega), hds, Nat.sub_self]; rfl
  rw [hset] at hwr
  have hcB : c < B := Nat.lt_of_le_of_lt hc (by decide)
  have hwd2 : Wd (ds ++ [c]) := Wd.app hwd (Wd.mk hcB Wd.nil)
  have hv : val (ds ++ [c]) = x + y := by
    rw [val_append, hds]; simp only [val, Nat.mul_zero, Nat.add_zero, val_dig] at he ⊢; exact he
  have hnorm := run_norm (t := false) hwd2 (by simp [hds]; omega)
  rw [hv] at hnorm
  have hfz : fzc [.mu (wds (ds ++ [c])) true] (5 + 1) (.msl 0 0 (n + 1) 1 (n + 1) none) = some (W (ds ++ [c])) := by
    have := fzc_mslv (S := [.mu (wds (ds ++ [c])) true]) (b := 0) (n := n + 1) (vl := n + 1) (cap := none) (fuel := 5) rfl (by simp [hds]) (by simp [hds])
    rwa [List.take_of_length_le (by simp [hds])] at this
  simp [hl, h5, h6, h7]
  rw [hwr]
  simp [hl, h5, h6, h7, hfz, hnorm, after_row (S := [.mu (wds (ds ++ [c])) true]) (b := 0) rfl (show (N (x + y)).bare = false from rfl)]
  omega
end Go.AVM

/- Integers: subtracting, comparing. -/
set_option linter.unusedVariables false
set_option linter.unusedSimpArgs false
set_option linter.unusedSectionVars false
namespace Go.AVM
theorem borrow_eq {a c b : Nat} (ha : a < B) (hc : c < B) (hb : b ≤ 1) : (a + 2 * B - c - b) % B + c + b = a + B * (if a < c + b then 1 else 0) := by
  have ha' : a < 4294967296 := ha
  have hc' : c < 4294967296 := hc
  show (a + 2 * 4294967296 - c - b) % 4294967296 + c + b = a + 4294967296 * _
  split <;> omega
theorem sub_loop {xs ys : List Nat} (hx : Wd xs) (hy : Wd ys) (hlx : xs.length ≤ Lim) (hly : ys.length ≤ Lim) {n : Nat} (hn : n = xs.length) {Q : FQ}
    (hQ : ∀ (tm : List AV) (hl : tm.length = 34) (ds : List Nat) (b : Nat), tm[5] = .msl 0 0 n 1 n none → ds.length = n → Wd ds → b ≤ 1 → val ds + val (ys.take n) = val xs + B ^ n * b → Q (.ex 0) ⟨tm, [.mu (wds ds) true]⟩) :
    ∀ (m i : Nat), i + m = n → ∀ (ds : List Nat) (b : Nat), ds.length = i → Wd ds → b ≤ 1 → val ds + val (ys.take i) = val (xs.take i) + B ^ i * b →
    wpL RT f96_0m 1 f96_0 ⟨[.sl (wds xs) 1 false, .sl (wds ys) 1 false, .any, .any, .any, .msl 0 0 n 1 n none, .int .u32 (b : Int), .any, .any, .any, .any, .any, .int .i64 (n : Int), .int .i64 (i : Int), .any, .any, .any, .any, .any, .any, .any, .any, .any, .any, .any, .any, .any, .any, .any, .any, .any, .any, .any, .any],
      [.mu (wds (ds ++ List.replicate m 0)) true]⟩ Q := by
  have hL : Lim = 1099511627776 := rfl
  intro m
  induction m with
  | zero =>
    intro i hi ds b hds hwd hb he
    have hi' : i = n := by omega
    subst hi'
    rw [wpL_eq]
    generalize hK : (fun s' => wpL RT f96_0m 1 f96_0 (head f96_0m 1 s') Q) = K
    simp [f96_0]
    rw [List.take_of_length_le (l := xs) (by omega)] at he
    exact hQ _ rfl ds b rfl hds hwd hb he
  | succ m ih =>
    intro i hi ds b hds hwd hb he
    rw [wpL_eq]
    generalize hK : (fun s' => wpL RT f96_0m 1 f96_0 (head f96_0m 1 s') Q) = K
    have hlt : (i : Int) < (n : Int) := by omega
    have hix : i < xs.length := by omega
    have hixz : (i : Int) < (xs.length : Int) := by omega
    obtain ⟨a, hget⟩ : ∃ a, xs[i]? = some a := ⟨xs[i], List.getElem?_eq_getElem hix⟩
    have haB : a < B := hx.get hget
    have ha2 := run_at (ws := ys) (t := false) (i := i) (by omega)
    have hby : ys.getD i 0 < B := by
      rw [List.getD_eq_getElem?_getD]
      cases h : ys[i]? with
      | none => decide
      | some w => exact hy.get h
    have hsu := run_Sub32 haB hby hb
    have e1 := val_take_succ xs i
    have e2 := val_take_succ ys i
    have hga : xs.getD i 0 = a := by rw [List.getD_eq_getElem?_getD, hget]; rfl
    rw [hga] at e1
    generalize ys.getD i 0 = c at *
    obtain ⟨d, hd⟩ : ∃ d, d = (a + 2 * B - c - b) % B := ⟨_, rfl⟩
    obtain ⟨b', hb'⟩ : ∃ b', b' = if a < c + b then 1 else 0 := ⟨_, rfl⟩
    rw [← hd, ← hb'] at hsu
    have hdB : d < B := by rw [hd]; exact Nat.mod_lt _ (by decide)
    have hb1 : b' ≤ 1 := by rw [hb']; split <;> omega
    have heq : d + c + b = a + B * b' := by rw [hd, hb']; exact borrow_eq haB hby hb
    have hwr := wr_word (S := [.mu (wds (ds ++ List.replicate (m + 1) 0)) true]) (b := 0) (i := i) (vl := n) (w := d) rfl (by simp; omega) (by simp; omega)
    have hset : (ds ++ List.replicate (m + 1) 0).set i d = (ds ++ [d]) ++ List.replicate m 0 := by
      rw [List.set_append_right _ _ (by omega), hds, Nat.sub_self, List.replicate_succ, List.set_cons_zero]
      simp
    rw [hset] at hwr
    have hwi : IntKind.i64.wrap ((i : Int) + 1) = ((i + 1 : Nat) : Int) := wrap_i64 (by omega) (by omega)
    simp [f96_0, hlt, hget, ha2, hsu, after_nr]
    refine ⟨by omega, ?_⟩
    rw [hwr]
    simp [hwi]
    subst hK
    simp [head, f96_0m, mask]
    have := ih (i + 1) (by omega) (ds ++ [d]) b' (by simp [hds]) (Wd.app hwd (Wd.mk hdB Wd.nil)) hb1 (by
      rw [val_append, hds, e1, e2]
      simp only [val, Nat.pow_succ, Nat.mul_zero, Nat.add_zero]
      have e3 : B ^ i * (d + c + b) = B ^ i * (a + B * b') := by rw [heq]
      simp only [Nat.mul_add, ← Nat.mul_assoc] at e3
      omega)
    simpa [f96_0m] using this
theorem run_nsub {x y : Nat} (hx : size x ≤ Lim) (hyx : y ≤ x) : callPure RT 96 [N x, N y] = some (N (x - y)) := by
  refine callPure_of (wpF_of tab_96 rfl ?_)
  have hL : Lim = 1099511627776 := rfl
  have hy : size y ≤ size x := size_mono hyx
  unfold size at hx hy
  obtain ⟨n, hn⟩ : ∃ n, n = (dig x).length := ⟨_, rfl⟩
  have hroom : room n 4 := by unfold room; omega
  have hln : (n : Int) ≤ 281474976710656 := by omega
  simp only [f96, enter_eq]
  simp [← hn, hroom]
  refine ⟨by omega, ?_⟩
  simp [head, mask, f96_0m]
  have hst : List.replicate n (AV.int .u32 0) = wds ([] ++ List.replicate n 0) := wds_rep n 0
  rw [hst]
  refine sub_loop (dig_wd x) (dig_wd y) hx (by omega) hn ?_ n 0 (by omega) [] 0 rfl Wd.nil (by omega) (by simp [val])
  intro tm hl ds b h5 hds hwd hb he
  rw [List.take_of_length_le (by omega), val_dig, val_dig] at he
  have hlt := val_lt hwd
  rw [hds] at hlt
  have hb0 : b = 0 := by
    rcases Nat.lt_or_ge b 1 with h | h
    · omega
    · have : b = 1 := by omega
      subst this
      simp only [Nat.mul_one] at he
      omega
  subst hb0
  have hv : val ds = x - y := by simp only [Nat.mul_zero, Nat.add_zero] at he; omega
  have hnorm := run_norm (t := false) hwd (by omega)
  rw [hv] at hnorm
  have hfz : fzc [.mu (wds ds) true] (5 + 1) (.msl 0 0 n 1 n none) = some (W ds) := by
    have := fzc_mslv (S := [.mu (wds ds) true]) (b := 0) (n := n) (vl := n) (cap := none) (fuel := 5) rfl (by simp [hds]) (by simp [hds])
    rwa [List.take_of_length_le (by simp [hds])] at this
  simp [hl, h5, hfz, hnorm, after_row (S := [.mu (wds ds) true]) (b := 0) rfl (show (N (x - y)).bare = false from rfl)]

/-! ### Comparing -/
theorem val_split {xs : List Nat} {k a : Nat} (h : xs[k]? = some a) : val xs = val (xs.take k) + B ^ k * (a + B * val (xs.drop (k + 1))) := by
  have hk := (List.getElem?_eq_some_iff.1 h).1
  conv => lhs; rw [← List.take_append_drop k xs, val_append, List.length_take, Nat.min_eq_left (by omega), List.drop_eq_getElem_cons hk]
  have : xs[k] = a := (List.getElem?_eq_some_iff.1 h).2
  rw [this]; rfl
theorem val_take_lt {xs : List Nat} (hx : Wd xs) {k : Nat} (hk : k ≤ xs.length) : val (xs.take k) < B ^ k := by
  have := val_lt (hx.take k)
  rwa [List.length_take, Nat.min_eq_left hk] at this
theorem cmp_at {xs ys : List Nat} (hx : Wd xs) {k a b : Nat} (ha : xs[k]? = some a) (hb : ys[k]? = some b) (hd : xs.drop (k + 1) = ys.drop (k + 1)) (hab : a < b) : val xs < val ys := by
  rw [val_split ha, val_split hb, hd]
  have hk := (List.getElem?_eq_some_iff.1 ha).1
  have h1 := val_take_lt hx (k := k) (by omega)
  have h2 : B ^ k * (a + 1 + B * val (ys.drop (k + 1))) ≤ B ^ k * (b + B * val (ys.drop (k + 1))) := Nat.mul_le_mul_left _ (by omega)
  have h3 : B ^ k * (a + 1 + B * val (ys.drop (k + 1))) = B ^ k * (a + B * val (ys.drop (k + 1))) + B ^ k := by
    rw [show a + 1 + B * val (ys.drop (k + 1)) = (a + B * val (ys.drop (k + 1))) + 1 by omega, Nat.mul_succ]
  omega
theorem size_lt {x y : Nat} (h : size x < size y) : x < y := by
  have hy : y ≠ 0 := by rintro rfl; simp [size] at h
  have h1 := lt_size x
  have h2 := le_of_size hy
  have h3 : B ^ size x ≤ B ^ (size y - 1) := Nat.pow_le_pow_right (by decide) (by omega)
  omega
theorem cmp_loop {xs ys : List Nat} (hx : Wd xs) (hy : Wd ys) (hlx : xs.length ≤ Lim) {n : Nat} (hnx : xs.length = n) (hny : ys.length = n) {Q : FQ}
    (hQe : ∀ (tm : List AV) (hl : tm.length = 46), xs = ys → Q (.ex 0) ⟨tm, []⟩) (hQr : ∀ (tm : List AV) (hl : tm.length = 46), tm[4] = .int .i64 (cmpI (val xs) (val ys)) → Q .ret ⟨tm, []⟩) :
    ∀ (m i : Nat), i + m = n → xs.drop m = ys.drop m →
    wpL RT f97_0m 0 f97_0 ⟨[.sl (wds xs) 1 false, .sl (wds ys) 1 false, .any, .any, .any, .any, .any, .any, .any, .any, .any, .any, .any, .any, .any, .any, .any, .any, .int .i64 (n : Int), .int .i64 (i : Int), .any, .any, .any, .any, .any, .any, .any, .any, .any, .any, .any, .any, .any, .any, .any, .any, .any, .any, .any, .any, .any, .any, .any, .any, .any, .any], []⟩ Q := by
  have hL : Lim = 1099511627776 := rfl
  intro m
  induction m with
  | zero =>
    intro i hi hd
    have hi' : i = n := by omega
    subst hi'
    rw [wpL_eq]
    generalize hK : (fun s' => wpL RT f97_0m 0 f97_0 (head f97_0m 0 s') Q) = K
    simp [f97_0]
    exact hQe _ rfl (by simpa using hd)
  | succ m ih =>
    intro i hi hd
    rw [wpL_eq]
    generalize hK : (fun s' => wpL RT f97_0m 0 f97_0 (head f97_0m 0 s') Q) = K
    have hlt : (i : Int) < (n : Int) := by omega
    obtain ⟨a, ha⟩ : ∃ a, xs[m]? = some a := ⟨xs[m], List.getElem?_eq_getElem (by omega)⟩
    obtain ⟨b, hb⟩ : ∃ b, ys[m]? = some b := ⟨ys[m], List.getElem?_eq_getElem (by omega)⟩
    have hw1 : IntKind.i64.wrap ((xs.length : Int) - 1) = (xs.length : Int) - 1 := wrap_i64 (by omega) (by omega)
    have hw2 : IntKind.i64.wrap ((xs.length : Int) - 1 - (i : Int)) = (m : Int) := by
      have : (xs.length : Int) - 1 - (i : Int) = m := by omega
      rw [this]; exact wrap_i64 (by omega) (by omega)
    have hwi : IntKind.i64.wrap ((i : Int) + 1) = ((i + 1 : Nat) : Int) := wrap_i64 (by omega) (by omega)
    have hmx : (m : Int) < (xs.length : Int) := by omega
    have hmy : (m : Int) < (ys.length : Int) := by omega
    by_cases hab : a = b
    · subst hab
      simp [f97_0, hlt, hw1, hw2, ha, hb, hwi]
      refine ⟨by omega, by omega, ?_⟩
      subst hK
      simp [head, f97_0m, mask]
      have := ih (i + 1) (by omega) (by
        rw [List.drop_eq_getElem_cons (by omega : m < xs.length), List.drop_eq_getElem_cons (by omega : m < ys.length), hd]
        have e1 : xs[m] = a := (List.getElem?_eq_some_iff.1 ha).2
        have e2 : ys[m] = a := (List.getElem?_eq_some_iff.1 hb).2
        rw [e1, e2])
      simpa [f97_0m] using this
    · have hc := run_cmp32 (a : Int) (b : Int)
      have habz : ¬ (a : Int) = (b : Int) := by omega
      simp [f97_0, hlt, hw1, hw2, ha, hb, habz, hc, after_nr]
      refine ⟨by omega, by omega, by omega, by omega, hQr _ rfl ?_⟩
      show AV.int .i64 (cmpI a b) = _
      congr 1
      unfold cmpI
      rcases Nat.lt_or_gt_of_ne hab with h | h
      · have := cmp_at hx ha hb hd h
        rw [if_pos (by omega), if_pos (by omega)]
      · have := cmp_at hy hb ha hd.symm h
        rw [if_neg (by omega), if_pos (by omega), if_neg (by omega), if_pos (by omega)]
theorem run_ncmp {x y : Nat} (hx : size x ≤ Lim) : callPure RT 97 [N x, N y] = some (.int .i64 (cmpI x y)) := by
  refine callPure_of (wpF_of tab_97 rfl ?_)
  have hL : Lim = 1099511627776 := rfl
  by_cases hs : (dig x).length = (dig y).length
  · simp [f97, enter_eq, hs]
    simp [head, mask, f97_0m]
    refine cmp_loop (dig_wd x) (dig_wd y) hx hs rfl ?_ ?_ (dig y).length 0 (by omega) ?_
    · intro tm hl he
      have hxy : x = y := by rw [← val_dig x, he, val_dig]
      subst hxy
      simp [cmpI, hl]
    · intro tm hl h4
      simp [hl, h4]
    · rw [List.drop_of_length_le (by omega), List.drop_of_length_le (by omega)]
  · have hc := run_cmpI ((dig x).length : Int) ((dig y).length : Int)
    have hsz : ¬ ((dig x).length : Int) = ((dig y).length : Int) := by omega
    simp [f97, enter_eq, hsz, hc, after_nr]
    unfold cmpI
    rcases Nat.lt_or_gt_of_ne hs with h | h
    · have := size_lt (x := x) (y := y) h
      rw [if_pos (by omega), if_pos (by omega)]
    · have := size_lt (x := y) (y := x) h
      rw [if_neg (by omega), if_pos (by omega), if_neg (by omega), if_pos (by omega)]
end Go.AVM

/- Integers with a sign. -/
set_option linter.unusedVariables false
set_option linter.unusedSimpArgs false
set_option linter.unusedSectionVars false
namespace Go.AVM
/-- An integer. -/
def Z (i : Int) : AV := .agg [.bool (decide (i < 0)), N i.natAbs]
theorem Z_of (neg : Bool) (n : Nat) : AV.agg [.bool (neg && decide (n ≠ 0)), N n] = Z (if neg then -(n : Int) else n) := by
  unfold Z
  cases neg
  · have : ¬ ((n : Int) < 0) := by omega
    simp [this]
  · by_cases h : n = 0
    · subst h; simp
    · have h1 : 0 < n := by omega
      simp [h, h1]
theorem run_signedN {n : Nat} {t neg : Bool} (h : size n ≤ Lim) : callPure RT 84 [.sl (wds (dig n)) 1 t, .bool neg] = some (Z (if neg then -(n : Int) else n)) := by
  rw [run_signed (dig_wd n) h, val_dig, Z_of]
@[simp] theorem fz1_Z (S : Store) (i : Int) : fz1 S (Z i) = some (Z i) := by simp [Z]
@[simp] theorem nr1_Z (i : Int) : nr1 (Z i) = true := by simp [Z]
@[simp] theorem Z_whole (i : Int) : (Z i).whole = true := rfl
@[simp] theorem Z_cl (i : Int) : (Z i).cells = [.bool (decide (i < 0)), .sl (wds (dig i.natAbs)) 1 false] := rfl
theorem Z_fold (i : Int) : AV.agg [.bool (decide (i < 0)), .sl (wds (dig i.natAbs)) 1 false] = Z i := rfl
@[simp] theorem fzv_Z (S : Store) (i : Int) : fzv S (Z i) = some (Z i) := by unfold Z; simp
def zsize (i : Int) : Nat := size i.natAbs
theorem run_Sign (i : Int) : callPure RT 73 [Z i] = some (.int .i64 i.sign) := by
  refine callPure_of (wpF_of tab_73 rfl ?_)
  by_cases h : i < 0
  · simp [f73, enter_eq, Z, rd, chk, h]
    exact (Int.sign_eq_neg_one_iff_neg.2 h).symm
  · by_cases h0 : i = 0
    · subst h0
      simp [f73, enter_eq, Z, rd, chk]
    · have hp : 0 < i := by omega
      have h1 : (dig i.natAbs).length ≠ 0 := fun e => h0 (by
        have := dig_nil.1 (List.eq_nil_of_length_eq_zero e); omega)
      have hs : (if 1 < ((dig i.natAbs).length : Int) then (1 : Int) else ((dig i.natAbs).length : Int)) = 1 := by split <;> omega
      simp [f73, enter_eq, Z, rd, chk, h]
      rw [Int.sign_eq_one_iff_pos.2 hp]
      split <;> omega
theorem run_Of {n : Int} (h1 : -9223372036854775808 ≤ n) (h2 : n < 9223372036854775808) : callPure RT 72 [.int .i64 n] = some (Z n) := by
  refine callPure_of (wpF_of tab_72 rfl ?_)
  obtain ⟨m, hm⟩ : ∃ m, m = n.natAbs := ⟨_, rfl⟩
  have hmb : m < 18446744073709551616 := by omega
  have hn := run_natural hmb
  have hsz : size m ≤ Lim := by
    have : size m ≤ 2 := size_le (by show m < B ^ 2; have : B ^ 2 = 18446744073709551616 := by decide
                                     omega)
    have hL : Lim = 1099511627776 := rfl
    omega
  by_cases h : n < 0
  · have e : (0 - n % 18446744073709551616) % 18446744073709551616 = (m : Int) := by omega
    have hs := run_signedN (t := false) (neg := true) hsz
    have hz : (if true = true then -(m : Int) else m) = n := by simp; omega
    rw [hz] at hs
    simp only [f72, enter_eq]
    simp [h, wrap_u64]
    have e' : -(n % 18446744073709551616) % 18446744073709551616 = (m : Int) := by omega
    simp [e', hn, hs, after_nr, rd, wr, chk, splice, Z]
  · have e : n % 18446744073709551616 = (m : Int) := by omega
    have hs := run_signedN (t := false) (neg := false) hsz
    have hz : (if false = true then -(m : Int) else m) = n := by simp; omega
    rw [hz] at hs
    simp only [f72, enter_eq]
    simp [h, wrap_u64, e, hn, hs, after_nr, rd, wr, chk, splice, Z]
theorem run_Neg {i : Int} (h : zsize i ≤ Lim) : callPure RT 87 [Z i] = some (Z (-i)) := by
  refine callPure_of (wpF_of tab_87 rfl ?_)
  have hs := run_signedN (t := false) (neg := !decide (i < 0)) h
  have hz : (if (!decide (i < 0)) = true then -(i.natAbs : Int) else i.natAbs) = -i := by
    by_cases h : i < 0 <;> simp [h] <;> omega
  rw [hz] at hs
  simp [f87, enter_eq, Z, rd, wr, chk, splice]
  simp [Z] at hs
  simp [hs, after_nr, rd, wr, chk, splice]
theorem Z_cells (i : Int) : Z i = .agg [.bool (decide (i < 0)), N i.natAbs] := rfl
theorem size_add_le {x y k : Nat} (hx : size x ≤ k) (hy : size y ≤ k) : size (x + y) ≤ k + 1 := by
  refine size_le ?_
  have h1 := Nat.lt_of_lt_of_le (lt_size x) (Nat.pow_le_pow_right (by decide : 0 < B) hx)
  have h2 := Nat.lt_of_lt_of_le (lt_size y) (Nat.pow_le_pow_right (by decide : 0 < B) hy)
  rw [Nat.pow_succ]
  have : B ^ k * 2 ≤ B ^ k * B := Nat.mul_le_mul_left _ (by decide)
  omega
theorem run_Add {i j : Int} (hi : zsize i < Lim) (hj : zsize j < Lim) : callPure RT 89 [Z i, Z j] = some (Z (i + j)) := by
  refine callPure_of (wpF_of tab_89 rfl ?_)
  have hL : Lim = 1099511627776 := rfl
  unfold zsize at hi hj
  have hadd := run_nadd (x := i.natAbs) (y := j.natAbs) (by omega) (by omega)
  have hcmp := run_ncmp (x := i.natAbs) (y := j.natAbs) (by omega)
  have hsz : size (i.natAbs + j.natAbs) ≤ Lim := by
    have := size_add_le (x := i.natAbs) (y := j.natAbs) (k := Lim - 1) (by omega) (by omega)
    omega
  simp only [f89, enter_eq]
  by_cases hs : decide (i < 0) = decide (j < 0)
  · have hsg := run_signedN (t := false) (neg := decide (j < 0)) hsz
    have hz : (if decide (j < 0) = true then -((i.natAbs + j.natAbs : Nat) : Int) else ((i.natAbs + j.natAbs : Nat) : Int)) = i + j := by
      by_cases h1 : i < 0 <;> by_cases h2 : j < 0 <;> simp [h1, h2] at hs ⊢ <;> omega
    rw [hz] at hsg
    simp [Z_cells, hs, rd, wr, chk, splice]
    simp [hadd, after_nr, rd, wr, chk, splice]
    simp [hsg, Z_cells, after_nr, rd, wr, chk, splice]
  · by_cases hlt : i.natAbs < j.natAbs
    · have hc : cmpI i.natAbs j.natAbs < 0 := by unfold cmpI; rw [if_pos (by omega)]; decide
      have hsub := run_nsub (x := j.natAbs) (y := i.natAbs) (by omega) (by omega)
      have hsg := run_signedN (t := false) (neg := decide (j < 0)) (n := j.natAbs - i.natAbs) (Nat.le_trans (size_mono (Nat.sub_le _ _)) (by omega))
      have hz : (if decide (j < 0) = true then -((j.natAbs - i.natAbs : Nat) : Int) else ((j.natAbs - i.natAbs : Nat) : Int)) = i + j := by
        by_cases h1 : i < 0 <;> by_cases h2 : j < 0 <;> simp [h1, h2] at hs ⊢ <;> omega
      rw [hz] at hsg
      have hs' : (decide (i < 0) == decide (j < 0)) = false := by simpa using hs
      simp [Z_cells, rd, wr, chk, splice]
      simp [hs', hcmp, hc, after_nr, rd, wr, chk, splice]
      simp [hsub, after_nr, rd, wr, chk, splice]
      simp [hsg, Z_cells, after_nr, rd, wr, chk, splice]
    · have hc : ¬ cmpI i.natAbs j.natAbs < 0 := by unfold cmpI; rw [if_neg (by omega)]; split <;> decide
      have hsub := run_nsub (x := i.natAbs) (y := j.natAbs) (by omega) (by omega)
      have hsg := run_signedN (t := false) (neg := decide (i < 0)) (n := i.natAbs - j.natAbs) (Nat.le_trans (size_mono (Nat.sub_le _ _)) (by omega))
      have hz : (if decide (i < 0) = true then -((i.natAbs - j.natAbs : Nat) : Int) else ((i.natAbs - j.natAbs : Nat) : Int)) = i + j := by
        by_cases h1 : i < 0 <;> by_cases h2 : j < 0 <;> simp [h1, h2] at hs ⊢ <;> omega
      rw [hz] at hsg
      have hs' : (decide (i < 0) == decide (j < 0)) = false := by simpa using hs
      simp [Z_cells, rd, wr, chk, splice]
      simp [hs', hcmp, hc, after_nr, rd, wr, chk, splice]
      simp [hsub, after_nr, rd, wr, chk, splice]
      simp [hsg, Z_cells, after_nr, rd, wr, chk, splice]
theorem run_Sub {i j : Int} (hi : zsize i < Lim) (hj : zsize j < Lim) : callPure RT 77 [Z i, Z j] = some (Z (i - j)) := by
  refine callPure_of (wpF_of tab_77 rfl ?_)
  have hn := run_Neg (i := j) (by omega)
  have ha := run_Add (i := i) (j := -j) hi (by unfold zsize at *; rwa [Int.natAbs_neg])
  rw [← Int.sub_eq_add_neg] at ha
  simp only [f77, enter_eq]
  simp [Z_fold, hn, ha, after_nr, rd, wr, chk, splice]
end Go.AVM

/- Integers: multiplying. -/
set_option linter.unusedVariables false
set_option linter.unusedSimpArgs false
set_option linter.unusedSectionVars false
namespace Go.AVM
theorem mul_inner {xs ys : List Nat} (hy : Wd ys) (hly : ys.length ≤ Lim) {i a L n : Nat} (ha : a < B) (hL' : L ≤ 2 * Lim) (hiL : i + ys.length < L) {out0 : List Nat} (hl0 : out0.length = L) {Q : FQ}
    (hQ : ∀ (tm : List AV) (hl : tm.length = 67) (out : List Nat) (c : Nat), tm[1] = .sl (wds ys) 1 false → tm[5] = .msl 0 0 L 1 L none → tm[6] = .int .i64 (i : Int) → tm[8] = .int .u64 (c : Int) → tm[17] = .sl (wds xs) 1 false → tm[18] = .int .i64 (n : Int) → tm[19] = .int .i64 (i : Int) →
      out.length = L → Wd out → c < B → val out + B ^ (i + ys.length) * c = val out0 + B ^ i * (a * val ys) → (∀ j, i + ys.length ≤ j → out[j]? = out0[j]?) → Q (.ex 2) ⟨tm, [.mu (wds out) true]⟩) :
    ∀ (m k : Nat), k + m = ys.length → ∀ (out : List Nat) (c : Nat), out.length = L → Wd out → c < B → val out + B ^ (i + k) * c = val out0 + B ^ i * (a * val (ys.take k)) → (∀ j, i + k ≤ j → out[j]? = out0[j]?) →
    wpL RT f93_0m 1 f93_0 ⟨[.any, .sl (wds ys) 1 false, .any, .any, .any, .msl 0 0 L 1 L none, .int .i64 (i : Int), .int .u32 (a : Int), .int .u64 (c : Int), .any, .any, .any, .any, .any, .any, .any, .any, .sl (wds xs) 1 false, .int .i64 (n : Int), .int .i64 (i : Int), .any, .any, .any, .any, .sl (wds ys) 1 false, .int .i64 (ys.length : Int), .int .i64 (k : Int),
      .any, .any, .any, .any, .any, .any, .any, .any, .any, .any, .any, .any, .any, .any, .any, .any, .any, .any, .any, .any, .any, .any, .any, .any, .any, .any, .any, .any, .any, .any, .any, .any, .any, .any, .any, .any, .any, .any, .any, .any], [.mu (wds out) true]⟩ Q := by
  have hL : Lim = 1099511627776 := rfl
  intro m
  induction m with
  | zero =>
    intro k hk out c hlo hwo hc he hsame
    have hk' : k = ys.length := by omega
    subst hk'
    rw [wpL_eq]
    generalize hK : (fun s' => wpL RT f93_0m 1 f93_0 (head f93_0m 1 s') Q) = K
    simp [f93_0]
    rw [List.take_of_length_le (Nat.le_refl _)] at he
    exact hQ _ rfl out c rfl rfl rfl rfl rfl rfl rfl hlo hwo hc he hsame
  | succ m ih =>
    intro k hk out c hlo hwo hc he hsame
    rw [wpL_eq]
    generalize hK : (fun s' => wpL RT f93_0m 1 f93_0 (head f93_0m 1 s') Q) = K
    have hlt : (k : Int) < (ys.length : Int) := by omega
    obtain ⟨b, hb⟩ : ∃ b, ys[k]? = some b := ⟨ys[k], List.getElem?_eq_getElem (by omega)⟩
    have hbB : b < B := hy.get hb
    obtain ⟨w, hw⟩ : ∃ w, out[i + k]? = some w := ⟨out[i + k], List.getElem?_eq_getElem (by omega)⟩
    have hwB : w < B := hwo.get hw
    have hwik : IntKind.i64.wrap ((i : Int) + (k : Int)) = ((i + k : Nat) : Int) := wrap_i64 (by omega) (by omega)
    have hwk : IntKind.i64.wrap ((k : Int) + 1) = ((k + 1 : Nat) : Int) := wrap_i64 (by omega) (by omega)
    have hab : a * b ≤ (B - 1) * (B - 1) := Nat.mul_le_mul (by omega) (by omega)
    have hB : B = 4294967296 := rfl
    rw [hB] at hab ha hbB hwB hc
    have hrd := rd_word (S := [.mu (wds out) true]) (b := 0) (i := i + k) (vl := L) rfl hlo.symm (by omega)
    have hwe : out[i + k] = w := by rw [List.getElem?_eq_getElem (by omega)] at hw; exact Option.some.inj hw
    rw [hwe] at hrd
    obtain ⟨s, hs⟩ : ∃ s, s = c + (a * b + w) := ⟨_, rfl⟩
    obtain ⟨lo, hlo'⟩ : ∃ lo, lo = s % 4294967296 := ⟨_, rfl⟩
    obtain ⟨hi, hhi⟩ : ∃ hi, hi = s / 4294967296 := ⟨_, rfl⟩
    obtain ⟨p, hp⟩ : ∃ p, p = a * b := ⟨_, rfl⟩
    have hpz : (a : Int) * (b : Int) = (p : Int) := by rw [hp]; push_cast; rfl
    rw [← hp] at hab hs
    have ea : (a : Int) % 18446744073709551616 = a := by omega
    have eb : (b : Int) % 18446744073709551616 = b := by omega
    have ew : (w : Int) % 18446744073709551616 = w := by omega
    have e1 : (p : Int) % 18446744073709551616 = (p : Int) := by omega
    have e2 : ((p : Int) + w) % 18446744073709551616 = (p : Int) + w := by omega
    have e3 : ((c : Int) + ((p : Int) + w)) % 18446744073709551616 = (s : Int) := by omega
    have e4 : (s : Int) % 4294967296 = (lo : Int) := by omega
    have e5 : (s : Int) / 4294967296 % 18446744073709551616 = (hi : Int) := by omega
    have e5' : (s : Int) / 4294967296 = (hi : Int) := by omega
    have hwr := wr_word (S := [.mu (wds out) true]) (b := 0) (i := i + k) (vl := L) (w := lo) rfl hlo.symm (by omega)
    have htn : ((i : Int) + (k : Int)).toNat = i + k := by omega
    have hb1 : (0 : Int) ≤ (i : Int) + (k : Int) := by omega
    have hb2 : (i : Int) + (k : Int) < (L : Int) := by omega
    simp [f93_0, hlt, hb, hwik, hwk, wrap_u64, wrap_u32, ea, eb, hpz, e1, ew, e2, e3, e4, fdiv_word, IntKind.bits, e5', htn, hb1, hb2, hrd]
    rw [hwr]
    simp [hwk, fdiv_word, e5', IntKind.bits]
    subst hK
    simp [head, f93_0m, mask]
    have hsB : lo < B := by rw [hB]; omega
    have hval := val_set (w' := lo) hw
    have e6 := val_take_succ ys k
    have hgb : ys.getD k 0 = b := by rw [List.getD_eq_getElem?_getD, hb]; rfl
    rw [hgb] at e6
    have := ih (k + 1) (by omega) (out.set (i + k) lo) hi (by simp [hlo]) (hwo.set hsB) (by rw [hB]; omega) (by
      rw [e6]
      have hdm : lo + B * hi = c + (p + w) := by rw [hB]; omega
      have e7 : B ^ (i + k) * (lo + B * hi) = B ^ (i + k) * (c + (p + w)) := by rw [hdm]
      rw [hp] at e7
      simp only [Nat.mul_add, Nat.pow_add, Nat.pow_succ, Nat.pow_zero, Nat.one_mul, Nat.mul_one] at e7 he hval ⊢
      have e8 : B ^ i * (a * (B ^ k * b)) = B ^ i * B ^ k * (a * b) := by
        rw [Nat.mul_assoc (B ^ i), Nat.mul_left_comm a]
      rw [e8]
      have e9 : B ^ i * (B ^ k * B) * hi = B ^ i * B ^ k * (B * hi) := by
        rw [← Nat.mul_assoc (B ^ i), Nat.mul_assoc (B ^ i * B ^ k)]
      rw [e9]
      omega) (fun j hj => by rw [List.getElem?_set_ne (by omega)]; exact hsame j (by omega))
    simpa [f93_0m] using this
theorem mul_outer {xs ys : List Nat} (hx : Wd xs) (hy : Wd ys) (hlx : xs.length ≤ Lim) (hly : ys.length ≤ Lim) {L n : Nat} (hn : n = xs.length) (hLe : L = n + ys.length) {Q : FQ}
    (hQ : ∀ (tm : List AV) (hl : tm.length = 67) (out : List Nat), tm[5] = .msl 0 0 L 1 L none → out.length = L → Wd out → val out = val xs * val ys → Q (.ex 0) ⟨tm, [.mu (wds out) true]⟩) :
    ∀ (m i : Nat), i + m = n → ∀ (out : List Nat), out.length = L → Wd out → val out = val (xs.take i) * val ys →
    wpL RT f93_1m 1 f93_1 ⟨[.any, .sl (wds ys) 1 false, .any, .any, .any, .msl 0 0 L 1 L none, .any, .any, .any, .any, .any, .any, .any, .any, .any, .any, .any, .sl (wds xs) 1 false, .int .i64 (n : Int), .int .i64 (i : Int), .any, .any, .any, .any, .any, .any, .any,
      .any, .any, .any, .any, .any, .any, .any, .any, .any, .any, .any, .any, .any, .any, .any, .any, .any, .any, .any, .any, .any, .any, .any, .any, .any, .any, .any, .any, .any, .any, .any, .any, .any, .any, .any, .any, .any, .any, .any, .any], [.mu (wds out) true]⟩ Q := by
  have hL : Lim = 1099511627776 := rfl
  intro m
  induction m with
  | zero =>
    intro i hi out hlo hwo he
    have hi' : i = n := by omega
    subst hi'
    rw [wpL_eq]
    generalize hK : (fun s' => wpL RT f93_1m 1 f93_1 (head f93_1m 1 s') Q) = K
    simp [f93_1]
    rw [List.take_of_length_le (by omega)] at he
    exact hQ _ rfl out rfl hlo hwo he
  | succ m ih =>
    intro i hi out hlo hwo he
    rw [wpL_eq]
    generalize hK : (fun s' => wpL RT f93_1m 1 f93_1 (head f93_1m 1 s') Q) = K
    have hlt : (i : Int) < (n : Int) := by omega
    obtain ⟨a, hget⟩ : ∃ a, xs[i]? = some a := ⟨xs[i], List.getElem?_eq_getElem (by omega)⟩
    have haB : a < B := hx.get hget
    have hwi : IntKind.i64.wrap ((i : Int) + 1) = ((i + 1 : Nat) : Int) := wrap_i64 (by omega) (by omega)
    simp [f93_1, hlt, hget]
    refine ⟨by omega, ?_⟩
    simp [head, mask, f93_0m]
    have hin := fun (Q' : FQ) => mul_inner (xs := xs) (n := n) (Q := Q') hy hly (i := i) (a := a) (L := L) haB (by omega) (by omega) hlo
    refine hin _ ?_ ys.length 0 (by omega) out 0 hlo hwo (by decide) (by simp [val]) (fun j _ => rfl)
    intro tm hl out2 c h1 h5 h6 h8 h17 h18 h19 hlo2 hwo2 hc he2 hsame
    have hwil : IntKind.i64.wrap ((i : Int) + (ys.length : Int)) = (i : Int) + (ys.length : Int) := wrap_i64 (by omega) (by omega)
    have htn : ((i : Int) + (ys.length : Int)).toNat = i + ys.length := by omega
    have hb1 : (0 : Int) ≤ (i : Int) + (ys.length : Int) := by omega
    have hb2 : (i : Int) + (ys.length : Int) < (L : Int) := by omega
    have hB : B = 4294967296 := rfl
    have ec : (c : Int) % 4294967296 = (c : Int) := by rw [hB] at hc; omega
    have hwr := wr_word (S := [.mu (wds out2) true]) (b := 0) (i := i + ys.length) (vl := L) (w := c) rfl hlo2.symm (by omega)
    simp [hl, h1, h5, h6, h8, hwil, wrap_u32, ec, htn, hb1, hb2]
    rw [hwr]
    simp [hl, h1, h5, h6, h8, h17, h18, h19, hwi]
    subst hK
    simp only [head]
    rw [mask_of (n := 67) (by simp [hl])]
    simp [f93_1m, hl, h1, h5, h17, h18, List.range_succ]
    obtain ⟨w0, hw0⟩ : ∃ w0, out2[i + ys.length]? = some w0 := ⟨out2[i + ys.length], List.getElem?_eq_getElem (by omega)⟩
    have hw00 : w0 = 0 := by
      have h1' := hsame (i + ys.length) (Nat.le_refl _)
      rw [hw0] at h1'
      have h2 := val_ge h1'.symm
      have h3 := val_take_lt hx (k := i) (by omega)
      have h4 := val_lt hy
      have h5' : val out < B ^ (i + ys.length) := by
        rw [he, Nat.pow_add]
        exact Nat.mul_lt_mul'' h3 h4
      refine Classical.byContradiction fun hne => ?_
      have : B ^ (i + ys.length) * 1 ≤ B ^ (i + ys.length) * w0 := Nat.mul_le_mul_left _ (by omega)
      omega
    subst hw00
    have hvs := val_set (w' := c) hw0
    have e6 := val_take_succ xs i
    have hga : xs.getD i 0 = a := by rw [List.getD_eq_getElem?_getD, hget]; rfl
    rw [hga] at e6
    have := ih (i + 1) (by omega) (out2.set (i + ys.length) c) (by simp [hlo2]) (hwo2.set hc) (by
      rw [e6, Nat.add_mul, ← he, Nat.mul_assoc]
      omega)
    simpa [f93_1m] using this
theorem size_mul_le {x y : Nat} : size (x * y) ≤ size x + size y := by
  refine size_le ?_
  rw [Nat.pow_add]
  exact Nat.mul_lt_mul'' (lt_size x) (lt_size y)
theorem run_nmul {x y : Nat} (hx : size x ≤ Lim) (hy : size y ≤ Lim) : callPure RT 93 [N x, N y] = some (N (x * y)) := by
  refine callPure_of (wpF_of tab_93 rfl ?_)
  have hL : Lim = 1099511627776 := rfl
  unfold size at hx hy
  obtain ⟨n, hn⟩ : ∃ n, n = (dig x).length := ⟨_, rfl⟩
  obtain ⟨L, hLe⟩ : ∃ L, L = n + (dig y).length := ⟨_, rfl⟩
  have hw : IntKind.i64.wrap ((n : Int) + ((dig y).length : Int)) = (L : Int) := by
    have : (n : Int) + ((dig y).length : Int) = L := by omega
    rw [this]; exact wrap_i64 (by omega) (by omega)
  have hroom : room L 4 := by unfold room; omega
  have hln : (L : Int) ≤ 281474976710656 := by omega
  simp only [f93, enter_eq]
  simp [← hn, hw, hroom]
  refine ⟨by omega, ?_⟩
  simp [head, mask, f93_1m]
  have hst : List.replicate L (AV.int .u32 0) = wds (List.replicate L 0) := wds_rep L 0
  rw [hst]
  refine mul_outer (dig_wd x) (dig_wd y) hx hy hn hLe ?_ n 0 (by omega) (List.replicate L 0) (by simp) (Wd.rep (by decide)) (by simp [val, val_rep0])
  intro tm hl out h5 hlo hwo he
  rw [val_dig, val_dig] at he
  have hnorm := run_norm (t := false) hwo (by omega)
  rw [he] at hnorm
  have hfz : fzc [.mu (wds out) true] (5 + 1) (.msl 0 0 L 1 L none) = some (W out) := by
    have := fzc_mslv (S := [.mu (wds out) true]) (b := 0) (n := L) (vl := L) (cap := none) (fuel := 5) rfl hlo.symm (by omega)
    rwa [List.take_of_length_le (by omega)] at this
  simp [hl, h5, hfz, hnorm, after_row (S := [.mu (wds out) true]) (b := 0) rfl (show (N (x * y)).bare = false from rfl)]
theorem run_Mul {i j : Int} (hi : 2 * zsize i ≤ Lim) (hj : 2 * zsize j ≤ Lim) : callPure RT 85 [Z i, Z j] = some (Z (i * j)) := by
  refine callPure_of (wpF_of tab_85 rfl ?_)
  unfold zsize at hi hj
  have hm := run_nmul (x := i.natAbs) (y := j.natAbs) (by omega) (by omega)
  have hsz : size (i.natAbs * j.natAbs) ≤ Lim := by
    have := size_mul_le (x := i.natAbs) (y := j.natAbs); omega
  have hs := run_signedN (t := false) (neg := decide (i < 0) != decide (j < 0)) hsz
  have hz : (if (decide (i < 0) != decide (j < 0)) = true then -((i.natAbs * j.natAbs : Nat) : Int) else ((i.natAbs * j.natAbs : Nat) : Int)) = i * j := by
    rw [← Int.natAbs_mul]
    rcases Int.lt_or_le i 0 with h1 | h1 <;> rcases Int.lt_or_le j 0 with h2 | h2
    · have := Int.mul_pos_of_neg_of_neg h1 h2
      simp [h1, h2]; omega
    · have := Int.mul_nonneg (show 0 ≤ -i by omega) h2
      rw [Int.neg_mul] at this
      have h3 : ¬ j < 0 := by omega
      simp [h1, h3]; omega
    · have := Int.mul_nonneg h1 (show 0 ≤ -j by omega)
      rw [Int.mul_neg] at this
      have h3 : ¬ i < 0 := by omega
      simp [h2, h3]; omega
    · have := Int.mul_nonneg h1 h2
      have h3 : ¬ j < 0 := by omega
      have h4 : ¬ i < 0 := by omega
      simp [h3, h4]; omega
  rw [hz] at hs
  simp only [f85, enter_eq]
  simp [rd, wr, chk, splice]
  simp [hm, after_nr, rd, wr, chk, splice]
  simp [hs, after_nr, rd, wr, chk, splice, Z_fold]
end Go.AVM

/- Integers: dividing by a word. -/
set_option linter.unusedVariables false
set_option linter.unusedSimpArgs false
set_option linter.unusedSectionVars false
namespace Go.AVM
theorem run_Div32 {h l d : Nat} (hh : h < d) (hl : l < B) (hd : d < B) : callPure RT 107 [.int .u32 (h : Int), .int .u32 (l : Int), .int .u32 (d : Int)] = some (.tup [.int .u32 (((h * B + l) / d : Nat) : Int), .int .u32 (((h * B + l) % d : Nat) : Int)]) := by
  refine callPure_of (wpF_of tab_107 rfl ?_)
  have hB : B = 4294967296 := rfl
  have hd0 : ¬ (d : Int) = 0 := by omega
  have hdh : ¬ (d : Int) ≤ (h : Int) := by omega
  obtain ⟨n, hn⟩ : ∃ n, n = h * B + l := ⟨_, rfl⟩
  obtain ⟨q, hq⟩ : ∃ q, q = n / d := ⟨_, rfl⟩
  obtain ⟨r, hr⟩ : ∃ r, r = n % d := ⟨_, rfl⟩
  have hqB : q < B := by
    rw [hq]
    refine Nat.div_lt_of_lt_mul ?_
    have : (h + 1) * B ≤ d * B := Nat.mul_le_mul_right _ hh
    rw [Nat.succ_mul] at this
    omega
  have hrB : r < B := by
    have := Nat.mod_lt n (show 0 < d by omega)
    omega
  rw [hB] at hn hl hd hqB hrB
  have hor : (h * 4294967296) ||| l = n := by
    rw [hn]
    have := Nat.two_pow_add_eq_or_of_lt (i := 32) (b := l) hl h
    rw [Nat.mul_comm h]
    exact this.symm
  have e1 : (h : Int) % 18446744073709551616 = h := by omega
  have e2 : (h : Int) * 4294967296 % 18446744073709551616 = ((h * 4294967296 : Nat) : Int) := by omega
  have e3 : (l : Int) % 18446744073709551616 = l := by omega
  have e4 : (d : Int) % 18446744073709551616 = d := by omega
  have hb : binA .or (.int .u64 ((h : Int) * 4294967296)) (.int .u64 (l : Int)) = some (.int .u64 (n : Int)) := by
    have hc : (h : Int) * 4294967296 = ((h * 4294967296 : Nat) : Int) := by omega
    rw [hc, or_nat rfl (show h * 4294967296 < 2 ^ 64 by omega) (show l < 2 ^ 64 by omega), hor]
  have e5 : ((n : Int).tdiv (d : Int)) % 18446744073709551616 % 4294967296 = (q : Int) := by
    rw [Int.tdiv_eq_ediv_of_nonneg (by omega)]
    have : (n : Int) / (d : Int) = (q : Int) := by rw [hq]; push_cast; rfl
    rw [this]; omega
  have e6 : ((n : Int).tmod (d : Int)) % 4294967296 = (r : Int) := by
    rw [Int.tmod_eq_emod_of_nonneg (by omega)]
    have : (n : Int) % (d : Int) = (r : Int) := by rw [hr]; push_cast; rfl
    rw [this]; omega
  rw [← hB] at hn
  rw [← hn, ← hq, ← hr]
  simp only [f107, enter_eq]
  have hd0' : ¬ d = 0 := by omega
  have hdh' : ¬ d ≤ h := by omega
  have e7 : (n : Int) / (d : Int) = (q : Int) := by rw [hq]; push_cast; rfl
  have e8 : (q : Int) % 18446744073709551616 = q := by omega
  have e9 : (q : Int) % 4294967296 = q := by omega
  simp [hd0', hdh', wrap_u64, wrap_u32, IntKind.bits, e1, e2, e3, hb]
  simp [e4, hd0', e6, e7, e8, e9, wrap_u64, wrap_u32]
theorem word_loop {xs : List Nat} (hx : Wd xs) (hlx : xs.length ≤ Lim) {n d : Nat} (hn : n = xs.length) (hd : d < B) (hd0 : 0 < d) {Q : FQ}
    (hQ : ∀ (tm : List AV) (hl : tm.length = 40) (ds : List Nat) (r : Nat), tm[6] = .msl 0 0 n 1 n none → tm[7] = .int .u32 (r : Int) → ds.length = n → Wd ds → r < d → val ds * d + r = val xs → Q (.ex 0) ⟨tm, [.mu (wds ds) true]⟩) :
    ∀ (m i : Nat), i + m = n → ∀ (ds : List Nat) (r : Nat), ds.length = i → Wd ds → r < d → val ds * d + r = val (xs.drop m) →
    wpL RT f98_0m 1 f98_0 ⟨[.sl (wds xs) 1 false, .int .u32 (d : Int), .any, .any, .any, .any, .msl 0 0 n 1 n none, .int .u32 (r : Int), .any, .any, .any, .any, .any, .any, .int .i64 (n : Int), .int .i64 (i : Int),
      .any, .any, .any, .any, .any, .any, .any, .any, .any, .any, .any, .any, .any, .any, .any, .any, .any, .any, .any, .any, .any, .any, .any, .any], [.mu (wds (List.replicate m 0 ++ ds)) true]⟩ Q := by
  have hL : Lim = 1099511627776 := rfl
  intro m
  induction m with
  | zero =>
    intro i hi ds r hds hwd hr he
    have hi' : i = n := by omega
    subst hi'
    rw [wpL_eq]
    generalize hK : (fun s' => wpL RT f98_0m 1 f98_0 (head f98_0m 1 s') Q) = K
    simp [f98_0]
    exact hQ _ rfl ds r rfl rfl hds hwd hr (by simpa using he)
  | succ m ih =>
    intro i hi ds r hds hwd hr he
    rw [wpL_eq]
    generalize hK : (fun s' => wpL RT f98_0m 1 f98_0 (head f98_0m 1 s') Q) = K
    have hlt : (i : Int) < (n : Int) := by omega
    obtain ⟨a, hget⟩ : ∃ a, xs[m]? = some a := ⟨xs[m], List.getElem?_eq_getElem (by omega)⟩
    have haB : a < B := hx.get hget
    have hdv := run_Div32 hr haB hd
    have hw1 : IntKind.i64.wrap ((xs.length : Int) - 1) = (xs.length : Int) - 1 := wrap_i64 (by omega) (by omega)
    have hw2 : IntKind.i64.wrap ((xs.length : Int) - 1 - (i : Int)) = (m : Int) := by
      have : (xs.length : Int) - 1 - (i : Int) = m := by omega
      rw [this]; exact wrap_i64 (by omega) (by omega)
    have hwi : IntKind.i64.wrap ((i : Int) + 1) = ((i + 1 : Nat) : Int) := wrap_i64 (by omega) (by omega)
    obtain ⟨q, hq⟩ : ∃ q, q = (r * B + a) / d := ⟨_, rfl⟩
    obtain ⟨r', hr'⟩ : ∃ r', r' = (r * B + a) % d := ⟨_, rfl⟩
    rw [← hq, ← hr'] at hdv
    have hqB : q < B := by
      rw [hq]
      refine Nat.div_lt_of_lt_mul ?_
      have : (r + 1) * B ≤ d * B := Nat.mul_le_mul_right _ hr
      rw [Nat.succ_mul] at this
      omega
    have hwr := wr_word (S := [.mu (wds (List.replicate (m + 1) 0 ++ ds)) true]) (b := 0) (i := m) (vl := n) (w := q) rfl (by simp; omega) (by simp; omega)
    have hset : (List.replicate (m + 1) 0 ++ ds).set m q = List.replicate m 0 ++ (q :: ds) := by
      rw [List.replicate_succ', List.append_assoc, List.set_append_right _ _ (by simp)]
      simp
    rw [hset] at hwr
    simp [f98_0, hlt, hw1, hw2, hget, hdv, after_nr]
    refine ⟨by omega, by omega, ?_⟩
    rw [hwr]
    simp [hwi]
    subst hK
    simp [head, f98_0m, mask]
    have hdm := Nat.div_add_mod (r * B + a) d
    rw [← hq, ← hr'] at hdm
    have := ih (i + 1) (by omega) (q :: ds) r' (by simp [hds]) (Wd.mk hqB hwd) (by rw [hr']; exact Nat.mod_lt _ hd0) (by
      rw [List.drop_eq_getElem_cons (show m < xs.length by omega)]
      have e1 : xs[m] = a := (List.getElem?_eq_some_iff.1 hget).2
      rw [e1]
      simp only [val]
      rw [← he, Nat.add_mul, Nat.mul_add, Nat.mul_assoc, Nat.mul_comm B r, Nat.mul_comm q d]
      omega)
    simpa [f98_0m] using this
theorem run_word {x d : Nat} (hx : size x ≤ Lim) (hd : d < B) (hd0 : 0 < d) : callPure RT 98 [N x, .int .u32 (d : Int)] = some (.tup [N (x / d), .int .u32 ((x % d : Nat) : Int)]) := by
  obtain ⟨r0, hr0⟩ : ∃ r0, r0 = x % d := ⟨_, rfl⟩
  rw [← hr0]
  refine callPure_of (wpF_of tab_98 rfl ?_)
  have hL : Lim = 1099511627776 := rfl
  unfold size at hx
  obtain ⟨n, hn⟩ : ∃ n, n = (dig x).length := ⟨_, rfl⟩
  have hroom : room n 4 := by unfold room; omega
  simp only [f98, enter_eq]
  simp [← hn, hroom]
  refine ⟨by omega, ?_⟩
  simp [head, mask, f98_0m]
  have hst : List.replicate n (AV.int .u32 0) = wds (List.replicate n 0 ++ []) := by rw [List.append_nil]; exact wds_rep n 0
  rw [hst]
  refine word_loop (dig_wd x) hx hn hd hd0 ?_ n 0 (by omega) [] 0 rfl Wd.nil hd0 (by rw [List.drop_of_length_le (by omega)]; simp [val])
  intro tm hl ds r h6 h7 hds hwd hr he
  rw [val_dig] at he
  have hq : val ds = x / d := by
    rw [← he, Nat.mul_comm, Nat.mul_add_div hd0, Nat.div_eq_of_lt hr, Nat.add_zero]
  have hr2 : r = x % d := by
    rw [← he, Nat.mul_comm, Nat.mul_add_mod, Nat.mod_eq_of_lt hr]
  have hnorm := run_norm (t := false) hwd (by omega)
  rw [hq] at hnorm
  have hfz : fzc [.mu (wds ds) true] (5 + 1) (.msl 0 0 n 1 n none) = some (W ds) := by
    have := fzc_mslv (S := [.mu (wds ds) true]) (b := 0) (n := n) (vl := n) (cap := none) (fuel := 5) rfl hds.symm (by omega)
    rwa [List.take_of_length_le (by omega)] at this
  rw [hr2, ← hr0] at h7
  simp [hl, h6, h7, hfz, hnorm, after_row (S := [.mu (wds ds) true]) (b := 0) rfl (show (N (x / d)).bare = false from rfl)]
end Go.AVM

/- Bit lengths. -/
set_option linter.unusedVariables false
set_option linter.unusedSimpArgs false
set_option linter.unusedSectionVars false
namespace Go.AVM
def tabOk (i : Nat) : Bool := match tab256[i]? with
  | some b => decide (b.toNat ≤ 8) && decide (i < 2 ^ b.toNat) && (i == 0 || decide (2 ^ b.toNat ≤ 2 * i))
  | none => false
theorem tab_all : (List.range 256).all tabOk = true := by decide +kernel
theorem tab_get {i : Nat} (h : i < 256) : ∃ b, tab256[i]? = some b ∧ b.toNat ≤ 8 ∧ i < 2 ^ b.toNat ∧ (0 < i → 2 ^ b.toNat ≤ 2 * i) := by
  have := List.all_eq_true.1 tab_all i (List.mem_range.2 h)
  unfold tabOk at this
  split at this
  · rename_i b hb
    simp only [Bool.and_eq_true, decide_eq_true_eq, Bool.or_eq_true, beq_iff_eq] at this
    exact ⟨b, hb, this.1.1, this.1.2, fun h => this.2.resolve_left (by omega)⟩
  · cases this
@[simp] theorem opA_ixs {R : RunF} {s : ByteArray} {k : IntKind} {j : Int} {S : Store} : opA R .ixs [.str s, .int k j] S = chk (0 ≤ j) ((s[j.toNat]?).bind fun b => some (.int .u8 b.toNat, S)) := rfl
theorem len_fin {x y n t : Nat} (hy : y = x / 2 ^ n) (h1 : y < 2 ^ t) (h2 : 2 ^ t ≤ 2 * y) : x < 2 ^ (n + t) ∧ 2 ^ (n + t) ≤ 2 * x := by
  have hp : 0 < 2 ^ n := Nat.two_pow_pos n
  rw [Nat.pow_add]
  constructor
  · have : x < 2 ^ n * (y + 1) := by rw [hy]; exact Nat.lt_mul_div_succ x hp
    exact Nat.lt_of_lt_of_le this (Nat.mul_le_mul_left _ h1)
  · have h3 : 2 ^ n * y ≤ x := by rw [hy]; exact Nat.mul_div_le x (2 ^ n)
    have h4 : 2 ^ n * 2 ^ t ≤ 2 ^ n * (2 * y) := Nat.mul_le_mul_left _ h2
    rw [Nat.mul_left_comm] at h4
    omega
theorem run_Len32 {x : Nat} (hx : x < B) (h0 : 0 < x) : ∃ k : Nat, k ≤ 32 ∧ callPure RT 68 [.int .u32 (x : Int)] = some (.int .i64 (k : Int)) ∧ x < 2 ^ k ∧ 2 ^ k ≤ 2 * x := by
  have hx' : x < 4294967296 := hx
  have fin : ∀ (y n : Nat), y = x / 2 ^ n → y < 256 → 0 < y → n ≤ 24 → (∀ b : UInt8, tab256[y]? = some b → b.toNat ≤ 8 → callPure RT 68 [.int .u32 (x : Int)] = some (.int .i64 ((n + b.toNat : Nat) : Int))) →
      ∃ k : Nat, k ≤ 32 ∧ callPure RT 68 [.int .u32 (x : Int)] = some (.int .i64 (k : Int)) ∧ x < 2 ^ k ∧ 2 ^ k ≤ 2 * x := by
    intro y n hy h1 h2 hn h
    obtain ⟨b, b1, b2, b3, b4⟩ := tab_get h1
    exact ⟨n + b.toNat, by omega, h b b1 b2, len_fin hy b3 (b4 h2)⟩
  have wr1 : ∀ b : UInt8, b.toNat ≤ 8 → IntKind.i64.wrap (b.toNat : Int) = b.toNat := fun b hb => wrap_i64 (by omega) (by omega)
  have wr2 : ∀ (n : Nat) (b : UInt8), b.toNat ≤ 8 → n ≤ 24 → IntKind.i64.wrap ((n : Int) + (b.toNat : Int)) = (n : Int) + (b.toNat : Int) := fun n b hb hn => wrap_i64 (by omega) (by omega)
  have f16 : ∀ a : Int, a.fdiv 65536 = a / 65536 := fun a => Int.fdiv_eq_ediv_of_nonneg _ (by decide)
  have f8 : ∀ a : Int, a.fdiv 256 = a / 256 := fun a => Int.fdiv_eq_ediv_of_nonneg _ (by decide)
  by_cases h16 : 65536 ≤ x
  · have h16z : (65536 : Int) ≤ (x : Int) := by omega
    obtain ⟨y, hy⟩ : ∃ y, y = x / 65536 := ⟨_, rfl⟩
    have ey : (x : Int) / 65536 = (y : Int) := by omega
    by_cases h8 : 256 ≤ y
    · have h8z : (256 : Int) ≤ (y : Int) := by omega
      obtain ⟨z, hz⟩ : ∃ z, z = y / 256 := ⟨_, rfl⟩
      have ez : (y : Int) / 256 = (z : Int) := by omega
      refine fin z 24 (by omega) (by omega) (by omega) (by omega) fun b hb h8b => ?_
      refine callPure_of (wpF_of tab_68 rfl ?_)
      have e1 : (z : Int) % 256 = z := by omega
      have w16 : IntKind.i64.wrap 24 = 24 := by decide
      simp [f68, enter_eq, h16z, f16, ey, f8, h8z, ez, IntKind.bits, wrap_u8, e1, hb, w16, wr1 b h8b]
      have := wr2 24 b h8b (by omega)
      simpa using this
    · have h8z : ¬ (256 : Int) ≤ (y : Int) := by omega
      refine fin y 16 (by omega) (by omega) (by omega) (by omega) fun b hb h8b => ?_
      refine callPure_of (wpF_of tab_68 rfl ?_)
      have e1 : (y : Int) % 256 = y := by omega
      simp [f68, enter_eq, h16z, f16, ey, h8z, IntKind.bits, wrap_u8, e1, hb, wr1 b h8b]
      have := wr2 16 b h8b (by omega)
      simpa using this
  · have h16z : ¬ (65536 : Int) ≤ (x : Int) := by omega
    by_cases h8 : 256 ≤ x
    · have h8z : (256 : Int) ≤ (x : Int) := by omega
      obtain ⟨z, hz⟩ : ∃ z, z = x / 256 := ⟨_, rfl⟩
      have ez : (x : Int) / 256 = (z : Int) := by omega
      refine fin z 8 (by omega) (by omega) (by omega) (by omega) fun b hb h8b => ?_
      refine callPure_of (wpF_of tab_68 rfl ?_)
      have e1 : (z : Int) % 256 = z := by omega
      have w8 : IntKind.i64.wrap 8 = 8 := by decide
      simp [f68, enter_eq, h16z, f8, h8z, ez, IntKind.bits, wrap_u8, e1, hb, w8, wr1 b h8b]
      have := wr2 8 b h8b (by omega)
      simpa using this
    · have h8z : ¬ (256 : Int) ≤ (x : Int) := by omega
      refine fin x 0 (by omega) (by omega) (by omega) (by omega) fun b hb h8b => ?_
      refine callPure_of (wpF_of tab_68 rfl ?_)
      have e1 : (x : Int) % 256 = x := by omega
      simp [f68, enter_eq, h16z, h8z, IntKind.bits, wrap_u8, e1, hb, wr1 b h8b]
/-- How far a word must be moved so that its top bit is set. -/
theorem run_LeadingZeros32 {x : Nat} (hx : x < B) (h0 : 0 < x) : ∃ s : Nat, s < 32 ∧ callPure RT 99 [.int .u32 (x : Int)] = some (.int .i64 (s : Int)) ∧ x * 2 ^ s < B ∧ B ≤ 2 * (x * 2 ^ s) := by
  obtain ⟨k, hk, hr, h1, h2⟩ := run_Len32 hx h0
  have hk0 : 0 < k := by
    rcases Nat.eq_zero_or_pos k with h | h
    · subst h; simp at h1; omega
    · exact h
  have hp : B = 2 ^ k * 2 ^ (32 - k) := by rw [← Nat.pow_add, show k + (32 - k) = 32 by omega]
  refine ⟨32 - k, by omega, ?_, ?_, ?_⟩
  · refine callPure_of (wpF_of tab_99 rfl ?_)
    have hw : IntKind.i64.wrap (32 - (k : Int)) = ((32 - k : Nat) : Int) := by
      have : (32 : Int) - (k : Int) = ((32 - k : Nat) : Int) := by omega
      rw [this]; exact wrap_i64 (by omega) (by omega)
    simp [f99, enter_eq, hr, after_nr, hw]
  · rw [hp]; exact Nat.mul_lt_mul_of_pos_right h1 (Nat.two_pow_pos _)
  · rw [hp, ← Nat.mul_assoc]; exact Nat.mul_le_mul_right _ h2
end Go.AVM

/- Moving by bits. -/
set_option linter.unusedVariables false
set_option linter.unusedSimpArgs false
set_option linter.unusedSectionVars false
namespace Go.AVM
theorem shl_loop {xs : List Nat} (hx : Wd xs) (hlx : xs.length ≤ Lim) {n s : Nat} (hn : n = xs.length) (hs : s < 32) {Q : FQ}
    (hQ : ∀ (tm : List AV) (hl : tm.length = 41) (out : List Nat), tm[5] = .msl 0 0 (n + 1) 1 (n + 1) none → out.length = n + 1 → Wd out → val out = val xs * 2 ^ s → Q (.ex 0) ⟨tm, [.mu (wds out) true]⟩) :
    ∀ (m i : Nat), i + m = n → ∀ (ds : List Nat) (c : Nat), ds.length = i → Wd ds → c < 2 ^ s → val ds + B ^ i * c = val (xs.take i) * 2 ^ s →
    wpL RT f100_0m 1 f100_0 ⟨[.any, .int .i64 (s : Int), .any, .any, .any, .msl 0 0 (n + 1) 1 (n + 1) none, .any, .any, .any, .any, .any, .any, .any, .sl (wds xs) 1 false, .int .i64 (n : Int), .int .i64 (i : Int),
      .any, .any, .any, .any, .any, .any, .any, .any, .any, .any, .any, .any, .any, .any, .any, .any, .any, .any, .any, .any, .any, .any, .any, .any, .any], [.mu (wds (ds ++ c :: List.replicate m 0)) true]⟩ Q := by
  have hL : Lim = 1099511627776 := rfl
  have hsB : B = 2 ^ s * 2 ^ (32 - s) := by rw [← Nat.pow_add, show s + (32 - s) = 32 by omega]
  have hps : 0 < 2 ^ s := Nat.two_pow_pos s
  have hps2 : 0 < 2 ^ (32 - s) := Nat.two_pow_pos _
  have hsle : 2 ^ s ≤ B := by rw [hsB]; exact Nat.le_mul_of_pos_right _ hps2
  intro m
  induction m with
  | zero =>
    intro i hi ds c hds hwd hc he
    have hi' : i = n := by omega
    subst hi'
    rw [wpL_eq]
    generalize hK : (fun s' => wpL RT f100_0m 1 f100_0 (head f100_0m 1 s') Q) = K
    simp [f100_0]
    refine hQ _ rfl (ds ++ [c]) rfl (by simp [hds]) (Wd.app hwd (Wd.mk (by omega) Wd.nil)) ?_
    rw [val_append, hds]
    rw [List.take_of_length_le (by omega)] at he
    simpa [val] using he
  | succ m ih =>
    intro i hi ds c hds hwd hc he
    rw [wpL_eq]
    generalize hK : (fun s' => wpL RT f100_0m 1 f100_0 (head f100_0m 1 s') Q) = K
    have hlt : (i : Int) < (n : Int) := by omega
    obtain ⟨w, hget⟩ : ∃ w, xs[i]? = some w := ⟨xs[i], List.getElem?_eq_getElem (by omega)⟩
    have hwB : w < B := hx.get hget
    obtain ⟨p, hp⟩ : ∃ p, p = w * 2 ^ s := ⟨_, rfl⟩
    obtain ⟨lo, hlo⟩ : ∃ lo, lo = p % B := ⟨_, rfl⟩
    obtain ⟨hi2, hhi⟩ : ∃ hi2, hi2 = p / B := ⟨_, rfl⟩
    have hp64 : p < 18446744073709551616 := by
      have h1 : w * 2 ^ s ≤ w * B := Nat.mul_le_mul_left _ hsle
      have h2 : w * B < B * B := Nat.mul_lt_mul_of_pos_right hwB (by decide)
      have h3 : B * B = 18446744073709551616 := by decide
      omega
    have hhi2 : hi2 < 2 ^ s := by
      rw [hhi]
      refine Nat.div_lt_of_lt_mul ?_
      rw [hp]
      exact Nat.mul_lt_mul_of_pos_right hwB hps
    have hloB : lo < B := by rw [hlo]; exact Nat.mod_lt _ (by decide)
    have hlom : lo = 2 ^ s * (w % 2 ^ (32 - s)) := by
      rw [hlo, hp, hsB, Nat.mul_comm w, Nat.mul_mod_mul_left]
    have hor : c ||| lo = lo + c := by
      rw [hlom, Nat.or_comm]
      exact (Nat.two_pow_add_eq_or_of_lt hc _).symm
    have hsum : lo + c < B := by
      have h1 : w % 2 ^ (32 - s) + 1 ≤ 2 ^ (32 - s) := Nat.mod_lt _ hps2
      have h2 := Nat.mul_le_mul_left (2 ^ s) h1
      rw [Nat.mul_add, Nat.mul_one, ← hlom, ← hsB] at h2
      omega
    have hwi : IntKind.i64.wrap ((i : Int) + 1) = ((i + 1 : Nat) : Int) := wrap_i64 (by omega) (by omega)
    have hshl : ((w : Int) * 2 ^ min s 64) % 18446744073709551616 = (p : Int) := by
      rw [Nat.min_eq_left (by omega)]
      have : (w : Int) * 2 ^ s = (p : Int) := by rw [hp]; push_cast; rfl
      rw [this]; omega
    have hw64 : (w : Int) % 18446744073709551616 = (w : Int) := by
      have : B = 4294967296 := rfl
      omega
    have e1 : (p : Int) % 4294967296 = (lo : Int) := by rw [hlo]; show _ = ((p % 4294967296 : Nat) : Int); omega
    have e2 : (p : Int) / 4294967296 % 4294967296 = (hi2 : Int) := by
      have h1 : hi2 = p / 4294967296 := hhi
      omega
    obtain ⟨e, hee⟩ : ∃ e, e = lo + c := ⟨_, rfl⟩
    rw [← hee] at hor hsum
    have hbo : binA .or (.int .u32 (c : Int)) (.int .u32 (lo : Int)) = some (.int .u32 (e : Int)) := by
      rw [or_nat rfl (show c < 2 ^ 32 from by have : B = 2 ^ 32 := rfl; omega) (show lo < 2 ^ 32 from hloB), hor]
    have hgc : (ds ++ c :: List.replicate (m + 1) 0)[i]? = some c := by
      rw [List.getElem?_append_right (by omega), hds, Nat.sub_self]; rfl
    have hrd := rd_word (S := [.mu (wds (ds ++ c :: List.replicate (m + 1) 0)) true]) (b := 0) (i := i) (vl := n + 1) (ws := ds ++ c :: List.replicate (m + 1) 0) rfl (by simp; omega) (by simp; omega)
    have hge : (ds ++ c :: List.replicate (m + 1) 0)[i]'(by simp; omega) = c := (List.getElem?_eq_some_iff.1 hgc).2
    rw [hge] at hrd
    have hwr1 := wr_word (S := [.mu (wds (ds ++ c :: List.replicate (m + 1) 0)) true]) (b := 0) (i := i) (vl := n + 1) (w := e) rfl (by simp; omega) (by simp; omega)
    have hset1 : (ds ++ c :: List.replicate (m + 1) 0).set i e = ds ++ e :: List.replicate (m + 1) 0 := by
      rw [List.set_append_right _ _ (by omega), hds, Nat.sub_self]; rfl
    rw [hset1] at hwr1
    have hwr2 := wr_word (S := [.mu (wds (ds ++ e :: List.replicate (m + 1) 0)) true]) (b := 0) (i := i + 1) (vl := n + 1) (w := hi2) rfl (by simp; omega) (by simp; omega)
    have hset2 : (ds ++ e :: List.replicate (m + 1) 0).set (i + 1) hi2 = (ds ++ [e]) ++ hi2 :: List.replicate m 0 := by
      rw [List.set_append_right _ _ (by omega), hds, show i + 1 - i = 1 by omega, List.replicate_succ]; simp
    rw [hset2] at hwr2
    have hlt1 : (i : Int) < (n : Int) + 1 := by omega
    have hlt2 : (i : Int) + 1 < (n : Int) + 1 := by omega
    have htn : ((i : Int) + 1).toNat = i + 1 := by omega
    have hz1 : (0 : Int) ≤ (i : Int) + 1 := by omega
    simp [f100_0, hlt, hget, wrap_u64, wrap_u32, hw64, IntKind.bits, hshl, hrd, e1, hbo, hlt1]
    refine ⟨by omega, ?_⟩
    rw [hwr1]
    simp [hwi, e2, fdiv_word, IntKind.bits, wrap_u32, htn, hz1, hlt1, hlt2]
    rw [hwr2]
    simp [hwi]
    subst hK
    simp [head, f100_0m, mask]
    have hdm := Nat.mod_add_div p B
    rw [← hlo, ← hhi] at hdm
    have e6 := val_take_succ xs i
    have hga : xs.getD i 0 = w := by rw [List.getD_eq_getElem?_getD, hget]; rfl
    rw [hga] at e6
    have := ih (i + 1) (by omega) (ds ++ [e]) hi2 (by simp [hds]) (Wd.app hwd (Wd.mk hsum Wd.nil)) hhi2 (by
      rw [val_append, hds, e6, Nat.add_mul, ← he, Nat.mul_assoc, ← hp, ← hdm, hee]
      simp only [val, Nat.pow_succ, Nat.mul_zero, Nat.add_zero, Nat.mul_add, Nat.mul_assoc]
      omega)
    simpa [f100_0m] using this
/-- A number moved by bits, with one word more. -/
theorem run_shl {x s : Nat} (hx : size x ≤ Lim) (hs : s < 32) : wpF RT 100 [N x, .int .i64 (s : Int)] [] fun r S' => ∃ out : List Nat, out.length = size x + 1 ∧ Wd out ∧ val out = x * 2 ^ s ∧ r = .msl 0 0 (size x + 1) 1 (size x + 1) none ∧ S' = [.mu (wds out) true] := by
  refine wpF_of tab_100 rfl ?_
  have hL : Lim = 1099511627776 := rfl
  obtain ⟨n, hn⟩ : ∃ n, n = size x := ⟨_, rfl⟩
  have hn' : n = (dig x).length := hn
  rw [← hn] at hx ⊢
  have hw : IntKind.i64.wrap ((n : Int) + 1) = ((n + 1 : Nat) : Int) := wrap_i64 (by omega) (by omega)
  have hroom : room (n + 1) 4 := by unfold room; omega
  have htn : ((n : Int) + 1).toNat = n + 1 := by omega
  have hz : (0 : Int) ≤ (n : Int) + 1 := by omega
  have hln : (n : Int) + 1 ≤ 281474976710656 := by omega
  simp only [f100, enter_eq]
  simp [← hn', hw, htn, hz, hln, hroom]
  simp [head, mask, f100_0m]
  have hst : List.replicate (n + 1) (AV.int .u32 0) = wds ([] ++ 0 :: List.replicate n 0) := wds_rep (n + 1) 0
  rw [hst]
  refine shl_loop (dig_wd x) (by omega) hn' hs ?_ n 0 (by omega) [] 0 rfl Wd.nil (Nat.two_pow_pos s) (by simp [val])
  intro tm hl out h5 hlo hwo he
  rw [val_dig] at he
  simp [hl, h5]
  exact ⟨out, hlo, hwo, he, rfl⟩
theorem run_shlP {x s : Nat} (hx : size x ≤ Lim) (hs : s < 32) : ∃ out : List Nat, out.length = size x + 1 ∧ Wd out ∧ val out = x * 2 ^ s ∧ callPure RT 100 [N x, .int .i64 (s : Int)] = some (W out) ∧ callOwn RT 0 100 [N x, .int .i64 (s : Int)] = some (.osl (wds out) out.length 1 true) := by
  obtain ⟨r, S', hr, out, h1, h2, h3, rfl, rfl⟩ := run_shl hx hs
  refine ⟨out, h1, h2, h3, ?_, ?_⟩
  · refine callPure_of ⟨_, _, hr, ?_⟩
    show fzc _ (5 + 1) _ = _
    have := fzc_mslv (S := [.mu (wds out) true]) (b := 0) (n := size x + 1) (vl := size x + 1) (cap := none) (fuel := 5) rfl h1.symm (by omega)
    rwa [List.take_of_length_le (by omega)] at this
  · refine callOwn_of ⟨_, _, hr, ?_⟩
    have ht : (wds out).take (size x + 1) = wds out := List.take_of_length_le (by simp; omega)
    simp [ownRes, takeOwn, chk, h1, ht]
end Go.AVM

/- Moving back by bits. -/
set_option linter.unusedVariables false
set_option linter.unusedSimpArgs false
set_option linter.unusedSectionVars false
namespace Go.AVM
theorem shr_word {a b s : Nat} (ha : a < B) (hb : b < B) (hs : s < 32) : ∃ d, ((b * B + a) / 2 ^ s) % B = d ∧ d * 2 ^ s + a % 2 ^ s = (b % 2 ^ s) * B + a := by
  have hsB : B = 2 ^ s * 2 ^ (32 - s) := by rw [← Nat.pow_add, show s + (32 - s) = 32 by omega]
  have hps : 0 < 2 ^ s := Nat.two_pow_pos s
  refine ⟨((b % 2 ^ s) * B + a) / 2 ^ s, ?_, ?_⟩
  · have e1 : b * B + a = 2 ^ s * ((b / 2 ^ s) * B) + ((b % 2 ^ s) * B + a) := by
      conv => lhs; rw [← Nat.mod_add_div b (2 ^ s)]
      rw [Nat.add_mul, Nat.mul_assoc]; omega
    rw [e1, Nat.mul_add_div hps, Nat.add_comm, Nat.add_mul_mod_self_right, Nat.mod_eq_of_lt]
    refine Nat.div_lt_of_lt_mul ?_
    have h1 : (b % 2 ^ s + 1) * B ≤ 2 ^ s * B := Nat.mul_le_mul_right _ (Nat.mod_lt _ hps)
    rw [Nat.succ_mul] at h1
    omega
  · have e2 : ((b % 2 ^ s) * B + a) % 2 ^ s = a % 2 ^ s := by
      rw [hsB, Nat.mul_left_comm, Nat.mul_add_mod]
    have := Nat.div_add_mod ((b % 2 ^ s) * B + a) (2 ^ s)
    rw [e2, Nat.mul_comm] at this
    exact this
theorem shr_loop {xs : List Nat} (hx : Wd xs) (hlx : xs.length ≤ Lim) {n s : Nat} (hn : n = xs.length) (hs : s < 32) {Q : FQ}
    (hQ : ∀ (tm : List AV) (hl : tm.length = 36) (ds : List Nat), tm[5] = .msl 0 0 n 1 n none → ds.length = n → Wd ds → val ds * 2 ^ s + xs.getD 0 0 % 2 ^ s = val xs → Q (.ex 0) ⟨tm, [.mu (wds ds) true]⟩) :
    ∀ (m i : Nat), i + m = n → ∀ (ds : List Nat), ds.length = i → Wd ds → val ds * 2 ^ s + xs.getD 0 0 % 2 ^ s = val (xs.take i) + B ^ i * (xs.getD i 0 % 2 ^ s) →
    wpL RT f102_0m 1 f102_0 ⟨[.sl (wds xs) 1 false, .int .i64 (s : Int), .any, .any, .any, .msl 0 0 n 1 n none, .any, .any, .any, .any, .any, .int .i64 (n : Int), .int .i64 (i : Int),
      .any, .any, .any, .any, .any, .any, .any, .any, .any, .any, .any, .any, .any, .any, .any, .any, .any, .any, .any, .any, .any, .any, .any], [.mu (wds (ds ++ List.replicate m 0)) true]⟩ Q := by
  have hL : Lim = 1099511627776 := rfl
  intro m
  induction m with
  | zero =>
    intro i hi ds hds hwd he
    have hi' : i = n := by omega
    subst hi'
    rw [wpL_eq]
    generalize hK : (fun s' => wpL RT f102_0m 1 f102_0 (head f102_0m 1 s') Q) = K
    simp [f102_0]
    refine hQ _ rfl ds rfl hds hwd ?_
    have h0 : xs.getD i 0 = 0 := by rw [List.getD_eq_getElem?_getD, List.getElem?_eq_none (by omega)]; rfl
    rw [h0, List.take_of_length_le (by omega)] at he
    simpa using he
  | succ m ih =>
    intro i hi ds hds hwd he
    rw [wpL_eq]
    generalize hK : (fun s' => wpL RT f102_0m 1 f102_0 (head f102_0m 1 s') Q) = K
    have hlt : (i : Int) < (n : Int) := by omega
    obtain ⟨a, hget⟩ : ∃ a, xs[i]? = some a := ⟨xs[i], List.getElem?_eq_getElem (by omega)⟩
    have haB : a < B := hx.get hget
    have hga : xs.getD i 0 = a := by rw [List.getD_eq_getElem?_getD, hget]; rfl
    have hat := run_at (ws := xs) (t := false) (i := i + 1) (by omega)
    have hbB : xs.getD (i + 1) 0 < B := by
      rw [List.getD_eq_getElem?_getD]
      cases h : xs[i + 1]? with
      | none => decide
      | some w => exact hx.get h
    have e6 := val_take_succ xs i
    rw [hga] at he e6
    generalize hb : xs.getD (i + 1) 0 = b at *
    obtain ⟨d, hd1, hd2⟩ := shr_word haB hbB hs
    have hdB : d < B := by rw [← hd1]; exact Nat.mod_lt _ (by decide)
    obtain ⟨p, hp⟩ : ∃ p, p = b * B + a := ⟨_, rfl⟩
    rw [← hp] at hd1
    have hB : B = 4294967296 := rfl
    have hpl : p < 18446744073709551616 := by rw [hB] at hp haB hbB; omega
    have hwi : IntKind.i64.wrap ((i : Int) + 1) = ((i + 1 : Nat) : Int) := wrap_i64 (by omega) (by omega)
    have e1 : (b : Int) % 18446744073709551616 = b := by rw [hB] at hbB; omega
    have e2 : (a : Int) % 18446744073709551616 = a := by rw [hB] at haB; omega
    have e3 : (b : Int) * 4294967296 % 18446744073709551616 = (b : Int) * 4294967296 := by rw [hB] at hbB; omega
    have hbo : binA .or (.int .u64 ((b : Int) * 4294967296)) (.int .u64 (a : Int)) = some (.int .u64 (p : Int)) := by
      have hc : (b : Int) * 4294967296 = ((b * 4294967296 : Nat) : Int) := by omega
      rw [hc, or_nat rfl (show b * 4294967296 < 2 ^ 64 by rw [hB] at hbB; omega) (show a < 2 ^ 64 by rw [hB] at haB; omega)]
      have := Nat.two_pow_add_eq_or_of_lt (i := 32) (b := a) haB b
      rw [Nat.mul_comm] at this
      rw [hp]
      show some (AV.int .u64 ((b * 2 ^ 32 ||| a : Nat) : Int)) = _
      rw [← this]
    have e4 : Int.fdiv (p : Int) (2 ^ min s 64) % 4294967296 = (d : Int) := by
      rw [Nat.min_eq_left (by omega), Int.fdiv_eq_ediv_of_nonneg _ (by exact Int.le_of_lt (Int.pow_pos (by decide)))]
      have : (p : Int) / 2 ^ s = ((p / 2 ^ s : Nat) : Int) := by push_cast; rfl
      rw [this]
      rw [hB] at hd1; omega
    have hwr := wr_word (S := [.mu (wds (ds ++ List.replicate (m + 1) 0)) true]) (b := 0) (i := i) (vl := n) (w := d) rfl (by simp; omega) (by simp; omega)
    have hset : (ds ++ List.replicate (m + 1) 0).set i d = (ds ++ [d]) ++ List.replicate m 0 := by
      rw [List.set_append_right _ _ (by omega), hds, Nat.sub_self, List.replicate_succ, List.set_cons_zero]
      simp
    rw [hset] at hwr
    have hat' : callPure RT 104 [.sl (wds xs) 1 false, .int .i64 ((i : Int) + 1)] = some (.int .u32 (b : Int)) := hat
    simp [f102_0, hlt, hget, hwi, hat', after_nr, wrap_u64, wrap_u32, IntKind.bits, e1, e2, e3, hbo, e4]
    refine ⟨by omega, ?_⟩
    rw [hwr]
    simp [hwi]
    subst hK
    simp [head, f102_0m, mask]
    have := ih (i + 1) (by omega) (ds ++ [d]) (by simp [hds]) (Wd.app hwd (Wd.mk hdB Wd.nil)) (by
      rw [val_append, hds, e6, hb]
      simp only [val, Nat.mul_zero, Nat.add_zero, Nat.add_mul, Nat.pow_succ]
      have e8 : B ^ i * (d * 2 ^ s + a % 2 ^ s) = B ^ i * (b % 2 ^ s * B + a) := by rw [hd2]
      rw [Nat.mul_add, Nat.mul_add, ← Nat.mul_assoc, Nat.mul_comm (b % 2 ^ s) B, ← Nat.mul_assoc] at e8
      omega)
    simpa [f102_0m] using this
theorem run_shr {x s : Nat} (hx : size x ≤ Lim) (hs : s < 32) : callPure RT 102 [N x, .int .i64 (s : Int)] = some (N (x / 2 ^ s)) := by
  refine callPure_of (wpF_of tab_102 rfl ?_)
  have hL : Lim = 1099511627776 := rfl
  unfold size at hx
  obtain ⟨n, hn⟩ : ∃ n, n = (dig x).length := ⟨_, rfl⟩
  have hroom : room n 4 := by unfold room; omega
  simp only [f102, enter_eq]
  simp [← hn, hroom]
  refine ⟨by omega, ?_⟩
  simp [head, mask, f102_0m]
  have hst : List.replicate n (AV.int .u32 0) = wds ([] ++ List.replicate n 0) := wds_rep n 0
  rw [hst]
  refine shr_loop (dig_wd x) hx hn hs ?_ n 0 (by omega) [] rfl Wd.nil (by simp [val])
  intro tm hl ds h5 hds hwd he
  rw [val_dig] at he
  have hps : 0 < 2 ^ s := Nat.two_pow_pos s
  have hq : val ds = x / 2 ^ s := by
    rw [← he, Nat.mul_comm, Nat.mul_add_div hps, Nat.div_eq_of_lt (Nat.mod_lt _ hps), Nat.add_zero]
  have hnorm := run_norm (t := false) hwd (by omega)
  rw [hq] at hnorm
  have hfz : fzc [.mu (wds ds) true] (5 + 1) (.msl 0 0 n 1 n none) = some (W ds) := by
    have := fzc_mslv (S := [.mu (wds ds) true]) (b := 0) (n := n) (vl := n) (cap := none) (fuel := 5) rfl hds.symm (by omega)
    rwa [List.take_of_length_le (by omega)] at this
  simp [hl, h5, hfz, hnorm, after_row (S := [.mu (wds ds) true]) (b := 0) rfl (show (N (x / 2 ^ s)).bare = false from rfl)]
end Go.AVM

/- One digit of a quotient. -/
set_option linter.unusedVariables false
set_option linter.unusedSimpArgs false
set_option linter.unusedSectionVars false
namespace Go.AVM
@[simp] theorem wds_getElem (xs : List Nat) (i : Nat) (h : i < (wds xs).length) : (wds xs)[i] = .int .u32 ((xs[i]'(by simpa using h) : Nat) : Int) := by simp [wds]
/-- What is left of the variables, told by their numbers. -/
def maskG : List Bool → Nat → (Nat → AV) → Nat → List AV
  | _, 0, _, _ => []
  | [], n + 1, f, k => .any :: maskG [] n f (k + 1)
  | b :: bs, n + 1, f, k => (bif b then f k else .any) :: maskG bs n f (k + 1)
theorem maskG_nil : ∀ (n : Nat) (f : Nat → AV) (k : Nat), maskG [] n f k = List.replicate n .any
  | 0, _, _ => rfl
  | n + 1, f, k => by rw [maskG, maskG_nil n f (k + 1)]; rfl
theorem maskG_t (bs : List Bool) (n : Nat) (f : Nat → AV) (k : Nat) : maskG (true :: bs) (n + 1) f k = f k :: maskG bs n f (k + 1) := rfl
theorem maskG_f (bs : List Bool) (n : Nat) (f : Nat → AV) (k : Nat) : maskG (false :: bs) (n + 1) f k = .any :: maskG bs n f (k + 1) := rfl
theorem maskG_get : ∀ (live : List Bool) (tm : List AV) (f : Nat → AV) (k : Nat), (∀ i, i < tm.length → f (k + i) = tm.getD i .any) → mask live tm = maskG live tm.length f k
  | live, [], f, k, _ => by cases live <;> rfl
  | [], v :: tm, f, k, h => by
    rw [mask, List.length_cons, maskG, maskG_get [] tm f (k + 1) fun i hi => by
      have := h (i + 1) (by simpa using hi)
      rw [show k + 1 + i = k + (i + 1) by omega, this]; rfl]
  | b :: bs, v :: tm, f, k, h => by
    rw [mask, List.length_cons, maskG, maskG_get bs tm f (k + 1) fun i hi => by
      have := h (i + 1) (by simpa using hi)
      rw [show k + 1 + i = k + (i + 1) by omega, this]; rfl]
    have h0 := h 0 (by simp)
    rw [Nat.add_zero] at h0
    rw [h0]; rfl
theorem mask_G {live : List Bool} {tm : List AV} {n : Nat} (h : tm.length = n) : mask live tm = maskG live n (fun i => tm.getD i .any) 0 := by
  subst h
  exact maskG_get live tm _ 0 fun i _ => by rw [Nat.zero_add]
/-- The leading words give a digit that is not too small. -/
theorem est_le {X V xt vt k : Nat} (hV : vt * B ^ k ≤ V) (hX : X < (xt + 1) * B ^ k) (hvt : 0 < vt) : X / V ≤ xt / vt := by
  rw [Nat.le_div_iff_mul_le hvt]
  have h1 : X / V * V ≤ X := Nat.div_mul_le_self X V
  have h2 : X / V * (vt * B ^ k) ≤ X / V * V := Nat.mul_le_mul_left _ hV
  have h3 : X / V * vt * B ^ k < (xt + 1) * B ^ k := by rw [Nat.mul_assoc]; omega
  have := Nat.lt_of_mul_lt_mul_right h3
  omega
/-- A digit that the leading words show to be too great. -/
theorem est_lt {X V xt vt k d : Nat} (hV : vt * B ^ k ≤ V) (hX : X < (xt + 1) * B ^ k) (hvt : 0 < vt) (hd : xt < d * vt) : X / V < d := by
  have hpos : 0 < V := Nat.lt_of_lt_of_le (Nat.mul_pos hvt (Nat.pow_pos (by decide))) hV
  rw [Nat.div_lt_iff_lt_mul hpos]
  have h2 : d * (vt * B ^ k) ≤ d * V := Nat.mul_le_mul_left _ hV
  have h3 : (xt + 1) * B ^ k ≤ d * vt * B ^ k := Nat.mul_le_mul_right _ hd
  rw [Nat.mul_assoc] at h3
  omega
end Go.AVM

/- Rules for loops whose rounds are counted: they are run round by round. -/
set_option linter.unusedVariables false
set_option linter.unusedSimpArgs false
set_option linter.unusedSectionVars false
namespace Go.AVM
section
variable {R : RunF} {s s' : St} {live : List Bool} {base : Nat} {b : AC} {Q : FQ}
/-- What must hold after one round. -/
def loopQ (R : RunF) (live : List Bool) (base : Nat) (b : AC) (Q : FQ) : FQ := fun fl s => match fl with | .nrm => wpL R live base b (head live base s) Q | .ex i => Q (.ex i) s | .ret => Q .ret s
@[simp] theorem loopQ_nrm : loopQ R live base b Q .nrm s = wpL R live base b (head live base s) Q := rfl
@[simp] theorem loopQ_ex {i : Nat} : loopQ R live base b Q (.ex i) s = Q (.ex i) s := rfl
@[simp] theorem loopQ_ret : loopQ R live base b Q .ret s = Q .ret s := rfl
theorem wpL_step : wpL R live base b s Q ↔ wpE R b s (loopQ R live base b Q) := by
  rw [wpL_eq]
  have : (thenQ (fun s' => wpL R live base b (head live base s') Q) Q) = loopQ R live base b Q := by
    funext fl s; cases fl <;> rfl
  rw [this]
@[congr] theorem loopQ_congr : loopQ R live base b Q = loopQ R live base b Q := rfl
@[congr] theorem wpL_congr (h : s = s') : wpL R live base b s Q ↔ wpL R live base b s' Q := by rw [h]
end
@[simp] theorem wlit0 : IntKind.i64.wrap 0 = 0 := by decide
@[simp] theorem wlit1 : IntKind.i64.wrap 1 = 1 := by decide
@[simp] theorem wlit2 : IntKind.i64.wrap 2 = 2 := by decide
@[simp] theorem wlit3 : IntKind.i64.wrap 3 = 3 := by decide
@[simp] theorem wlit4 : IntKind.i64.wrap 4 = 4 := by decide
@[simp] theorem wlit5 : IntKind.i64.wrap 5 = 5 := by decide
@[simp] theorem wlit6 : IntKind.i64.wrap 6 = 6 := by decide
@[simp] theorem wlit7 : IntKind.i64.wrap 7 = 7 := by decide
@[simp] theorem wlit8 : IntKind.i64.wrap 8 = 8 := by decide
@[simp] theorem wlit9 : IntKind.i64.wrap 9 = 9 := by decide
@[simp] theorem wlit10 : IntKind.i64.wrap 10 = 10 := by decide
@[simp] theorem wlit11 : IntKind.i64.wrap 11 = 11 := by decide
@[simp] theorem wlit12 : IntKind.i64.wrap 12 = 12 := by decide
@[simp] theorem wlit13 : IntKind.i64.wrap 13 = 13 := by decide
@[simp] theorem wlit14 : IntKind.i64.wrap 14 = 14 := by decide
@[simp] theorem wlit15 : IntKind.i64.wrap 15 = 15 := by decide
@[simp] theorem wlit16 : IntKind.i64.wrap 16 = 16 := by decide
@[simp] theorem wlit17 : IntKind.i64.wrap 17 = 17 := by decide
@[simp] theorem wlit18 : IntKind.i64.wrap 18 = 18 := by decide
@[simp] theorem wlit19 : IntKind.i64.wrap 19 = 19 := by decide
@[simp] theorem wlit20 : IntKind.i64.wrap 20 = 20 := by decide
@[simp] theorem wlit21 : IntKind.i64.wrap 21 = 21 := by decide
@[simp] theorem wlit22 : IntKind.i64.wrap 22 = 22 := by decide
@[simp] theorem wlit23 : IntKind.i64.wrap 23 = 23 := by decide
@[simp] theorem wlit24 : IntKind.i64.wrap 24 = 24 := by decide
@[simp] theorem wlit25 : IntKind.i64.wrap 25 = 25 := by decide
@[simp] theorem wlitm : IntKind.i64.wrap (-1) = -1 := by decide
@[simp] theorem after_nil (st : Bool) (S : Store) (r : AV) : after st S [] r = some S := after_nr rfl
@[simp] theorem after_int (st : Bool) (S : Store) (as : List AV) (k : IntKind) (n : Int) : after st S as (.int k n) = some S := after_bare rfl
@[simp] theorem after_bool (st : Bool) (S : Store) (as : List AV) (b : Bool) : after st S as (.bool b) = some S := after_bare rfl
@[simp] theorem after_str (st : Bool) (S : Store) (as : List AV) (b : ByteArray) : after st S as (.str b) = some S := after_bare rfl
@[simp] theorem wpE_condc_t {R : RunF} {a b : AC} {s : St} {Q : FQ} : wpE R (.cond (.c (.bool true)) a b) s Q ↔ wpE R a s Q := wpE_cond_t rfl
@[simp] theorem wpE_condc_f {R : RunF} {a b : AC} {s : St} {Q : FQ} : wpE R (.cond (.c (.bool false)) a b) s Q ↔ wpE R b s Q := wpE_cond_f rfl
theorem len8 {α : Type} {l : List α} (h : l.length = 8) : ∃ a0 a1 a2 a3 a4 a5 a6 a7, l = [a0, a1, a2, a3, a4, a5, a6, a7] := by
  match l, h with
  | [a0, a1, a2, a3, a4, a5, a6, a7], _ => exact ⟨_, _, _, _, _, _, _, _, rfl⟩
@[simp] theorem nums_getElem (k : IntKind) (xs : List Int) (i : Nat) (h : i < (nums k xs).length) : (nums k xs)[i] = .int k (xs[i]'(by simpa using h)) := by simp [nums]
/-- A row of eight numbers. -/
abbrev R8 (l : List Int) : AV := .agg (nums .i64 l)
def Bd (b : Int) (l : List Int) : Prop := ∀ x ∈ l, -b ≤ x ∧ x ≤ b
theorem Bd.cons {b x : Int} {l : List Int} (h : Bd b (x :: l)) : (-b ≤ x ∧ x ≤ b) ∧ Bd b l := ⟨h x (by simp), fun y hy => h y (by simp [hy])⟩
theorem Bd.nil {b : Int} : Bd b [] := fun x hx => by cases hx
theorem Bd.mk {b x : Int} {l : List Int} (h : -b ≤ x ∧ x ≤ b) (h' : Bd b l) : Bd b (x :: l) := fun y hy => by
  rcases List.mem_cons.1 hy with rfl | hy
  · exact h
  · exact h' y hy
theorem Bd.mono {b c : Int} {l : List Int} (h : Bd b l) (hc : b ≤ c) : Bd c l := fun x hx => by have := h x hx; omega
theorem contQ_sh {R : RunF} {f : Nat} {vs : List AV} {S : Store} {d : Option Nat} {tm : List AV} {os : List ROp} {Q : FQ} (h : wpF R f vs S fun r S' => wpR R os ⟨put tm d r, trunc S.length [r] S'⟩ Q) : contQ R (callSh R f vs S) d tm os Q := by
  obtain ⟨r, S', h1, h2⟩ := h
  refine ⟨(r, trunc S.length [r] S'), ?_, h2⟩
  unfold callSh
  rw [h1]; rfl
theorem wpF_mono {R : RunF} {f : Nat} {args : List AV} {S : Store} {Q Q' : AV → Store → Prop} (h : wpF R f args S Q) (hq : ∀ r S', Q r S' → Q' r S') : wpF R f args S Q' := by
  obtain ⟨r, S', h1, h2⟩ := h
  exact ⟨r, S', h1, hq r S' h2⟩
theorem callPure_ex {R : RunF} {f : Nat} {args : List AV} {P : AV → Prop} (h : wpF R f args [] fun v S' => ∃ r, fzv S' v = some r ∧ P r) : ∃ r, callPure R f args = some r ∧ P r := by
  obtain ⟨v, S', h1, r, h2, h3⟩ := h
  exact ⟨r, by unfold callPure; rw [h1]; exact h2, h3⟩
end Go.AVM

/- Stores to which blocks are laid: what is read and written of them. -/
set_option linter.unusedVariables false
set_option linter.unusedSimpArgs false
set_option linter.unusedSectionVars false
namespace Go.AVM
section
variable {S : Store} {x : Blk} {cs vs : List AV} {ex : Bool} {b off vl n : Nat}
theorem get_last : (S ++ [x])[S.length]? = some x := by simp
theorem get_app (h : b < S.length) : (S ++ [x])[b]? = S[b]? := List.getElem?_append_left h
theorem lt_of_get {y : Blk} (h : S[b]? = some y) : b < S.length := (List.getElem?_eq_some_iff.1 h).1
theorem rd_mu (h : S[b]? = some (.mu cs ex)) (hl : cs.length = vl) (ho : off + n ≤ vl) : rd S b off vl n = some ((cs.drop off).take n) := by
  unfold rd; rw [h]; exact chk_pos ⟨hl, ho⟩
theorem wr_mu (h : S[b]? = some (.mu cs ex)) (hl : cs.length = vl) (ho : off + vs.length ≤ vl) : wr S b off vl vs = some (S.set b (.mu (splice cs off vs) ex)) := by
  unfold wr; rw [h]; exact chk_pos ⟨hl, ho⟩
@[simp] theorem rd_last : rd (S ++ [.mu cs ex]) S.length off vl n = chk (cs.length = vl ∧ off + n ≤ vl) (some ((cs.drop off).take n)) := by
  unfold rd; rw [get_last]
@[simp] theorem wr_last : wr (S ++ [.mu cs ex]) S.length off vl vs = chk (cs.length = vl ∧ off + vs.length ≤ vl) (some (S ++ [.mu (splice cs off vs) ex])) := by
  unfold wr; rw [get_last]; simp
theorem rd_app (h : b < S.length) : rd (S ++ [x]) b off vl n = rd S b off vl n := by
  unfold rd; rw [get_app h]
theorem set_get {y : Blk} (h : b < S.length) : (S.set b y)[b]? = some y := by simp [h]
/-- One number of a block of numbers. -/
theorem rd_num {k : IntKind} {xs : List Int} {v : Int} {i : Nat} (h : S[b]? = some (.mu (nums k xs) ex)) (hl : xs.length = vl) (hi : xs[i]? = some v) : rd S b i vl 1 = some [.int k v] := by
  have hi' := (List.getElem?_eq_some_iff.1 hi).1
  rw [rd_mu h (by simpa using hl) (by omega), nums_drop, nums_take]
  rw [List.drop_eq_getElem_cons hi']
  have := (List.getElem?_eq_some_iff.1 hi).2
  rw [this]; rfl
theorem splice_num {k : IntKind} {xs : List Int} {v : Int} {i : Nat} (hi : i < xs.length) : splice (nums k xs) i [.int k v] = nums k (xs.set i v) := by
  unfold splice
  rw [← nums_set, List.set_eq_take_append_cons_drop]
  simp [hi]
theorem wr_num {k : IntKind} {xs : List Int} {v : Int} {i : Nat} (h : S[b]? = some (.mu (nums k xs) ex)) (hl : xs.length = vl) (hi : i < vl) : wr S b i vl [.int k v] = some (S.set b (.mu (nums k (xs.set i v)) ex)) := by
  rw [wr_mu h (by simpa using hl) (by simp; omega), splice_num (by omega)]
end
/-- Rows of eight, one after the other. -/
theorem flat_len {α : Type} : ∀ {t : List (List α)}, (∀ r ∈ t, r.length = 8) → t.flatten.length = 8 * t.length
  | [], _ => rfl
  | r :: t, h => by
    rw [List.flatten_cons, List.length_append, flat_len fun x hx => h x (by simp [hx]), h r (by simp), List.length_cons]; omega
/-- Cut into rows of eight. -/
def cut8 : Nat → List Int → List (List Int)
  | 0, _ => []
  | n + 1, l => l.take 8 :: cut8 n (l.drop 8)
theorem cut8_len : ∀ (n : Nat) (l : List Int), (cut8 n l).length = n
  | 0, _ => rfl
  | n + 1, l => by rw [cut8, List.length_cons, cut8_len n]
theorem cut8_mem : ∀ (n : Nat) (l : List Int), l.length = 8 * n → ∀ r ∈ cut8 n l, r.length = 8 ∧ ∀ x ∈ r, x ∈ l
  | 0, _, _, r, hr => by cases hr
  | n + 1, l, hl, r, hr => by
    rcases List.mem_cons.1 hr with rfl | hr
    · exact ⟨by rw [List.length_take]; omega, fun x hx => List.mem_of_mem_take hx⟩
    · have := cut8_mem n (l.drop 8) (by rw [List.length_drop]; omega) r hr
      exact ⟨this.1, fun x hx => List.mem_of_mem_drop (this.2 x hx)⟩
theorem cut8_get : ∀ (n : Nat) (l : List Int), l.length = 8 * n → ∀ i, (cut8 n l)[i]? = if i < n then some ((l.drop (8 * i)).take 8) else none
  | 0, _, _, i => by simp [cut8]
  | n + 1, l, hl, 0 => by simp [cut8]
  | n + 1, l, hl, i + 1 => by
    rw [cut8, List.getElem?_cons_succ, cut8_get n (l.drop 8) (by rw [List.length_drop]; omega) i, List.drop_drop]
    have : 8 + 8 * i = 8 * (i + 1) := by omega
    rw [this]
    by_cases h : i < n
    · rw [if_pos h, if_pos (by omega)]
    · rw [if_neg h, if_neg (by omega)]
theorem chunk_cut : ∀ (n : Nat) (l : List Int), l.length = 8 * n → chunk 8 n (nums .i64 l) = (cut8 n l).map R8
  | 0, _, _ => rfl
  | n + 1, l, hl => by
    rw [chunk, if_neg (by decide), nums_take, nums_drop, chunk_cut n (l.drop 8) (by rw [List.length_drop]; omega), cut8]; rfl
theorem rows_cells (o : List (List Int)) : (o.map R8).flatMap AV.cells = nums .i64 o.flatten := by
  induction o with
  | nil => rfl
  | cons r o ih => rw [List.map_cons, List.flatMap_cons, ih, List.flatten_cons, ← nums_append]; rfl
/-- What a live variable leads to is kept. -/
theorem trunc_get {n : Nat} {vs : List AV} {S : Store} {b : Nat} (h : b < n ∨ ∃ v ∈ vs, lt1 n v = false) : (trunc n vs S)[b]? = S[b]? := by
  unfold trunc
  split
  · rename_i hc
    rw [Bool.and_eq_true, List.all_eq_true] at hc
    rcases h with h | ⟨v, hv, hf⟩
    · rw [List.getElem?_take]; simp [h]
    · have := hc.1 v hv
      rw [hf] at this; cases this
  · rfl
end Go.AVM

/- Taking a multiple away, word by word. -/
set_option linter.unusedVariables false
set_option linter.unusedSimpArgs false
set_option linter.unusedSectionVars false
namespace Go.AVM
/-- A window of a row: what is done, what is to come. -/
theorem window_set {us ds : List Nat} {off i d : Nat} (h : off + i < us.length) (hd : ds.length = i) : (us.take off ++ ds ++ us.drop (off + i)).set (off + i) d = us.take off ++ (ds ++ [d]) ++ us.drop (off + (i + 1)) := by
  have hl : (us.take off ++ ds).length = off + i := by simp [hd]; omega
  rw [List.set_append_right _ _ (by omega), hl, Nat.sub_self, List.drop_eq_getElem_cons h, List.set_cons_zero]
  simp [Nat.add_assoc]
theorem window_get {us ds : List Nat} {off i : Nat} (h : off + i < us.length) (hd : ds.length = i) : (us.take off ++ ds ++ us.drop (off + i))[off + i]? = some us[off + i] := by
  have hl : (us.take off ++ ds).length = off + i := by simp [hd]; omega
  rw [List.getElem?_append_right (by omega), hl, Nat.sub_self, List.drop_eq_getElem_cons h]
  rfl
set_option maxRecDepth 20000 in
theorem red_sub {S : Store} {b : Nat} {us vs : List Nat} {off n g : Nat} (hS : S[b]? = some (.mu (wds us) true)) (hus : Wd us) (hvs : Wd vs) (hn : vs.length = n) (hoff : off + (n + 1) ≤ us.length) (hg : g < B) (hlen : us.length ≤ 2 * Lim) {Q : FQ}
    (hQ : ∀ (tm : List AV) (hl : tm.length = 141) (ds : List Nat) (bo : Nat), tm[0] = .msl b off (n + 1) 1 us.length none → tm[1] = .sl (wds vs) 1 false → tm[6] = .int .u64 (g : Int) → tm[11] = .int .u32 (bo : Int) → ds.length = n + 1 → Wd ds → bo ≤ 1 →
      val ds + g * val vs = val ((us.drop off).take (n + 1)) + B ^ (n + 1) * bo → Q (.ex 2) ⟨tm, S.set b (.mu (wds (us.take off ++ ds ++ us.drop (off + (n + 1)))) true)⟩) :
    ∀ (m i : Nat), i + m = n + 1 → ∀ (ds : List Nat) (c bo low : Nat), ds.length = i → Wd ds → c < B → bo ≤ 1 → low < B ^ i → low + B ^ i * c = g * val (vs.take i) → val ds + g * val (vs.take i) = val ((us.drop off).take i) + B ^ i * (c + bo) →
    wpL RT f101_1m S.length f101_1 ⟨[.msl b off (n + 1) 1 us.length none, .sl (wds vs) 1 false, .any, .any, .any, .any, .int .u64 (g : Int), .any, .any, .any, .int .u64 (c : Int), .int .u32 (bo : Int)] ++ List.replicate 70 .any ++ [.int .i64 ((n + 1 : Nat) : Int), .int .i64 (i : Int)] ++ List.replicate 57 .any,
      S.set b (.mu (wds (us.take off ++ ds ++ us.drop (off + i))) true)⟩ Q := by
  have hL : Lim = 1099511627776 := rfl
  intro m
  induction m with
  | zero =>
    intro i hi ds c bo low hds hwd hc hb hlow hpr he
    have hi' : i = n + 1 := by omega
    subst hi'
    rw [wpL_eq]
    generalize hK : (fun s' => wpL RT f101_1m S.length f101_1 (head f101_1m S.length s') Q) = K
    simp [f101_1, List.replicate]
    have hv : vs.take (n + 1) = vs := List.take_of_length_le (by omega)
    rw [hv] at hpr he
    have hc0 : c = 0 := by
      have h1 := val_lt hvs
      rw [hn] at h1
      have h2 : g * val vs < B ^ (n + 1) := by rw [Nat.pow_succ']; exact Nat.mul_lt_mul'' hg h1
      refine Classical.byContradiction fun h => ?_
      have h3 : B ^ (n + 1) * 1 ≤ B ^ (n + 1) * c := Nat.mul_le_mul_left _ (by omega)
      rw [Nat.mul_one] at h3
      generalize B ^ (n + 1) * c = z at *
      generalize B ^ (n + 1) = y at *
      omega
    subst hc0
    rw [Nat.zero_add] at he
    have := hQ
    simp only [List.append_assoc] at hQ
    exact hQ _ rfl ds bo rfl rfl rfl rfl hds hwd hb he
  | succ m ih =>
    intro i hi ds c bo low hds hwd hc hb hlow hpr he
    rw [wpL_eq]
    generalize hK : (fun s' => wpL RT f101_1m S.length f101_1 (head f101_1m S.length s') Q) = K
    have hlt : (i : Int) < ((n + 1 : Nat) : Int) := by omega
    have hlt' : (i : Int) < (n : Int) + 1 := by omega
    have hat := run_at (ws := vs) (t := false) (i := i) (by omega)
    have hvB : vs.getD i 0 < B := by
      rw [List.getD_eq_getElem?_getD]
      cases h : vs[i]? with
      | none => decide
      | some w => exact hvs.get h
    have e2 := val_take_succ vs i
    generalize vs.getD i 0 = v at *
    obtain ⟨w, hw⟩ : ∃ w, us[off + i]? = some w := ⟨us[off + i], List.getElem?_eq_getElem (by omega)⟩
    have hwB : w < B := hus.get hw
    have hB : B = 4294967296 := rfl
    have hgv : g * v ≤ (B - 1) * (B - 1) := Nat.mul_le_mul (by omega) (by omega)
    obtain ⟨p, hp⟩ : ∃ p, p = g * v := ⟨_, rfl⟩
    rw [← hp, hB] at hgv
    obtain ⟨q, hq⟩ : ∃ q, q = c + p := ⟨_, rfl⟩
    obtain ⟨lo, hlo⟩ : ∃ lo, lo = q % 4294967296 := ⟨_, rfl⟩
    obtain ⟨hi2, hhi⟩ : ∃ hi2, hi2 = q / 4294967296 := ⟨_, rfl⟩
    rw [hB] at hc hvB hg hwB
    have hsu := run_Sub32 (x := w) (y := lo) (b := bo) (by rw [hB]; omega) (by rw [hB]; omega) hb
    have hbe := borrow_eq (a := w) (c := lo) (b := bo) (by rw [hB]; omega) (by rw [hB]; omega) hb
    obtain ⟨d, hd⟩ : ∃ d, d = (w + 2 * B - lo - bo) % B := ⟨_, rfl⟩
    obtain ⟨bo', hbo'⟩ : ∃ bo', bo' = if w < lo + bo then 1 else 0 := ⟨_, rfl⟩
    rw [← hd, ← hbo'] at hsu hbe
    have hdB : d < B := by rw [hd]; exact Nat.mod_lt _ (by decide)
    have hb1 : bo' ≤ 1 := by rw [hbo']; split <;> omega
    have hq2 : q < 18446744073709551616 := by omega
    have hql : q = lo + 4294967296 * hi2 := by omega
    have hget0 := window_get (us := us) (ds := ds) (off := off) (i := i) (by omega) hds
    have hset0 := window_set (us := us) (ds := ds) (off := off) (i := i) (d := d) (by omega) hds
    have hwu : us[off + i]'(by omega) = w := (List.getElem?_eq_some_iff.1 hw).2
    rw [hwu] at hget0
    have hbl := lt_of_get hS
    have hlen0 : (us.take off ++ ds ++ us.drop (off + i)).length = us.length := by simp [hds]; omega
    have hih := ih (i + 1) (by omega) (ds ++ [d]) hi2 bo' (low + B ^ i * lo) (by simp [hds]) (Wd.app hwd (Wd.mk hdB Wd.nil)) (by rw [hB]; omega) hb1 (by
      rw [Nat.pow_succ]
      have : B ^ i * lo ≤ B ^ i * (B - 1) := Nat.mul_le_mul_left _ (by rw [hB]; omega)
      have e : B ^ i * (B - 1) + B ^ i = B ^ i * B := by
        rw [← Nat.mul_succ]; rfl
      omega) (by
      rw [e2, Nat.pow_succ, Nat.mul_add]
      have e3 : B ^ i * lo + B ^ i * B * hi2 = B ^ i * q := by
        rw [hql, Nat.mul_assoc, ← Nat.mul_add]
      have e4 : g * (B ^ i * v) = B ^ i * p := by rw [hp, ← Nat.mul_assoc, Nat.mul_comm g, Nat.mul_assoc]
      have e5 : B ^ i * q = B ^ i * c + B ^ i * p := by rw [hq, Nat.mul_add]
      omega) (by
      have e6 : val ((us.drop off).take (i + 1)) = val ((us.drop off).take i) + B ^ i * w := by
        rw [val_take_succ, List.getD_eq_getElem?_getD, List.getElem?_drop, hw]; rfl
      rw [val_append, hds, e2, e6, Nat.pow_succ, Nat.mul_add]
      have e4 : g * (B ^ i * v) = B ^ i * p := by rw [hp, ← Nat.mul_assoc, Nat.mul_comm g, Nat.mul_assoc]
      have e7 : B ^ i * (d + (c + bo + p)) = B ^ i * (w + B * (hi2 + bo')) := by
        congr 1
        rw [hB] at hbe ⊢; omega
      have e8 : B ^ i * B * (hi2 + bo') = B ^ i * (B * (hi2 + bo')) := Nat.mul_assoc ..
      have e9 : val [d] = d := by simp [val]
      rw [e8, e9]
      simp only [Nat.mul_add] at e7 he ⊢
      omega)
    rw [← Nat.add_assoc] at hset0
    have e0 : off + (i + 1) = off + i + 1 := by omega
    rw [e0] at hih
    rw [← hset0] at hih
    generalize hcs : us.take off ++ ds ++ us.drop (off + i) = cs at *
    have hrd := rd_word (S := S.set b (.mu (wds cs) true)) (b := b) (i := off + i) (vl := us.length) (ws := cs) (ex := true) (set_get hbl) (by rw [hlen0]) (by omega)
    have hwr := wr_word (S := S.set b (.mu (wds cs) true)) (b := b) (i := off + i) (vl := us.length) (w := d) (ws := cs) (ex := true) (set_get hbl) (by rw [hlen0]) (by omega)
    have hcw : cs[off + i]'(by omega) = w := (List.getElem?_eq_some_iff.1 hget0).2
    rw [hcw] at hrd
    rw [List.set_set] at hwr
    have f1 : (v : Int) % 18446744073709551616 = v := by omega
    have f2 : (g : Int) * (v : Int) % 18446744073709551616 = (p : Int) := by
      have : (g : Int) * (v : Int) = ((g * v : Nat) : Int) := by push_cast; rfl
      rw [this, ← hp]; omega
    have f3 : ((c : Int) + (p : Int)) % 18446744073709551616 = (q : Int) := by omega
    have f4 : (q : Int) % 4294967296 = (lo : Int) := by omega
    have f5 : Int.fdiv (q : Int) 4294967296 = (hi2 : Int) := by rw [fdiv_word]; omega
    have hwi : IntKind.i64.wrap ((i : Int) + 1) = ((i + 1 : Nat) : Int) := wrap_i64 (by omega) (by omega)
    simp [f101_1, List.replicate, hlt', hat, after_nr, wrap_u64, wrap_u32, f1, f2, f3, hrd, f4, hsu, hwr, f5, hwi, IntKind.bits]
    subst hK
    simp [head, f101_1m, mask, trunc_len]
    simpa [f101_1m, List.replicate] using hih
end Go.AVM

/- One digit of a quotient: putting back, and the whole. -/
set_option linter.unusedVariables false
set_option linter.unusedSimpArgs false
set_option linter.unusedSectionVars false
namespace Go.AVM
set_option maxRecDepth 20000 in
theorem red_add {S : Store} {b : Nat} {us vs : List Nat} {off n g bo : Nat} (hS : S[b]? = some (.mu (wds us) true)) (hus : Wd us) (hvs : Wd vs) (hn : vs.length = n) (hoff : off + (n + 1) ≤ us.length) (hlen : us.length ≤ 2 * Lim) {Q : FQ}
    (hQ : ∀ (tm : List AV) (hl : tm.length = 141) (ds : List Nat) (mo : Nat), tm[0] = .msl b off (n + 1) 1 us.length none → tm[1] = .sl (wds vs) 1 false → tm[6] = .int .u64 (g : Int) → tm[11] = .int .u32 (bo : Int) → tm[13] = .int .u32 (mo : Int) → ds.length = n + 1 → Wd ds → mo ≤ 1 →
      val ds + B ^ (n + 1) * mo = val ((us.drop off).take (n + 1)) + val vs → Q (.ex 6) ⟨tm, S.set b (.mu (wds (us.take off ++ ds ++ us.drop (off + (n + 1)))) true)⟩) :
    ∀ (m i : Nat), i + m = n + 1 → ∀ (ds : List Nat) (mo : Nat), ds.length = i → Wd ds → mo ≤ 1 → val ds + B ^ i * mo = val ((us.drop off).take i) + val (vs.take i) →
    wpL RT f101_2m S.length f101_2 ⟨[.msl b off (n + 1) 1 us.length none, .sl (wds vs) 1 false, .any, .any, .any, .any, .int .u64 (g : Int), .any, .any, .any, .any, .int .u32 (bo : Int), .any, .int .u32 (mo : Int)] ++ List.replicate 102 .any ++ [.int .i64 ((n + 1 : Nat) : Int), .int .i64 (i : Int)] ++ List.replicate 23 .any,
      S.set b (.mu (wds (us.take off ++ ds ++ us.drop (off + i))) true)⟩ Q := by
  have hL : Lim = 1099511627776 := rfl
  intro m
  induction m with
  | zero =>
    intro i hi ds mo hds hwd hmo he
    have hi' : i = n + 1 := by omega
    subst hi'
    have hv : vs.take (n + 1) = vs := List.take_of_length_le (by omega)
    rw [hv] at he
    have hfin := fun tm hl h0 h1 h6 h11 h13 => hQ tm hl ds mo h0 h1 h6 h11 h13 hds hwd hmo he
    generalize us.take off ++ ds ++ us.drop (off + (n + 1)) = cs at *
    rw [wpL_step]
    generalize hK : loopQ RT f101_2m S.length f101_2 Q = K
    simp [f101_2, List.replicate]
    subst hK
    exact hfin _ rfl rfl rfl rfl rfl rfl
  | succ m ih =>
    intro i hi ds mo hds hwd hmo he
    have hlt' : (i : Int) < (n : Int) + 1 := by omega
    have hat := run_at (ws := vs) (t := false) (i := i) (by omega)
    have hvB : vs.getD i 0 < B := by
      rw [List.getD_eq_getElem?_getD]
      cases h : vs[i]? with
      | none => decide
      | some w => exact hvs.get h
    have e2 := val_take_succ vs i
    generalize vs.getD i 0 = v at *
    obtain ⟨w, hw⟩ : ∃ w, us[off + i]? = some w := ⟨us[off + i], List.getElem?_eq_getElem (by omega)⟩
    have hwB : w < B := hus.get hw
    have had := run_Add32 (x := w) (y := v) (c := mo) hwB hvB (Nat.lt_of_le_of_lt hmo (by decide))
    obtain ⟨s, hs⟩ : ∃ s, s = (w + v + mo) % B := ⟨_, rfl⟩
    obtain ⟨d, hd⟩ : ∃ d, d = (w + v + mo) / B := ⟨_, rfl⟩
    rw [← hs, ← hd] at had
    have hsB : s < B := by rw [hs]; exact Nat.mod_lt _ (by decide)
    have hd1 : d ≤ 1 := by rw [hd]; exact Nat.lt_succ_iff.1 (Nat.div_lt_of_lt_mul (by have : B = 4294967296 := rfl; omega))
    have hdm := Nat.mod_add_div (w + v + mo) B
    rw [← hs, ← hd] at hdm
    have hget0 := window_get (us := us) (ds := ds) (off := off) (i := i) (by omega) hds
    have hset0 := window_set (us := us) (ds := ds) (off := off) (i := i) (d := s) (by omega) hds
    have hwu : us[off + i]'(by omega) = w := (List.getElem?_eq_some_iff.1 hw).2
    rw [hwu] at hget0
    have hbl := lt_of_get hS
    have hlen0 : (us.take off ++ ds ++ us.drop (off + i)).length = us.length := by simp [hds]; omega
    have hih := ih (i + 1) (by omega) (ds ++ [s]) d (by simp [hds]) (Wd.app hwd (Wd.mk hsB Wd.nil)) hd1 (by
      have e6 : val ((us.drop off).take (i + 1)) = val ((us.drop off).take i) + B ^ i * w := by
        rw [val_take_succ, List.getD_eq_getElem?_getD, List.getElem?_drop, hw]; rfl
      rw [val_append, hds, e2, e6, Nat.pow_succ]
      have e9 : val [s] = s := by simp [val]
      have e3 : B ^ i * s + B ^ i * B * d = B ^ i * (w + v + mo) := by rw [← hdm, Nat.mul_assoc, ← Nat.mul_add]
      rw [e9]
      simp only [Nat.mul_add] at e3
      omega)
    have e0 : off + (i + 1) = off + i + 1 := by omega
    rw [← hset0] at hih
    generalize hcs : us.take off ++ ds ++ us.drop (off + i) = cs at *
    have hrd := rd_word (S := S.set b (.mu (wds cs) true)) (b := b) (i := off + i) (vl := us.length) (ws := cs) (ex := true) (set_get hbl) (by rw [hlen0]) (by omega)
    have hwr := wr_word (S := S.set b (.mu (wds cs) true)) (b := b) (i := off + i) (vl := us.length) (w := s) (ws := cs) (ex := true) (set_get hbl) (by rw [hlen0]) (by omega)
    have hcw : cs[off + i]'(by omega) = w := (List.getElem?_eq_some_iff.1 hget0).2
    rw [hcw] at hrd
    rw [List.set_set] at hwr
    have hwi : IntKind.i64.wrap ((i : Int) + 1) = ((i + 1 : Nat) : Int) := wrap_i64 (by omega) (by omega)
    rw [wpL_step]
    generalize hK : loopQ RT f101_2m S.length f101_2 Q = K
    simp [f101_2, List.replicate, hlt', hat, after_nr, hrd, had, hwr, hwi]
    subst hK
    simp [head, f101_2m, mask, trunc_len]
    simpa [f101_2m, List.replicate] using hih
theorem win_take {us ds : List Nat} {off n : Nat} (hoff : off + (n + 1) ≤ us.length) (hds : ds.length = n + 1) : (us.take off ++ ds ++ us.drop (off + (n + 1))).length = us.length ∧ ((us.take off ++ ds ++ us.drop (off + (n + 1))).drop off).take (n + 1) = ds ∧
    (us.take off ++ ds ++ us.drop (off + (n + 1))).take off = us.take off ∧ (us.take off ++ ds ++ us.drop (off + (n + 1))).drop (off + (n + 1)) = us.drop (off + (n + 1)) := by
  have hl : (us.take off).length = off := by rw [List.length_take]; omega
  refine ⟨by simp [hds]; omega, ?_, ?_, ?_⟩
  · rw [List.append_assoc, List.drop_append, List.drop_of_length_le (by omega), List.nil_append, hl, Nat.sub_self, List.drop_zero, List.take_append, List.take_of_length_le (by omega), hds, Nat.sub_self, List.take_zero, List.append_nil]
  · rw [List.append_assoc, List.take_append, hl, Nat.sub_self, List.take_zero, List.append_nil, List.take_of_length_le (by omega)]
  · have : (us.take off ++ ds).length = off + (n + 1) := by rw [List.length_append, hl, hds]
    rw [List.drop_append, List.drop_of_length_le (by omega), List.nil_append, this, Nat.sub_self, List.drop_zero]
set_option maxRecDepth 20000 in
/-- Putting back as long as too much was taken. -/
theorem red_back {S : Store} {b : Nat} {us vs : List Nat} {off n X P : Nat} (hP : B ^ (n + 1) = P) (hS : S[b]? = some (.mu (wds us) true)) (hus : Wd us) (hvs : Wd vs) (hn : vs.length = n) (hoff : off + (n + 1) ≤ us.length) (hlen : us.length ≤ 2 * Lim) (hV : 0 < val vs) {Q : FQ}
    (hQ : ∀ (tm : List AV) (hl : tm.length = 141) (ds : List Nat), tm[6] = .int .u64 ((X / val vs : Nat) : Int) → ds.length = n + 1 → Wd ds → val ds = X % val vs → Q (.ex 4) ⟨tm, S.set b (.mu (wds (us.take off ++ ds ++ us.drop (off + (n + 1)))) true)⟩) :
    ∀ (g : Nat) (ds : List Nat) (bo : Nat), g < B → X / val vs ≤ g → ds.length = n + 1 → Wd ds → bo ≤ 1 → val ds + g * val vs = X + P * bo →
    wpL RT f101_3m S.length f101_3 ⟨[.msl b off (n + 1) 1 us.length none, .sl (wds vs) 1 false, .any, .any, .any, .any, .int .u64 (g : Int), .any, .any, .any, .any, .int .u32 (bo : Int)] ++ List.replicate 129 .any, S.set b (.mu (wds (us.take off ++ ds ++ us.drop (off + (n + 1)))) true)⟩ Q := by
  intro g
  induction g with
  | zero =>
    intro ds bo hgB hge hds hwd hbo he
    have hb0 : bo = 0 := by
      refine Classical.byContradiction fun h => ?_
      have h1 : bo = 1 := by omega
      subst h1
      have := val_lt hwd
      rw [hds, hP] at this
      rw [Nat.zero_mul, Nat.add_zero, Nat.mul_one] at he
      omega
    subst hb0
    have hq : X / val vs = 0 := Nat.eq_zero_of_le_zero hge
    have hr : val ds = X % val vs := by
      have := Nat.mod_add_div X (val vs)
      rw [hq, Nat.mul_zero, Nat.add_zero] at this
      rw [this]
      simpa using he
    have hfin := fun tm hl h6 => hQ tm hl ds h6 hds hwd hr
    rw [hq] at hfin
    generalize us.take off ++ ds ++ us.drop (off + (n + 1)) = cs at *
    rw [wpL_step]
    generalize hK : loopQ RT f101_3m S.length f101_3 Q = K
    simp [f101_3, List.replicate]
    subst hK
    exact hfin _ rfl rfl
  | succ g ih =>
    intro ds bo hgB hge hds hwd hbo he
    have hlt := val_lt hwd
    rw [hds, hP] at hlt
    have hbl := lt_of_get hS
    by_cases hb0 : bo = 0
    · subst hb0
      have hle : (g + 1) * val vs ≤ X := by omega
      have hq : X / val vs = g + 1 := Nat.le_antisymm hge ((Nat.le_div_iff_mul_le hV).2 hle)
      have hr : val ds = X % val vs := by
        have := Nat.mod_add_div X (val vs)
        rw [hq, Nat.mul_comm] at this
        omega
      have hfin := fun tm hl h6 => hQ tm hl ds h6 hds hwd hr
      rw [hq] at hfin
      generalize us.take off ++ ds ++ us.drop (off + (n + 1)) = cs at *
      rw [wpL_step]
      generalize hK : loopQ RT f101_3m S.length f101_3 Q = K
      simp [f101_3, List.replicate]
      subst hK
      exact hfin _ rfl rfl
    · have h1 : bo = 1 := by omega
      subst h1
      obtain ⟨wl, wt, w0, w2⟩ := win_take (us := us) (ds := ds) hoff hds
      have hge2 : X / val vs ≤ g := by
        have : X < (g + 1) * val vs := by
          rw [Nat.mul_one] at he
          omega
        have := (Nat.div_lt_iff_lt_mul hV).2 this
        omega
      have hwcs : Wd (us.take off ++ ds ++ us.drop (off + (n + 1))) := Wd.app (Wd.app (hus.take off) hwd) (hus.drop _)
      have hSl : (S.set b (.mu (wds (us.take off ++ ds ++ us.drop (off + (n + 1)))) true)).length = S.length := by simp
      have key := fun (Q' : FQ) hQ' => red_add (S := S.set b (.mu (wds (us.take off ++ ds ++ us.drop (off + (n + 1)))) true)) (b := b) (us := us.take off ++ ds ++ us.drop (off + (n + 1))) (vs := vs) (off := off) (n := n) (g := g) (bo := 1) (set_get hbl) hwcs hvs hn (by rw [wl]; exact hoff) (by rw [wl]; exact hlen) (Q := Q') hQ' (n + 1) 0 (by omega) [] 0 rfl Wd.nil (by omega) (by simp [val])
      rw [hSl, wl, wt, w0] at key
      simp only [List.set_set, List.append_nil, Nat.add_zero] at key
      have hdt : us.take off ++ (us.take off ++ ds ++ us.drop (off + (n + 1))).drop off = us.take off ++ ds ++ us.drop (off + (n + 1)) := by
        have hl : (us.take off).length = off := by rw [List.length_take]; omega
        rw [List.append_assoc, List.drop_append, List.drop_of_length_le (by omega), List.nil_append, hl, Nat.sub_self, List.drop_zero]
      rw [hdt] at key
      have hih := fun ds2 mo h => ih ds2 (1 - mo) (by omega) hge2 h
      generalize hcs : us.take off ++ ds ++ us.drop (off + (n + 1)) = cs at *
      have hg1 : ((g : Int) + 1 - 1) % 18446744073709551616 = (g : Int) := by
        have : B = 4294967296 := rfl
        omega
      have hg1' : (g : Int) % 18446744073709551616 = (g : Int) := by
        have : B = 4294967296 := rfl
        omega
      rw [wpL_step]
      generalize hK : loopQ RT f101_3m S.length f101_3 Q = K
      simp [f101_3, List.replicate, wrap_u64, hg1, hg1']
      simp [head, f101_2m, mask, trunc_len]
      simp [List.replicate] at key
      refine key _ ?_
      intro tm hl ds2 mo h0 h1 h6 h11 h13 hds2 hwd2 hmo he2
      have hlt2 := val_lt hwd2
      rw [hds2, hP] at hlt2
      rw [hP] at he2
      have hih2 := hih ds2 mo hds2 hwd2 (by omega) (by
        rw [Nat.succ_mul] at he
        have hm : mo = 0 ∨ mo = 1 := by omega
        rcases hm with rfl | rfl
        · simp only [Nat.mul_zero, Nat.add_zero, Nat.sub_zero, Nat.mul_one] at he2 he ⊢; omega
        · simp only [Nat.sub_self, Nat.mul_zero, Nat.mul_one, Nat.add_zero] at he2 he ⊢; omega)
      rw [w2]
      have hm1 : ((1 : Int) - (mo : Int)) % 4294967296 = ((1 - mo : Nat) : Int) := by omega
      simp [hl, h0, h1, h6, h11, h13, wrap_u32, hm1]
      subst hK
      simp only [loopQ_nrm, head]
      rw [mask_G (n := 141) (by simp [hl])]
      simp [f101_3m, hl, h0, h1, h6, maskG_t, maskG_f, maskG_nil, trunc_len]
      simpa [f101_3m, List.replicate] using hih2
end Go.AVM

/- One digit of a quotient: the estimate, and the function that takes a multiple away. -/
set_option linter.unusedVariables false
set_option linter.unusedSimpArgs false
set_option linter.unusedSectionVars false
namespace Go.AVM
theorem est_step {xt g vt v2 x2 rest Bv z y w : Nat} (hx : g * vt + rest = xt) (hz : z = rest * Bv) (hy : y = z + x2) (hw : w = g * v2) (c : y < w) : xt * Bv + x2 < g * (vt * Bv + v2) := by
  have h1 : g * (vt * Bv + v2) = g * vt * Bv + g * v2 := by rw [Nat.mul_add, Nat.mul_assoc]
  have h2 : xt * Bv = g * vt * Bv + rest * Bv := by rw [← hx, Nat.add_mul]
  rw [h1, h2]
  omega
theorem pred_mul' {g vt : Nat} (h : 1 ≤ g) : g * vt = (g - 1) * vt + vt := by
  obtain ⟨j, rfl⟩ : ∃ j, g = j + 1 := ⟨g - 1, by omega⟩
  rw [Nat.succ_mul]; rfl
theorem or_word {r x : Nat} (hr : r < B) (hx : x < B) : binA .or (.int .u64 ((r * 4294967296 : Nat) : Int)) (.int .u64 (x : Int)) = some (.int .u64 ((r * 4294967296 + x : Nat) : Int)) := by
  have hB : B = 4294967296 := rfl
  have h : r * 4294967296 ||| x = r * 4294967296 + x := by
    have := Nat.two_pow_add_eq_or_of_lt (i := 32) (b := x) hx r
    rw [Nat.mul_comm] at this
    exact this.symm
  rw [or_nat rfl (show r * 4294967296 < 2 ^ 64 by omega) (show x < 2 ^ 64 by omega), h]

theorem or_word' {r x y z : Nat} (hr : r < B) (hx : x < B) (hz : z = r * 4294967296) (hy : y = z + x) : binA .or (.int .u64 (z : Int)) (.int .u64 (x : Int)) = some (.int .u64 (y : Int)) := by
  subst hy hz
  exact or_word hr hx
set_option maxHeartbeats 2000000 in
set_option maxRecDepth 20000 in
theorem red_est {S : Store} {b : Nat} {us vs : List Nat} {off n X xt vt v2 x2 : Nat} (hS : S[b]? = some (.mu (wds us) true)) (hvs : Wd vs) (hn : vs.length = n) (hn2 : 2 ≤ n) (hoff : off + (n + 1) ≤ us.length) (hlen : us.length ≤ 2 * Lim)
    (hvt : vs[n - 1]? = some vt) (hv2 : vs[n - 2]? = some v2) (hx2 : us[off + (n - 2)]? = some x2) (hvt0 : 0 < vt) (hvtB : vt < B) (hv2B : v2 < B) (hx2B : x2 < B)
    (hV : (vt * B + v2) * B ^ (n - 2) ≤ val vs) (hX : X < (xt * B + x2 + 1) * B ^ (n - 2)) {Q : FQ}
    (hQ : ∀ (tm : List AV) (hl : tm.length = 141) (g : Nat), tm[0] = .msl b off (n + 1) 1 us.length none → tm[1] = .sl (wds vs) 1 false → tm[6] = .int .u64 (g : Int) → X / val vs ≤ g → g < B → Q (.ex 0) ⟨tm, S⟩) :
    ∀ (N g rest : Nat), g ≤ N → g < B → g * vt + rest = xt → X / val vs ≤ g → rest < 2 * B →
    wpL RT f101_0m S.length f101_0 ⟨[.msl b off (n + 1) 1 us.length none, .sl (wds vs) 1 false, .any, .any, .any, .int .i64 (n : Int), .int .u64 (g : Int), .any, .any, .int .u64 (rest : Int)] ++ List.replicate 131 .any, S⟩ Q := by
  have hL : Lim = 1099511627776 := rfl
  have hB : B = 4294967296 := rfl
  obtain ⟨k, rfl⟩ : ∃ k, n = k + 2 := ⟨n - 2, by omega⟩
  simp only [show k + 2 - 1 = k + 1 by omega, show k + 2 - 2 = k by omega] at hvt hv2 hx2 hV hX
  intro N
  induction N with
  | zero =>
    intro g rest hgN hgB hx hge hrB
    have hg0 : g = 0 := by omega
    subst hg0
    have hfin := fun tm hl h0 h1 h6 => hQ tm hl 0 h0 h1 h6 hge (by decide)
    by_cases c : (rest : Int) ≤ 4294967295
    · have e1 : IntKind.i64.wrap ((k : Int) + 2 - 2) = (k : Int) := by rw [wrap_i64 (by omega) (by omega)]; omega
      have e1' : IntKind.i64.wrap (k : Int) = (k : Int) := wrap_i64 (by omega) (by omega)
      have hv2' : vs[k] = v2 := (List.getElem?_eq_some_iff.1 hv2).2
      have hx2' : us[off + k]'(by omega) = x2 := (List.getElem?_eq_some_iff.1 hx2).2
      have hrd := rd_word (i := off + k) hS (rfl : us.length = us.length) (by omega)
      rw [hx2'] at hrd
      have f1 : (v2 : Int) % 18446744073709551616 = v2 := by omega
      have f2 : (x2 : Int) % 18446744073709551616 = x2 := by omega
      obtain ⟨z, hz⟩ : ∃ z, z = rest * 4294967296 := ⟨_, rfl⟩
      obtain ⟨y, hy⟩ : ∃ y, y = z + x2 := ⟨_, rfl⟩
      have f3 : (rest : Int) * 4294967296 % 18446744073709551616 = (z : Int) := by omega
      have hor := or_word' (r := rest) (x := x2) (by omega) hx2B hz hy
      have f4 : ¬ ((y : Int) < 0) := by omega
      have e4 : (k : Int) < (k : Int) + 2 + 1 := by omega
      have e5 : (k : Int) < (k : Int) + 2 := by omega
      rw [wpL_step]
      generalize hK : loopQ RT f101_0m S.length f101_0 Q = K
      simp [f101_0, List.replicate, c, e1, e1', hn, hv2', wrap_u64, f1, f3, IntKind.bits, e4, e5, hrd, f2, hor, f4]
      subst hK
      exact hfin _ rfl rfl rfl rfl
    · rw [wpL_step]
      generalize hK : loopQ RT f101_0m S.length f101_0 Q = K
      simp [f101_0, List.replicate, c]
      subst hK
      exact hfin _ rfl rfl rfl rfl
  | succ N ih =>
    intro g rest hgN hgB hx hge hrB
    have hfin := fun tm hl h0 h1 h6 => hQ tm hl g h0 h1 h6 hge hgB
    by_cases c : (rest : Int) ≤ 4294967295
    · have e1 : IntKind.i64.wrap ((k : Int) + 2 - 2) = (k : Int) := by rw [wrap_i64 (by omega) (by omega)]; omega
      have e1' : IntKind.i64.wrap (k : Int) = (k : Int) := wrap_i64 (by omega) (by omega)
      have e1b : IntKind.i64.wrap ((k : Int) + 2 - 1) = (k : Int) + 1 := by rw [wrap_i64 (by omega) (by omega)]; omega
      have e1b' : IntKind.i64.wrap ((k : Int) + 1) = (k : Int) + 1 := wrap_i64 (by omega) (by omega)
      have hv2' : vs[k] = v2 := (List.getElem?_eq_some_iff.1 hv2).2
      have hvt' : vs[k + 1] = vt := (List.getElem?_eq_some_iff.1 hvt).2
      have hx2' : us[off + k]'(by omega) = x2 := (List.getElem?_eq_some_iff.1 hx2).2
      have hrd := rd_word (i := off + k) hS (rfl : us.length = us.length) (by omega)
      rw [hx2'] at hrd
      have f1 : (v2 : Int) % 18446744073709551616 = v2 := by omega
      have f1b : (vt : Int) % 18446744073709551616 = vt := by omega
      have f2 : (x2 : Int) % 18446744073709551616 = x2 := by omega
      obtain ⟨z, hz⟩ : ∃ z, z = rest * 4294967296 := ⟨_, rfl⟩
      obtain ⟨y, hy⟩ : ∃ y, y = z + x2 := ⟨_, rfl⟩
      have f3 : (rest : Int) * 4294967296 % 18446744073709551616 = (z : Int) := by omega
      have hor := or_word' (r := rest) (x := x2) (by omega) hx2B hz hy
      have hgv : g * v2 ≤ (B - 1) * (B - 1) := Nat.mul_le_mul (by omega) (by omega)
      rw [hB] at hgv
      obtain ⟨w, hw⟩ : ∃ w, w = g * v2 := ⟨_, rfl⟩
      rw [← hw] at hgv
      have f5 : (g : Int) * (v2 : Int) % 18446744073709551616 = (w : Int) := by
        have : (g : Int) * (v2 : Int) = (w : Int) := by rw [hw]; push_cast; rfl
        rw [this]; omega
      have f6 : (rest : Int) + (vt : Int) < 18446744073709551616 := by omega
      have f7 : ((rest : Int) + (vt : Int)) % 18446744073709551616 = ((rest + vt : Nat) : Int) := by omega
      have e4 : (k : Int) < (k : Int) + 2 + 1 := by omega
      have e5 : (k : Int) < (k : Int) + 2 := by omega
      have e6 : (k : Int) + 1 < (k : Int) + 2 := by omega
      have e7 : ((k : Int) + 1).toNat = k + 1 := by omega
      have e8 : (0 : Int) ≤ (k : Int) + 1 := by omega
      by_cases c2 : y < w
      · have hg1 : 1 ≤ g := by
          refine Classical.byContradiction fun h => ?_
          have : g = 0 := by omega
          rw [this, Nat.zero_mul] at hw; omega
        have hzB : z = rest * B := by rw [hB]; exact hz
        have hst := est_step (Bv := B) hx hzB hy hw c2
        have hpos : 0 < vt * B + v2 := Nat.lt_of_lt_of_le (Nat.mul_pos hvt0 (by decide)) (Nat.le_add_right _ _)
        have hlt : X / val vs < g := est_lt hV hX hpos hst
        have hih := ih (g - 1) (rest + vt) (by omega) (by omega) (by
          rw [← hx, pred_mul' (vt := vt) hg1, Nat.add_assoc, Nat.add_comm vt rest]) (by omega) (by omega)
        have f8 : ((g : Int) - 1) % 18446744073709551616 = ((g - 1 : Nat) : Int) := by omega
        have f4 : (y : Int) < (w : Int) := by omega
        generalize rest + vt = rv at *
        generalize g - 1 = g1 at *
        rw [wpL_step]
        generalize hK : loopQ RT f101_0m S.length f101_0 Q = K
        simp [f101_0, List.replicate, c, e1, e1', e1b, e1b', hn, hv2', hvt', wrap_u64, f1, f1b, f3, f5, IntKind.bits, e4, e5, e6, e7, e8, hrd, f2, hor, f4, c2, f7, f8]
        subst hK
        simp [head, f101_0m, mask, trunc_len]
        simpa [f101_0m, List.replicate] using hih
      · have f4 : ¬ ((y : Int) < (w : Int)) := by omega
        rw [wpL_step]
        generalize hK : loopQ RT f101_0m S.length f101_0 Q = K
        simp [f101_0, List.replicate, c, e1, e1', hn, hv2', wrap_u64, f1, f3, f5, IntKind.bits, e4, e5, hrd, f2, hor, f4, c2]
        subst hK
        exact hfin _ rfl rfl rfl rfl
    · rw [wpL_step]
      generalize hK : loopQ RT f101_0m S.length f101_0 Q = K
      simp [f101_0, List.replicate, c]
      subst hK
      exact hfin _ rfl rfl rfl rfl
end Go.AVM

