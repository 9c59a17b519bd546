/- What it means that a state of the abstract machine tells of a world. -/
import Derived.Test.YtlpbjbgfgfjnlaaAvRun
set_option linter.unusedVariables false
set_option linter.unusedSimpArgs false
set_option linter.unusedSectionVars false
namespace Go.AVM

/-- Cells that never change any more. -/
abbrev Mem := Nat → Nat → Option Value
/-- Where a block of the store lies: block, first cell, how many cells from there; 'some none': nowhere, it is empty. -/
abbrev JMap := Nat → Nat → Option (Option (Nat × Nat × Nat))

def _root_.Go.Value.plain (v : Value) : Prop := (∀ cs, v ≠ .agg cs) ∧ (∀ cs, v ≠ .tuple cs)

section
variable (fid : Nat → FuncId)

inductive FRep (M : Mem) : AV → Value → Prop
  | bool (b) : FRep M (.bool b) (.bool b)
  | int (k n) : FRep M (.int k n) (.int k n)
  | str (s) : FRep M (.str s) (.string s)
  | nilp : FRep M .nilp (.pointer none)
  | nilfn : FRep M .nilfn .nilFunc
  | fptr (cs : List AV) (blk off : Nat) (cv : Nat → Value) (h1 : ∀ (k : Nat) (x : AV), cs[k]? = some x → M blk (off + k) = some (cv k)) (h2 : ∀ (k : Nat) (x : AV), cs[k]? = some x → FRep M x (cv k)) :
      FRep M (.fptr cs) (.pointer (some ⟨blk, off, none⟩))
  | slN (sz : Nat) (t : Bool) (a : Option Addr) (c : Nat) (ht : t = true → c = 0) : FRep M (.sl [] sz t) (.slice a 0 c)
  | slC (es : List AV) (sz : Nat) (t : Bool) (blk off c : Nat) (cv : Nat → Nat → Value) (hc : es.length ≤ c) (ht : t = true → c = es.length)
      (hz : ∀ (i : Nat) (e : AV), es[i]? = some e → e.cells.length = sz)
      (h1 : ∀ (i : Nat) (e : AV), es[i]? = some e → ∀ (k : Nat) (x : AV), e.cells[k]? = some x → M blk (off + i * sz + k) = some (cv i k))
      (h2 : ∀ (i : Nat) (e : AV), es[i]? = some e → ∀ (k : Nat) (x : AV), e.cells[k]? = some x → FRep M x (cv i k)) :
      FRep M (.sl es sz t) (.slice (some ⟨blk, off, none⟩) es.length c)
  | agg (cs : List AV) (vs : Array Value) (hs : vs.size = cs.length) (cv : Nat → Value) (h1 : ∀ (k : Nat) (x : AV), cs[k]? = some x → vs[k]? = some (cv k) ∧ (cv k).plain) (h2 : ∀ (k : Nat) (x : AV), cs[k]? = some x → FRep M x (cv k)) :
      FRep M (.agg cs) (.agg vs)
  | tup (cs : List AV) (vs : Array Value) (hs : vs.size = cs.length) (cv : Nat → Value) (h1 : ∀ (k : Nat) (x : AV), cs[k]? = some x → vs[k]? = some (cv k)) (h2 : ∀ (k : Nat) (x : AV), cs[k]? = some x → FRep M x (cv k)) :
      FRep M (.tup cs) (.tuple vs)
  | fn (f : Nat) (cs : List AV) (vs : Array Value) (hs : vs.size = cs.length) (cv : Nat → Value) (h1 : ∀ (k : Nat) (x : AV), cs[k]? = some x → vs[k]? = some (cv k)) (h2 : ∀ (k : Nat) (x : AV), cs[k]? = some x → FRep M x (cv k)) :
      FRep M (.fn f cs) (.func (.func (fid f)) #[] vs)

inductive ARep (J : JMap) (M : Mem) : AV → Value → Prop
  | any (v) : ARep J M .any v
  | fr {v cv} (h : FRep fid M v cv) : ARep J M v cv
  | mptr (b off vl blk base ps : Nat) (h : J b vl = some (some (blk, base, ps))) : ARep J M (.mptr b off vl) (.pointer (some ⟨blk, base + off, none⟩))
  | msl (b off n sz vl : Nat) (cap : Option Nat) (blk base ps c : Nat) (a : Option Addr) (h : J b vl = some (some (blk, base, ps)))
      (hn : n ≤ c) (hc : (cap = none ∧ c * sz + off = ps) ∨ (cap = some c ∧ off + c * sz ≤ ps)) (ha : c = 0 ∨ a = some ⟨blk, base + off, none⟩) :
      ARep J M (.msl b off n sz vl cap) (.slice a n c)
  | mslN (b sz : Nat) (cap : Option Nat) (a : Option Addr) (h : J b 0 = some none) (hc : cap = none ∨ cap = some 0) : ARep J M (.msl b 0 0 sz 0 cap) (.slice a 0 0)
  | tl (es : List AV) (sz blk : Nat) (cv : Nat → Nat → Value) (hz : ∀ (i : Nat) (e : AV), es[i]? = some e → e.cells.length = sz)
      (h1 : ∀ (i : Nat) (e : AV), es[i]? = some e → ∀ (k : Nat) (x : AV), e.cells[k]? = some x → M blk (i * sz + k) = some (cv i k))
      (h2 : ∀ (i : Nat) (e : AV), es[i]? = some e → ∀ (k : Nat) (x : AV), e.cells[k]? = some x → ARep J M x (cv i k)) :
      ARep J M (.tl es sz) (.slice (some ⟨blk, 0, none⟩) es.length es.length)
  | agg (cs : List AV) (vs : Array Value) (hs : vs.size = cs.length) (cv : Nat → Value) (h1 : ∀ (k : Nat) (x : AV), cs[k]? = some x → vs[k]? = some (cv k) ∧ (cv k).plain) (h2 : ∀ (k : Nat) (x : AV), cs[k]? = some x → ARep J M x (cv k)) :
      ARep J M (.agg cs) (.agg vs)
  | tup (cs : List AV) (vs : Array Value) (hs : vs.size = cs.length) (cv : Nat → Value) (h1 : ∀ (k : Nat) (x : AV), cs[k]? = some x → vs[k]? = some (cv k)) (h2 : ∀ (k : Nat) (x : AV), cs[k]? = some x → ARep J M x (cv k)) :
      ARep J M (.tup cs) (.tuple vs)
  | fn (f : Nat) (cs : List AV) (vs : Array Value) (hs : vs.size = cs.length) (cv : Nat → Value) (h1 : ∀ (k : Nat) (x : AV), cs[k]? = some x → vs[k]? = some (cv k)) (h2 : ∀ (k : Nat) (x : AV), cs[k]? = some x → ARep J M x (cv k)) :
      ARep J M (.fn f cs) (.func (.func (fid f)) #[] vs)
end

def Mem.le (M M' : Mem) : Prop := ∀ b o v, M b o = some v → M' b o = some v
def JMap.le (J J' : JMap) : Prop := ∀ b vl l, J b vl = some l → J' b vl = some l

section
variable {fid : Nat → FuncId}

theorem FRep.mono {M M' : Mem} (h : M.le M') {v : AV} {cv : Value} (r : FRep fid M v cv) : FRep fid M' v cv := by
  induction r with
  | bool b => exact .bool b
  | int k n => exact .int k n
  | str s => exact .str s
  | nilp => exact .nilp
  | nilfn => exact .nilfn
  | fptr cs blk off cv h1 h2 ih => exact .fptr cs blk off cv (fun k x hx => h _ _ _ (h1 k x hx)) ih
  | slN sz t a c ht => exact .slN sz t a c ht
  | slC es sz t blk off c cv hc ht hz h1 h2 ih => exact .slC es sz t blk off c cv hc ht hz (fun i e he k x hx => h _ _ _ (h1 i e he k x hx)) ih
  | agg cs vs hs cv h1 h2 ih => exact .agg cs vs hs cv h1 ih
  | tup cs vs hs cv h1 h2 ih => exact .tup cs vs hs cv h1 ih
  | fn f cs vs hs cv h1 h2 ih => exact .fn f cs vs hs cv h1 ih

theorem ARep.mono {J J' : JMap} {M M' : Mem} (hj : J.le J') (h : M.le M') {v : AV} {cv : Value} (r : ARep fid J M v cv) : ARep fid J' M' v cv := by
  induction r with
  | any v => exact .any v
  | fr hf => exact .fr (hf.mono h)
  | mptr b off vl blk base ps e => exact .mptr b off vl blk base ps (hj _ _ _ e)
  | msl b off n sz vl cap blk base ps c a e hn hc ha => exact .msl b off n sz vl cap blk base ps c a (hj _ _ _ e) hn hc ha
  | mslN b sz cap a e hc => exact .mslN b sz cap a (hj _ _ _ e) hc
  | tl es sz blk cv hz h1 h2 ih => exact .tl es sz blk cv hz (fun i e he k x hx => h _ _ _ (h1 i e he k x hx)) ih
  | agg cs vs hs cv h1 h2 ih => exact .agg cs vs hs cv h1 ih
  | tup cs vs hs cv h1 h2 ih => exact .tup cs vs hs cv h1 ih
  | fn f cs vs hs cv h1 h2 ih => exact .fn f cs vs hs cv h1 ih

/-! ### Taking values apart -/
section inv
variable {J : JMap} {M : Mem}
theorem ARep.bool_inv {b : Bool} {v : Value} (h : ARep fid J M (.bool b) v) : v = .bool b := by
  cases h with
  | fr h => cases h; rfl
theorem ARep.int_inv {k : IntKind} {n : Int} {v : Value} (h : ARep fid J M (.int k n) v) : v = .int k n := by
  cases h with
  | fr h => cases h; rfl
theorem ARep.str_inv {s : ByteArray} {v : Value} (h : ARep fid J M (.str s) v) : v = .string s := by
  cases h with
  | fr h => cases h; rfl
theorem ARep.agg_inv {cs : List AV} {v : Value} (h : ARep fid J M (.agg cs) v) :
    ∃ vs : Array Value, v = .agg vs ∧ vs.size = cs.length ∧ ∀ (k : Nat) (x : AV), cs[k]? = some x → ∃ cv : Value, vs[k]? = some cv ∧ cv.plain ∧ ARep fid J M x cv := by
  cases h with
  | fr h =>
    cases h with
    | agg _ vs hs cv h1 h2 => exact ⟨vs, rfl, hs, fun k x hx => ⟨cv k, (h1 k x hx).1, (h1 k x hx).2, .fr (h2 k x hx)⟩⟩
  | agg _ vs hs cv h1 h2 => exact ⟨vs, rfl, hs, fun k x hx => ⟨cv k, (h1 k x hx).1, (h1 k x hx).2, h2 k x hx⟩⟩
theorem ARep.tup_inv {cs : List AV} {v : Value} (h : ARep fid J M (.tup cs) v) :
    ∃ vs : Array Value, v = .tuple vs ∧ vs.size = cs.length ∧ ∀ (k : Nat) (x : AV), cs[k]? = some x → ∃ cv : Value, vs[k]? = some cv ∧ ARep fid J M x cv := by
  cases h with
  | fr h =>
    cases h with
    | tup _ vs hs cv h1 h2 => exact ⟨vs, rfl, hs, fun k x hx => ⟨cv k, h1 k x hx, .fr (h2 k x hx)⟩⟩
  | tup _ vs hs cv h1 h2 => exact ⟨vs, rfl, hs, fun k x hx => ⟨cv k, h1 k x hx, h2 k x hx⟩⟩
theorem ARep.fn_inv {f : Nat} {cs : List AV} {v : Value} (h : ARep fid J M (.fn f cs) v) :
    ∃ vs : Array Value, v = .func (.func (fid f)) #[] vs ∧ vs.size = cs.length ∧ ∀ (k : Nat) (x : AV), cs[k]? = some x → ∃ cv : Value, vs[k]? = some cv ∧ ARep fid J M x cv := by
  cases h with
  | fr h =>
    cases h with
    | fn _ _ vs hs cv h1 h2 => exact ⟨vs, rfl, hs, fun k x hx => ⟨cv k, h1 k x hx, .fr (h2 k x hx)⟩⟩
  | fn _ _ vs hs cv h1 h2 => exact ⟨vs, rfl, hs, fun k x hx => ⟨cv k, h1 k x hx, h2 k x hx⟩⟩
theorem ARep.mptr_inv {b off vl : Nat} {v : Value} (h : ARep fid J M (.mptr b off vl) v) :
    ∃ blk base ps, J b vl = some (some (blk, base, ps)) ∧ v = .pointer (some ⟨blk, base + off, none⟩) := by
  cases h with
  | fr h => cases h
  | mptr _ _ _ blk base ps e => exact ⟨blk, base, ps, e, rfl⟩
theorem ARep.fptr_inv {cs : List AV} {v : Value} (h : ARep fid J M (.fptr cs) v) :
    ∃ blk off, v = .pointer (some ⟨blk, off, none⟩) ∧ ∀ (k : Nat) (x : AV), cs[k]? = some x → ∃ cv : Value, M blk (off + k) = some cv ∧ FRep fid M x cv := by
  cases h with
  | fr h =>
    cases h with
    | fptr _ blk off cv h1 h2 => exact ⟨blk, off, rfl, fun k x hx => ⟨cv k, h1 k x hx, h2 k x hx⟩⟩
theorem FRep.sl_inv {es : List AV} {sz : Nat} {t : Bool} {v : Value} (h : FRep fid M (.sl es sz t) v) :
    ∃ a c, v = .slice a es.length c ∧ es.length ≤ c ∧ (t = true → c = es.length) ∧ (es = [] ∨ ∃ blk off, a = some ⟨blk, off, none⟩ ∧ ∀ (i : Nat) (e : AV), es[i]? = some e → e.cells.length = sz ∧
      ∀ (k : Nat) (x : AV), e.cells[k]? = some x → ∃ cv : Value, M blk (off + i * sz + k) = some cv ∧ FRep fid M x cv) := by
  cases h with
  | slN _ _ a c ht => exact ⟨a, c, rfl, Nat.zero_le _, ht, .inl rfl⟩
  | slC _ _ _ blk off c cv hc ht hz h1 h2 => exact ⟨_, c, rfl, hc, ht, .inr ⟨blk, off, rfl, fun i e he => ⟨hz i e he, fun k x hx => ⟨cv i k, h1 i e he k x hx, h2 i e he k x hx⟩⟩⟩⟩
theorem ARep.sl_inv {es : List AV} {sz : Nat} {t : Bool} {v : Value} (h : ARep fid J M (.sl es sz t) v) :
    ∃ a c, v = .slice a es.length c ∧ es.length ≤ c ∧ (t = true → c = es.length) ∧ (es = [] ∨ ∃ blk off, a = some ⟨blk, off, none⟩ ∧ ∀ (i : Nat) (e : AV), es[i]? = some e → e.cells.length = sz ∧
      ∀ (k : Nat) (x : AV), e.cells[k]? = some x → ∃ cv : Value, M blk (off + i * sz + k) = some cv ∧ FRep fid M x cv) := by
  cases h with
  | fr h => exact h.sl_inv
theorem FRep.sl_mk {es : List AV} {sz : Nat} {t : Bool} {a : Option Addr} {c : Nat} (hc : es.length ≤ c) (ht : t = true → c = es.length)
    (h : es = [] ∨ ∃ blk off, a = some ⟨blk, off, none⟩ ∧ ∀ (i : Nat) (e : AV), es[i]? = some e → e.cells.length = sz ∧ ∀ (k : Nat) (x : AV), e.cells[k]? = some x → ∃ cv : Value, M blk (off + i * sz + k) = some cv ∧ FRep fid M x cv) :
    FRep fid M (.sl es sz t) (.slice a es.length c) := by
  rcases h with rfl | ⟨blk, off, rfl, h⟩
  · exact .slN sz t a c ht
  · have hx : ∀ i k, ∃ cv, ∀ e, es[i]? = some e → ∀ x, e.cells[k]? = some x → M blk (off + i * sz + k) = some cv ∧ FRep fid M x cv := by
      intro i k
      by_cases hh : ∃ e x, es[i]? = some e ∧ e.cells[k]? = some x
      · obtain ⟨e, x, he, hx⟩ := hh
        obtain ⟨cv, h1, h2⟩ := (h i e he).2 k x hx
        refine ⟨cv, fun e' he' x' hx' => ?_⟩
        rw [he] at he'; cases he'
        rw [hx] at hx'; cases hx'
        exact ⟨h1, h2⟩
      · exact ⟨default, fun e he x hx => absurd ⟨e, x, he, hx⟩ hh⟩
    refine .slC es sz t blk off c (fun i k => Classical.choose (hx i k)) hc ht (fun i e he => (h i e he).1) (fun i e he k x hxx => ?_) (fun i e he k x hxx => ?_)
    · exact (Classical.choose_spec (hx i k) e he x hxx).1
    · exact (Classical.choose_spec (hx i k) e he x hxx).2
theorem choose_cells {cs : List AV} {Q : Nat → AV → Value → Prop} (h : ∀ (k : Nat) (x : AV), cs[k]? = some x → ∃ cv, Q k x cv) : ∃ cv : Nat → Value, ∀ (k : Nat) (x : AV), cs[k]? = some x → Q k x (cv k) := by
  have hx : ∀ k, ∃ cv, ∀ x, cs[k]? = some x → Q k x cv := by
    intro k
    cases e : cs[k]? with
    | none => exact ⟨default, fun x hx => by cases hx⟩
    | some x =>
      obtain ⟨cv, hq⟩ := h k x e
      exact ⟨cv, fun x' hx' => by cases hx'; exact hq⟩
  exact ⟨fun k => Classical.choose (hx k), fun k x hk => Classical.choose_spec (hx k) x hk⟩
theorem FRep.fptr_mk {cs : List AV} {blk off : Nat} (h : ∀ (k : Nat) (x : AV), cs[k]? = some x → ∃ cv : Value, M blk (off + k) = some cv ∧ FRep fid M x cv) : FRep fid M (.fptr cs) (.pointer (some ⟨blk, off, none⟩)) := by
  obtain ⟨cv, hq⟩ := choose_cells h
  exact .fptr cs blk off cv (fun k x hx => (hq k x hx).1) (fun k x hx => (hq k x hx).2)
theorem FRep.agg_mk {cs : List AV} {vs : Array Value} (hs : vs.size = cs.length) (h : ∀ (k : Nat) (x : AV), cs[k]? = some x → ∃ cv : Value, vs[k]? = some cv ∧ cv.plain ∧ FRep fid M x cv) : FRep fid M (.agg cs) (.agg vs) := by
  obtain ⟨cv, hq⟩ := choose_cells h
  exact .agg cs vs hs cv (fun k x hx => ⟨(hq k x hx).1, (hq k x hx).2.1⟩) (fun k x hx => (hq k x hx).2.2)
theorem FRep.tup_mk {cs : List AV} {vs : Array Value} (hs : vs.size = cs.length) (h : ∀ (k : Nat) (x : AV), cs[k]? = some x → ∃ cv : Value, vs[k]? = some cv ∧ FRep fid M x cv) : FRep fid M (.tup cs) (.tuple vs) := by
  obtain ⟨cv, hq⟩ := choose_cells h
  exact .tup cs vs hs cv (fun k x hx => (hq k x hx).1) (fun k x hx => (hq k x hx).2)
theorem FRep.fn_mk {f : Nat} {cs : List AV} {vs : Array Value} (hs : vs.size = cs.length) (h : ∀ (k : Nat) (x : AV), cs[k]? = some x → ∃ cv : Value, vs[k]? = some cv ∧ FRep fid M x cv) : FRep fid M (.fn f cs) (.func (.func (fid f)) #[] vs) := by
  obtain ⟨cv, hq⟩ := choose_cells h
  exact .fn f cs vs hs cv (fun k x hx => (hq k x hx).1) (fun k x hx => (hq k x hx).2)
theorem ARep.agg_mk {cs : List AV} {vs : Array Value} (hs : vs.size = cs.length) (h : ∀ (k : Nat) (x : AV), cs[k]? = some x → ∃ cv : Value, vs[k]? = some cv ∧ cv.plain ∧ ARep fid J M x cv) : ARep fid J M (.agg cs) (.agg vs) := by
  obtain ⟨cv, hq⟩ := choose_cells h
  exact .agg cs vs hs cv (fun k x hx => ⟨(hq k x hx).1, (hq k x hx).2.1⟩) (fun k x hx => (hq k x hx).2.2)
theorem ARep.tup_mk {cs : List AV} {vs : Array Value} (hs : vs.size = cs.length) (h : ∀ (k : Nat) (x : AV), cs[k]? = some x → ∃ cv : Value, vs[k]? = some cv ∧ ARep fid J M x cv) : ARep fid J M (.tup cs) (.tuple vs) := by
  obtain ⟨cv, hq⟩ := choose_cells h
  exact .tup cs vs hs cv (fun k x hx => (hq k x hx).1) (fun k x hx => (hq k x hx).2)
theorem ARep.fn_mk {f : Nat} {cs : List AV} {vs : Array Value} (hs : vs.size = cs.length) (h : ∀ (k : Nat) (x : AV), cs[k]? = some x → ∃ cv : Value, vs[k]? = some cv ∧ ARep fid J M x cv) : ARep fid J M (.fn f cs) (.func (.func (fid f)) #[] vs) := by
  obtain ⟨cv, hq⟩ := choose_cells h
  exact .fn f cs vs hs cv (fun k x hx => (hq k x hx).1) (fun k x hx => (hq k x hx).2)
theorem ARep.msl_inv {b off n sz vl : Nat} {cap : Option Nat} {v : Value} (h : ARep fid J M (.msl b off n sz vl cap) v) :
    (∃ blk base ps c a, J b vl = some (some (blk, base, ps)) ∧ n ≤ c ∧ ((cap = none ∧ c * sz + off = ps) ∨ (cap = some c ∧ off + c * sz ≤ ps)) ∧ (c = 0 ∨ a = some ⟨blk, base + off, none⟩) ∧ v = .slice a n c) ∨
    (off = 0 ∧ n = 0 ∧ vl = 0 ∧ (cap = none ∨ cap = some 0) ∧ J b 0 = some none ∧ ∃ a, v = .slice a 0 0) := by
  cases h with
  | fr h => cases h
  | msl _ _ _ _ _ _ blk base ps c a e hn hc ha => exact .inl ⟨blk, base, ps, c, a, e, hn, hc, ha, rfl⟩
  | mslN _ _ _ a e hc => exact .inr ⟨rfl, rfl, rfl, hc, e, a, rfl⟩
theorem ARep.tl_inv {es : List AV} {sz : Nat} {v : Value} (h : ARep fid J M (.tl es sz) v) :
    ∃ blk, v = .slice (some ⟨blk, 0, none⟩) es.length es.length ∧ ∀ (i : Nat) (e : AV), es[i]? = some e → e.cells.length = sz ∧ ∀ (k : Nat) (x : AV), e.cells[k]? = some x → ∃ cv : Value, M blk (i * sz + k) = some cv ∧ ARep fid J M x cv := by
  cases h with
  | fr h => cases h
  | tl _ _ blk cv hz h1 h2 => exact ⟨blk, rfl, fun i e he => ⟨hz i e he, fun k x hx => ⟨cv i k, h1 i e he k x hx, h2 i e he k x hx⟩⟩⟩
theorem ARep.nilp_inv {v : Value} (h : ARep fid J M .nilp v) : v = .pointer none := by
  cases h with
  | fr h => cases h; rfl
/-- Not of several cells: no aggregate. -/
theorem ARep.cells_of_plain {x : AV} {v : Value} (h : ARep fid J M x v) (hp : v.plain) : x.cells = [x] := by
  cases x <;> try rfl
  obtain ⟨vs, rfl, _⟩ := h.agg_inv
  exact absurd rfl (hp.1 vs)
theorem FRep.cells_of_plain {x : AV} {v : Value} (h : FRep fid M x v) (hp : v.plain) : x.cells = [x] := (ARep.fr (J := fun _ _ => none) h).cells_of_plain hp
end inv

/-! ### The store and the world -/
def MutOk (fid : Nat → FuncId) (J : JMap) (M : Mem) (w : World) (b : Nat) (cs : List AV) (ex : Bool) : Prop :=
  (cs = [] ∧ ex = false ∧ J b 0 = some none) ∨
  ∃ blk base ps arr el, J b cs.length = some (some (blk, base, ps)) ∧ w.heap[blk]? = some (.cells arr el (0, 0)) ∧ arr.size = base + ps ∧ cs.length ≤ ps ∧ (ex = true → ps = cs.length) ∧
    (∀ (k : Nat) (x : AV), cs[k]? = some x → ∃ v, arr[base + k]? = some v ∧ v.plain ∧ ARep fid J M x v) ∧ (∀ o, M blk o = none)
def FzOk (fid : Nat → FuncId) (J : JMap) (M : Mem) (b : Nat) (cs : List AV) : Prop :=
  (cs = [] ∧ J b 0 = some none) ∨
  ∃ blk base ps, J b cs.length = some (some (blk, base, ps)) ∧ ∀ (k : Nat) (x : AV), cs[k]? = some x → ∃ v, M blk (base + k) = some v ∧ FRep fid M x v
/-- The blocks of the world that may be written. -/
def Wr (S : Store) (J : JMap) (blk : Nat) : Prop := ∃ b cs ex base ps, S[b]? = some (.mu cs ex) ∧ J b cs.length = some (some (blk, base, ps))

structure Inv (fid : Nat → FuncId) (S : Store) (J : JMap) (M : Mem) (w : World) : Prop where
  mem : ∀ b o v, M b o = some v → w.cell? ⟨b, o, none⟩ = some v ∧ v.plain
  blk : ∀ b cs ex, S[b]? = some (.mu cs ex) → (∃ vl, J b vl ≠ none) → MutOk fid J M w b cs ex
  fzb : ∀ b cs, S[b]? = some (.fz cs) → (∃ vl, J b vl ≠ none) → FzOk fid J M b cs
  jlt : ∀ b vl, J b vl ≠ none → b < S.length
  jmx : ∀ b vl cs ex, S[b]? = some (.mu cs ex) → J b vl ≠ none → vl ≤ cs.length
  jps : ∀ b vl blk base ps, J b vl = some (some (blk, base, ps)) → vl ≤ ps
  inj : ∀ b b' cs ex cs' ex' blk base ps base' ps', S[b]? = some (.mu cs ex) → J b cs.length = some (some (blk, base, ps)) → S[b']? = some (.mu cs' ex') → J b' cs'.length = some (some (blk, base', ps')) → b = b'

structure Step (S : Store) (J : JMap) (M : Mem) (w : World) (S' : Store) (J' : JMap) (M' : Mem) (w' : World) : Prop where
  jle : J.le J'
  mle : M.le M'
  mnew : ∀ b o v, M' b o = some v → M b o = some v ∨ w.heap.size ≤ b ∨ Wr S J b
  frame : ∀ i, i < w.heap.size → ¬ Wr S J i → w'.heap[i]? = w.heap[i]?
  wnew : ∀ i, Wr S' J' i → Wr S J i ∨ w.heap.size ≤ i
  size : w.heap.size ≤ w'.heap.size
  os : w'.os = w.os
  tape : w'.tape = w.tape
  output : w'.output = w.output
  slen : S.length ≤ S'.length
  keep : ∀ b, b < S.length → (∀ vl, J b vl = none) → S'[b]? = S[b]? ∧ ∀ vl, J' b vl = none

theorem Step.refl (S : Store) (J : JMap) (M : Mem) (w : World) : Step S J M w S J M w :=
  ⟨fun _ _ _ h => h, fun _ _ _ h => h, fun _ _ _ h => .inl h, fun _ _ _ => rfl, fun _ h => .inl h, Nat.le_refl _, rfl, rfl, rfl, Nat.le_refl _, fun _ _ h => ⟨rfl, h⟩⟩
theorem Step.trans {S S1 S2 : Store} {J J1 J2 : JMap} {M M1 M2 : Mem} {w w1 w2 : World} (h : Step S J M w S1 J1 M1 w1) (k : Step S1 J1 M1 w1 S2 J2 M2 w2) : Step S J M w S2 J2 M2 w2 := by
  refine ⟨fun b vl l e => k.jle _ _ _ (h.jle _ _ _ e), fun b o v e => k.mle _ _ _ (h.mle _ _ _ e), fun b o v e => ?_, fun i hi hw => ?_, fun i hi => ?_, Nat.le_trans h.size k.size, k.os.trans h.os, k.tape.trans h.tape, k.output.trans h.output, Nat.le_trans h.slen k.slen, fun b hb hj => ?_⟩
  · rcases k.mnew b o v e with e | e | e
    · exact h.mnew b o v e
    · exact .inr (.inl (Nat.le_trans h.size e))
    · rcases h.wnew b e with e | e
      · exact .inr (.inr e)
      · exact .inr (.inl e)
  · rw [k.frame i (Nat.lt_of_lt_of_le hi h.size) fun hw1 => ?_, h.frame i hi hw]
    rcases h.wnew i hw1 with e | e
    · exact hw e
    · omega
  · rcases k.wnew i hi with e | e
    · exact h.wnew i e
    · exact .inr (Nat.le_trans h.size e)
  · obtain ⟨e1, e2⟩ := h.keep b hb hj
    obtain ⟨e3, e4⟩ := k.keep b (Nat.lt_of_lt_of_le hb h.slen) e2
    exact ⟨e3.trans e1, e4⟩

theorem Step.rep {S S' : Store} {J J' : JMap} {M M' : Mem} {w w' : World} (h : Step S J M w S' J' M' w') {v : AV} {cv : Value} (r : ARep fid J M v cv) : ARep fid J' M' v cv := r.mono h.jle h.mle

/-! ### Cells -/
theorem cell_of_arr {w : World} {blk : Nat} {arr : Array Value} {el : TypeId} {fr : Nat × Nat} {o : Nat} {v : Value} (h : w.heap[blk]? = some (.cells arr el fr)) (hv : arr[o]? = some v) : w.cell? ⟨blk, o, none⟩ = some v := by
  simp [World.cell?, h, hv]
theorem Inv.wr_none {S : Store} {J : JMap} {M : Mem} {w : World} (I : Inv fid S J M w) {blk : Nat} (h : Wr S J blk) (o : Nat) : M blk o = none := by
  obtain ⟨b, cs, ex, base, ps, hb, hj⟩ := h
  rcases I.blk b cs ex hb ⟨_, by rw [hj]; simp⟩ with ⟨rfl, _, h0⟩ | ⟨blk', base', ps', arr, el, hj', _, _, _, _, _, hn⟩
  · simp only [List.length_nil] at hj; rw [h0] at hj; cases hj
  · rw [hj] at hj'; cases hj'; exact hn o
theorem Inv.wr_lt {S : Store} {J : JMap} {M : Mem} {w : World} (I : Inv fid S J M w) {blk : Nat} (h : Wr S J blk) : blk < w.heap.size := by
  obtain ⟨b, cs, ex, base, ps, hb, hj⟩ := h
  rcases I.blk b cs ex hb ⟨_, by rw [hj]; simp⟩ with ⟨rfl, _, h0⟩ | ⟨blk', base', ps', arr, el, hj', hh, _⟩
  · simp only [List.length_nil] at hj; rw [h0] at hj; cases hj
  · rw [hj] at hj'; cases hj'; exact (Array.getElem?_eq_some_iff.1 hh).1

/-- What a reading of the store tells of the world. -/
theorem Inv.rd {S : Store} {J : JMap} {M : Mem} {w : World} (I : Inv fid S J M w) {b off vl n : Nat} {cs : List AV} (h : rd S b off vl n = some cs) {blk base ps : Nat} (hj : J b vl = some (some (blk, base, ps))) :
    cs.length = n ∧ ∀ (k : Nat) (x : AV), cs[k]? = some x → ∃ v, w.cell? ⟨blk, base + off + k, none⟩ = some v ∧ v.plain ∧ ARep fid J M x v := by
  unfold Go.AVM.rd at h
  have hne : ∃ vl, J b vl ≠ none := ⟨vl, by rw [hj]; simp⟩
  cases hb : S[b]? with
  | none => rw [hb] at h; cases h
  | some B =>
    rw [hb] at h
    cases B with
    | dead => cases h
    | mu c ex =>
      obtain ⟨⟨hl, hle⟩, e⟩ := chk_some.1 h
      cases e
      refine ⟨by simp; omega, fun k x hx => ?_⟩
      rcases I.blk b c ex hb hne with ⟨rfl, _, h0⟩ | ⟨blk', base', ps', arr, el, hj', hh, hsz, hps, _, hc, _⟩
      · simp at hl; rw [← hl, h0] at hj; cases hj
      · rw [hl, hj] at hj'; cases hj'
        have hk : k < n := by
          have := (List.getElem?_eq_some_iff.1 hx).1
          simp at this; omega
        rw [List.getElem?_take_of_lt hk, List.getElem?_drop] at hx
        obtain ⟨v, hv, hp, hr⟩ := hc (off + k) x hx
        exact ⟨v, by rw [Nat.add_assoc]; exact cell_of_arr hh hv, hp, hr⟩
    | fz c =>
      obtain ⟨⟨hl, hle⟩, e⟩ := chk_some.1 h
      cases e
      refine ⟨by simp; omega, fun k x hx => ?_⟩
      rcases I.fzb b c hb hne with ⟨rfl, h0⟩ | ⟨blk', base', ps', hj', hc⟩
      · simp at hl; rw [← hl, h0] at hj; cases hj
      · rw [hl, hj] at hj'; cases hj'
        have hk : k < n := by
          have := (List.getElem?_eq_some_iff.1 hx).1
          simp at this; omega
        rw [List.getElem?_take_of_lt hk, List.getElem?_drop] at hx
        obtain ⟨v, hv, hr⟩ := hc (off + k) x hx
        obtain ⟨hw, hp⟩ := I.mem _ _ _ hv
        exact ⟨v, by rw [Nat.add_assoc]; exact hw, hp, .fr hr⟩
/-- Of what lies nowhere nothing is read. -/
theorem rd_virtual {S : Store} {J : JMap} {M : Mem} {w : World} (I : Inv fid S J M w) {b off n : Nat} {cs : List AV} (h : rd S b off 0 n = some cs) : cs = [] := by
  unfold rd at h
  split at h
  · obtain ⟨⟨hl, hle⟩, e⟩ := chk_some.1 h
    cases e
    rw [List.eq_nil_of_length_eq_zero hl]; simp
  · obtain ⟨⟨hl, hle⟩, e⟩ := chk_some.1 h
    cases e
    rw [List.eq_nil_of_length_eq_zero hl]; simp
  · cases h
end
end Go.AVM
