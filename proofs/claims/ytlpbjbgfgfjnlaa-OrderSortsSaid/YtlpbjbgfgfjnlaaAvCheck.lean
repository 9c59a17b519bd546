/- When a small code tells a code of the model: a test that reckons. -/
import Derived.Test.YtlpbjbgfgfjnlaaAvState
import Derived.Laws.AppendOwn
import Derived.Laws.MakeOwn
import Derived.Laws.StructEq
import Derived.Orders
set_option linter.unusedVariables false
namespace Go.AVM

/-- A constant. -/
def okV : Value → AV → Bool
  | .bool b, .bool c => b == c
  | .int k n, .int q m => decide (k = q) && n == m
  | .string s, .str t => s.data.toList == t.data.toList
  | .pointer none, .nilp => true
  | .nilFunc, .nilfn => true
  | .slice none 0 0, .sl [] _ _ => true
  | .tuple cs, .tup [] => cs.isEmpty
  | _, _ => false
def okVs : List Value → List AV → Bool
  | [], [] => true
  | v :: vs, x :: xs => okV v x && v.oneCell' && okVs vs xs
  | _, _ => false
/-- A constant of several cells. -/
def okC : Value → AV → Bool
  | .agg cs, .agg xs => okVs cs.toList xs
  | v, x => okV v x

section
variable (P : Program) (mid : FuncId → Option Nat)
def okOpd : Operand → Opd → Bool
  | .tmp t, .t i => t == i
  | .const v, .c x => okC v x
  | .func f, .c (.fn m []) => mid f == some m
  | _, _ => false
def okOpds : List Operand → List Opd → Bool
  | [], [] => true
  | x :: xs, p :: ps => okOpd mid x p && okOpds xs ps
  | _, _ => false

def szIs (t : TypeId) (n : Nat) : Bool := match P.info? t with | some i => i.size == n | none => false
def byIs (t : TypeId) (n : Nat) : Bool := match P.info? t with | some i => i.bytes == n | none => false
def aggIs (t : TypeId) (b : Bool) : Bool := match P.underlying t with | some (.struct _) | some (.array _ _) => b | some _ => !b | none => false
/-- The zero value's cells. -/
def zeroIs (t : TypeId) (z : List AV) : Bool := match P.info? t with
  | some i => (match i.zero with | some v => okVs v.cells.toList z && v.cells.size == i.size | none => false)
  | none => false
/-- Is compared cell by cell. -/
def eqTy (q : Option IntKind) : Nat → TypeId → Bool
  | 0, _ => false
  | d + 1, t => match P.underlying t with
    | some .bool => q.isNone && szIs P t 1
    | some (.int k) => q == some k && szIs P t 1
    | some (.array n e) => eqTy q d e && (match P.info? e with | some i => (match P.info? t with | some j => j.size == n * i.size | none => false) | none => false)
    | _ => false

def placesAre (fs : List Field) : List (Nat × Nat) → List Nat → Bool
  | [], [] => true
  | (off, n) :: ps, i :: is => (match fs[i]? with | some f => f.offset == off && szIs P f.type n | none => false) && placesAre fs ps is
  | _, _ => false
def rowsAre (sz : Nat) : List (Nat × Nat) → List Nat → Bool
  | [], [] => true
  | (off, n) :: ps, i :: is => off == i * sz && n == sz && rowsAre sz ps is
  | _, _ => false

def optArgs (xs : List (Option Operand)) : List Operand := xs.filterMap id

/-- The text of slices.Clone. -/
def isClone (sz by_ : Nat) (fn : Func) : Bool :=
  (match fn.results.toList with | [.tmp 2] => true | _ => false) && fn.ntmps == 8 && fn.name != "runtime.NumGoroutine" &&
  match fn.body with
  | some (.seq (.region _ r0 false) (.seq (.seq (.region _ r1 false) (.cond (.tmp 4) (.seq (.region _ r2 false) .ret) .skip)) (.seq (.region _ r3 false) .ret))) =>
    (match r0.toList with
      | [⟨some 2, .assign (.const (.slice none 0 0)), _, _, _, none⟩] => true
      | _ => false) &&
    (match r1.toList with
      | [⟨some 3, .move (.tmp 0), _, _, _, none⟩, ⟨some 4, .binOp .eql t (.tmp 3) (.const (.slice none 0 0)) _, _, _, _, none⟩] => (match P.underlying t with | some (.slice _) => true | _ => false)
      | _ => false) &&
    (match r2.toList with
      | [⟨some 2, .assign (.const (.slice none 0 0)), _, _, _, none⟩] => true
      | _ => false) &&
    (match r3.toList with
      | [⟨some 5, .buildSlice t 0 parts, _, _, _, none⟩, ⟨some 6, .move (.tmp 0), _, _, _, none⟩, ⟨some 7, .call { callee := .builtin .append, args, argTypes }, _, _, _, none⟩, ⟨some 2, .assign (.tmp 7), _, _, _, none⟩] =>
        parts.isEmpty && (match P.underlying t with | some (.slice e) => szIs P e sz && byIs P e by_ && (match P.info? e with | some i => (match i.zero with | some z => z.cells.size == sz | none => false) | none => false) | _ => false) &&
        (match args.toList with | [.tmp 5, .tmp 6] => true | _ => false) && (match argTypes.toList with | [t1, t2] => t1 == t && t2 == t | _ => false)
      | _ => false)
  | _ => false

def okOp (op : Op) (k : K) (ps : List Opd) : Bool :=
  match k with
  | .stop => true
  | .mv => (match op with | .move x | .assign x => okOpds mid [x] ps | _ => false)
  | .own _ => (match op with | .move x | .assign x => okOpds mid [x] ps | _ => false)
  | .pick => (match op with | .pick c a b => okOpds mid [c, a, b] ps | _ => false)
  | .alloc z => (match op with | .alloc t => zeroIs P t z && ps.isEmpty | _ => false)
  | .box n => (match op with | .box t x => szIs P t n && okOpds mid [x] ps | _ => false)
  | .build z pl => (match op with
    | .build t parts => zeroIs P t z && okOpds mid (parts.toList.map (·.2)) ps && (match P.underlying t with
      | some (.struct fs) => placesAre P fs.toList pl (parts.toList.map (·.1)) && fs.toList.all (fun f => (P.info? f.type).isSome)
      | some (.array _ e) => (match P.info? e with | some i => rowsAre i.size pl (parts.toList.map (·.1)) | none => false)
      | _ => false)
    | _ => false)
  | .lit sz z len ix => (match op with
    | .buildSlice t n parts => n == len && ix == parts.toList.map (·.1) && okOpds mid (parts.toList.map (·.2)) ps && decide (n * sz ≤ 16777216) && (match P.underlying t with
      | some (.slice e) => szIs P e sz && zeroIs P e z.cells && (z.cells.length == sz) && (sz == 1 || z.cells.length != 1) && decide (0 < sz)
      | _ => false)
    | _ => false)
  | .litm sz z len ix => (match op with
    | .buildSlice t n parts => n == len && ix == parts.toList.map (·.1) && okOpds mid (parts.toList.map (·.2)) ps && decide (n * sz ≤ 16777216) && (match P.underlying t with
      | some (.slice e) => szIs P e sz && zeroIs P e z.cells && (z.cells.length == sz) && (sz == 1 || z.cells.length != 1) && decide (0 < sz)
      | _ => false)
    | _ => false)
  | .load ag n => (match op with | .load t a => aggIs P t ag && szIs P t n && (ag || n == 1) && okOpds mid [a] ps | _ => false)
  | .loadf ag n => (match op with | .load t a => aggIs P t ag && szIs P t n && (ag || n == 1) && okOpds mid [a] ps | _ => false)
  | .store n => (match op with | .store t a x => szIs P t n && okOpds mid [a, x] ps | _ => false)
  | .nilChk => (match op with | .nilCheck x => okOpds mid [x] ps | _ => false)
  | .bin b => (match op with | .binOp b' _ x y _ => b == b' && okOpds mid [x, y] ps | _ => false)
  | .eqb neg => (match op with
    | .binOp b t x y _ => (if neg then b == .neq else b == .eql) && (match P.underlying t with | some .bool => true | _ => false) && okOpds mid [x, y] ps
    | _ => false)
  | .eqa neg q n => (match op with
    | .binOp b t x y _ => (if neg then b == .neq else b == .eql) && eqTy P q 8 t && aggIs P t true && szIs P t n && !P.eqGuardType P.depth t && okOpds mid [x, y] ps
    | _ => false)
  | .un u => (match op with | .unOp u' _ x => u == u' && okOpds mid [x] ps | _ => false)
  | .conv q => (match op with
    | .convert s d x => (P.underlying s).isSome && (match P.underlying d with | some (.int k) => k == q | _ => false) && okOpds mid [x] ps
    | _ => false)
  | .mkfn m => (match op with | .makeFunc (.func f) first caps => mid f == some m && first.isEmpty && okOpds mid caps.toList ps | _ => false)
  | .mks sz by_ z => (match op with
    | .makeSlice t l c => (match P.underlying t with | some (.slice e) => szIs P e sz && byIs P e by_ && zeroIs P e z | _ => false) && okOpds mid [l, c] ps
    | _ => false)
  | .slc sz lo hi mx => (match op with
    | .slice t x l h m => (match P.underlying t with | some (.slice e) => szIs P e sz | _ => false) && l.isSome == lo && h.isSome == hi && m.isSome == mx && okOpds mid (x :: optArgs [l, h, m]) ps
    | _ => false)
  | .slca n sz lo hi mx => (match op with
    | .slice t x l h m => (match P.underlying t with | some (.array n' e) => n' == n && szIs P e sz | _ => false) && l.isSome == lo && h.isSome == hi && m.isSome == mx && okOpds mid (x :: optArgs [l, h, m]) ps
    | _ => false)
  | .faddr off n => (match op with
    | .fieldAddr t x i => (match P.underlying t with | some (.struct fs) => (match fs[i]? with | some f => f.offset == off && szIs P f.type n && decide (0 < n) | none => false) | _ => false) && okOpds mid [x] ps
    | _ => false)
  | .fld ag off n => (match op with
    | .field t x i => (match P.underlying t with | some (.struct fs) => (match fs[i]? with | some f => f.offset == off && szIs P f.type n && aggIs P f.type ag && (ag || n == 1) | none => false) | _ => false) && okOpds mid [x] ps
    | _ => false)
  | .iaa n sz => (match op with | .indexAddr t x i => (match P.underlying t with | some (.array n' e) => n' == n && szIs P e sz | _ => false) && okOpds mid [x, i] ps | _ => false)
  | .ias sz => (match op with | .indexAddr t x i => (match P.underlying t with | some (.slice e) => szIs P e sz | _ => false) && okOpds mid [x, i] ps | _ => false)
  | .ixa ag n sz => (match op with | .index t x i => (match P.underlying t with | some (.array n' e) => n' == n && szIs P e sz && aggIs P e ag && (ag || sz == 1) | _ => false) && okOpds mid [x, i] ps | _ => false)
  | .ixs => (match op with | .index t x i => (match P.underlying t with | some .string => true | _ => false) && okOpds mid [x, i] ps | _ => false)
  | .ext i => (match op with | .extract t j => i == j && okOpds mid [t] ps | _ => false)
  | .len => (match op with
    | .call { callee := .builtin .len, args, argTypes } => (match argTypes.toList with | [t] => (match P.underlying t with | some (.slice _) => true | _ => false) | _ => false) && okOpds mid args.toList ps
    | _ => false)
  | .lens => (match op with
    | .call { callee := .builtin .len, args, argTypes } => (match argTypes.toList with | [t] => (match P.underlying t with | some .string => true | _ => false) | _ => false) && okOpds mid args.toList ps
    | _ => false)
  | .lenc n => (match op with
    | .call { callee := .builtin .len, args, argTypes } => (match argTypes.toList with
      | [t] => (match P.underlying t with | some (.array n' _) => n' == n | some (.pointer a) => (match P.underlying a with | some (.array n' _) => n' == n | _ => false) | _ => false)
      | _ => false) && okOpds mid args.toList ps
    | _ => false)
  | .app sz by_ => (match op with
    | .call { callee := .builtin .append, args, argTypes } => (match argTypes.toList with
      | [t, t'] => t == t' && (match P.underlying t with | some (.slice e) => szIs P e sz && byIs P e by_ && (match P.info? e with | some i => (match i.zero with | some z => z.cells.size == sz | none => false) | none => false) | _ => false)
      | _ => false) && okOpds mid args.toList ps && decide (0 < sz) && decide (0 < by_)
    | _ => false)
  | .clone sz by_ => (match op with
    | .call { callee := .value (.func f), args, .. } => (match P.funcs[f]? with | some fn => isClone P sz by_ fn | none => false) && okOpds mid args.toList ps && decide (0 < sz) && decide (0 < by_)
    | _ => false)
  | .cpy sz => (match op with
    | .call { callee := .builtin .copy, args, argTypes } => (match argTypes.toList with
      | [t, _] => (match P.underlying t with | some (.slice e) => szIs P e sz | _ => false)
      | _ => false) && okOpds mid args.toList ps && decide (0 < sz)
    | _ => false)
  | .clr sz z => (match op with
    | .call { callee := .builtin .clear, args, argTypes } => (match argTypes.toList with
      | [t] => (match P.underlying t with | some (.slice e) => szIs P e sz && zeroIs P e z | _ => false)
      | _ => false) && okOpds mid args.toList ps && decide (0 < sz)
    | _ => false)
  | .mn => (match op with | .call { callee := .builtin .min, args, .. } => okOpds mid args.toList ps | _ => false)
  | .mx => (match op with | .call { callee := .builtin .max, args, .. } => okOpds mid args.toList ps | _ => false)
  | .call _ _ m => (match op with | .call { callee := .value (.func f), args, .. } => mid f == some m && okOpds mid args.toList ps | _ => false)
  | .callv _ _ => (match op with | .call { callee := .value x, args, .. } => okOpds mid (x :: args.toList) ps | _ => false)

def okGuard (ops : Array Oper) : Option (Nat × Bool) → Option (Nat × Bool) → Bool
  | none, none => true
  | some (j, w), some (t, w') => w == w' && (ops[j]?).bind (·.dst) == some t
  | _, _ => false
def okR (ops : Array Oper) (o : Oper) (r : ROp) : Bool :=
  o.dst == r.dst && okOp P mid o.op r.k r.args && okGuard ops o.guard r.g
def okRs (ops : Array Oper) : List Oper → List ROp → Bool
  | [], [] => true
  | o :: os, r :: rs => okR P mid ops o r && okRs ops os rs
  | _, _ => false
end
end Go.AVM
