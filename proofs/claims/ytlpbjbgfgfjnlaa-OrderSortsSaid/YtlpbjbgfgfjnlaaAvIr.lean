/- The abstract machine: values, a small code, and what running it gives. No program of the model in sight. -/
import Derived.Calls
set_option linter.unusedVariables false
namespace Go.AVM

/-- A value of the abstract machine. 'sl': a slice whose elements never change; 'msl', 'mptr': into the store; 'fptr': to cells that never change; 'any': nothing is known. -/
inductive AV where
  | any
  | bool (b : Bool)
  | int (k : IntKind) (n : Int)
  | str (s : ByteArray)
  | nilp
  | mptr (b off vl : Nat)
  | fptr (cs : List AV)
  | sl (es : List AV) (sz : Nat) (t : Bool)
  | tl (es : List AV) (sz : Nat)
  | msl (b off n sz vl : Nat) (cap : Option Nat)
  | agg (cs : List AV)
  | tup (vs : List AV)
  | fn (f : Nat) (caps : List AV)
  | nilfn
  | osl (cs : List AV) (n sz : Nat) (ex : Bool)
  deriving Inhabited

def AV.cells : AV → List AV
  | .agg cs => cs
  | v => [v]

inductive Blk where
  | mu (cs : List AV) (ex : Bool)
  | fz (cs : List AV)
  | dead
  deriving Inhabited

abbrev Store := List Blk

inductive Opd where
  | t (i : Nat)
  | c (v : AV)
  deriving Inhabited

def Opd.ev (tm : List AV) : Opd → AV
  | .t i => tm.getD i .any
  | .c v => v

/-- How a call is made: 'pure': the callee sees no store, its result is frozen; 'own i': the same, component i of its result (or the result itself) is a slice that the caller may write; 'sh': the callee works on the caller's store. -/
inductive CM where
  | pure
  | own (i : Nat)
  | sh
  deriving Inhabited

inductive K where
  | mv
  | own (sz : Nat)
  | pick
  | alloc (z : List AV)
  | box (n : Nat)
  | build (z : List AV) (ps : List (Nat × Nat))
  | lit (sz : Nat) (z : AV) (len : Nat) (ix : List Nat)
  | litm (sz : Nat) (z : AV) (len : Nat) (ix : List Nat)
  | load (ag : Bool) (n : Nat)
  | loadf (ag : Bool) (n : Nat)
  | store (n : Nat)
  | nilChk
  | bin (op : BinOp)
  | eqb (neg : Bool)
  | eqa (neg : Bool) (q : Option IntKind) (n : Nat)
  | un (op : UnOp)
  | conv (k : IntKind)
  | mkfn (f : Nat)
  | mks (sz bytes : Nat) (z : List AV)
  | slc (sz : Nat) (lo hi mx : Bool)
  | slca (n sz : Nat) (lo hi mx : Bool)
  | faddr (off n : Nat)
  | fld (ag : Bool) (off n : Nat)
  | iaa (n sz : Nat)
  | ias (sz : Nat)
  | ixa (ag : Bool) (n sz : Nat)
  | ixs
  | ext (i : Nat)
  | len
  | lens
  | lenc (n : Nat)
  | app (sz bytes : Nat)
  | cpy (sz : Nat)
  | clone (sz bytes : Nat)
  | clr (sz : Nat) (z : List AV)
  | mn
  | mx
  | call (m : CM) (strict : Bool) (f : Nat)
  | callv (m : CM) (strict : Bool)
  | stop
  deriving Inhabited

structure ROp where
  dst : Option Nat
  k : K
  args : List Opd
  g : Option (Nat × Bool)
  deriving Inhabited

inductive AC where
  | skip
  | reg (ops : List ROp)
  | seq (a b : AC)
  | cond (c : Opd) (a b : AC)
  | block (id : Nat) (b : AC)
  | loop (live : List Bool) (b : AC)
  | exit (id : Nat)
  | ret
  deriving Inhabited

inductive ARes where
  | t (i : Nat)
  | c (i : Nat) (ag : Bool) (n : Nat)
  deriving Inhabited

structure AF where
  np : Nat
  nt : Nat
  res : List ARes
  body : AC
  deriving Inhabited

/-- Go on under a condition. -/
def chk {α : Type} (c : Prop) [Decidable c] (x : Option α) : Option α := if c then x else none
theorem chk_pos {α : Type} {c : Prop} [Decidable c] {x : Option α} (h : c) : chk c x = x := if_pos h
theorem chk_some {α : Type} {c : Prop} [Decidable c] {x : Option α} {r : α} : chk c x = some r ↔ c ∧ x = some r := by
  unfold chk; split <;> simp_all

/-! ### The store -/
def rd (S : Store) (b off vl n : Nat) : Option (List AV) :=
  match S[b]? with
  | some (.mu cs _) => chk (cs.length = vl ∧ off + n ≤ vl) (some ((cs.drop off).take n))
  | some (.fz cs) => chk (cs.length = vl ∧ off + n ≤ vl) (some ((cs.drop off).take n))
  | _ => none

def splice (cs : List AV) (off : Nat) (vs : List AV) : List AV := cs.take off ++ (vs ++ cs.drop (off + vs.length))

def wr (S : Store) (b off vl : Nat) (vs : List AV) : Option Store :=
  match S[b]? with
  | some (.mu cs ex) => chk (cs.length = vl ∧ off + vs.length ≤ vl) (some (S.set b (.mu (splice cs off vs) ex)))
  | _ => none

/-- May be stored in a cell as it is. -/
def AV.one : AV → Bool
  | .any | .agg _ | .tup _ | .osl .. | .tl .. => false
  | _ => true

/-- May be stored in a variable. -/
def AV.whole : AV → Bool
  | .any | .tup _ | .osl .. | .tl .. => false
  | _ => true

def ofCells (ag : Bool) (cs : List AV) : Option AV := if ag then some (.agg cs) else cs.head?

def loadA (S : Store) (ag : Bool) (n : Nat) : AV → Option AV
  | .mptr b off vl => (rd S b off vl n).bind (ofCells ag)
  | .fptr cs => chk (n ≤ cs.length) (ofCells ag (cs.take n))
  | _ => none

/-! ### Freezing: the same value, told without the store -/
def chunk (sz : Nat) : Nat → List AV → List AV
  | 0, _ => []
  | n + 1, cs => (if sz = 1 then cs.headD .any else .agg (cs.take sz)) :: chunk sz n (cs.drop sz)

/-- A cell's value frozen. -/
def fzc (S : Store) : Nat → AV → Option AV
  | fuel, .bool b => some (.bool b)
  | fuel, .int k n => some (.int k n)
  | fuel, .str s => some (.str s)
  | fuel, .nilp => some .nilp
  | fuel, .nilfn => some .nilfn
  | fuel, .fptr cs => some (.fptr cs)
  | fuel, .sl es sz _ => some (.sl es sz false)
  | fuel + 1, .msl b off n sz vl _ => (rd S b off vl (n * sz)).bind fun cs => (cs.mapM (fzc S fuel)).bind fun cs' => some (.sl (chunk sz n cs') sz false)
  | fuel + 1, .mptr b off vl => (rd S b off vl (vl - off)).bind fun cs => (cs.mapM (fzc S fuel)).bind fun cs' => some (.fptr cs')
  | fuel + 1, .fn f caps => (caps.mapM (fzc S fuel)).bind fun cs' => some (.fn f cs')
  | _, _ => none

def fzDepth : Nat := 6

/-- A value frozen. -/
def fz1 (S : Store) : AV → Option AV
  | .agg cs => (cs.mapM (fzc S 5)).bind fun cs' => some (.agg cs')
  | v => fzc S fzDepth v

def fzv (S : Store) : AV → Option AV
  | .tup vs => (vs.mapM (fz1 S)).bind fun vs' => some (.tup vs')
  | v => fz1 S v

/-- No way into the store. -/
def nrc : AV → Bool
  | .bool _ | .int .. | .str _ | .nilp | .nilfn | .fptr _ | .sl .. => true
  | _ => false
def nr1 : AV → Bool
  | .agg cs => cs.all nrc
  | .fn _ caps => caps.all nrc
  | v => nrc v
/-- Bears no memory at all. -/
def AV.bare : AV → Bool
  | .bool _ | .int .. | .str _ => true
  | .agg cs => cs.all fun | .bool _ | .int .. | .str _ => true | _ => false
  | .tup vs => vs.all fun | .bool _ | .int .. | .str _ => true | _ => false
  | _ => false

/-- Which blocks a value leads into. -/
def ids (S : Store) : Nat → AV → List Nat
  | fuel + 1, .msl b off n sz vl _ => b :: (match S[b]? with | some (.mu cs _) => cs.flatMap (ids S fuel) | _ => [])
  | fuel + 1, .mptr b off vl => b :: (match S[b]? with | some (.mu cs _) => cs.flatMap (ids S fuel) | _ => [])
  | fuel + 1, .fn _ caps => caps.flatMap (ids S fuel)
  | fuel + 1, .agg cs => cs.flatMap (ids S fuel)
  | _, _ => []

/-- These blocks are written no more. -/
def settle (S : Store) (all : List Nat) : List Nat → Store → Option Store
  | [], S' => some S'
  | b :: bs, S' => match S[b]? with
    | some (.mu cs _) => chk ((cs.flatMap (ids S fzDepth)).all all.contains = true) ((cs.mapM (fzc S fzDepth)).bind fun cs' => settle S all bs (S'.set b (.fz cs')))
    | _ => settle S all bs S'

/-- All blocks below n. -/
def ltc (n : Nat) : AV → Bool
  | .msl b .. => decide (b < n)
  | .mptr b .. => decide (b < n)
  | .bool _ | .int .. | .str _ | .nilp | .nilfn | .fptr _ | .sl .. | .any => true
  | .tup [] => true
  | _ => false
def lt1 (n : Nat) : AV → Bool
  | .agg cs => cs.all (ltc n)
  | .fn _ caps => caps.all (ltc n)
  | .tup vs => vs.all (ltc n)
  | v => ltc n v
def Blk.lt (n : Nat) : Blk → Bool
  | .mu cs _ => cs.all (lt1 n)
  | _ => true
/-- What was made since then is forgotten, if nothing leads there. -/
def trunc (n : Nat) (vs : List AV) (S : Store) : Store :=
  if vs.all (lt1 n) && (S.take n).all (Blk.lt n) then S.take n else S

/-! ### Single operations -/
def eqc : Option IntKind → AV → AV → Option Bool
  | none, .bool a, .bool b => some (a == b)
  | some q, .int k a, .int k' b => chk (k = q ∧ k' = q) (some (a == b))
  | _, _, _ => none
def eqcs (q : Option IntKind) : List AV → List AV → Option Bool
  | [], [] => some true
  | x :: xs, y :: ys => (eqc q x y).bind fun b => (eqcs q xs ys).bind fun c => some (b && c)
  | _, _ => none

def intBin (op : BinOp) (k : IntKind) (a b : Int) : Option AV :=
  match op with
  | .add => some (.int k (k.wrap (a + b)))
  | .sub => some (.int k (k.wrap (a - b)))
  | .mul => some (.int k (k.wrap (a * b)))
  | .quo => chk (b ≠ 0) (some (.int k (k.wrap (a.tdiv b))))
  | .rem => chk (b ≠ 0) (some (.int k (a.tmod b)))
  | .and => some (.int k (k.wrap (BitVec.ofInt k.bits a &&& BitVec.ofInt k.bits b).toNat))
  | .or => some (.int k (k.wrap (BitVec.ofInt k.bits a ||| BitVec.ofInt k.bits b).toNat))
  | .xor => some (.int k (k.wrap (BitVec.ofInt k.bits a ^^^ BitVec.ofInt k.bits b).toNat))
  | .andNot => some (.int k (k.wrap (BitVec.ofInt k.bits a &&& ~~~ BitVec.ofInt k.bits b).toNat))
  | .eql => some (.bool (a == b))
  | .neq => some (.bool (a != b))
  | .lss => some (.bool (a < b))
  | .leq => some (.bool (a ≤ b))
  | .gtr => some (.bool (a > b))
  | .geq => some (.bool (a ≥ b))
  | _ => none

def binA (op : BinOp) (x y : AV) : Option AV :=
  match op, x, y with
  | .shl, .int k a, .int _ b => chk (0 ≤ b) (some (.int k (k.wrap (a * 2 ^ (min b.toNat k.bits)))))
  | .shr, .int k a, .int _ b => chk (0 ≤ b) (some (.int k (a.fdiv (2 ^ (min b.toNat k.bits)))))
  | op, .int k a, .int k' b => chk (k = k') (intBin op k a b)
  | _, _, _ => none

def unA (op : UnOp) (x : AV) : Option AV :=
  match op, x with
  | .neg, .int k n => some (.int k (k.wrap (0 - n)))
  | .xor, .int k n => some (.int k (k.wrap (BitVec.ofInt k.bits (if k.signed then -1 else k.max) ^^^ BitVec.ofInt k.bits n).toNat))
  | .not, .bool b => some (.bool !b)
  | _, _ => none

def fillA : List (Nat × Nat) → List AV → List AV → Option (List AV)
  | [], [], cs => some cs
  | (off, n) :: ps, v :: vs, cs => chk (v.whole = true ∧ v.cells.length = n ∧ off + n ≤ cs.length) (fillA ps vs (splice cs off v.cells))
  | _, _, _ => none

/-- A slice's element, as the elements of a slice are told. -/
def elt (sz : Nat) (v : AV) : AV := if sz = 1 then v.cells.headD .any else v

def fillE (sz : Nat) : List Nat → List AV → List AV → Option (List AV)
  | [], [], es => some es
  | i :: ix, v :: vs, es => chk (v.whole = true ∧ v.cells.length = sz ∧ i < es.length) (fillE sz ix vs (es.set i (elt sz v)))
  | _, _, _ => none

def bound (hi : Nat) : AV → Option Nat
  | .int _ n => chk (0 ≤ n ∧ n ≤ hi) (some n.toNat)
  | _ => none

/-- The bounds of a slice expression: len: the length, cap: how far one may go. -/
def bounds (len cap : Nat) (lo hi mx : Bool) (vs : List AV) : Option (Nat × Nat × Option Nat) :=
  match lo, hi, mx, vs with
  | false, false, false, [] => some (0, len, none)
  | true, false, false, [l] => (bound len l).bind fun l => some (l, len, none)
  | false, true, false, [h] => (bound cap h).bind fun h => some (0, h, none)
  | true, true, false, [l, h] => (bound cap h).bind fun h => (bound h l).bind fun l => some (l, h, none)
  | false, true, true, [h, m] => (bound cap m).bind fun m => (bound m h).bind fun h => some (0, h, some m)
  | true, true, true, [l, h, m] => (bound cap m).bind fun m => (bound m h).bind fun h => (bound h l).bind fun l => some (l, h, some m)
  | _, _, _, _ => none

def tightAt (d : Bool) (h : Nat) : Option Nat → Bool
  | none => d
  | some m => m == h
def capAt (d : Option Nat) (l : Nat) : Option Nat → Option Nat
  | none => d
  | some m => some (m - l)

def sliceA (sz : Nat) (lo hi mx : Bool) (x : AV) (vs : List AV) : Option AV :=
  match x with
  | .sl es sz' t =>
    chk (sz = sz') ((bounds es.length es.length lo hi mx vs).bind fun (l, h, m) =>
      some (.sl ((es.drop l).take (h - l)) sz (tightAt (t && h == es.length) h m)))
  | .msl b off n sz' vl cap =>
    chk (sz = sz' ∧ 0 < sz ∧ off ≤ vl) ((bounds n (cap.getD ((vl - off) / sz)) lo hi mx vs).bind fun (l, h, m) =>
      chk (off + h * sz ≤ vl) (some (.msl b (off + l * sz) (h - l) sz vl (capAt (cap.map (· - l)) l m))))
  | _ => none

def sliceArr (n sz : Nat) (lo hi mx : Bool) (x : AV) (vs : List AV) : Option AV :=
  match x with
  | .mptr b off vl => (bounds n n lo hi mx vs).bind fun (l, h, m) =>
      chk (off + n * sz ≤ vl ∧ 0 < sz) (some (.msl b (off + l * sz) (h - l) sz vl (capAt (some (n - l)) l m)))
  | .fptr cs => (bounds n n lo hi mx vs).bind fun (l, h, m) =>
      chk (n * sz ≤ cs.length ∧ 0 < sz) (some (.sl (((chunk sz n (cs.take (n * sz))).drop l).take (h - l)) sz (tightAt (n == h) h m)))
  | _ => none

/-- What a slice holds: its cells, how many elements. -/
def held (S : Store) (sz : Nat) : AV → Option (Nat × List AV)
  | .sl es sz' _ => chk (sz = sz') (some (es.length, es.flatMap AV.cells))
  | .tl es sz' => chk (sz = sz') (some (es.length, es.flatMap AV.cells))
  | .msl b off n sz' vl _ => chk (sz = sz') ((rd S b off vl (n * sz)).bind fun cs => some (n, cs))
  | _ => none

def room (n bytes : Nat) : Prop := n * bytes ≤ 140737488355328
instance (n bytes : Nat) : Decidable (room n bytes) := inferInstanceAs (Decidable (_ ≤ _))

def appA (sz bytes : Nat) (S : Store) (s x : AV) : Option (AV × Store) :=
  (held S sz x).bind fun (m, xs) =>
  match s with
  | .sl es sz' t => chk (sz = sz') (
      if m = 0 then some (s, S) else
      chk (t = true ∧ room (es.length + m) bytes) (some (.msl S.length 0 (es.length + m) sz ((es.length + m) * sz) none, S ++ [.mu (es.flatMap AV.cells ++ xs) false])))
  | .msl b off n sz' vl cap => chk (sz = sz') (
      if m = 0 then some (s, S) else
      match cap with
      | some c =>
        if n + m ≤ c then (wr S b (off + n * sz) vl xs).bind fun S' => some (.msl b off (n + m) sz vl cap, S')
        else chk (room (n + m) bytes) ((rd S b off vl (n * sz)).bind fun cs => some (.msl S.length 0 (n + m) sz ((n + m) * sz) none, S ++ [.mu (cs ++ xs) false]))
      | none =>
        if off + (n + m) * sz ≤ vl then (wr S b (off + n * sz) vl xs).bind fun S' => some (.msl b off (n + m) sz vl none, S')
        else chk (room (n + m) bytes) (match S[b]? with
          | some (.mu cs true) => chk (cs.length = vl ∧ off + n * sz ≤ vl) (some (.msl S.length 0 (n + m) sz ((n + m) * sz) none, S ++ [.mu ((cs.drop off).take (n * sz) ++ xs) false]))
          | some (.mu cs false) => chk (cs.length = vl ∧ off = 0 ∧ n * sz ≤ vl) (some (.msl b 0 (n + m) sz ((n + m) * sz) none, S.set b (.mu (cs.take (n * sz) ++ xs) false)))
          | _ => none))
  | _ => none

def minA : List AV → Option AV
  | [.int k a, .int k' b] => chk (k = k') (some (.int k (if b < a then b else a)))
  | [.int k a, .int k' b, .int k'' c] => chk (k = k' ∧ k = k'') (some (.int k (if c < (if b < a then b else a) then c else (if b < a then b else a))))
  | _ => none
def maxA : List AV → Option AV
  | [.int k a, .int k' b] => chk (k = k') (some (.int k (if b > a then b else a)))
  | [.int k a, .int k' b, .int k'' c] => chk (k = k' ∧ k = k'') (some (.int k (if c > (if b > a then b else a) then c else (if b > a then b else a))))
  | _ => none

abbrev RunF := Nat → List AV → Store → Option (AV × Store)

/-- A component of a result that the caller is to own. -/
def takeOwn (S : Store) : AV → Option (AV × Store)
  | .msl b off n sz vl none => match S[b]? with
    | some (.mu cs ex) => chk (off = 0 ∧ cs.length = vl ∧ n * sz ≤ vl) ((((cs.take (n * sz)).mapM (fzc (S.set b .dead) fzDepth))).bind fun cs' => some (.osl cs' n sz (ex && n * sz == vl), S.set b .dead))
    | _ => none
  | .sl es sz t => some (.sl es sz t, S)
  | _ => none

def ownRes (S : Store) (i : Nat) : AV → Option AV
  | .tup vs => match vs[i]? with
    | some v => (takeOwn S v).bind fun (o, S') => ((vs.eraseIdx i).mapM (fz1 S')).bind fun r => some (.tup (r.take i ++ o :: r.drop i))
    | none => none
  | v => (takeOwn S v).map (·.1)

/-- What is owned gets a block. -/
def land1 (S : Store) : AV → AV × Store
  | .osl cs n sz ex => (.msl S.length 0 n sz cs.length none, S ++ [.mu cs ex])
  | v => (v, S)
def AV.isOsl : AV → Bool
  | .osl .. => true
  | _ => false
def land (S : Store) : AV → AV × Store
  | .tup vs => match vs.findIdx? AV.isOsl with
    | some i => let (v, S') := land1 S (vs.getD i .any); (.tup (vs.set i v), S')
    | none => (.tup vs, S)
  | v => land1 S v

def callPure (R : RunF) (f : Nat) (args : List AV) : Option AV := (R f args []).bind fun (r, S') => fzv S' r
def callOwn (R : RunF) (i : Nat) (f : Nat) (args : List AV) : Option AV := (R f args []).bind fun (r, S') => ownRes S' i r
def callSh (R : RunF) (f : Nat) (args : List AV) (S : Store) : Option (AV × Store) :=
  (R f args S).bind fun (r, S') => some (r, trunc S.length [r] S')

def after (strict : Bool) (S : Store) (args : List AV) (r : AV) : Option Store :=
  if args.all nr1 || r.bare then some S
  else if strict then none
  else settle S (args.flatMap (ids S fzDepth)) (args.flatMap (ids S fzDepth)) S

def doCall (R : RunF) (m : CM) (strict : Bool) (f : Nat) (args : List AV) (S : Store) : Option (AV × Store) :=
  match m with
  | .pure => (args.mapM (fz1 S)).bind fun as => (callPure R f as).bind fun r => (after strict S args r).bind fun S' => some (r, S')
  | .own i => (args.mapM (fz1 S)).bind fun as => (callOwn R i f as).bind fun r => (after strict S args r).bind fun S' => some (land S' r)
  | .sh => callSh R f args S

def opA (R : RunF) (k : K) (vs : List AV) (S : Store) : Option (AV × Store) :=
  match k, vs with
  | .mv, [x] => some (x, S)
  | .own sz, [.sl [] _ true] => chk (0 < sz) (some (.msl S.length 0 0 sz 0 none, S ++ [.mu [] false]))
  | .pick, [.bool c, a, b] => some (if c then a else b, S)
  | .alloc z, [] => some (.mptr S.length 0 z.length, S ++ [.mu z true])
  | .box n, [v] => chk (v.whole = true ∧ v.cells.length = n) (some (.mptr S.length 0 n, S ++ [.mu v.cells true]))
  | .build z ps, vs => (fillA ps vs z).bind fun cs => some (.agg cs, S)
  | .lit sz z len ix, vs =>
      if vs.all nr1 then ((vs.mapM (fz1 S)).bind fun vs => (fillE sz ix vs (List.replicate len z)).bind fun es => some (.sl es sz true, S))
      else (fillE sz ix vs (List.replicate len z)).bind fun es => some (.tl es sz, S)
  | .litm sz z len ix, vs => (fillE sz ix vs (List.replicate len z)).bind fun es => some (.msl S.length 0 len sz (len * sz) none, S ++ [.mu (es.flatMap AV.cells) true])
  | .load ag n, [a] => (loadA S ag n a).bind fun v => some (v, S)
  | .loadf ag n, [.fptr cs] => chk (n ≤ cs.length) ((ofCells ag (cs.take n)).bind fun v => some (v, S))
  | .store n, [.mptr b off vl, v] => chk (v.whole = true ∧ v.cells.length = n) ((wr S b off vl v.cells).bind fun S' => some (.tup [], S'))
  | .nilChk, [.fn f cs] => some (.fn f cs, S)
  | .nilChk, [.mptr b off vl] => some (.mptr b off vl, S)
  | .nilChk, [.fptr cs] => some (.fptr cs, S)
  | .bin op, [x, y] => (binA op x y).bind fun v => some (v, S)
  | .eqb neg, [.bool a, .bool b] => some (.bool (if neg then a != b else a == b), S)
  | .eqa neg q n, [.agg xs, .agg ys] => chk (xs.length = n ∧ ys.length = n) ((eqcs q xs ys).bind fun b => some (.bool (if neg then !b else b), S))
  | .un op, [x] => (unA op x).bind fun v => some (v, S)
  | .conv k, [.int _ n] => some (.int k (k.wrap n), S)
  | .mkfn f, caps => some (.fn f caps, S)
  | .mks sz bytes z, [.int _ l, .int _ c] => chk (0 ≤ l ∧ l ≤ c ∧ room c.toNat bytes ∧ 0 < sz ∧ c ≤ 281474976710656 ∧ z.length = sz)
      (some (.msl S.length 0 l.toNat sz (c.toNat * sz) none, S ++ [.mu (List.replicate c.toNat z).flatten true]))
  | .slc sz lo hi mx, x :: vs => (sliceA sz lo hi mx x vs).bind fun v => some (v, S)
  | .slca n sz lo hi mx, x :: vs => (sliceArr n sz lo hi mx x vs).bind fun v => some (v, S)
  | .faddr off n, [.mptr b o vl] => chk (o + off + n ≤ vl) (some (.mptr b (o + off) vl, S))
  | .faddr off n, [.fptr cs] => chk (off + n ≤ cs.length) (some (.fptr (cs.drop off), S))
  | .fld ag off n, [.agg cs] => chk (off + n ≤ cs.length) ((ofCells ag ((cs.drop off).take n)).bind fun v => some (v, S))
  | .iaa n sz, [.mptr b off vl, .int _ i] => chk (0 ≤ i ∧ i < n) (some (.mptr b (off + i.toNat * sz) vl, S))
  | .iaa n sz, [.fptr cs, .int _ i] => chk (0 ≤ i ∧ i < n) (some (.fptr (cs.drop (i.toNat * sz)), S))
  | .ias sz, [.sl es sz' _, .int _ i] => chk (0 ≤ i ∧ i < es.length ∧ sz = sz') ((es[i.toNat]?).bind fun e => some (.fptr e.cells, S))
  | .ias sz, [.msl b off n sz' vl _, .int _ i] => chk (0 ≤ i ∧ i < n ∧ sz = sz') (some (.mptr b (off + i.toNat * sz) vl, S))
  | .ixa ag n sz, [.agg cs, .int _ i] => chk (0 ≤ i ∧ i < n ∧ n * sz ≤ cs.length) ((ofCells ag ((cs.drop (i.toNat * sz)).take sz)).bind fun v => some (v, S))
  | .ixs, [.str s, .int _ i] => chk (0 ≤ i) ((s[i.toNat]?).bind fun b => some (.int .u8 b.toNat, S))
  | .ext i, [.tup vs] => (vs[i]?).bind fun v => some (v, S)
  | .len, [.sl es _ _] => some (.int .i64 es.length, S)
  | .len, [.msl _ _ n _ _ _] => some (.int .i64 n, S)
  | .lens, [.str s] => some (.int .i64 s.size, S)
  | .lenc n, [x] => some (.int .i64 n, S)
  | .app sz bytes, [s, x] => appA sz bytes S s x
  | .clone sz bytes, [x] => appA sz bytes S (.sl [] sz true) x
  | .cpy sz, [.msl b off n sz' vl cap, x] => chk (sz = sz') ((held S sz x).bind fun (m, xs) =>
      (wr S b off vl (xs.take (min m n * sz))).bind fun S' => some (.int .i64 ((min m n : Nat) : Int), S'))
  | .clr sz z, [.msl b off n sz' vl cap] => chk (sz = sz' ∧ z.length = sz) ((wr S b off vl (List.replicate n z).flatten).bind fun S' => some (.tup [], S'))
  | .mn, vs => (minA vs).bind fun v => some (v, S)
  | .mx, vs => (maxA vs).bind fun v => some (v, S)
  | .call m strict f, vs => doCall R m strict f vs S
  | .callv m strict, .fn f caps :: vs => doCall R m strict f (vs ++ caps) S
  | _, _ => none

structure St where
  tm : List AV
  st : Store

def put (tm : List AV) (d : Option Nat) (v : AV) : List AV :=
  match d with
  | some d => tm.set d v
  | none => tm

inductive Wan where | yes | no | lost
def wants (tm : List AV) : Option (Nat × Bool) → Wan
  | none => .yes
  | some (t, w) => match tm.getD t .any with
    | .bool b => if b = w then .yes else .no
    | .tup [] => .no
    | _ => .lost

def stepR (R : RunF) (o : ROp) (s : St) : Option St :=
  match wants s.tm o.g with
  | .yes => (opA R o.k (o.args.map (·.ev s.tm)) s.st).bind fun (v, S) => some ⟨put s.tm o.dst v, S⟩
  | .no => some ⟨put s.tm o.dst (.tup []), s.st⟩
  | .lost => none

def runOps (R : RunF) : List ROp → St → Option St
  | [], s => some s
  | o :: os, s => (stepR R o s).bind (runOps R os)

inductive Flow where
  | nrm
  | ex (id : Nat)
  | ret
  deriving DecidableEq

def mask : List Bool → List AV → List AV
  | _, [] => []
  | [], _ :: vs => .any :: mask [] vs
  | b :: bs, v :: vs => (bif b then v else .any) :: mask bs vs

abbrev Body := St → Option (Flow × St)
abbrev IterF := Body → Body

def afterFlow (k : St → Option (Flow × St)) : Flow × St → Option (Flow × St)
  | (.nrm, s) => k s
  | r => some r
def catchEx (id : Nat) : Flow × St → Flow × St
  | (.ex i, s) => if i = id then (.nrm, s) else (.ex i, s)
  | r => r

def head (live : List Bool) (base : Nat) (s : St) : St :=
  let tm := mask live s.tm
  ⟨tm, trunc base tm s.st⟩

def exec (R : RunF) (it : IterF) : AC → Body
  | .skip, s => some (.nrm, s)
  | .reg ops, s => (runOps R ops s).bind fun s => some (.nrm, s)
  | .seq a b, s => (exec R it a s).bind (afterFlow (exec R it b))
  | .cond c a b, s => match c.ev s.tm with
    | .bool true => exec R it a s
    | .bool false => exec R it b s
    | _ => none
  | .block id b, s => (exec R it b s).bind fun r => some (catchEx id r)
  | .loop live b, s => it (fun s' => exec R it b (head live s.st.length s')) s
  | .exit id, s => some (.ex id, s)
  | .ret, s => some (.ret, s)

def resA (s : St) : ARes → Option AV
  | .t i => some (s.tm.getD i .any)
  | .c i ag n => loadA s.st ag n (s.tm.getD i .any)

def resAll (s : St) (rs : List ARes) : Option AV :=
  (rs.mapM (resA s)).bind fun vs => some (match vs with | [v] => v | vs => .tup vs)

def enter (af : AF) (args : List AV) (S : Store) : St := ⟨args ++ List.replicate (af.nt - args.length) (.tup []), S⟩

def runBody (R : RunF) (it : IterF) (af : AF) (args : List AV) (S : Store) : Option (AV × Store) :=
  chk (args.length = af.np) ((exec R it af.body (enter af args S)).bind fun
    | (.ex _, _) => none
    | (_, s) => (resAll s af.res).bind fun v => some (v, s.st))

end Go.AVM
