/- Texts joined: AvIr, AvRun, AvRep, AvFreeze, AvState, AvCheck, AvOps, AvOps2, AvOps3. -/
import Derived.Calls
import Derived.Laws.AppendOwn
import Derived.Laws.MakeOwn
import Derived.Laws.StructEq
import Derived.Orders
import Derived.ChangeKeysEq
set_option linter.unusedVariables false
set_option linter.unusedSimpArgs false
set_option linter.unusedSectionVars false
namespace Go.AVM
inductive AV where
  | any
  | bool (b : Bool)
  | int (k : IntKind) (n : Int)
  | str (s : ByteArray)
  | nilp
  | mptr (b off vl : Nat)
  | fptr (cs : List AV)
  | sl (es : List AV) (sz : Nat) (t : Bool)
  | tl (es : List AV) (sz : Nat)
  | msl (b off n sz vl : Nat) (cap : Option Nat)
  | agg (cs : List AV)
  | tup (vs : List AV)
  | fn (f : Nat) (caps : List AV)
  | nilfn
  | osl (cs : List AV) (n sz : Nat) (ex : Bool)
  deriving Inhabited
def AV.cells : AV → List AV
  | .agg cs => cs
  | v => [v]
inductive Blk where
  | mu (cs : List AV) (ex : Bool)
  | fz (cs : List AV)
  | dead
  deriving Inhabited
abbrev Store := List Blk
inductive Opd where
  | t (i : Nat)
  | c (v : AV)
  deriving Inhabited
def Opd.ev (tm : List AV) : Opd → AV
  | .t i => tm.getD i .any
  | .c v => v
inductive CM where
  | pure
  | own (i : Nat)
  | sh
  deriving Inhabited
inductive K where
  | mv
  | own (sz : Nat)
  | pick
  | alloc (z : List AV)
  | box (n : Nat)
  | build (z : List AV) (ps : List (Nat × Nat))
  | lit (sz : Nat) (z : AV) (len : Nat) (ix : List Nat)
  | litm (sz : Nat) (z : AV) (len : Nat) (ix : List Nat)
  | load (ag : Bool) (n : Nat)
  | loadf (ag : Bool) (n : Nat)
  | store (n : Nat)
  | nilChk
  | bin (op : BinOp)
  | eqb (neg : Bool)
  | eqa (neg : Bool) (q : Option IntKind) (n : Nat)
  | un (op : UnOp)
  | conv (k : IntKind)
  | mkfn (f : Nat)
  | mks (sz bytes : Nat) (z : List AV)
  | slc (sz : Nat) (lo hi mx : Bool)
  | slca (n sz : Nat) (lo hi mx : Bool)
  | faddr (off n : Nat)
  | fld (ag : Bool) (off n : Nat)
  | iaa (n sz : Nat)
  | ias (sz : Nat)
  | ixa (ag : Bool) (n sz : Nat)
  | ixs
  | ext (i : Nat)
  | len
  | lens
  | lenc (n : Nat)
  | app (sz bytes : Nat)
  | cpy (sz : Nat)
  | clone (sz bytes : Nat)
  | clr (sz : Nat) (z : List AV)
  | mn
  | mx
  | call (m : CM) (strict : Bool) (f : Nat)
  | callv (m : CM) (strict : Bool)
  | stop
  deriving Inhabited
structure ROp where
  dst : Option Nat
  k : K
  args : List Opd
  g : Option (Nat × Bool)
  deriving Inhabited
inductive AC where
  | skip
  | reg (ops : List ROp)
  | seq (a b : AC)
  | cond (c : Opd) (a b : AC)
  | block (id : Nat) (b : AC)
  | loop (live : List Bool) (b : AC)
  | exit (id : Nat)
  | ret
  deriving Inhabited
inductive ARes where
  | t (i : Nat)
  | c (i : Nat) (ag : Bool) (n : Nat)
  deriving Inhabited
structure AF where
  np : Nat
  nt : Nat
  res : List ARes
  body : AC
  deriving Inhabited
def chk {α : Type} (c : Prop) [Decidable c] (x : Option α) : Option α := if c then x else none
theorem chk_pos {α : Type} {c : Prop} [Decidable c] {x : Option α} (h : c) : chk c x = x := if_pos h
theorem chk_some {α : Type} {c : Prop} [Decidable c] {x : Option α} {r : α} : chk c x = some r ↔ c ∧ x = some r := by
  unfold chk; split <;> simp_all
def rd (S : Store) (b off vl n : Nat) : Option (List AV) :=
  match S[b]? with
  | some (.mu cs _) => chk (cs.length = vl ∧ off + n ≤ vl) (some ((cs.drop off).take n))
  | some (.fz cs) => chk (cs.length = vl ∧ off + n ≤ vl) (some ((cs.drop off).take n))
  | _ => none
def splice (cs : List AV) (off : Nat) (vs : List AV) : List AV := cs.take off ++ (vs ++ cs.drop (off + vs.length))
def wr (S : Store) (b off vl : Nat) (vs : List AV) : Option Store :=
  match S[b]? with
  | some (.mu cs ex) => chk (cs.length = vl ∧ off + vs.length ≤ vl) (some (S.set b (.mu (splice cs off vs) ex)))
  | _ => none
def AV.one : AV → Bool
  | .any | .agg _ | .tup _ | .osl .. | .tl .. => false
  | _ => true
def AV.whole : AV → Bool
  | .any | .tup _ | .osl .. | .tl .. => false
  | _ => true
def ofCells (ag : Bool) (cs : List AV) : Option AV := if ag then some (.agg cs) else cs.head?
def loadA (S : Store) (ag : Bool) (n : Nat) : AV → Option AV
  | .mptr b off vl => (rd S b off vl n).bind (ofCells ag)
  | .fptr cs => chk (n ≤ cs.length) (ofCells ag (cs.take n))
  | _ => none
def chunk (sz : Nat) : Nat → List AV → List AV
  | 0, _ => []
  | n + 1, cs => (if sz = 1 then cs.headD .any else .agg (cs.take sz)) :: chunk sz n (cs.drop sz)
def fzc (S : Store) : Nat → AV → Option AV
  | fuel, .bool b => some (.bool b)
  | fuel, .int k n => some (.int k n)
  | fuel, .str s => some (.str s)
  | fuel, .nilp => some .nilp
  | fuel, .nilfn => some .nilfn
  | fuel, .fptr cs => some (.fptr cs)
  | fuel, .sl es sz _ => some (.sl es sz false)
  | fuel + 1, .msl b off n sz vl _ => (rd S b off vl (n * sz)).bind fun cs => (cs.mapM (fzc S fuel)).bind fun cs' => some (.sl (chunk sz n cs') sz false)
  | fuel + 1, .mptr b off vl => (rd S b off vl (vl - off)).bind fun cs => (cs.mapM (fzc S fuel)).bind fun cs' => some (.fptr cs')
  | fuel + 1, .fn f caps => (caps.mapM (fzc S fuel)).bind fun cs' => some (.fn f cs')
  | _, _ => none
def fzDepth : Nat := 6
def fz1 (S : Store) : AV → Option AV
  | .agg cs => (cs.mapM (fzc S 5)).bind fun cs' => some (.agg cs')
  | v => fzc S fzDepth v
def fzv (S : Store) : AV → Option AV
  | .tup vs => (vs.mapM (fz1 S)).bind fun vs' => some (.tup vs')
  | v => fz1 S v
def nrc : AV → Bool
  | .bool _ | .int .. | .str _ | .nilp | .nilfn | .fptr _ | .sl .. => true
  | _ => false
def nr1 : AV → Bool
  | .agg cs => cs.all nrc
  | .fn _ caps => caps.all nrc
  | v => nrc v
def AV.bare : AV → Bool
  | .bool _ | .int .. | .str _ => true
  | .agg cs => cs.all fun | .bool _ | .int .. | .str _ => true | _ => false
  | .tup vs => vs.all fun | .bool _ | .int .. | .str _ => true | _ => false
  | _ => false
def ids (S : Store) : Nat → AV → List Nat
  | fuel + 1, .msl b off n sz vl _ => b :: (match S[b]? with | some (.mu cs _) => cs.flatMap (ids S fuel) | _ => [])
  | fuel + 1, .mptr b off vl => b :: (match S[b]? with | some (.mu cs _) => cs.flatMap (ids S fuel) | _ => [])
  | fuel + 1, .fn _ caps => caps.flatMap (ids S fuel)
  | fuel + 1, .agg cs => cs.flatMap (ids S fuel)
  | _, _ => []
def settle (S : Store) (all : List Nat) : List Nat → Store → Option Store
  | [], S' => some S'
  | b :: bs, S' => match S[b]? with
    | some (.mu cs _) => chk ((cs.flatMap (ids S fzDepth)).all all.contains = true) ((cs.mapM (fzc S fzDepth)).bind fun cs' => settle S all bs (S'.set b (.fz cs')))
    | _ => settle S all bs S'
def ltc (n : Nat) : AV → Bool
  | .msl b .. => decide (b < n)
  | .mptr b .. => decide (b < n)
  | .bool _ | .int .. | .str _ | .nilp | .nilfn | .fptr _ | .sl .. | .any => true
  | .tup [] => true
  | _ => false
def lt1 (n : Nat) : AV → Bool
  | .agg cs => cs.all (ltc n)
  | .fn _ caps => caps.all (ltc n)
  | .tup vs => vs.all (ltc n)
  | v => ltc n v
def Blk.lt (n : Nat) : Blk → Bool
  | .mu cs _ => cs.all (lt1 n)
  | _ => true
def trunc (n : Nat) (vs : List AV) (S : Store) : Store :=
  if vs.all (lt1 n) && (S.take n).all (Blk.lt n) then S.take n else S
def eqc : Option IntKind → AV → AV → Option Bool
  | none, .bool a, .bool b => some (a == b)
  | some q, .int k a, .int k' b => chk (k = q ∧ k' = q) (some (a == b))
  | _, _, _ => none
def eqcs (q : Option IntKind) : List AV → List AV → Option Bool
  | [], [] => some true
  | x :: xs, y :: ys => (eqc q x y).bind fun b => (eqcs q xs ys).bind fun c => some (b && c)
  | _, _ => none
def intBin (op : BinOp) (k : IntKind) (a b : Int) : Option AV :=
  match op with
  | .add => some (.int k (k.wrap (a + b)))
  | .sub => some (.int k (k.wrap (a - b)))
  | .mul => some (.int k (k.wrap (a * b)))
  | .quo => chk (b ≠ 0) (some (.int k (k.wrap (a.tdiv b))))
  | .rem => chk (b ≠ 0) (some (.int k (a.tmod b)))
  | .and => some (.int k (k.wrap (BitVec.ofInt k.bits a &&& BitVec.ofInt k.bits b).toNat))
  | .or => some (.int k (k.wrap (BitVec.ofInt k.bits a ||| BitVec.ofInt k.bits b).toNat))
  | .xor => some (.int k (k.wrap (BitVec.ofInt k.bits a ^^^ BitVec.ofInt k.bits b).toNat))
  | .andNot => some (.int k (k.wrap (BitVec.ofInt k.bits a &&& ~~~ BitVec.ofInt k.bits b).toNat))
  | .eql => some (.bool (a == b))
  | .neq => some (.bool (a != b))
  | .lss => some (.bool (a < b))
  | .leq => some (.bool (a ≤ b))
  | .gtr => some (.bool (a > b))
  | .geq => some (.bool (a ≥ b))
  | _ => none
def binA (op : BinOp) (x y : AV) : Option AV :=
  match op, x, y with
  | .shl, .int k a, .int _ b => chk (0 ≤ b) (some (.int k (k.wrap (a * 2 ^ (min b.toNat k.bits)))))
  | .shr, .int k a, .int _ b => chk (0 ≤ b) (some (.int k (a.fdiv (2 ^ (min b.toNat k.bits)))))
  | op, .int k a, .int k' b => chk (k = k') (intBin op k a b)
  | _, _, _ => none
def unA (op : UnOp) (x : AV) : Option AV :=
  match op, x with
  | .neg, .int k n => some (.int k (k.wrap (0 - n)))
  | .xor, .int k n => some (.int k (k.wrap (BitVec.ofInt k.bits (if k.signed then -1 else k.max) ^^^ BitVec.ofInt k.bits n).toNat))
  | .not, .bool b => some (.bool !b)
  | _, _ => none
def fillA : List (Nat × Nat) → List AV → List AV → Option (List AV)
  | [], [], cs => some cs
  | (off, n) :: ps, v :: vs, cs => chk (v.whole = true ∧ v.cells.length = n ∧ off + n ≤ cs.length) (fillA ps vs (splice cs off v.cells))
  | _, _, _ => none
def elt (sz : Nat) (v : AV) : AV := if sz = 1 then v.cells.headD .any else v
def fillE (sz : Nat) : List Nat → List AV → List AV → Option (List AV)
  | [], [], es => some es
  | i :: ix, v :: vs, es => chk (v.whole = true ∧ v.cells.length = sz ∧ i < es.length) (fillE sz ix vs (es.set i (elt sz v)))
  | _, _, _ => none
def bound (hi : Nat) : AV → Option Nat
  | .int _ n => chk (0 ≤ n ∧ n ≤ hi) (some n.toNat)
  | _ => none
def bounds (len cap : Nat) (lo hi mx : Bool) (vs : List AV) : Option (Nat × Nat × Option Nat) :=
  match lo, hi, mx, vs with
  | false, false, false, [] => some (0, len, none)
  | true, false, false, [l] => (bound len l).bind fun l => some (l, len, none)
  | false, true, false, [h] => (bound cap h).bind fun h => some (0, h, none)
  | true, true, false, [l, h] => (bound cap h).bind fun h => (bound h l).bind fun l => some (l, h, none)
  | false, true, true, [h, m] => (bound cap m).bind fun m => (bound m h).bind fun h => some (0, h, some m)
  | true, true, true, [l, h, m] => (bound cap m).bind fun m => (bound m h).bind fun h => (bound h l).bind fun l => some (l, h, some m)
  | _, _, _, _ => none
def tightAt (d : Bool) (h : Nat) : Option Nat → Bool
  | none => d
  | some m => m == h
def capAt (d : Option Nat) (l : Nat) : Option Nat → Option Nat
  | none => d
  | some m => some (m - l)
def sliceA (sz : Nat) (lo hi mx : Bool) (x : AV) (vs : List AV) : Option AV :=
  match x with
  | .sl es sz' t =>
    chk (sz = sz') ((bounds es.length es.length lo hi mx vs).bind fun (l, h, m) =>
      some (.sl ((es.drop l).take (h - l)) sz (tightAt (t && h == es.length) h m)))
  | .msl b off n sz' vl cap =>
    chk (sz = sz' ∧ 0 < sz ∧ off ≤ vl) ((bounds n (cap.getD ((vl - off) / sz)) lo hi mx vs).bind fun (l, h, m) =>
      chk (off + h * sz ≤ vl) (some (.msl b (off + l * sz) (h - l) sz vl (capAt (cap.map (· - l)) l m))))
  | _ => none
def sliceArr (n sz : Nat) (lo hi mx : Bool) (x : AV) (vs : List AV) : Option AV :=
  match x with
  | .mptr b off vl => (bounds n n lo hi mx vs).bind fun (l, h, m) =>
      chk (off + n * sz ≤ vl ∧ 0 < sz) (some (.msl b (off + l * sz) (h - l) sz vl (capAt (some (n - l)) l m)))
  | .fptr cs => (bounds n n lo hi mx vs).bind fun (l, h, m) =>
      chk (n * sz ≤ cs.length ∧ 0 < sz) (some (.sl (((chunk sz n (cs.take (n * sz))).drop l).take (h - l)) sz (tightAt (n == h) h m)))
  | _ => none
def held (S : Store) (sz : Nat) : AV → Option (Nat × List AV)
  | .sl es sz' _ => chk (sz = sz') (some (es.length, es.flatMap AV.cells))
  | .tl es sz' => chk (sz = sz') (some (es.length, es.flatMap AV.cells))
  | .msl b off n sz' vl _ => chk (sz = sz') ((rd S b off vl (n * sz)).bind fun cs => some (n, cs))
  | _ => none
def room (n bytes : Nat) : Prop := n * bytes ≤ 140737488355328
instance (n bytes : Nat) : Decidable (room n bytes) := inferInstanceAs (Decidable (_ ≤ _))
def appA (sz bytes : Nat) (S : Store) (s x : AV) : Option (AV × Store) :=
  (held S sz x).bind fun (m, xs) =>
  match s with
  | .sl es sz' t => chk (sz = sz') (
      if m = 0 then some (s, S) else
      chk (t = true ∧ room (es.length + m) bytes) (some (.msl S.length 0 (es.length + m) sz ((es.length + m) * sz) none, S ++ [.mu (es.flatMap AV.cells ++ xs) false])))
  | .msl b off n sz' vl cap => chk (sz = sz') (
      if m = 0 then some (s, S) else
      match cap with
      | some c =>
        if n + m ≤ c then (wr S b (off + n * sz) vl xs).bind fun S' => some (.msl b off (n + m) sz vl cap, S')
        else chk (room (n + m) bytes) ((rd S b off vl (n * sz)).bind fun cs => some (.msl S.length 0 (n + m) sz ((n + m) * sz) none, S ++ [.mu (cs ++ xs) false]))
      | none =>
        if off + (n + m) * sz ≤ vl then (wr S b (off + n * sz) vl xs).bind fun S' => some (.msl b off (n + m) sz vl none, S')
        else chk (room (n + m) bytes) (match S[b]? with
          | some (.mu cs true) => chk (cs.length = vl ∧ off + n * sz ≤ vl) (some (.msl S.length 0 (n + m) sz ((n + m) * sz) none, S ++ [.mu ((cs.drop off).take (n * sz) ++ xs) false]))
          | some (.mu cs false) => chk (cs.length = vl ∧ off = 0 ∧ n * sz ≤ vl) (some (.msl b 0 (n + m) sz ((n + m) * sz) none, S.set b (.mu (cs.take (n * sz) ++ xs) false)))
          | _ => none))
  | _ => none
def minA : List AV → Option AV
  | [.int k a, .int k' b] => chk (k = k') (some (.int k (if b < a then b else a)))
  | [.int k a, .int k' b, .int k'' c] => chk (k = k' ∧ k = k'') (some (.int k (if c < (if b < a then b else a) then c else (if b < a then b else a))))
  | _ => none
def maxA : List AV → Option AV
  | [.int k a, .int k' b] => chk (k = k') (some (.int k (if b > a then b else a)))
  | [.int k a, .int k' b, .int k'' c] => chk (k = k' ∧ k = k'') (some (.int k (if c > (if b > a then b else a) then c else (if b > a then b else a))))
  | _ => none
abbrev RunF := Nat → List AV → Store → Option (AV × Store)
def takeOwn (S : Store) : AV → Option (AV × Store)
  | .msl b off n sz vl none => match S[b]? with
    | some (.mu cs ex) => chk (off = 0 ∧ cs.length = vl ∧ n * sz ≤ vl) ((((cs.take (n * sz)).mapM (fzc (S.set b .dead) fzDepth))).bind fun cs' => some (.osl cs' n sz (ex && n * sz == vl), S.set b .dead))
    | _ => none
  | .sl es sz t => some (.sl es sz t, S)
  | _ => none
def ownRes (S : Store) (i : Nat) : AV → Option AV
  | .tup vs => match vs[i]? with
    | some v => (takeOwn S v).bind fun (o, S') => ((vs.eraseIdx i).mapM (fz1 S')).bind fun r => some (.tup (r.take i ++ o :: r.drop i))
    | none => none
  | v => (takeOwn S v).map (·.1)
def land1 (S : Store) : AV → AV × Store
  | .osl cs n sz ex => (.msl S.length 0 n sz cs.length none, S ++ [.mu cs ex])
  | v => (v, S)
def AV.isOsl : AV → Bool
  | .osl .. => true
  | _ => false
def land (S : Store) : AV → AV × Store
  | .tup vs => match vs.findIdx? AV.isOsl with
    | some i => let (v, S') := land1 S (vs.getD i .any); (.tup (vs.set i v), S')
    | none => (.tup vs, S)
  | v => land1 S v
def callPure (R : RunF) (f : Nat) (args : List AV) : Option AV := (R f args []).bind fun (r, S') => fzv S' r
def callOwn (R : RunF) (i : Nat) (f : Nat) (args : List AV) : Option AV := (R f args []).bind fun (r, S') => ownRes S' i r
def callSh (R : RunF) (f : Nat) (args : List AV) (S : Store) : Option (AV × Store) :=
  (R f args S).bind fun (r, S') => some (r, trunc S.length [r] S')
def after (strict : Bool) (S : Store) (args : List AV) (r : AV) : Option Store :=
  if args.all nr1 || r.bare then some S
  else if strict then none
  else settle S (args.flatMap (ids S fzDepth)) (args.flatMap (ids S fzDepth)) S
def doCall (R : RunF) (m : CM) (strict : Bool) (f : Nat) (args : List AV) (S : Store) : Option (AV × Store) :=
  match m with
  | .pure => (args.mapM (fz1 S)).bind fun as => (callPure R f as).bind fun r => (after strict S args r).bind fun S' => some (r, S')
  | .own i => (args.mapM (fz1 S)).bind fun as => (callOwn R i f as).bind fun r => (after strict S args r).bind fun S' => some (land S' r)
  | .sh => callSh R f args S
def opA (R : RunF) (k : K) (vs : List AV) (S : Store) : Option (AV × Store) :=
  match k, vs with
  | .mv, [x] => some (x, S)
  | .own sz, [.sl [] _ true] => chk (0 < sz) (some (.msl S.length 0 0 sz 0 none, S ++ [.mu [] false]))
  | .pick, [.bool c, a, b] => some (if c then a else b, S)
  | .alloc z, [] => some (.mptr S.length 0 z.length, S ++ [.mu z true])
  | .box n, [v] => chk (v.whole = true ∧ v.cells.length = n) (some (.mptr S.length 0 n, S ++ [.mu v.cells true]))
  | .build z ps, vs => (fillA ps vs z).bind fun cs => some (.agg cs, S)
  | .lit sz z len ix, vs =>
      if vs.all nr1 then ((vs.mapM (fz1 S)).bind fun vs => (fillE sz ix vs (List.replicate len z)).bind fun es => some (.sl es sz true, S))
      else (fillE sz ix vs (List.replicate len z)).bind fun es => some (.tl es sz, S)
  | .litm sz z len ix, vs => (fillE sz ix vs (List.replicate len z)).bind fun es => some (.msl S.length 0 len sz (len * sz) none, S ++ [.mu (es.flatMap AV.cells) true])
  | .load ag n, [a] => (loadA S ag n a).bind fun v => some (v, S)
  | .loadf ag n, [.fptr cs] => chk (n ≤ cs.length) ((ofCells ag (cs.take n)).bind fun v => some (v, S))
  | .store n, [.mptr b off vl, v] => chk (v.whole = true ∧ v.cells.length = n) ((wr S b off vl v.cells).bind fun S' => some (.tup [], S'))
  | .nilChk, [.fn f cs] => some (.fn f cs, S)
  | .nilChk, [.mptr b off vl] => some (.mptr b off vl, S)
  | .nilChk, [.fptr cs] => some (.fptr cs, S)
  | .bin op, [x, y] => (binA op x y).bind fun v => some (v, S)
  | .eqb neg, [.bool a, .bool b] => some (.bool (if neg then a != b else a == b), S)
  | .eqa neg q n, [.agg xs, .agg ys] => chk (xs.length = n ∧ ys.length = n) ((eqcs q xs ys).bind fun b => some (.bool (if neg then !b else b), S))
  | .un op, [x] => (unA op x).bind fun v => some (v, S)
  | .conv k, [.int _ n] => some (.int k (k.wrap n), S)
  | .mkfn f, caps => some (.fn f caps, S)
  | .mks sz bytes z, [.int _ l, .int _ c] => chk (0 ≤ l ∧ l ≤ c ∧ room c.toNat bytes ∧ 0 < sz ∧ c ≤ 281474976710656 ∧ z.length = sz)
      (some (.msl S.length 0 l.toNat sz (c.toNat * sz) none, S ++ [.mu (List.replicate c.toNat z).flatten true]))
  | .slc sz lo hi mx, x :: vs => (sliceA sz lo hi mx x vs).bind fun v => some (v, S)
  | .slca n sz lo hi mx, x :: vs => (sliceArr n sz lo hi mx x vs).bind fun v => some (v, S)
  | .faddr off n, [.mptr b o vl] => chk (o + off + n ≤ vl) (some (.mptr b (o + off) vl, S))
  | .faddr off n, [.fptr cs] => chk (off + n ≤ cs.length) (some (.fptr (cs.drop off), S))
  | .fld ag off n, [.agg cs] => chk (off + n ≤ cs.length) ((ofCells ag ((cs.drop off).take n)).bind fun v => some (v, S))
  | .iaa n sz, [.mptr b off vl, .int _ i] => chk (0 ≤ i ∧ i < n) (some (.mptr b (off + i.toNat * sz) vl, S))
  | .iaa n sz, [.fptr cs, .int _ i] => chk (0 ≤ i ∧ i < n) (some (.fptr (cs.drop (i.toNat * sz)), S))
  | .ias sz, [.sl es sz' _, .int _ i] => chk (0 ≤ i ∧ i < es.length ∧ sz = sz') ((es[i.toNat]?).bind fun e => some (.fptr e.cells, S))
  | .ias sz, [.msl b off n sz' vl _, .int _ i] => chk (0 ≤ i ∧ i < n ∧ sz = sz') (some (.mptr b (off + i.toNat * sz) vl, S))
  | .ixa ag n sz, [.agg cs, .int _ i] => chk (0 ≤ i ∧ i < n ∧ n * sz ≤ cs.length) ((ofCells ag ((cs.drop (i.toNat * sz)).take sz)).bind fun v => some (v, S))
  | .ixs, [.str s, .int _ i] => chk (0 ≤ i) ((s[i.toNat]?).bind fun b => some (.int .u8 b.toNat, S))
  | .ext i, [.tup vs] => (vs[i]?).bind fun v => some (v, S)
  | .len, [.sl es _ _] => some (.int .i64 es.length, S)
  | .len, [.msl _ _ n _ _ _] => some (.int .i64 n, S)
  | .lens, [.str s] => some (.int .i64 s.size, S)
  | .lenc n, [x] => some (.int .i64 n, S)
  | .app sz bytes, [s, x] => appA sz bytes S s x
  | .clone sz bytes, [x] => appA sz bytes S (.sl [] sz true) x
  | .cpy sz, [.msl b off n sz' vl cap, x] => chk (sz = sz') ((held S sz x).bind fun (m, xs) =>
      (wr S b off vl (xs.take (min m n * sz))).bind fun S' => some (.int .i64 ((min m n : Nat) : Int), S'))
  | .clr sz z, [.msl b off n sz' vl cap] => chk (sz = sz' ∧ z.length = sz) ((wr S b off vl (List.replicate n z).flatten).bind fun S' => some (.tup [], S'))
  | .mn, vs => (minA vs).bind fun v => some (v, S)
  | .mx, vs => (maxA vs).bind fun v => some (v, S)
  | .call m strict f, vs => doCall R m strict f vs S
  | .callv m strict, .fn f caps :: vs => doCall R m strict f (vs ++ caps) S
  | _, _ => none
structure St where
  tm : List AV
  st : Store
def put (tm : List AV) (d : Option Nat) (v : AV) : List AV :=
  match d with
  | some d => tm.set d v
  | none => tm
inductive Wan where | yes | no | lost
def wants (tm : List AV) : Option (Nat × Bool) → Wan
  | none => .yes
  | some (t, w) => match tm.getD t .any with
    | .bool b => if b = w then .yes else .no
    | .tup [] => .no
    | _ => .lost
def stepR (R : RunF) (o : ROp) (s : St) : Option St :=
  match wants s.tm o.g with
  | .yes => (opA R o.k (o.args.map (·.ev s.tm)) s.st).bind fun (v, S) => some ⟨put s.tm o.dst v, S⟩
  | .no => some ⟨put s.tm o.dst (.tup []), s.st⟩
  | .lost => none
def runOps (R : RunF) : List ROp → St → Option St
  | [], s => some s
  | o :: os, s => (stepR R o s).bind (runOps R os)
inductive Flow where
  | nrm
  | ex (id : Nat)
  | ret
  deriving DecidableEq
def mask : List Bool → List AV → List AV
  | _, [] => []
  | [], _ :: vs => .any :: mask [] vs
  | b :: bs, v :: vs => (bif b then v else .any) :: mask bs vs
abbrev Body := St → Option (Flow × St)
abbrev IterF := Body → Body
def afterFlow (k : St → Option (Flow × St)) : Flow × St → Option (Flow × St)
  | (.nrm, s) => k s
  | r => some r
def catchEx (id : Nat) : Flow × St → Flow × St
  | (.ex i, s) => if i = id then (.nrm, s) else (.ex i, s)
  | r => r
def head (live : List Bool) (base : Nat) (s : St) : St :=
  let tm := mask live s.tm
  ⟨tm, trunc base tm s.st⟩
def exec (R : RunF) (it : IterF) : AC → Body
  | .skip, s => some (.nrm, s)
  | .reg ops, s => (runOps R ops s).bind fun s => some (.nrm, s)
  | .seq a b, s => (exec R it a s).bind (afterFlow (exec R it b))
  | .cond c a b, s => match c.ev s.tm with
    | .bool true => exec R it a s
    | .bool false => exec R it b s
    | _ => none
  | .block id b, s => (exec R it b s).bind fun r => some (catchEx id r)
  | .loop live b, s => it (fun s' => exec R it b (head live s.st.length s')) s
  | .exit id, s => some (.ex id, s)
  | .ret, s => some (.ret, s)
def resA (s : St) : ARes → Option AV
  | .t i => some (s.tm.getD i .any)
  | .c i ag n => loadA s.st ag n (s.tm.getD i .any)
def resAll (s : St) (rs : List ARes) : Option AV :=
  (rs.mapM (resA s)).bind fun vs => some (match vs with | [v] => v | vs => .tup vs)
def enter (af : AF) (args : List AV) (S : Store) : St := ⟨args ++ List.replicate (af.nt - args.length) (.tup []), S⟩
def runBody (R : RunF) (it : IterF) (af : AF) (args : List AV) (S : Store) : Option (AV × Store) :=
  chk (args.length = af.np) ((exec R it af.body (enter af args S)).bind fun
    | (.ex _, _) => none
    | (_, s) => (resAll s af.res).bind fun v => some (v, s.st))
end Go.AVM
namespace Go.AVM
open Classical in
noncomputable def lim {α : Type} (g : Nat → Option α) : Option α := if h : ∃ n a, g n = some a then g (Classical.choose h) else none
def Rising {α : Type} (g : Nat → Option α) : Prop := ∀ n a, g n = some a → g (n + 1) = some a
theorem Rising.le {α : Type} {g : Nat → Option α} (h : Rising g) {n m : Nat} (hnm : n ≤ m) {a : α} (ha : g n = some a) : g m = some a := by
  induction hnm with
  | refl => exact ha
  | step _ ih => exact h _ _ ih
theorem lim_some {α : Type} {g : Nat → Option α} (h : Rising g) {a : α} : lim g = some a ↔ ∃ n, g n = some a := by
  unfold lim
  constructor
  · intro e
    split at e
    · exact ⟨_, e⟩
    · cases e
  · rintro ⟨n, hn⟩
    have hex : ∃ n a, g n = some a := ⟨n, a, hn⟩
    rw [dif_pos hex]
    obtain ⟨b, hb⟩ := Classical.choose_spec hex
    rw [hb]
    have h1 := h.le (Nat.le_max_left n (Classical.choose hex)) hn
    have h2 := h.le (Nat.le_max_right n (Classical.choose hex)) hb
    rw [h1] at h2
    exact h2.symm
theorem lim_eq {α : Type} {g g' : Nat → Option α} (h : Rising g) (h' : Rising g') (he : ∀ a, (∃ n, g n = some a) ↔ ∃ n, g' n = some a) : lim g = lim g' := by
  cases e : lim g with
  | some a => exact ((lim_some h').2 ((he a).1 ((lim_some h).1 e))).symm
  | none =>
    cases e' : lim g' with
    | none => rfl
    | some a =>
      have := (lim_some h).2 ((he a).2 ((lim_some h').1 e'))
      rw [e] at this
      cases this
def iterN : Nat → Body → Body
  | 0, _, _ => none
  | n + 1, f, s => (f s).bind (afterFlow (iterN n f))
theorem iterN_rising (f : Body) (s : St) : Rising fun n => iterN n f s := by
  intro n
  show ∀ a, iterN n f s = some a → iterN (n + 1) f s = some a
  induction n generalizing s with
  | zero => intro a h; simp [iterN] at h
  | succ n ih =>
    intro a h
    rw [iterN] at h ⊢
    cases hf : f s with
    | none => rw [hf] at h; simp at h
    | some r =>
      rw [hf] at h
      obtain ⟨fl, s'⟩ := r
      cases fl with
      | nrm => exact ih s' a h
      | ex i => exact h
      | ret => exact h
noncomputable def iter : IterF := fun f s => lim fun n => iterN n f s
theorem iter_some {f : Body} {s : St} {x : Flow × St} : iter f s = some x ↔ ∃ n, iterN n f s = some x := lim_some (iterN_rising f s)
theorem iter_eq (f : Body) (s : St) : iter f s = (f s).bind (afterFlow (iter f)) := by
  cases hf : f s with
  | none =>
    cases e : iter f s with
    | none => rfl
    | some x =>
      obtain ⟨n, hn⟩ := iter_some.1 e
      cases n with
      | zero => simp [iterN] at hn
      | succ n => rw [iterN, hf] at hn; simp at hn
  | some r =>
    obtain ⟨fl, s'⟩ := r
    cases fl with
    | nrm =>
      show iter f s = iter f s'
      unfold iter
      refine lim_eq (iterN_rising f s) (iterN_rising f s') fun a => ⟨?_, ?_⟩
      · rintro ⟨n, hn⟩
        cases n with
        | zero => simp [iterN] at hn
        | succ n => rw [iterN, hf] at hn; exact ⟨n, hn⟩
      · rintro ⟨n, hn⟩
        exact ⟨n + 1, by rw [iterN, hf]; exact hn⟩
    | ex i =>
      refine iter_some.2 ⟨1, ?_⟩
      rw [iterN, hf]; rfl
    | ret =>
      refine iter_some.2 ⟨1, ?_⟩
      rw [iterN, hf]; rfl
def LeR (R R' : RunF) : Prop := ∀ f a S x, R f a S = some x → R' f a S = some x
theorem bind_mono {α β : Type} {x x' : Option α} {k k' : α → Option β} (hx : ∀ a, x = some a → x' = some a) (hk : ∀ a b, k a = some b → k' a = some b) {b : β} (h : x.bind k = some b) : x'.bind k' = some b := by
  cases hxa : x with
  | none => rw [hxa] at h; cases h
  | some a => rw [hx a hxa]; rw [hxa] at h; exact hk a b h
theorem callPure_mono {R R' : RunF} (h : LeR R R') {f : Nat} {as : List AV} {r : AV} (e : callPure R f as = some r) : callPure R' f as = some r :=
  bind_mono (h f as []) (fun _ _ x => x) e
theorem callOwn_mono {R R' : RunF} (h : LeR R R') {i f : Nat} {as : List AV} {r : AV} (e : callOwn R i f as = some r) : callOwn R' i f as = some r :=
  bind_mono (h f as []) (fun _ _ x => x) e
theorem callSh_mono {R R' : RunF} (h : LeR R R') {f : Nat} {as : List AV} {S : Store} {r : AV × Store} (e : callSh R f as S = some r) : callSh R' f as S = some r :=
  bind_mono (h f as S) (fun _ _ x => x) e
theorem doCall_mono {R R' : RunF} (h : LeR R R') {m : CM} {st : Bool} {f : Nat} {as : List AV} {S : Store} {r : AV × Store} (e : doCall R m st f as S = some r) : doCall R' m st f as S = some r := by
  cases m with
  | pure => exact bind_mono (fun _ x => x) (fun a b => bind_mono (fun r => callPure_mono h) (fun _ _ x => x)) e
  | own i => exact bind_mono (fun _ x => x) (fun a b => bind_mono (fun r => callOwn_mono h) (fun _ _ x => x)) e
  | sh => exact callSh_mono h e
def K.calls : K → Bool
  | .call .. | .callv .. => true
  | _ => false
theorem opA_free {k : K} (hk : k.calls = false) (R R' : RunF) (vs : List AV) (S : Store) : opA R k vs S = opA R' k vs S := by
  unfold opA
  split <;> first | rfl | (simp [K.calls] at hk)
theorem opA_mono {R R' : RunF} (h : LeR R R') {k : K} {vs : List AV} {S : Store} {r : AV × Store} (e : opA R k vs S = some r) : opA R' k vs S = some r := by
  cases hk : k.calls with
  | false => rw [← opA_free hk R R']; exact e
  | true =>
    cases k <;> simp [K.calls] at hk
    case call m st f =>
      cases vs <;> exact doCall_mono h e
    case callv m st =>
      cases vs with
      | nil => simp [opA] at e
      | cons v vs =>
        cases v <;> simp only [opA] at e ⊢ <;> first | exact doCall_mono h e | cases e
theorem stepR_mono {R R' : RunF} (h : LeR R R') {o : ROp} {s s' : St} (e : stepR R o s = some s') : stepR R' o s = some s' := by
  unfold stepR at e ⊢
  split at e
  · exact bind_mono (fun _ => opA_mono h) (fun _ _ x => x) e
  · exact e
  · exact e
theorem runOps_mono {R R' : RunF} (h : LeR R R') : ∀ {os : List ROp} {s s' : St}, runOps R os s = some s' → runOps R' os s = some s'
  | [], _, _, e => e
  | o :: os, s, s', e => bind_mono (fun _ => stepR_mono h) (fun _ _ => runOps_mono h) e
theorem afterFlow_mono {k k' : Body} (h : ∀ s x, k s = some x → k' s = some x) {r x : Flow × St} (e : afterFlow k r = some x) : afterFlow k' r = some x := by
  obtain ⟨fl, s⟩ := r
  cases fl with
  | nrm => exact h _ _ e
  | ex i => exact e
  | ret => exact e
theorem iterN_mono {f f' : Body} (h : ∀ s x, f s = some x → f' s = some x) : ∀ (n : Nat) {s : St} {x : Flow × St}, iterN n f s = some x → iterN n f' s = some x
  | 0, _, _, e => e
  | n + 1, s, x, e => bind_mono (h s) (fun _ _ => afterFlow_mono fun _ _ => iterN_mono h n) e
theorem exec_mono {R R' : RunF} (h : LeR R R') : ∀ (c : AC) {s : St} {x : Flow × St}, exec R iter c s = some x → exec R' iter c s = some x
  | .skip, _, _, e => e
  | .reg ops, _, _, e => bind_mono (fun _ => runOps_mono h) (fun _ _ x => x) e
  | .seq a b, _, _, e => bind_mono (fun _ => exec_mono h a) (fun _ _ => afterFlow_mono fun _ _ => exec_mono h b) e
  | .cond c a b, s, x, e => by
    unfold exec at e ⊢
    split at e
    · exact exec_mono h a e
    · exact exec_mono h b e
    · exact e
  | .block id b, _, _, e => bind_mono (fun _ => exec_mono h b) (fun _ _ x => x) e
  | .loop live b, s, x, e => by
    obtain ⟨n, hn⟩ := iter_some.1 e
    exact iter_some.2 ⟨n, iterN_mono (fun s' x => exec_mono h b) n hn⟩
  | .exit id, _, _, e => e
  | .ret, _, _, e => e
theorem runBody_mono {R R' : RunF} (h : LeR R R') {af : AF} {args : List AV} {S : Store} {x : AV × Store} (e : runBody R iter af args S = some x) : runBody R' iter af args S = some x := by
  unfold runBody at e ⊢
  rw [chk_some] at e ⊢
  exact ⟨e.1, bind_mono (fun _ => exec_mono h af.body) (fun _ _ x => x) e.2⟩
section compact
variable {R : Nat → RunF} (hR : ∀ n, LeR (R n) (R (n + 1)))
include hR
theorem chain_le {n m : Nat} (h : n ≤ m) : LeR (R n) (R m) := by
  induction h with
  | refl => exact fun _ _ _ _ x => x
  | step _ ih => exact fun f a S x e => hR _ f a S x (ih f a S x e)
theorem bind_compact {α β : Type} {x : Option α} {k : α → Option β} {b : β} (x' : Nat → Option α) (k' : Nat → α → Option β)
    (mx : ∀ n m, n ≤ m → ∀ a, x' n = some a → x' m = some a) (mk : ∀ n m, n ≤ m → ∀ a b, k' n a = some b → k' m a = some b)
    (hx : ∀ a, x = some a → ∃ n, x' n = some a) (hk : ∀ a b, k a = some b → ∃ n, k' n a = some b) (h : x.bind k = some b) : ∃ n, (x' n).bind (k' n) = some b := by
  cases hxa : x with
  | none => rw [hxa] at h; cases h
  | some a =>
    rw [hxa] at h
    obtain ⟨n1, h1⟩ := hx a hxa
    obtain ⟨n2, h2⟩ := hk a b h
    refine ⟨max n1 n2, ?_⟩
    rw [mx _ _ (Nat.le_max_left n1 n2) _ h1]
    exact mk _ _ (Nat.le_max_right n1 n2) _ _ h2
noncomputable def limR (R : Nat → RunF) : RunF := fun f a S => lim fun n => R n f a S
theorem limR_some {f : Nat} {a : List AV} {S : Store} {x : AV × Store} : limR R f a S = some x ↔ ∃ n, R n f a S = some x := lim_some fun n x => hR n f a S x
theorem limR_ge (n : Nat) : LeR (R n) (limR R) := fun f a S x e => (limR_some hR).2 ⟨n, e⟩
theorem doCall_compact {m : CM} {st : Bool} {f : Nat} {as : List AV} {S : Store} {r : AV × Store} (e : doCall (limR R) m st f as S = some r) : ∃ n, doCall (R n) m st f as S = some r := by
  have key : ∀ (a : List AV) (S0 : Store) {β : Type} (k : AV × Store → Option β) (b : β), ((limR R f a S0).bind k = some b) → ∃ n, (R n f a S0).bind k = some b := by
    intro a S0 β k b h
    cases hx : limR R f a S0 with
    | none => rw [hx] at h; cases h
    | some x =>
      obtain ⟨n, hn⟩ := (limR_some hR).1 hx
      exact ⟨n, by rw [hn]; rw [hx] at h; exact h⟩
  cases m with
  | pure =>
    simp only [doCall] at e ⊢
    cases ha : as.mapM (fz1 S) with
    | none => rw [ha] at e; cases e
    | some a =>
      rw [ha] at e
      simp only [Option.bind_some, callPure] at e ⊢
      rw [Option.bind_assoc] at e
      obtain ⟨n, hn⟩ := key a [] _ _ e
      exact ⟨n, by rw [Option.bind_assoc]; exact hn⟩
  | own i =>
    simp only [doCall] at e ⊢
    cases ha : as.mapM (fz1 S) with
    | none => rw [ha] at e; cases e
    | some a =>
      rw [ha] at e
      simp only [Option.bind_some, callOwn] at e ⊢
      rw [Option.bind_assoc] at e
      obtain ⟨n, hn⟩ := key a [] _ _ e
      exact ⟨n, by rw [Option.bind_assoc]; exact hn⟩
  | sh => exact key as S _ _ e
theorem opA_compact {k : K} {vs : List AV} {S : Store} {r : AV × Store} (e : opA (limR R) k vs S = some r) : ∃ n, opA (R n) k vs S = some r := by
  cases hk : k.calls with
  | false => exact ⟨0, by rw [opA_free hk (R 0) (limR R)]; exact e⟩
  | true =>
    cases k <;> simp [K.calls] at hk
    case call m st f =>
      cases vs <;> exact doCall_compact hR e
    case callv m st =>
      cases vs with
      | nil => simp [opA] at e
      | cons v vs =>
        cases v <;> simp only [opA] at e ⊢ <;> first | exact doCall_compact hR e | cases e
theorem stepR_compact {o : ROp} {s s' : St} (e : stepR (limR R) o s = some s') : ∃ n, stepR (R n) o s = some s' := by
  unfold stepR at e ⊢
  split at e
  · cases ho : opA (limR R) o.k (o.args.map (·.ev s.tm)) s.st with
    | none => rw [ho] at e; cases e
    | some x =>
      obtain ⟨n, hn⟩ := opA_compact hR ho
      exact ⟨n, by simp only [hn]; rw [ho] at e; exact e⟩
  · exact ⟨0, e⟩
  · exact ⟨0, e⟩
theorem runOps_compact : ∀ {os : List ROp} {s s' : St}, runOps (limR R) os s = some s' → ∃ n, runOps (R n) os s = some s'
  | [], _, _, e => ⟨0, e⟩
  | o :: os, s, s', e => bind_compact hR (fun n => stepR (R n) o s) (fun n => runOps (R n) os) (fun n m h a => stepR_mono (chain_le hR h)) (fun n m h a b => runOps_mono (chain_le hR h))
      (fun a => stepR_compact hR) (fun a b => runOps_compact) e
theorem afterFlow_compact {k : Body} (k' : Nat → Body) (hk : ∀ s x, k s = some x → ∃ n, k' n s = some x) {r x : Flow × St} (e : afterFlow k r = some x) : ∃ n, afterFlow (k' n) r = some x := by
  obtain ⟨fl, s⟩ := r
  cases fl with
  | nrm => exact hk _ _ e
  | ex i => exact ⟨0, e⟩
  | ret => exact ⟨0, e⟩
theorem iterN_compact {f : Body} (f' : Nat → Body) (mf : ∀ n m, n ≤ m → ∀ s x, f' n s = some x → f' m s = some x) (hf : ∀ s x, f s = some x → ∃ n, f' n s = some x) :
    ∀ (k : Nat) {s : St} {x : Flow × St}, iterN k f s = some x → ∃ n, iterN k (f' n) s = some x
  | 0, _, _, e => by simp [iterN] at e
  | k + 1, s, x, e => bind_compact hR (fun n => f' n s) (fun n => afterFlow (iterN k (f' n))) (fun n m h a => mf n m h s a)
      (fun n m h a b => afterFlow_mono fun s x => iterN_mono (mf n m h) k) (hf s)
      (fun a b => afterFlow_compact hR (fun n => iterN k (f' n)) fun s x => iterN_compact f' mf hf k) e
theorem exec_compact : ∀ (c : AC) {s : St} {x : Flow × St}, exec (limR R) iter c s = some x → ∃ n, exec (R n) iter c s = some x
  | .skip, _, _, e => ⟨0, e⟩
  | .reg ops, s, _, e => bind_compact hR (fun n => runOps (R n) ops s) (fun n s => some (Flow.nrm, s)) (fun n m h a => runOps_mono (chain_le hR h)) (fun _ _ _ _ _ x => x)
      (fun a => runOps_compact hR) (fun _ _ x => ⟨0, x⟩) e
  | .seq a b, s, _, e => bind_compact hR (fun n => exec (R n) iter a s) (fun n => afterFlow (exec (R n) iter b)) (fun n m h _ => exec_mono (chain_le hR h) a)
      (fun n m h _ _ => afterFlow_mono fun _ _ => exec_mono (chain_le hR h) b) (fun _ => exec_compact a)
      (fun _ _ => afterFlow_compact hR (fun n => exec (R n) iter b) fun _ _ => exec_compact b) e
  | .cond c a b, s, x, e => by
    unfold exec at e ⊢
    split at e
    · exact exec_compact a e
    · exact exec_compact b e
    · cases e
  | .block id b, s, _, e => bind_compact hR (fun n => exec (R n) iter b s) (fun n r => some (catchEx id r)) (fun n m h _ => exec_mono (chain_le hR h) b) (fun _ _ _ _ _ x => x)
      (fun _ => exec_compact b) (fun _ _ x => ⟨0, x⟩) e
  | .loop live b, s, x, e => by
    obtain ⟨k, hk⟩ := iter_some.1 e
    obtain ⟨n, hn⟩ := iterN_compact hR (fun n s' => exec (R n) iter b (head live s.st.length s')) (fun n m h s x => exec_mono (chain_le hR h) b) (fun s x => exec_compact b) k hk
    exact ⟨n, iter_some.2 ⟨k, hn⟩⟩
  | .exit id, _, _, e => ⟨0, e⟩
  | .ret, _, _, e => ⟨0, e⟩
theorem runBody_compact {af : AF} {args : List AV} {S : Store} {x : AV × Store} (e : runBody (limR R) iter af args S = some x) : ∃ n, runBody (R n) iter af args S = some x := by
  unfold runBody at e
  rw [chk_some] at e
  obtain ⟨h, e⟩ := e
  obtain ⟨n, hn⟩ := bind_compact hR (fun n => exec (R n) iter af.body (enter af args S)) (fun n (r : Flow × St) => match r with | (.ex _, _) => none | (_, s) => (resAll s af.res).bind fun v => some (v, s.st))
    (fun n m h _ => exec_mono (chain_le hR h) af.body) (fun _ _ _ _ _ x => x) (fun _ => exec_compact hR af.body) (fun _ _ x => ⟨0, x⟩) e
  exact ⟨n, by unfold runBody; rw [chk_some]; exact ⟨h, hn⟩⟩
end compact
abbrev Prog := Nat → Option AF
noncomputable def runN (P : Prog) : Nat → RunF
  | 0 => fun _ _ _ => none
  | n + 1 => fun f args S => (P f).bind fun af => runBody (runN P n) iter af args S
theorem runN_step (P : Prog) : ∀ n, LeR (runN P n) (runN P (n + 1))
  | 0 => fun _ _ _ _ e => by simp [runN] at e
  | n + 1 => fun f a S x e => bind_mono (fun _ x => x) (fun af y => runBody_mono (runN_step P n)) e
noncomputable def run (P : Prog) : RunF := limR (runN P)
theorem run_some {P : Prog} {f : Nat} {a : List AV} {S : Store} {x : AV × Store} : run P f a S = some x ↔ ∃ n, runN P n f a S = some x := limR_some (runN_step P)
theorem run_eq (P : Prog) (f : Nat) (a : List AV) (S : Store) : run P f a S = (P f).bind fun af => runBody (run P) iter af a S := by
  cases hp : P f with
  | none =>
    cases e : run P f a S with
    | none => rfl
    | some x =>
      obtain ⟨n, hn⟩ := run_some.1 e
      cases n <;> simp [runN, hp] at hn
  | some af =>
    show _ = runBody (run P) iter af a S
    cases e : run P f a S with
    | some x =>
      obtain ⟨n, hn⟩ := run_some.1 e
      cases n with
      | zero => simp [runN] at hn
      | succ n =>
        simp only [runN, hp, Option.bind_some] at hn
        exact (runBody_mono (limR_ge (runN_step P) n) hn).symm
    | none =>
      cases e' : runBody (run P) iter af a S with
      | none => rfl
      | some x =>
        obtain ⟨n, hn⟩ := runBody_compact (runN_step P) e'
        have : run P f a S = some x := run_some.2 ⟨n + 1, by simp only [runN, hp, Option.bind_some]; exact hn⟩
        rw [e] at this
        cases this
end Go.AVM
namespace Go.AVM
abbrev Mem := Nat → Nat → Option Value
abbrev JMap := Nat → Nat → Option (Option (Nat × Nat × Nat))
def _root_.Go.Value.plain (v : Value) : Prop := (∀ cs, v ≠ .agg cs) ∧ (∀ cs, v ≠ .tuple cs)
section
variable (fid : Nat → FuncId)
inductive FRep (M : Mem) : AV → Value → Prop
  | bool (b) : FRep M (.bool b) (.bool b)
  | int (k n) : FRep M (.int k n) (.int k n)
  | str (s) : FRep M (.str s) (.string s)
  | nilp : FRep M .nilp (.pointer none)
  | nilfn : FRep M .nilfn .nilFunc
  | fptr (cs : List AV) (blk off : Nat) (cv : Nat → Value) (h1 : ∀ (k : Nat) (x : AV), cs[k]? = some x → M blk (off + k) = some (cv k)) (h2 : ∀ (k : Nat) (x : AV), cs[k]? = some x → FRep M x (cv k)) :
      FRep M (.fptr cs) (.pointer (some ⟨blk, off, none⟩))
  | slN (sz : Nat) (t : Bool) (a : Option Addr) (c : Nat) (ht : t = true → c = 0) : FRep M (.sl [] sz t) (.slice a 0 c)
  | slC (es : List AV) (sz : Nat) (t : Bool) (blk off c : Nat) (cv : Nat → Nat → Value) (hc : es.length ≤ c) (ht : t = true → c = es.length)
      (hz : ∀ (i : Nat) (e : AV), es[i]? = some e → e.cells.length = sz)
      (h1 : ∀ (i : Nat) (e : AV), es[i]? = some e → ∀ (k : Nat) (x : AV), e.cells[k]? = some x → M blk (off + i * sz + k) = some (cv i k))
      (h2 : ∀ (i : Nat) (e : AV), es[i]? = some e → ∀ (k : Nat) (x : AV), e.cells[k]? = some x → FRep M x (cv i k)) :
      FRep M (.sl es sz t) (.slice (some ⟨blk, off, none⟩) es.length c)
  | agg (cs : List AV) (vs : Array Value) (hs : vs.size = cs.length) (cv : Nat → Value) (h1 : ∀ (k : Nat) (x : AV), cs[k]? = some x → vs[k]? = some (cv k) ∧ (cv k).plain) (h2 : ∀ (k : Nat) (x : AV), cs[k]? = some x → FRep M x (cv k)) :
      FRep M (.agg cs) (.agg vs)
  | tup (cs : List AV) (vs : Array Value) (hs : vs.size = cs.length) (cv : Nat → Value) (h1 : ∀ (k : Nat) (x : AV), cs[k]? = some x → vs[k]? = some (cv k)) (h2 : ∀ (k : Nat) (x : AV), cs[k]? = some x → FRep M x (cv k)) :
      FRep M (.tup cs) (.tuple vs)
  | fn (f : Nat) (cs : List AV) (vs : Array Value) (hs : vs.size = cs.length) (cv : Nat → Value) (h1 : ∀ (k : Nat) (x : AV), cs[k]? = some x → vs[k]? = some (cv k)) (h2 : ∀ (k : Nat) (x : AV), cs[k]? = some x → FRep M x (cv k)) :
      FRep M (.fn f cs) (.func (.func (fid f)) #[] vs)
inductive ARep (J : JMap) (M : Mem) : AV → Value → Prop
  | any (v) : ARep J M .any v
  | fr {v cv} (h : FRep fid M v cv) : ARep J M v cv
  | mptr (b off vl blk base ps : Nat) (h : J b vl = some (some (blk, base, ps))) : ARep J M (.mptr b off vl) (.pointer (some ⟨blk, base + off, none⟩))
  | msl (b off n sz vl : Nat) (cap : Option Nat) (blk base ps c : Nat) (a : Option Addr) (h : J b vl = some (some (blk, base, ps)))
      (hn : n ≤ c) (hc : (cap = none ∧ c * sz + off = ps) ∨ (cap = some c ∧ off + c * sz ≤ ps)) (ha : c = 0 ∨ a = some ⟨blk, base + off, none⟩) :
      ARep J M (.msl b off n sz vl cap) (.slice a n c)
  | mslN (b sz : Nat) (cap : Option Nat) (a : Option Addr) (h : J b 0 = some none) (hc : cap = none ∨ cap = some 0) : ARep J M (.msl b 0 0 sz 0 cap) (.slice a 0 0)
  | tl (es : List AV) (sz blk : Nat) (cv : Nat → Nat → Value) (hz : ∀ (i : Nat) (e : AV), es[i]? = some e → e.cells.length = sz)
      (h1 : ∀ (i : Nat) (e : AV), es[i]? = some e → ∀ (k : Nat) (x : AV), e.cells[k]? = some x → M blk (i * sz + k) = some (cv i k))
      (h2 : ∀ (i : Nat) (e : AV), es[i]? = some e → ∀ (k : Nat) (x : AV), e.cells[k]? = some x → ARep J M x (cv i k)) :
      ARep J M (.tl es sz) (.slice (some ⟨blk, 0, none⟩) es.length es.length)
  | agg (cs : List AV) (vs : Array Value) (hs : vs.size = cs.length) (cv : Nat → Value) (h1 : ∀ (k : Nat) (x : AV), cs[k]? = some x → vs[k]? = some (cv k) ∧ (cv k).plain) (h2 : ∀ (k : Nat) (x : AV), cs[k]? = some x → ARep J M x (cv k)) :
      ARep J M (.agg cs) (.agg vs)
  | tup (cs : List AV) (vs : Array Value) (hs : vs.size = cs.length) (cv : Nat → Value) (h1 : ∀ (k : Nat) (x : AV), cs[k]? = some x → vs[k]? = some (cv k)) (h2 : ∀ (k : Nat) (x : AV), cs[k]? = some x → ARep J M x (cv k)) :
      ARep J M (.tup cs) (.tuple vs)
  | fn (f : Nat) (cs : List AV) (vs : Array Value) (hs : vs.size = cs.length) (cv : Nat → Value) (h1 : ∀ (k : Nat) (x : AV), cs[k]? = some x → vs[k]? = some (cv k)) (h2 : ∀ (k : Nat) (x : AV), cs[k]? = some x → ARep J M x (cv k)) :
      ARep J M (.fn f cs) (.func (.func (fid f)) #[] vs)
end
def Mem.le (M M' : Mem) : Prop := ∀ b o v, M b o = some v → M' b o = some v
def JMap.le (J J' : JMap) : Prop := ∀ b vl l, J b vl = some l → J' b vl = some l
section
variable {fid : Nat → FuncId}
theorem FRep.mono {M M' : Mem} (h : M.le M') {v : AV} {cv : Value} (r : FRep fid M v cv) : FRep fid M' v cv := by
  induction r with
  | bool b => exact .bool b
  | int k n => exact .int k n
  | str s => exact .str s
  | nilp => exact .nilp
  | nilfn => exact .nilfn
  | fptr cs blk off cv h1 h2 ih => exact .fptr cs blk off cv (fun k x hx => h _ _ _ (h1 k x hx)) ih
  | slN sz t a c ht => exact .slN sz t a c ht
  | slC es sz t blk off c cv hc ht hz h1 h2 ih => exact .slC es sz t blk off c cv hc ht hz (fun i e he k x hx => h _ _ _ (h1 i e he k x hx)) ih
  | agg cs vs hs cv h1 h2 ih => exact .agg cs vs hs cv h1 ih
  | tup cs vs hs cv h1 h2 ih => exact .tup cs vs hs cv h1 ih
  | fn f cs vs hs cv h1 h2 ih => exact .fn f cs vs hs cv h1 ih
theorem ARep.mono {J J' : JMap} {M M' : Mem} (hj : J.le J') (h : M.le M') {v : AV} {cv : Value} (r : ARep fid J M v cv) : ARep fid J' M' v cv := by
  induction r with
  | any v => exact .any v
  | fr hf => exact .fr (hf.mono h)
  | mptr b off vl blk base ps e => exact .mptr b off vl blk base ps (hj _ _ _ e)
  | msl b off n sz vl cap blk base ps c a e hn hc ha => exact .msl b off n sz vl cap blk base ps c a (hj _ _ _ e) hn hc ha
  | mslN b sz cap a e hc => exact .mslN b sz cap a (hj _ _ _ e) hc
  | tl es sz blk cv hz h1 h2 ih => exact .tl es sz blk cv hz (fun i e he k x hx => h _ _ _ (h1 i e he k x hx)) ih
  | agg cs vs hs cv h1 h2 ih => exact .agg cs vs hs cv h1 ih
  | tup cs vs hs cv h1 h2 ih => exact .tup cs vs hs cv h1 ih
  | fn f cs vs hs cv h1 h2 ih => exact .fn f cs vs hs cv h1 ih
section inv
variable {J : JMap} {M : Mem}
theorem ARep.bool_inv {b : Bool} {v : Value} (h : ARep fid J M (.bool b) v) : v = .bool b := by
  cases h with
  | fr h => cases h; rfl
theorem ARep.int_inv {k : IntKind} {n : Int} {v : Value} (h : ARep fid J M (.int k n) v) : v = .int k n := by
  cases h with
  | fr h => cases h; rfl
theorem ARep.str_inv {s : ByteArray} {v : Value} (h : ARep fid J M (.str s) v) : v = .string s := by
  cases h with
  | fr h => cases h; rfl
theorem ARep.agg_inv {cs : List AV} {v : Value} (h : ARep fid J M (.agg cs) v) :
    ∃ vs : Array Value, v = .agg vs ∧ vs.size = cs.length ∧ ∀ (k : Nat) (x : AV), cs[k]? = some x → ∃ cv : Value, vs[k]? = some cv ∧ cv.plain ∧ ARep fid J M x cv := by
  cases h with
  | fr h =>
    cases h with
    | agg _ vs hs cv h1 h2 => exact ⟨vs, rfl, hs, fun k x hx => ⟨cv k, (h1 k x hx).1, (h1 k x hx).2, .fr (h2 k x hx)⟩⟩
  | agg _ vs hs cv h1 h2 => exact ⟨vs, rfl, hs, fun k x hx => ⟨cv k, (h1 k x hx).1, (h1 k x hx).2, h2 k x hx⟩⟩
theorem ARep.tup_inv {cs : List AV} {v : Value} (h : ARep fid J M (.tup cs) v) :
    ∃ vs : Array Value, v = .tuple vs ∧ vs.size = cs.length ∧ ∀ (k : Nat) (x : AV), cs[k]? = some x → ∃ cv : Value, vs[k]? = some cv ∧ ARep fid J M x cv := by
  cases h with
  | fr h =>
    cases h with
    | tup _ vs hs cv h1 h2 => exact ⟨vs, rfl, hs, fun k x hx => ⟨cv k, h1 k x hx, .fr (h2 k x hx)⟩⟩
  | tup _ vs hs cv h1 h2 => exact ⟨vs, rfl, hs, fun k x hx => ⟨cv k, h1 k x hx, h2 k x hx⟩⟩
theorem ARep.fn_inv {f : Nat} {cs : List AV} {v : Value} (h : ARep fid J M (.fn f cs) v) :
    ∃ vs : Array Value, v = .func (.func (fid f)) #[] vs ∧ vs.size = cs.length ∧ ∀ (k : Nat) (x : AV), cs[k]? = some x → ∃ cv : Value, vs[k]? = some cv ∧ ARep fid J M x cv := by
  cases h with
  | fr h =>
    cases h with
    | fn _ _ vs hs cv h1 h2 => exact ⟨vs, rfl, hs, fun k x hx => ⟨cv k, h1 k x hx, .fr (h2 k x hx)⟩⟩
  | fn _ _ vs hs cv h1 h2 => exact ⟨vs, rfl, hs, fun k x hx => ⟨cv k, h1 k x hx, h2 k x hx⟩⟩
theorem ARep.mptr_inv {b off vl : Nat} {v : Value} (h : ARep fid J M (.mptr b off vl) v) :
    ∃ blk base ps, J b vl = some (some (blk, base, ps)) ∧ v = .pointer (some ⟨blk, base + off, none⟩) := by
  cases h with
  | fr h => cases h
  | mptr _ _ _ blk base ps e => exact ⟨blk, base, ps, e, rfl⟩
theorem ARep.fptr_inv {cs : List AV} {v : Value} (h : ARep fid J M (.fptr cs) v) :
    ∃ blk off, v = .pointer (some ⟨blk, off, none⟩) ∧ ∀ (k : Nat) (x : AV), cs[k]? = some x → ∃ cv : Value, M blk (off + k) = some cv ∧ FRep fid M x cv := by
  cases h with
  | fr h =>
    cases h with
    | fptr _ blk off cv h1 h2 => exact ⟨blk, off, rfl, fun k x hx => ⟨cv k, h1 k x hx, h2 k x hx⟩⟩
theorem FRep.sl_inv {es : List AV} {sz : Nat} {t : Bool} {v : Value} (h : FRep fid M (.sl es sz t) v) :
    ∃ a c, v = .slice a es.length c ∧ es.length ≤ c ∧ (t = true → c = es.length) ∧ (es = [] ∨ ∃ blk off, a = some ⟨blk, off, none⟩ ∧ ∀ (i : Nat) (e : AV), es[i]? = some e → e.cells.length = sz ∧
      ∀ (k : Nat) (x : AV), e.cells[k]? = some x → ∃ cv : Value, M blk (off + i * sz + k) = some cv ∧ FRep fid M x cv) := by
  cases h with
  | slN _ _ a c ht => exact ⟨a, c, rfl, Nat.zero_le _, ht, .inl rfl⟩
  | slC _ _ _ blk off c cv hc ht hz h1 h2 => exact ⟨_, c, rfl, hc, ht, .inr ⟨blk, off, rfl, fun i e he => ⟨hz i e he, fun k x hx => ⟨cv i k, h1 i e he k x hx, h2 i e he k x hx⟩⟩⟩⟩
theorem ARep.sl_inv {es : List AV} {sz : Nat} {t : Bool} {v : Value} (h : ARep fid J M (.sl es sz t) v) :
    ∃ a c, v = .slice a es.length c ∧ es.length ≤ c ∧ (t = true → c = es.length) ∧ (es = [] ∨ ∃ blk off, a = some ⟨blk, off, none⟩ ∧ ∀ (i : Nat) (e : AV), es[i]? = some e → e.cells.length = sz ∧
      ∀ (k : Nat) (x : AV), e.cells[k]? = some x → ∃ cv : Value, M blk (off + i * sz + k) = some cv ∧ FRep fid M x cv) := by
  cases h with
  | fr h => exact h.sl_inv
theorem FRep.sl_mk {es : List AV} {sz : Nat} {t : Bool} {a : Option Addr} {c : Nat} (hc : es.length ≤ c) (ht : t = true → c = es.length)
    (h : es = [] ∨ ∃ blk off, a = some ⟨blk, off, none⟩ ∧ ∀ (i : Nat) (e : AV), es[i]? = some e → e.cells.length = sz ∧ ∀ (k : Nat) (x : AV), e.cells[k]? = some x → ∃ cv : Value, M blk (off + i * sz + k) = some cv ∧ FRep fid M x cv) :
    FRep fid M (.sl es sz t) (.slice a es.length c) := by
  rcases h with rfl | ⟨blk, off, rfl, h⟩
  · exact .slN sz t a c ht
  · have hx : ∀ i k, ∃ cv, ∀ e, es[i]? = some e → ∀ x, e.cells[k]? = some x → M blk (off + i * sz + k) = some cv ∧ FRep fid M x cv := by
      intro i k
      by_cases hh : ∃ e x, es[i]? = some e ∧ e.cells[k]? = some x
      · obtain ⟨e, x, he, hx⟩ := hh
        obtain ⟨cv, h1, h2⟩ := (h i e he).2 k x hx
        refine ⟨cv, fun e' he' x' hx' => ?_⟩
        rw [he] at he'; cases he'
        rw [hx] at hx'; cases hx'
        exact ⟨h1, h2⟩
      · exact ⟨default, fun e he x hx => absurd ⟨e, x, he, hx⟩ hh⟩
    refine .slC es sz t blk off c (fun i k => Classical.choose (hx i k)) hc ht (fun i e he => (h i e he).1) (fun i e he k x hxx => ?_) (fun i e he k x hxx => ?_)
    · exact (Classical.choose_spec (hx i k) e he x hxx).1
    · exact (Classical.choose_spec (hx i k) e he x hxx).2
theorem choose_cells {cs : List AV} {Q : Nat → AV → Value → Prop} (h : ∀ (k : Nat) (x : AV), cs[k]? = some x → ∃ cv, Q k x cv) : ∃ cv : Nat → Value, ∀ (k : Nat) (x : AV), cs[k]? = some x → Q k x (cv k) := by
  have hx : ∀ k, ∃ cv, ∀ x, cs[k]? = some x → Q k x cv := by
    intro k
    cases e : cs[k]? with
    | none => exact ⟨default, fun x hx => by cases hx⟩
    | some x =>
      obtain ⟨cv, hq⟩ := h k x e
      exact ⟨cv, fun x' hx' => by cases hx'; exact hq⟩
  exact ⟨fun k => Classical.choose (hx k), fun k x hk => Classical.choose_spec (hx k) x hk⟩
theorem FRep.fptr_mk {cs : List AV} {blk off : Nat} (h : ∀ (k : Nat) (x : AV), cs[k]? = some x → ∃ cv : Value, M blk (off + k) = some cv ∧ FRep fid M x cv) : FRep fid M (.fptr cs) (.pointer (some ⟨blk, off, none⟩)) := by
  obtain ⟨cv, hq⟩ := choose_cells h
  exact .fptr cs blk off cv (fun k x hx => (hq k x hx).1) (fun k x hx => (hq k x hx).2)
theorem FRep.agg_mk {cs : List AV} {vs : Array Value} (hs : vs.size = cs.length) (h : ∀ (k : Nat) (x : AV), cs[k]? = some x → ∃ cv : Value, vs[k]? = some cv ∧ cv.plain ∧ FRep fid M x cv) : FRep fid M (.agg cs) (.agg vs) := by
  obtain ⟨cv, hq⟩ := choose_cells h
  exact .agg cs vs hs cv (fun k x hx => ⟨(hq k x hx).1, (hq k x hx).2.1⟩) (fun k x hx => (hq k x hx).2.2)
theorem FRep.tup_mk {cs : List AV} {vs : Array Value} (hs : vs.size = cs.length) (h : ∀ (k : Nat) (x : AV), cs[k]? = some x → ∃ cv : Value, vs[k]? = some cv ∧ FRep fid M x cv) : FRep fid M (.tup cs) (.tuple vs) := by
  obtain ⟨cv, hq⟩ := choose_cells h
  exact .tup cs vs hs cv (fun k x hx => (hq k x hx).1) (fun k x hx => (hq k x hx).2)
theorem FRep.fn_mk {f : Nat} {cs : List AV} {vs : Array Value} (hs : vs.size = cs.length) (h : ∀ (k : Nat) (x : AV), cs[k]? = some x → ∃ cv : Value, vs[k]? = some cv ∧ FRep fid M x cv) : FRep fid M (.fn f cs) (.func (.func (fid f)) #[] vs) := by
  obtain ⟨cv, hq⟩ := choose_cells h
  exact .fn f cs vs hs cv (fun k x hx => (hq k x hx).1) (fun k x hx => (hq k x hx).2)
theorem ARep.agg_mk {cs : List AV} {vs : Array Value} (hs : vs.size = cs.length) (h : ∀ (k : Nat) (x : AV), cs[k]? = some x → ∃ cv : Value, vs[k]? = some cv ∧ cv.plain ∧ ARep fid J M x cv) : ARep fid J M (.agg cs) (.agg vs) := by
  obtain ⟨cv, hq⟩ := choose_cells h
  exact .agg cs vs hs cv (fun k x hx => ⟨(hq k x hx).1, (hq k x hx).2.1⟩) (fun k x hx => (hq k x hx).2.2)
theorem ARep.tup_mk {cs : List AV} {vs : Array Value} (hs : vs.size = cs.length) (h : ∀ (k : Nat) (x : AV), cs[k]? = some x → ∃ cv : Value, vs[k]? = some cv ∧ ARep fid J M x cv) : ARep fid J M (.tup cs) (.tuple vs) := by
  obtain ⟨cv, hq⟩ := choose_cells h
  exact .tup cs vs hs cv (fun k x hx => (hq k x hx).1) (fun k x hx => (hq k x hx).2)
theorem ARep.fn_mk {f : Nat} {cs : List AV} {vs : Array Value} (hs : vs.size = cs.length) (h : ∀ (k : Nat) (x : AV), cs[k]? = some x → ∃ cv : Value, vs[k]? = some cv ∧ ARep fid J M x cv) : ARep fid J M (.fn f cs) (.func (.func (fid f)) #[] vs) := by
  obtain ⟨cv, hq⟩ := choose_cells h
  exact .fn f cs vs hs cv (fun k x hx => (hq k x hx).1) (fun k x hx => (hq k x hx).2)
theorem ARep.msl_inv {b off n sz vl : Nat} {cap : Option Nat} {v : Value} (h : ARep fid J M (.msl b off n sz vl cap) v) :
    (∃ blk base ps c a, J b vl = some (some (blk, base, ps)) ∧ n ≤ c ∧ ((cap = none ∧ c * sz + off = ps) ∨ (cap = some c ∧ off + c * sz ≤ ps)) ∧ (c = 0 ∨ a = some ⟨blk, base + off, none⟩) ∧ v = .slice a n c) ∨
    (off = 0 ∧ n = 0 ∧ vl = 0 ∧ (cap = none ∨ cap = some 0) ∧ J b 0 = some none ∧ ∃ a, v = .slice a 0 0) := by
  cases h with
  | fr h => cases h
  | msl _ _ _ _ _ _ blk base ps c a e hn hc ha => exact .inl ⟨blk, base, ps, c, a, e, hn, hc, ha, rfl⟩
  | mslN _ _ _ a e hc => exact .inr ⟨rfl, rfl, rfl, hc, e, a, rfl⟩
theorem ARep.tl_inv {es : List AV} {sz : Nat} {v : Value} (h : ARep fid J M (.tl es sz) v) :
    ∃ blk, v = .slice (some ⟨blk, 0, none⟩) es.length es.length ∧ ∀ (i : Nat) (e : AV), es[i]? = some e → e.cells.length = sz ∧ ∀ (k : Nat) (x : AV), e.cells[k]? = some x → ∃ cv : Value, M blk (i * sz + k) = some cv ∧ ARep fid J M x cv := by
  cases h with
  | fr h => cases h
  | tl _ _ blk cv hz h1 h2 => exact ⟨blk, rfl, fun i e he => ⟨hz i e he, fun k x hx => ⟨cv i k, h1 i e he k x hx, h2 i e he k x hx⟩⟩⟩
theorem ARep.nilp_inv {v : Value} (h : ARep fid J M .nilp v) : v = .pointer none := by
  cases h with
  | fr h => cases h; rfl
theorem ARep.cells_of_plain {x : AV} {v : Value} (h : ARep fid J M x v) (hp : v.plain) : x.cells = [x] := by
  cases x <;> try rfl
  obtain ⟨vs, rfl, _⟩ := h.agg_inv
  exact absurd rfl (hp.1 vs)
theorem FRep.cells_of_plain {x : AV} {v : Value} (h : FRep fid M x v) (hp : v.plain) : x.cells = [x] := (ARep.fr (J := fun _ _ => none) h).cells_of_plain hp
end inv
def MutOk (fid : Nat → FuncId) (J : JMap) (M : Mem) (w : World) (b : Nat) (cs : List AV) (ex : Bool) : Prop :=
  (cs = [] ∧ ex = false ∧ J b 0 = some none) ∨
  ∃ blk base ps arr el, J b cs.length = some (some (blk, base, ps)) ∧ w.heap[blk]? = some (.cells arr el (0, 0)) ∧ arr.size = base + ps ∧ cs.length ≤ ps ∧ (ex = true → ps = cs.length) ∧
    (∀ (k : Nat) (x : AV), cs[k]? = some x → ∃ v, arr[base + k]? = some v ∧ v.plain ∧ ARep fid J M x v) ∧ (∀ o, M blk o = none)
def FzOk (fid : Nat → FuncId) (J : JMap) (M : Mem) (b : Nat) (cs : List AV) : Prop :=
  (cs = [] ∧ J b 0 = some none) ∨
  ∃ blk base ps, J b cs.length = some (some (blk, base, ps)) ∧ ∀ (k : Nat) (x : AV), cs[k]? = some x → ∃ v, M blk (base + k) = some v ∧ FRep fid M x v
def Wr (S : Store) (J : JMap) (blk : Nat) : Prop := ∃ b cs ex base ps, S[b]? = some (.mu cs ex) ∧ J b cs.length = some (some (blk, base, ps))
structure Inv (fid : Nat → FuncId) (S : Store) (J : JMap) (M : Mem) (w : World) : Prop where
  mem : ∀ b o v, M b o = some v → w.cell? ⟨b, o, none⟩ = some v ∧ v.plain
  blk : ∀ b cs ex, S[b]? = some (.mu cs ex) → (∃ vl, J b vl ≠ none) → MutOk fid J M w b cs ex
  fzb : ∀ b cs, S[b]? = some (.fz cs) → (∃ vl, J b vl ≠ none) → FzOk fid J M b cs
  jlt : ∀ b vl, J b vl ≠ none → b < S.length
  jmx : ∀ b vl cs ex, S[b]? = some (.mu cs ex) → J b vl ≠ none → vl ≤ cs.length
  jps : ∀ b vl blk base ps, J b vl = some (some (blk, base, ps)) → vl ≤ ps
  inj : ∀ b b' cs ex cs' ex' blk base ps base' ps', S[b]? = some (.mu cs ex) → J b cs.length = some (some (blk, base, ps)) → S[b']? = some (.mu cs' ex') → J b' cs'.length = some (some (blk, base', ps')) → b = b'
structure Step (S : Store) (J : JMap) (M : Mem) (w : World) (S' : Store) (J' : JMap) (M' : Mem) (w' : World) : Prop where
  jle : J.le J'
  mle : M.le M'
  mnew : ∀ b o v, M' b o = some v → M b o = some v ∨ w.heap.size ≤ b ∨ Wr S J b
  frame : ∀ i, i < w.heap.size → ¬ Wr S J i → w'.heap[i]? = w.heap[i]?
  wnew : ∀ i, Wr S' J' i → Wr S J i ∨ w.heap.size ≤ i
  size : w.heap.size ≤ w'.heap.size
  os : w'.os = w.os
  tape : w'.tape = w.tape
  output : w'.output = w.output
  slen : S.length ≤ S'.length
  keep : ∀ b, b < S.length → (∀ vl, J b vl = none) → S'[b]? = S[b]? ∧ ∀ vl, J' b vl = none
theorem Step.refl (S : Store) (J : JMap) (M : Mem) (w : World) : Step S J M w S J M w :=
  ⟨fun _ _ _ h => h, fun _ _ _ h => h, fun _ _ _ h => .inl h, fun _ _ _ => rfl, fun _ h => .inl h, Nat.le_refl _, rfl, rfl, rfl, Nat.le_refl _, fun _ _ h => ⟨rfl, h⟩⟩
theorem Step.trans {S S1 S2 : Store} {J J1 J2 : JMap} {M M1 M2 : Mem} {w w1 w2 : World} (h : Step S J M w S1 J1 M1 w1) (k : Step S1 J1 M1 w1 S2 J2 M2 w2) : Step S J M w S2 J2 M2 w2 := by
  refine ⟨fun b vl l e => k.jle _ _ _ (h.jle _ _ _ e), fun b o v e => k.mle _ _ _ (h.mle _ _ _ e), fun b o v e => ?_, fun i hi hw => ?_, fun i hi => ?_, Nat.le_trans h.size k.size, k.os.trans h.os, k.tape.trans h.tape, k.output.trans h.output, Nat.le_trans h.slen k.slen, fun b hb hj => ?_⟩
  · rcases k.mnew b o v e with e | e | e
    · exact h.mnew b o v e
    · exact .inr (.inl (Nat.le_trans h.size e))
    · rcases h.wnew b e with e | e
      · exact .inr (.inr e)
      · exact .inr (.inl e)
  · rw [k.frame i (Nat.lt_of_lt_of_le hi h.size) fun hw1 => ?_, h.frame i hi hw]
    rcases h.wnew i hw1 with e | e
    · exact hw e
    · omega
  · rcases k.wnew i hi with e | e
    · exact h.wnew i e
    · exact .inr (Nat.le_trans h.size e)
  · obtain ⟨e1, e2⟩ := h.keep b hb hj
    obtain ⟨e3, e4⟩ := k.keep b (Nat.lt_of_lt_of_le hb h.slen) e2
    exact ⟨e3.trans e1, e4⟩
theorem Step.rep {S S' : Store} {J J' : JMap} {M M' : Mem} {w w' : World} (h : Step S J M w S' J' M' w') {v : AV} {cv : Value} (r : ARep fid J M v cv) : ARep fid J' M' v cv := r.mono h.jle h.mle
theorem cell_of_arr {w : World} {blk : Nat} {arr : Array Value} {el : TypeId} {fr : Nat × Nat} {o : Nat} {v : Value} (h : w.heap[blk]? = some (.cells arr el fr)) (hv : arr[o]? = some v) : w.cell? ⟨blk, o, none⟩ = some v := by
  simp [World.cell?, h, hv]
theorem Inv.wr_none {S : Store} {J : JMap} {M : Mem} {w : World} (I : Inv fid S J M w) {blk : Nat} (h : Wr S J blk) (o : Nat) : M blk o = none := by
  obtain ⟨b, cs, ex, base, ps, hb, hj⟩ := h
  rcases I.blk b cs ex hb ⟨_, by rw [hj]; simp⟩ with ⟨rfl, _, h0⟩ | ⟨blk', base', ps', arr, el, hj', _, _, _, _, _, hn⟩
  · simp only [List.length_nil] at hj; rw [h0] at hj; cases hj
  · rw [hj] at hj'; cases hj'; exact hn o
theorem Inv.wr_lt {S : Store} {J : JMap} {M : Mem} {w : World} (I : Inv fid S J M w) {blk : Nat} (h : Wr S J blk) : blk < w.heap.size := by
  obtain ⟨b, cs, ex, base, ps, hb, hj⟩ := h
  rcases I.blk b cs ex hb ⟨_, by rw [hj]; simp⟩ with ⟨rfl, _, h0⟩ | ⟨blk', base', ps', arr, el, hj', hh, _⟩
  · simp only [List.length_nil] at hj; rw [h0] at hj; cases hj
  · rw [hj] at hj'; cases hj'; exact (Array.getElem?_eq_some_iff.1 hh).1
theorem Inv.rd {S : Store} {J : JMap} {M : Mem} {w : World} (I : Inv fid S J M w) {b off vl n : Nat} {cs : List AV} (h : rd S b off vl n = some cs) {blk base ps : Nat} (hj : J b vl = some (some (blk, base, ps))) :
    cs.length = n ∧ ∀ (k : Nat) (x : AV), cs[k]? = some x → ∃ v, w.cell? ⟨blk, base + off + k, none⟩ = some v ∧ v.plain ∧ ARep fid J M x v := by
  unfold Go.AVM.rd at h
  have hne : ∃ vl, J b vl ≠ none := ⟨vl, by rw [hj]; simp⟩
  cases hb : S[b]? with
  | none => rw [hb] at h; cases h
  | some B =>
    rw [hb] at h
    cases B with
    | dead => cases h
    | mu c ex =>
      obtain ⟨⟨hl, hle⟩, e⟩ := chk_some.1 h
      cases e
      refine ⟨by simp; omega, fun k x hx => ?_⟩
      rcases I.blk b c ex hb hne with ⟨rfl, _, h0⟩ | ⟨blk', base', ps', arr, el, hj', hh, hsz, hps, _, hc, _⟩
      · simp at hl; rw [← hl, h0] at hj; cases hj
      · rw [hl, hj] at hj'; cases hj'
        have hk : k < n := by
          have := (List.getElem?_eq_some_iff.1 hx).1
          simp at this; omega
        rw [List.getElem?_take_of_lt hk, List.getElem?_drop] at hx
        obtain ⟨v, hv, hp, hr⟩ := hc (off + k) x hx
        exact ⟨v, by rw [Nat.add_assoc]; exact cell_of_arr hh hv, hp, hr⟩
    | fz c =>
      obtain ⟨⟨hl, hle⟩, e⟩ := chk_some.1 h
      cases e
      refine ⟨by simp; omega, fun k x hx => ?_⟩
      rcases I.fzb b c hb hne with ⟨rfl, h0⟩ | ⟨blk', base', ps', hj', hc⟩
      · simp at hl; rw [← hl, h0] at hj; cases hj
      · rw [hl, hj] at hj'; cases hj'
        have hk : k < n := by
          have := (List.getElem?_eq_some_iff.1 hx).1
          simp at this; omega
        rw [List.getElem?_take_of_lt hk, List.getElem?_drop] at hx
        obtain ⟨v, hv, hr⟩ := hc (off + k) x hx
        obtain ⟨hw, hp⟩ := I.mem _ _ _ hv
        exact ⟨v, by rw [Nat.add_assoc]; exact hw, hp, .fr hr⟩
theorem rd_virtual {S : Store} {J : JMap} {M : Mem} {w : World} (I : Inv fid S J M w) {b off n : Nat} {cs : List AV} (h : rd S b off 0 n = some cs) : cs = [] := by
  unfold rd at h
  split at h
  · obtain ⟨⟨hl, hle⟩, e⟩ := chk_some.1 h
    cases e
    rw [List.eq_nil_of_length_eq_zero hl]; simp
  · obtain ⟨⟨hl, hle⟩, e⟩ := chk_some.1 h
    cases e
    rw [List.eq_nil_of_length_eq_zero hl]; simp
  · cases h
end
theorem mapM_some {α β : Type} {f : α → Option β} : ∀ {l : List α} {l' : List β}, l.mapM f = some l' → l'.length = l.length ∧ ∀ (k : Nat) (x : α), l[k]? = some x → ∃ y, l'[k]? = some y ∧ f x = some y
  | [], l', h => by
    simp at h; subst h
    exact ⟨rfl, fun k x hx => by simp at hx⟩
  | a :: l, l', h => by
    rw [List.mapM_cons] at h
    cases ha : f a with
    | none => rw [ha] at h; cases h
    | some b =>
      cases hl : l.mapM f with
      | none => rw [ha, hl] at h; cases h
      | some m =>
        rw [ha, hl] at h
        cases h
        obtain ⟨h1, h2⟩ := mapM_some hl
        refine ⟨by simp [h1], fun k x hx => ?_⟩
        cases k with
        | zero => simp at hx; subst hx; exact ⟨b, rfl, ha⟩
        | succ k => simp at hx; simpa using h2 k x hx
theorem mapM_inv {α β : Type} {f : α → Option β} {l : List α} {l' : List β} (h : l.mapM f = some l') {k : Nat} {y : β} (hy : l'[k]? = some y) : ∃ x, l[k]? = some x ∧ f x = some y := by
  obtain ⟨h1, h2⟩ := mapM_some h
  have hk : k < l.length := by have := (List.getElem?_eq_some_iff.1 hy).1; omega
  obtain ⟨y', hy', hf⟩ := h2 k l[k] (by simp [hk])
  rw [hy] at hy'; cases hy'
  exact ⟨_, by simp [hk], hf⟩
theorem chunk_length (sz : Nat) : ∀ (n : Nat) (cs : List AV), (chunk sz n cs).length = n
  | 0, _ => rfl
  | n + 1, cs => by simp [chunk, chunk_length sz n]
theorem chunk_get (sz : Nat) : ∀ (n : Nat) (cs : List AV) (i : Nat), i < n → (chunk sz n cs)[i]? = some (if sz = 1 then (cs.drop (i * sz)).headD .any else .agg ((cs.drop (i * sz)).take sz))
  | 0, _, i, h => by omega
  | n + 1, cs, 0, h => by simp [chunk]
  | n + 1, cs, i + 1, h => by
    simp only [chunk, List.getElem?_cons_succ]
    rw [chunk_get sz n _ i (by omega), List.drop_drop]
    have : sz + i * sz = (i + 1) * sz := by rw [Nat.add_mul]; omega
    rw [this]
theorem chunk_cells {sz n : Nat} {cs : List AV} (hl : cs.length = n * sz) (h1 : sz = 1 → ∀ x ∈ cs, x.cells = [x]) {i : Nat} {e : AV} (he : (chunk sz n cs)[i]? = some e) :
    e.cells.length = sz ∧ ∀ (k : Nat) (x : AV), e.cells[k]? = some x → cs[i * sz + k]? = some x := by
  have hi : i < n := by have := (List.getElem?_eq_some_iff.1 he).1; rwa [chunk_length] at this
  have hb : i * sz + sz ≤ n * sz := by rw [← Nat.succ_mul]; exact Nat.mul_le_mul_right _ hi
  rw [chunk_get sz n cs i hi] at he
  by_cases hz : sz = 1
  · subst hz
    simp only [if_true, Nat.mul_one, Option.some.injEq] at he
    have hlt : i < cs.length := by omega
    rw [List.drop_eq_getElem_cons hlt, List.headD_cons] at he
    subst he
    have := h1 rfl cs[i] (List.getElem_mem hlt)
    rw [this]
    refine ⟨rfl, fun k x hx => ?_⟩
    cases k with
    | zero => simp at hx; subst hx; simp [hlt]
    | succ k => simp at hx
  · simp only [hz, if_false, Option.some.injEq] at he
    subst he
    simp only [AV.cells]
    refine ⟨by simp; omega, fun k x hx => ?_⟩
    have hk : k < sz := by
      have := (List.getElem?_eq_some_iff.1 hx).1
      simp at this; omega
    rwa [List.getElem?_take_of_lt hk, List.getElem?_drop] at hx
section
variable {fid : Nat → FuncId} {S : Store} {J : JMap} {M : Mem} {w : World}
def Covers (S : Store) (J : JMap) (B : Nat → Prop) (blk o : Nat) : Prop :=
  ∃ b cs ex base ps, B b ∧ S[b]? = some (.mu cs ex) ∧ J b cs.length = some (some (blk, base, ps)) ∧ base ≤ o ∧ o < base + cs.length
open Classical in
noncomputable def Mset (S : Store) (J : JMap) (M : Mem) (w : World) (B : Nat → Prop) : Mem := fun blk o =>
  match M blk o with
  | some v => some v
  | none => if Covers S J B blk o then w.cell? ⟨blk, o, none⟩ else none
theorem Mset_le (B : Nat → Prop) : M.le (Mset S J M w B) := fun b o v h => by simp [Mset, h]
theorem Mset_cases {B : Nat → Prop} {blk o : Nat} {v : Value} (h : Mset S J M w B blk o = some v) : M blk o = some v ∨ (M blk o = none ∧ Covers S J B blk o ∧ w.cell? ⟨blk, o, none⟩ = some v) := by
  unfold Mset at h
  cases hm : M blk o with
  | some u => rw [hm] at h; exact .inl h
  | none =>
    rw [hm] at h
    simp only at h
    split at h
    · rename_i hc; exact .inr ⟨rfl, hc, h⟩
    · cases h
theorem Covers.wr {B : Nat → Prop} {blk o : Nat} (h : Covers S J B blk o) : Wr S J blk := by
  obtain ⟨b, cs, ex, base, ps, _, hb, hj, _, _⟩ := h
  exact ⟨b, cs, ex, base, ps, hb, hj⟩
theorem Mset_of (I : Inv fid S J M w) {B : Nat → Prop} {b : Nat} {cs : List AV} {ex : Bool} (hB : B b) (hb : S[b]? = some (.mu cs ex)) {blk base ps : Nat} (hj : J b cs.length = some (some (blk, base, ps)))
    {k : Nat} {x : AV} (hx : cs[k]? = some x) : ∃ v, Mset S J M w B blk (base + k) = some v ∧ v.plain ∧ ARep fid J M x v := by
  rcases I.blk b cs ex hb ⟨_, by rw [hj]; simp⟩ with ⟨rfl, _, _⟩ | ⟨blk', base', ps', arr, el, hj', hh, hsz, hps, _, hc, hn⟩
  · simp at hx
  · rw [hj] at hj'; cases hj'
    obtain ⟨v, hv, hp, hr⟩ := hc k x hx
    refine ⟨v, ?_, hp, hr⟩
    unfold Mset
    rw [hn]
    simp only
    have hk := (List.getElem?_eq_some_iff.1 hx).1
    rw [if_pos ⟨b, cs, ex, base, ps, hB, hb, hj, by omega, by omega⟩]
    exact cell_of_arr hh hv
theorem Mset_mem (I : Inv fid S J M w) {B : Nat → Prop} {blk o : Nat} {v : Value} (h : Mset S J M w B blk o = some v) : w.cell? ⟨blk, o, none⟩ = some v ∧ v.plain := by
  rcases Mset_cases h with h | ⟨_, hc, h⟩
  · exact I.mem _ _ _ h
  · refine ⟨h, ?_⟩
    obtain ⟨b, cs, ex, base, ps, hB, hb, hj, h1, h2⟩ := hc
    obtain ⟨v', hv', hp, _⟩ := Mset_of I (B := B) hB hb hj (k := o - base) (x := cs[o - base]'(by omega)) (by simp)
    rw [show base + (o - base) = o by omega] at hv'
    rcases Mset_cases hv' with hm | ⟨_, _, hm⟩
    · exact absurd hm (by rw [I.wr_none ⟨b, cs, ex, base, ps, hb, hj⟩]; simp)
    · rw [hm] at h; cases h; exact hp
theorem Mset_none (I : Inv fid S J M w) {B : Nat → Prop} {b : Nat} {cs : List AV} {ex : Bool} (hB : ¬ B b) (hb : S[b]? = some (.mu cs ex)) {blk base ps : Nat} (hj : J b cs.length = some (some (blk, base, ps))) (o : Nat) :
    Mset S J M w B blk o = none := by
  cases h : Mset S J M w B blk o with
  | none => rfl
  | some v =>
    rcases Mset_cases h with hm | ⟨_, ⟨b', cs', ex', base', ps', hB', hb', hj', _, _⟩, _⟩
    · rw [I.wr_none ⟨b, cs, ex, base, ps, hb, hj⟩] at hm; cases hm
    · have := I.inj b b' cs ex cs' ex' blk base ps base' ps' hb hj hb' hj'
      subst this; exact absurd hB' hB
theorem rd_content {b off vl n : Nat} {cs : List AV} (h : rd S b off vl n = some cs) :
    ∃ c, (S[b]? = some (.fz c) ∨ ∃ ex, S[b]? = some (.mu c ex)) ∧ c.length = vl ∧ off + n ≤ vl ∧ cs = (c.drop off).take n := by
  unfold rd at h
  split at h
  · obtain ⟨⟨hl, hle⟩, e⟩ := chk_some.1 h
    cases e
    exact ⟨_, .inr ⟨_, by assumption⟩, hl, hle, rfl⟩
  · obtain ⟨⟨hl, hle⟩, e⟩ := chk_some.1 h
    cases e
    exact ⟨_, .inl (by assumption), hl, hle, rfl⟩
  · cases h
theorem rd_set (I : Inv fid S J M w) {B : Nat → Prop} {b off vl n : Nat} {cs : List AV} (h : rd S b off vl n = some cs) {blk base ps : Nat} (hj : J b vl = some (some (blk, base, ps))) (hB : B b)
    {k : Nat} {x : AV} (hx : cs[k]? = some x) : ∃ v, Mset S J M w B blk (base + off + k) = some v ∧ v.plain ∧ ARep fid J M x v := by
  obtain ⟨c, hc, hl, hle, rfl⟩ := rd_content h
  have hk : k < n := by
    have := (List.getElem?_eq_some_iff.1 hx).1
    simp at this; omega
  rw [List.getElem?_take_of_lt hk, List.getElem?_drop] at hx
  rw [Nat.add_assoc]
  rcases hc with hc | ⟨ex, hc⟩
  · rcases I.fzb b c hc ⟨_, by rw [hj]; simp⟩ with ⟨rfl, _⟩ | ⟨blk', base', ps', hj', hcc⟩
    · simp at hx
    · rw [hl, hj] at hj'; cases hj'
      obtain ⟨v, hv, hr⟩ := hcc (off + k) x hx
      exact ⟨v, Mset_le B _ _ _ hv, (I.mem _ _ _ hv).2, .fr hr⟩
  · exact Mset_of I hB hc (by rw [hl]; exact hj) hx
theorem mem_content {b off vl n : Nat} {cs : List AV} (h : rd S b off vl n = some cs) {x : AV} (hx : x ∈ cs) (fuel : Nat) {i : Nat} (hi : i ∈ ids S fuel x) {c : List AV} {ex : Bool} (hc : S[b]? = some (.mu c ex)) : i ∈ c.flatMap (ids S fuel) := by
  obtain ⟨c', hc', _, _, rfl⟩ := rd_content h
  rcases hc' with hc' | ⟨ex', hc'⟩
  · rw [hc] at hc'; cases hc'
  · rw [hc] at hc'; cases hc'
    exact List.mem_flatMap.2 ⟨x, List.mem_of_mem_drop (List.mem_of_mem_take hx), hi⟩
theorem fzc_fr (fuel : Nat) : ∀ {v v' : AV} {cv : Value}, fzc S fuel v = some v' → FRep fid M v cv → FRep fid M v' cv := by
  induction fuel with
  | zero =>
    intro v v' cv h r
    cases r with
    | slN sz t a c ht => simp only [fzc] at h; cases h; exact .slN sz false a c (by simp)
    | slC es sz t blk off c cv hc ht hz h1 h2 => simp only [fzc] at h; cases h; exact .slC es sz false blk off c cv hc (by simp) hz h1 h2
    | agg | tup | fn => simp [fzc] at h
    | bool b => simp only [fzc] at h; cases h; exact .bool b
    | int k n => simp only [fzc] at h; cases h; exact .int k n
    | str s => simp only [fzc] at h; cases h; exact .str s
    | nilp => simp only [fzc] at h; cases h; exact .nilp
    | nilfn => simp only [fzc] at h; cases h; exact .nilfn
    | fptr cs blk off cv h1 h2 => simp only [fzc] at h; cases h; exact .fptr cs blk off cv h1 h2
  | succ fuel ih =>
    intro v v' cv h r
    cases r with
    | slN sz t a c ht => simp only [fzc] at h; cases h; exact .slN sz false a c (by simp)
    | slC es sz t blk off c cv hc ht hz h1 h2 => simp only [fzc] at h; cases h; exact .slC es sz false blk off c cv hc (by simp) hz h1 h2
    | agg | tup => simp [fzc] at h
    | fn f cs vs hs cv h1 h2 =>
      simp only [fzc] at h
      obtain ⟨cs', hc, e⟩ := Option.bind_eq_some_iff.1 h
      cases e
      obtain ⟨hl, hm⟩ := mapM_some hc
      refine FRep.fn_mk (by omega) fun k y hy => ?_
      obtain ⟨x, hx, hf⟩ := mapM_inv hc hy
      exact ⟨cv k, h1 k x hx, ih hf (h2 k x hx)⟩
    | bool b => simp only [fzc] at h; cases h; exact .bool b
    | int k n => simp only [fzc] at h; cases h; exact .int k n
    | str s => simp only [fzc] at h; cases h; exact .str s
    | nilp => simp only [fzc] at h; cases h; exact .nilp
    | nilfn => simp only [fzc] at h; cases h; exact .nilfn
    | fptr cs blk off cv h1 h2 => simp only [fzc] at h; cases h; exact .fptr cs blk off cv h1 h2
theorem ids_fr (fuel : Nat) : ∀ {v : AV} {cv : Value}, FRep fid M v cv → ids S fuel v = [] := by
  induction fuel with
  | zero => intro v cv r; cases r <;> simp [ids]
  | succ fuel ih =>
    intro v cv r
    cases r with
    | agg cs vs hs cv h1 h2 =>
      simp only [ids, List.flatMap_eq_nil_iff]
      intro x hx
      obtain ⟨k, hk⟩ := List.mem_iff_getElem?.1 hx
      exact ih (h2 k x hk)
    | fn f cs vs hs cv h1 h2 =>
      simp only [ids, List.flatMap_eq_nil_iff]
      intro x hx
      obtain ⟨k, hk⟩ := List.mem_iff_getElem?.1 hx
      exact ih (h2 k x hk)
    | _ => simp [ids]
theorem content_ids (I : Inv fid S J M w) {b off vl n : Nat} {cs : List AV} (h : rd S b off vl n = some cs) (hj : J b vl ≠ none) {x : AV} (hx : x ∈ cs) (fuel : Nat) {i : Nat} (hi : i ∈ ids S fuel x) :
    i ∈ (match S[b]? with | some (.mu cs _) => cs.flatMap (ids S fuel) | _ => []) := by
  obtain ⟨c, hcc, hl, _, rfl⟩ := rd_content h
  rcases hcc with hcc | ⟨ex, hcc⟩
  · exfalso
    have hx' : x ∈ c := List.mem_of_mem_drop (List.mem_of_mem_take hx)
    rcases I.fzb b c hcc ⟨_, hj⟩ with ⟨rfl, _⟩ | ⟨blk', base', ps', hj', hq⟩
    · simp at hx'
    · obtain ⟨k', hk'⟩ := List.mem_iff_getElem?.1 hx'
      obtain ⟨v', hv', hr'⟩ := hq k' x hk'
      rw [ids_fr fuel hr'] at hi
      cases hi
  · simp only [hcc]
    exact mem_content h hx fuel hi hcc
theorem fzc_sound (I : Inv fid S J M w) (B : Nat → Prop) (fuel : Nat) : ∀ {v v' : AV} {cv : Value}, fzc S fuel v = some v' → (∀ b ∈ ids S fuel v, B b) → ARep fid J M v cv → FRep fid (Mset S J M w B) v' cv := by
  induction fuel with
  | zero =>
    intro v v' cv h hB r
    cases r with
    | fr r => exact (fzc_fr 0 h r).mono (Mset_le B)
    | _ => simp [fzc] at h
  | succ fuel ih =>
    intro v v' cv h hB r
    cases r with
    | fr r => exact (fzc_fr _ h r).mono (Mset_le B)
    | any | agg | tup | tl => simp [fzc] at h
    | mslN b sz cap a hj hcap =>
      simp only [fzc] at h
      obtain ⟨cs, hc, h⟩ := Option.bind_eq_some_iff.1 h
      obtain ⟨cs', hm, e⟩ := Option.bind_eq_some_iff.1 h
      cases e
      exact .slN sz false a 0 (by simp)
    | fn f cs vs hs cv h1 h2 =>
      simp only [fzc] at h
      obtain ⟨cs', hc, e⟩ := Option.bind_eq_some_iff.1 h
      cases e
      obtain ⟨hl, hm⟩ := mapM_some hc
      refine FRep.fn_mk (by omega) fun k y hy => ?_
      obtain ⟨x, hx, hf⟩ := mapM_inv hc hy
      exact ⟨cv k, h1 k x hx, ih hf (fun b hb => hB b (by simp only [ids]; exact List.mem_flatMap.2 ⟨x, List.mem_of_getElem? hx, hb⟩)) (h2 k x hx)⟩
    | mptr b off vl blk base ps hj =>
      simp only [fzc] at h
      obtain ⟨cs, hc, h⟩ := Option.bind_eq_some_iff.1 h
      obtain ⟨cs', hm, e⟩ := Option.bind_eq_some_iff.1 h
      cases e
      refine FRep.fptr_mk fun k y hy => ?_
      obtain ⟨x, hx, hf⟩ := mapM_inv hm hy
      obtain ⟨v, hv, hp, hr⟩ := rd_set I (B := B) hc hj (hB b (by simp [ids])) hx
      refine ⟨v, hv, ih hf (fun i hi => hB i ?_) hr⟩
      simp only [ids]
      exact List.mem_cons_of_mem _ (content_ids I hc (by rw [hj]; simp) (List.mem_of_getElem? hx) fuel hi)
    | msl b off n sz vl cap blk base ps c a hj hn hcap ha =>
      simp only [fzc] at h
      obtain ⟨cs, hc, h⟩ := Option.bind_eq_some_iff.1 h
      obtain ⟨cs', hm, e⟩ := Option.bind_eq_some_iff.1 h
      cases e
      obtain ⟨hl, hm'⟩ := mapM_some hm
      have hcl : cs.length = n * sz := (I.rd hc hj).1
      have key : ∀ (k : Nat) (y : AV), cs'[k]? = some y → ∃ v, Mset S J M w B blk (base + off + k) = some v ∧ v.plain ∧ FRep fid (Mset S J M w B) y v := by
        intro k y hy
        obtain ⟨x, hx, hf⟩ := mapM_inv hm hy
        obtain ⟨v, hv, hp, hr⟩ := rd_set I (B := B) hc hj (hB b (by simp [ids])) hx
        refine ⟨v, hv, hp, ih hf (fun i hi => hB i ?_) hr⟩
        simp only [ids]
        exact List.mem_cons_of_mem _ (content_ids I hc (by rw [hj]; simp) (List.mem_of_getElem? hx) fuel hi)
      have h0 : (chunk sz n cs').length = n := chunk_length sz n cs'
      have hr : FRep fid (Mset S J M w B) (.sl (chunk sz n cs') sz false) (.slice a (chunk sz n cs').length c) := by
        refine FRep.sl_mk (by omega) (by simp) ?_
        rcases Nat.eq_zero_or_pos n with rfl | hpos
        · exact .inl rfl
        · refine .inr ⟨blk, base + off, ha.resolve_left (by omega), fun i e he => ?_⟩
          obtain ⟨hz, hk⟩ := chunk_cells (cs := cs') (by omega) (fun _ x hx => by
            obtain ⟨k, hk⟩ := List.mem_iff_getElem?.1 hx
            obtain ⟨v, _, hp, hr⟩ := key k x hk
            exact hr.cells_of_plain hp) he
          refine ⟨hz, fun k x hx => ?_⟩
          obtain ⟨v, hv, _, hr⟩ := key _ x (hk k x hx)
          exact ⟨v, by rw [Nat.add_assoc]; exact hv, hr⟩
      rw [h0] at hr
      exact hr
theorem fz1_sound (I : Inv fid S J M w) (B : Nat → Prop) {v v' : AV} {cv : Value} (h : fz1 S v = some v') (hB : ∀ b ∈ ids S fzDepth v, B b) (r : ARep fid J M v cv) : FRep fid (Mset S J M w B) v' cv := by
  unfold fz1 at h
  split at h
  · rename_i cs
    obtain ⟨cs', hc, e⟩ := Option.bind_eq_some_iff.1 h
    cases e
    obtain ⟨vs, rfl, hs, hq⟩ := r.agg_inv
    obtain ⟨hl, _⟩ := mapM_some hc
    refine FRep.agg_mk (by omega) fun k y hy => ?_
    obtain ⟨x, hx, hf⟩ := mapM_inv hc hy
    obtain ⟨cv, hv, hp, hr⟩ := hq k x hx
    exact ⟨cv, hv, hp, fzc_sound I B 5 hf (fun b hb => hB b (List.mem_flatMap.2 ⟨x, List.mem_of_getElem? hx, hb⟩)) hr⟩
  · exact fzc_sound I B fzDepth h hB r
theorem fzv_sound (I : Inv fid S J M w) {v v' : AV} {cv : Value} (h : fzv S v = some v') (r : ARep fid J M v cv) : FRep fid (Mset S J M w fun _ => True) v' cv := by
  unfold fzv at h
  split at h
  · rename_i vs
    obtain ⟨vs', hc, e⟩ := Option.bind_eq_some_iff.1 h
    cases e
    obtain ⟨ws, rfl, hs, hq⟩ := r.tup_inv
    obtain ⟨hl, _⟩ := mapM_some hc
    refine FRep.tup_mk (by omega) fun k y hy => ?_
    obtain ⟨x, hx, hf⟩ := mapM_inv hc hy
    obtain ⟨cv, hv, hr⟩ := hq k x hx
    exact ⟨cv, hv, fz1_sound I _ hf (fun _ _ => trivial) hr⟩
  · exact fz1_sound I _ h (fun _ _ => trivial) r
theorem nrc_ids {v : AV} (h : nrc v = true) (fuel : Nat) : ids S fuel v = [] := by
  cases v <;> simp [nrc] at h <;> cases fuel <;> simp [ids]
theorem nr1_ids {v : AV} (h : nr1 v = true) (fuel : Nat) : ids S fuel v = [] := by
  unfold nr1 at h
  split at h
  · rename_i cs
    cases fuel with
    | zero => rfl
    | succ fuel =>
      simp only [ids, List.flatMap_eq_nil_iff]
      intro x hx
      exact nrc_ids (List.all_eq_true.1 h x hx) fuel
  · rename_i f cs
    cases fuel with
    | zero => rfl
    | succ fuel =>
      simp only [ids, List.flatMap_eq_nil_iff]
      intro x hx
      exact nrc_ids (List.all_eq_true.1 h x hx) fuel
  · exact nrc_ids h fuel
theorem nrc_fr {v : AV} {cv : Value} (h : nrc v = true) (r : ARep fid J M v cv) : FRep fid M v cv := by
  cases r with
  | fr r => exact r
  | _ => simp [nrc] at h
theorem nr1_fr {v : AV} {cv : Value} (h : nr1 v = true) (r : ARep fid J M v cv) : FRep fid M v cv := by
  unfold nr1 at h
  split at h
  · rename_i cs
    obtain ⟨vs, rfl, hs, hq⟩ := r.agg_inv
    refine FRep.agg_mk (by omega) fun k x hx => ?_
    obtain ⟨cv, hv, hp, hr⟩ := hq k x hx
    exact ⟨cv, hv, hp, nrc_fr (List.all_eq_true.1 h x (List.mem_of_getElem? hx)) hr⟩
  · rename_i f cs
    obtain ⟨vs, rfl, hs, hq⟩ := r.fn_inv
    refine FRep.fn_mk (by omega) fun k x hx => ?_
    obtain ⟨cv, hv, hr⟩ := hq k x hx
    exact ⟨cv, hv, nrc_fr (List.all_eq_true.1 h x (List.mem_of_getElem? hx)) hr⟩
  · exact nrc_fr h r
theorem bare_fr {v : AV} {cv : Value} {M M' : Mem} (h : v.bare = true) (r : FRep fid M v cv) : FRep fid M' v cv := by
  have one : ∀ {x : AV} {u : Value}, (match x with | .bool _ | .int .. | .str _ => true | _ => false) = true → FRep fid M x u → FRep fid M' x u := by
    intro x u hx r
    cases r <;> simp at hx
    · exact .bool _
    · exact .int _ _
    · exact .str _
  cases r with
  | bool b => exact .bool b
  | int k n => exact .int k n
  | str s => exact .str s
  | agg cs vs hs cv h1 h2 => exact .agg cs vs hs cv h1 fun k x hx => one (List.all_eq_true.1 h x (List.mem_of_getElem? hx)) (h2 k x hx)
  | tup cs vs hs cv h1 h2 => exact .tup cs vs hs cv h1 fun k x hx => one (List.all_eq_true.1 h x (List.mem_of_getElem? hx)) (h2 k x hx)
  | _ => simp [AV.bare] at h
end
section
variable {fid : Nat → FuncId}
theorem cell_same {w w' : World} {i : Nat} (h : w'.heap[i]? = w.heap[i]?) (o : Nat) : w'.cell? ⟨i, o, none⟩ = w.cell? ⟨i, o, none⟩ := by simp [World.cell?, h]
theorem cell_lt {w : World} {i o : Nat} {v : Value} (h : w.cell? ⟨i, o, none⟩ = some v) : i < w.heap.size := by
  unfold World.cell? at h
  cases e : w.heap[i]? with
  | none => simp [e] at h
  | some x => exact (Array.getElem?_eq_some_iff.1 e).1
theorem Inv.mem_lt {S : Store} {J : JMap} {M : Mem} {w : World} (I : Inv fid S J M w) {b o : Nat} {v : Value} (h : M b o = some v) : b < w.heap.size := cell_lt (I.mem _ _ _ h).1
theorem Inv.grow {S : Store} {J : JMap} {M : Mem} {w w' : World} (I : Inv fid S J M w) (hf : ∀ i, i < w.heap.size → w'.heap[i]? = w.heap[i]?) : Inv fid S J M w' := by
  refine ⟨fun b o v h => ?_, fun b cs ex hb hj => ?_, I.fzb, I.jlt, I.jmx, I.jps, I.inj⟩
  · obtain ⟨h1, h2⟩ := I.mem b o v h
    exact ⟨(cell_same (hf b (cell_lt h1)) o).trans h1, h2⟩
  · rcases I.blk b cs ex hb hj with h | ⟨blk, base, ps, arr, el, hj', hh, r⟩
    · exact .inl h
    · exact .inr ⟨blk, base, ps, arr, el, hj', (hf blk (Array.getElem?_eq_some_iff.1 hh).1).trans hh, r⟩
theorem Step.grow {S0 S : Store} {J0 J : JMap} {M0 M : Mem} {w0 w w' : World} (h : Step S0 J0 M0 w0 S J M w) (hf : ∀ i, i < w.heap.size → w'.heap[i]? = w.heap[i]?) (hs : w.heap.size ≤ w'.heap.size)
    (h1 : w'.os = w.os) (h2 : w'.tape = w.tape) (h3 : w'.output = w.output) : Step S0 J0 M0 w0 S J M w' :=
  ⟨h.jle, h.mle, h.mnew, fun i hi hw => (hf i (Nat.lt_of_lt_of_le hi h.size)).trans (h.frame i hi hw), h.wnew, Nat.le_trans h.size hs, h1.trans h.os, h2.trans h.tape, h3.trans h.output, h.slen, h.keep⟩
def JMap.put (J : JMap) (b vl : Nat) (l : Option (Nat × Nat × Nat)) : JMap := fun b' vl' => if b' = b ∧ vl' = vl then some l else J b' vl'
theorem JMap.put_le {J : JMap} {b vl : Nat} {l : Option (Nat × Nat × Nat)} (h : J b vl = none ∨ J b vl = some l) : J.le (J.put b vl l) := by
  intro b' vl' l' e
  unfold JMap.put
  split
  · rename_i hh
    obtain ⟨rfl, rfl⟩ := hh
    rcases h with h | h
    · rw [h] at e; cases e
    · rw [h] at e; exact e
  · exact e
theorem JMap.put_self (J : JMap) (b vl : Nat) (l : Option (Nat × Nat × Nat)) : J.put b vl l b vl = some l := by simp [JMap.put]
theorem Inv.setb {S : Store} {J : JMap} {M : Mem} {w w' : World} (I : Inv fid S J M w) {b : Nat} {cs cs' : List AV} {ex ex' : Bool} (hb : S[b]? = some (.mu cs ex)) (hjd : ∃ vl, J b vl ≠ none)
    {blk base ps : Nat} {arr : Array Value} {el : TypeId} (hlen : cs.length ≤ cs'.length)
    (hJ : J b cs'.length = none ∨ J b cs'.length = some (some (blk, base, ps)))
    (hsame : ∀ i, i < w.heap.size → (∀ base ps, J b cs.length ≠ some (some (i, base, ps))) → w'.heap[i]? = w.heap[i]?)
    (hat : w.heap.size ≤ blk ∨ ∃ base ps, J b cs.length = some (some (blk, base, ps)))
    (hh : w'.heap[blk]? = some (.cells arr el (0, 0))) (hsz : arr.size = base + ps) (hps : cs'.length ≤ ps) (hex : ex' = true → ps = cs'.length)
    (hc : ∀ (k : Nat) (x : AV), cs'[k]? = some x → ∃ v, arr[base + k]? = some v ∧ v.plain ∧ ARep fid J M x v)
    (hs : w.heap.size ≤ w'.heap.size) (h1 : w'.os = w.os) (h2 : w'.tape = w.tape) (h3 : w'.output = w.output) :
    Inv fid (S.set b (.mu cs' ex')) (J.put b cs'.length (some (blk, base, ps))) M w' ∧ Step S J M w (S.set b (.mu cs' ex')) (J.put b cs'.length (some (blk, base, ps))) M w' := by
  have hle : J.le (J.put b cs'.length (some (blk, base, ps))) := JMap.put_le hJ
  have hbl : b < S.length := (List.getElem?_eq_some_iff.1 hb).1
  have hget : ∀ b' B, (S.set b (.mu cs' ex'))[b']? = some B → (b' = b ∧ B = .mu cs' ex') ∨ (b' ≠ b ∧ S[b']? = some B) := by
    intro b' B e
    by_cases hbb : b' = b
    · subst hbb; rw [List.getElem?_set_self hbl] at e; cases e; exact .inl ⟨rfl, rfl⟩
    · rw [List.getElem?_set_ne (fun h => hbb h.symm)] at e; exact .inr ⟨hbb, e⟩
  have hjne : ∀ b' vl, b' ≠ b → (J.put b cs'.length (some (blk, base, ps))) b' vl = J b' vl := by
    intro b' vl hne; simp [JMap.put, hne]
  have hnot : ∀ i, (∃ base ps, J b cs.length = some (some (i, base, ps))) → Wr S J i := fun i ⟨base, ps, e⟩ => ⟨b, cs, ex, base, ps, hb, e⟩
  have hMn : ∀ o, M blk o = none := by
    intro o
    rcases hat with h | h
    · cases e : M blk o with
      | none => rfl
      | some v => have := I.mem_lt e; omega
    · exact I.wr_none (hnot _ h) o
  have hkeep : ∀ i, i < w.heap.size → ¬ (∃ base ps, J b cs.length = some (some (i, base, ps))) → w'.heap[i]? = w.heap[i]? := fun i hi hn => hsame i hi fun base ps e => hn ⟨base, ps, e⟩
  refine ⟨⟨fun b' o v h => ?_, fun b' c e hb' hj => ?_, fun b' c hb' hj => ?_, fun b' vl h => ?_, fun b' vl c e hb' h => ?_, fun b' vl blk1 base1 ps1 h => ?_, ?_⟩, ⟨hle, fun _ _ _ h => h, fun _ _ _ h => .inl h, fun i hi hw => hkeep i hi fun h => hw (hnot i h), fun i hi => ?_, hs, h1, h2, h3, by simp, fun b' hb' hj => ?_⟩⟩
  · obtain ⟨e1, e2⟩ := I.mem b' o v h
    refine ⟨?_, e2⟩
    rw [cell_same (hkeep b' (cell_lt e1) fun hw => ?_) o, e1]
    rw [I.wr_none (hnot _ hw) o] at h; cases h
  · rcases hget b' _ hb' with ⟨rfl, e'⟩ | ⟨hne, hb''⟩
    · cases e'
      exact .inr ⟨blk, base, ps, arr, el, JMap.put_self .., hh, hsz, hps, hex, fun k x hx => let ⟨v, a1, a2, a3⟩ := hc k x hx; ⟨v, a1, a2, a3.mono hle fun _ _ _ h => h⟩, hMn⟩
    · have hj' : ∃ vl, J b' vl ≠ none := by obtain ⟨vl, h⟩ := hj; exact ⟨vl, by rwa [hjne b' vl hne] at h⟩
      rcases I.blk b' c e hb'' hj' with ⟨a1, a2, a3⟩ | ⟨blk', base', ps', arr', el', a1, a2, a3, a4, a5, a6, a7⟩
      · exact .inl ⟨a1, a2, by rw [hjne b' 0 hne]; exact a3⟩
      · refine .inr ⟨blk', base', ps', arr', el', hle _ _ _ a1, ?_, a3, a4, a5, fun k x hx => let ⟨v, u1, u2, u3⟩ := a6 k x hx; ⟨v, u1, u2, u3.mono hle fun _ _ _ h => h⟩, a7⟩
        rw [hkeep blk' (Array.getElem?_eq_some_iff.1 a2).1 fun ⟨base2, ps2, hw⟩ => hne (I.inj b' b c e cs ex blk' base' ps' base2 ps2 hb'' a1 hb hw), a2]
  · rcases hget b' _ hb' with ⟨rfl, e'⟩ | ⟨hne, hb''⟩
    · cases e'
    · have hj' : ∃ vl, J b' vl ≠ none := by obtain ⟨vl, h⟩ := hj; exact ⟨vl, by rwa [hjne b' vl hne] at h⟩
      rcases I.fzb b' c hb'' hj' with ⟨a1, a2⟩ | ⟨blk', base', ps', a1, a2⟩
      · exact .inl ⟨a1, by rw [hjne b' 0 hne]; exact a2⟩
      · exact .inr ⟨blk', base', ps', hle _ _ _ a1, a2⟩
  · rw [List.length_set]
    by_cases hbb : b' = b
    · subst hbb; exact hbl
    · rw [hjne b' vl hbb] at h; exact I.jlt b' vl h
  · rcases hget b' _ hb' with ⟨rfl, e'⟩ | ⟨hne, hb''⟩
    · cases e'
      by_cases hv : vl = cs'.length
      · omega
      · have : J b' vl ≠ none := by simpa [JMap.put, hv] using h
        have := I.jmx b' vl cs ex hb this
        omega
    · rw [hjne b' vl hne] at h
      exact I.jmx b' vl c e hb'' h
  · unfold JMap.put at h
    split at h
    · rename_i hh; obtain ⟨rfl, rfl⟩ := hh; cases h; exact hps
    · exact I.jps _ _ _ _ _ h
  · intro b1 b2 c1 e1 c2 e2 blk' base1 ps1 base2 ps2 hb1 hj1 hb2 hj2
    rcases hget b1 _ hb1 with ⟨rfl, r1⟩ | ⟨hne1, hb1'⟩
    · cases r1
      rcases hget b2 _ hb2 with ⟨rfl, r2⟩ | ⟨hne2, hb2'⟩
      · rfl
      · rw [JMap.put_self] at hj1; cases hj1
        rw [hjne b2 _ hne2] at hj2
        rcases hat with h | ⟨base', ps', h⟩
        · have := I.wr_lt ⟨b2, c2, e2, base2, ps2, hb2', hj2⟩; omega
        · exact I.inj b1 b2 cs ex c2 e2 blk base' ps' base2 ps2 hb h hb2' hj2
    · rw [hjne b1 _ hne1] at hj1
      rcases hget b2 _ hb2 with ⟨rfl, r2⟩ | ⟨hne2, hb2'⟩
      · cases r2
        rw [JMap.put_self] at hj2; cases hj2
        rcases hat with h | ⟨base', ps', h⟩
        · have := I.wr_lt ⟨b1, c1, e1, base1, ps1, hb1', hj1⟩; omega
        · exact I.inj b1 b2 c1 e1 cs ex blk base1 ps1 base' ps' hb1' hj1 hb h
      · rw [hjne b2 _ hne2] at hj2
        exact I.inj b1 b2 c1 e1 c2 e2 blk' base1 ps1 base2 ps2 hb1' hj1 hb2' hj2
  · obtain ⟨b', c, e, base', ps', hb', hj'⟩ := hi
    rcases hget b' _ hb' with ⟨rfl, r⟩ | ⟨hne, hb''⟩
    · cases r
      rw [JMap.put_self] at hj'; cases hj'
      rcases hat with h | h
      · exact .inr h
      · exact .inl (hnot _ h)
    · rw [hjne b' _ hne] at hj'
      exact .inl ⟨b', c, e, base', ps', hb'', hj'⟩
  · have hne : b' ≠ b := by rintro rfl; obtain ⟨vl, h⟩ := hjd; exact h (hj vl)
    exact ⟨List.getElem?_set_ne (fun h => hne h.symm), fun vl => by rw [hjne b' vl hne]; exact hj vl⟩
theorem Inv.reg {S : Store} {J : JMap} {M : Mem} {w : World} (I : Inv fid S J M w) {cs : List AV} {ex : Bool} {blk base ps : Nat} {arr : Array Value} {el : TypeId}
    (hh : w.heap[blk]? = some (.cells arr el (0, 0))) (hn : ¬ Wr S J blk) (hM : ∀ o, M blk o = none) (hsz : arr.size = base + ps) (hps : cs.length ≤ ps) (hex : ex = true → ps = cs.length)
    (hc : ∀ (k : Nat) (x : AV), cs[k]? = some x → ∃ v, arr[base + k]? = some v ∧ v.plain ∧ ARep fid J M x v) :
    Inv fid (S ++ [.mu cs ex]) (J.put S.length cs.length (some (blk, base, ps))) M w := by
  have hJ : ∀ vl, J S.length vl = none := by
    intro vl
    cases e : J S.length vl with
    | none => rfl
    | some l => have := I.jlt S.length vl (by rw [e]; simp); omega
  have hle : J.le (J.put S.length cs.length (some (blk, base, ps))) := JMap.put_le (.inl (hJ _))
  have hjne : ∀ b' vl, b' ≠ S.length → (J.put S.length cs.length (some (blk, base, ps))) b' vl = J b' vl := by
    intro b' vl hne; simp [JMap.put, hne]
  have hget : ∀ b' B, (S ++ [.mu cs ex])[b']? = some B → (b' = S.length ∧ B = .mu cs ex) ∨ (b' ≠ S.length ∧ S[b']? = some B) := by
    intro b' B e
    have hb' : b' < S.length + 1 := by have := (List.getElem?_eq_some_iff.1 e).1; simpa using this
    by_cases hbb : b' = S.length
    · subst hbb; simp at e; exact .inl ⟨rfl, e.symm⟩
    · rw [List.getElem?_append_left (by omega)] at e; exact .inr ⟨hbb, e⟩
  refine ⟨I.mem, fun b' c e hb' hj => ?_, fun b' c hb' hj => ?_, fun b' vl h => ?_, fun b' vl c e hb' h => ?_, fun b' vl blk1 base1 ps1 h => ?_, ?_⟩
  · rcases hget b' _ hb' with ⟨rfl, e'⟩ | ⟨hne, hb''⟩
    · cases e'
      exact .inr ⟨blk, base, ps, arr, el, JMap.put_self .., hh, hsz, hps, hex, fun k x hx => let ⟨v, a1, a2, a3⟩ := hc k x hx; ⟨v, a1, a2, a3.mono hle fun _ _ _ h => h⟩, hM⟩
    · have hj' : ∃ vl, J b' vl ≠ none := by obtain ⟨vl, h⟩ := hj; exact ⟨vl, by rwa [hjne b' vl hne] at h⟩
      rcases I.blk b' c e hb'' hj' with ⟨a1, a2, a3⟩ | ⟨blk', base', ps', arr', el', a1, a2, a3, a4, a5, a6, a7⟩
      · exact .inl ⟨a1, a2, by rw [hjne b' 0 hne]; exact a3⟩
      · exact .inr ⟨blk', base', ps', arr', el', hle _ _ _ a1, a2, a3, a4, a5, fun k x hx => let ⟨v, u1, u2, u3⟩ := a6 k x hx; ⟨v, u1, u2, u3.mono hle fun _ _ _ h => h⟩, a7⟩
  · rcases hget b' _ hb' with ⟨rfl, e'⟩ | ⟨hne, hb''⟩
    · cases e'
    · have hj' : ∃ vl, J b' vl ≠ none := by obtain ⟨vl, h⟩ := hj; exact ⟨vl, by rwa [hjne b' vl hne] at h⟩
      rcases I.fzb b' c hb'' hj' with ⟨a1, a2⟩ | ⟨blk', base', ps', a1, a2⟩
      · exact .inl ⟨a1, by rw [hjne b' 0 hne]; exact a2⟩
      · exact .inr ⟨blk', base', ps', hle _ _ _ a1, a2⟩
  · rw [List.length_append, List.length_singleton]
    by_cases hbb : b' = S.length
    · omega
    · rw [hjne b' vl hbb] at h; have := I.jlt b' vl h; omega
  · rcases hget b' _ hb' with ⟨rfl, e'⟩ | ⟨hne, hb''⟩
    · cases e'
      by_cases hv : vl = cs.length
      · omega
      · simp [JMap.put, hv, hJ] at h
    · rw [hjne b' vl hne] at h
      exact I.jmx b' vl c e hb'' h
  · unfold JMap.put at h
    split at h
    · rename_i hh; obtain ⟨rfl, rfl⟩ := hh; cases h; exact hps
    · exact I.jps _ _ _ _ _ h
  · intro b1 b2 c1 e1 c2 e2 blk' base1 ps1 base2 ps2 hb1 hj1 hb2 hj2
    rcases hget b1 _ hb1 with ⟨rfl, r1⟩ | ⟨hne1, hb1'⟩
    · cases r1
      rcases hget b2 _ hb2 with ⟨rfl, r2⟩ | ⟨hne2, hb2'⟩
      · rfl
      · rw [JMap.put_self] at hj1; cases hj1
        rw [hjne b2 _ hne2] at hj2
        exact absurd ⟨b2, c2, e2, base2, ps2, hb2', hj2⟩ hn
    · rw [hjne b1 _ hne1] at hj1
      rcases hget b2 _ hb2 with ⟨rfl, r2⟩ | ⟨hne2, hb2'⟩
      · cases r2
        rw [JMap.put_self] at hj2; cases hj2
        exact absurd ⟨b1, c1, e1, base1, ps1, hb1', hj1⟩ hn
      · rw [hjne b2 _ hne2] at hj2
        exact I.inj b1 b2 c1 e1 c2 e2 blk' base1 ps1 base2 ps2 hb1' hj1 hb2' hj2
theorem Step.reg {S0 S : Store} {J0 J : JMap} {M0 M : Mem} {w0 w : World} (h : Step S0 J0 M0 w0 S J M w) (hJ : ∀ vl, J S.length vl = none) {cs : List AV} {ex : Bool} {blk base ps : Nat} (hblk : w0.heap.size ≤ blk) :
    Step S0 J0 M0 w0 (S ++ [.mu cs ex]) (J.put S.length cs.length (some (blk, base, ps))) M w := by
  refine ⟨fun b vl l e => JMap.put_le (.inl (hJ _)) _ _ _ (h.jle _ _ _ e), h.mle, h.mnew, h.frame, fun i hi => ?_, h.size, h.os, h.tape, h.output, by simp; have := h.slen; omega, fun b hb hj => ?_⟩
  · obtain ⟨b', c, e, base', ps', hb', hj'⟩ := hi
    have hlt : b' < S.length + 1 := by have := (List.getElem?_eq_some_iff.1 hb').1; simpa using this
    by_cases hbb : b' = S.length
    · subst hbb; simp at hb'; obtain ⟨rfl, rfl⟩ := hb'
      rw [JMap.put_self] at hj'; cases hj'; exact .inr hblk
    · rw [List.getElem?_append_left (by omega)] at hb'
      exact h.wnew i ⟨b', c, e, base', ps', hb', by simpa [JMap.put, hbb] using hj'⟩
  · obtain ⟨a1, a2⟩ := h.keep b hb hj
    have := h.slen
    refine ⟨by rw [List.getElem?_append_left (by omega)]; exact a1, fun vl => ?_⟩
    have hne : b ≠ S.length := by omega
    simp [JMap.put, hne, a2]
theorem Inv.fresh {S : Store} {J : JMap} {M : Mem} {w : World} (I : Inv fid S J M w) (vl : Nat) : J S.length vl = none := by
  cases e : J S.length vl with
  | none => rfl
  | some l => have := I.jlt S.length vl (by rw [e]; simp); omega
theorem Inv.regN {S : Store} {J : JMap} {M : Mem} {w : World} (I : Inv fid S J M w) : Inv fid (S ++ [.mu [] false]) (J.put S.length 0 none) M w := by
  have hJ := I.fresh
  have hle : J.le (J.put S.length 0 none) := JMap.put_le (.inl (hJ _))
  have hjne : ∀ b' vl, b' ≠ S.length → (J.put S.length 0 none) b' vl = J b' vl := by
    intro b' vl hne; simp [JMap.put, hne]
  have hget : ∀ b' B, (S ++ [.mu [] false])[b']? = some B → (b' = S.length ∧ B = .mu [] false) ∨ (b' ≠ S.length ∧ S[b']? = some B) := by
    intro b' B e
    have hb' : b' < S.length + 1 := by have := (List.getElem?_eq_some_iff.1 e).1; simpa using this
    by_cases hbb : b' = S.length
    · subst hbb; simp at e; exact .inl ⟨rfl, e.symm⟩
    · rw [List.getElem?_append_left (by omega)] at e; exact .inr ⟨hbb, e⟩
  refine ⟨I.mem, fun b' c e hb' hj => ?_, fun b' c hb' hj => ?_, fun b' vl h => ?_, fun b' vl c e hb' h => ?_, fun b' vl blk1 base1 ps1 h => ?_, ?_⟩
  · rcases hget b' _ hb' with ⟨rfl, e'⟩ | ⟨hne, hb''⟩
    · cases e'
      exact .inl ⟨rfl, rfl, JMap.put_self ..⟩
    · have hj' : ∃ vl, J b' vl ≠ none := by obtain ⟨vl, h⟩ := hj; exact ⟨vl, by rwa [hjne b' vl hne] at h⟩
      rcases I.blk b' c e hb'' hj' with ⟨a1, a2, a3⟩ | ⟨blk', base', ps', arr', el', a1, a2, a3, a4, a5, a6, a7⟩
      · exact .inl ⟨a1, a2, by rw [hjne b' 0 hne]; exact a3⟩
      · exact .inr ⟨blk', base', ps', arr', el', hle _ _ _ a1, a2, a3, a4, a5, fun k x hx => let ⟨v, u1, u2, u3⟩ := a6 k x hx; ⟨v, u1, u2, u3.mono hle fun _ _ _ h => h⟩, a7⟩
  · rcases hget b' _ hb' with ⟨rfl, e'⟩ | ⟨hne, hb''⟩
    · cases e'
    · have hj' : ∃ vl, J b' vl ≠ none := by obtain ⟨vl, h⟩ := hj; exact ⟨vl, by rwa [hjne b' vl hne] at h⟩
      rcases I.fzb b' c hb'' hj' with ⟨a1, a2⟩ | ⟨blk', base', ps', a1, a2⟩
      · exact .inl ⟨a1, by rw [hjne b' 0 hne]; exact a2⟩
      · exact .inr ⟨blk', base', ps', hle _ _ _ a1, a2⟩
  · rw [List.length_append, List.length_singleton]
    by_cases hbb : b' = S.length
    · omega
    · rw [hjne b' vl hbb] at h; have := I.jlt b' vl h; omega
  · rcases hget b' _ hb' with ⟨rfl, e'⟩ | ⟨hne, hb''⟩
    · cases e'
      by_cases hv : vl = 0
      · simp [hv]
      · simp [JMap.put, hv, hJ] at h
    · rw [hjne b' vl hne] at h
      exact I.jmx b' vl c e hb'' h
  · unfold JMap.put at h
    split at h
    · cases h
    · exact I.jps _ _ _ _ _ h
  · intro b1 b2 c1 e1 c2 e2 blk' base1 ps1 base2 ps2 hb1 hj1 hb2 hj2
    rcases hget b1 _ hb1 with ⟨rfl, r1⟩ | ⟨hne1, hb1'⟩
    · cases r1
      simp only [List.length_nil] at hj1
      rw [JMap.put_self] at hj1; cases hj1
    · rw [hjne b1 _ hne1] at hj1
      rcases hget b2 _ hb2 with ⟨rfl, r2⟩ | ⟨hne2, hb2'⟩
      · cases r2
        simp only [List.length_nil] at hj2
        rw [JMap.put_self] at hj2; cases hj2
      · rw [hjne b2 _ hne2] at hj2
        exact I.inj b1 b2 c1 e1 c2 e2 blk' base1 ps1 base2 ps2 hb1' hj1 hb2' hj2
theorem Step.regN {S0 S : Store} {J0 J : JMap} {M0 M : Mem} {w0 w : World} (h : Step S0 J0 M0 w0 S J M w) (hJ : ∀ vl, J S.length vl = none) : Step S0 J0 M0 w0 (S ++ [.mu [] false]) (J.put S.length 0 none) M w := by
  refine ⟨fun b vl l e => JMap.put_le (.inl (hJ _)) _ _ _ (h.jle _ _ _ e), h.mle, h.mnew, h.frame, fun i hi => ?_, h.size, h.os, h.tape, h.output, by simp; have := h.slen; omega, fun b hb hj => ?_⟩
  · obtain ⟨b', c, e, base', ps', hb', hj'⟩ := hi
    have hlt : b' < S.length + 1 := by have := (List.getElem?_eq_some_iff.1 hb').1; simpa using this
    by_cases hbb : b' = S.length
    · subst hbb; simp at hb'; obtain ⟨rfl, rfl⟩ := hb'
      simp only [List.length_nil] at hj'
      rw [JMap.put_self] at hj'; cases hj'
    · rw [List.getElem?_append_left (by omega)] at hb'
      exact h.wnew i ⟨b', c, e, base', ps', hb', by simpa [JMap.put, hbb] using hj'⟩
  · obtain ⟨a1, a2⟩ := h.keep b hb hj
    have := h.slen
    refine ⟨by rw [List.getElem?_append_left (by omega)]; exact a1, fun vl => ?_⟩
    have hne : b ≠ S.length := by omega
    simp [JMap.put, hne, a2]
def JMap.cut (J : JMap) (n : Nat) : JMap := fun b vl => if b < n then J b vl else none
theorem JMap.cut_lt {J : JMap} {n b : Nat} (h : b < n) (vl : Nat) : J.cut n b vl = J b vl := if_pos h
theorem JMap.cut_le (J : JMap) (n : Nat) : (J.cut n).le J := fun b vl l h => by
  unfold JMap.cut at h
  split at h
  · exact h
  · cases h
theorem ltc_rep {J : JMap} {M : Mem} {n : Nat} {v : AV} {cv : Value} (h : ltc n v = true) (r : ARep fid J M v cv) : ARep fid (J.cut n) M v cv := by
  cases r with
  | any => exact .any _
  | fr r => exact .fr r
  | mptr b off vl blk base ps e =>
    have : b < n := by simpa [ltc] using h
    exact .mptr b off vl blk base ps (by rw [JMap.cut_lt this]; exact e)
  | msl b off n' sz vl cap blk base ps c a e hn hc ha =>
    have : b < n := by simpa [ltc] using h
    exact .msl b off n' sz vl cap blk base ps c a (by rw [JMap.cut_lt this]; exact e) hn hc ha
  | mslN b sz cap a e hc =>
    have : b < n := by simpa [ltc] using h
    exact .mslN b sz cap a (by rw [JMap.cut_lt this]; exact e) hc
  | tup cs vs hs cv h1 h2 =>
    cases cs with
    | nil => exact .tup [] vs hs cv (fun k x hx => by simp at hx) (fun k x hx => by simp at hx)
    | cons a l => simp [ltc] at h
  | _ => simp [ltc] at h
theorem lt1_rep {J : JMap} {M : Mem} {n : Nat} {v : AV} {cv : Value} (h : lt1 n v = true) (r : ARep fid J M v cv) : ARep fid (J.cut n) M v cv := by
  unfold lt1 at h
  split at h
  · rename_i cs
    obtain ⟨vs, rfl, hs, hq⟩ := r.agg_inv
    refine ARep.agg_mk (by omega) fun k x hx => ?_
    obtain ⟨cv, hv, hp, hr⟩ := hq k x hx
    exact ⟨cv, hv, hp, ltc_rep (List.all_eq_true.1 h x (List.mem_of_getElem? hx)) hr⟩
  · rename_i f cs
    obtain ⟨vs, rfl, hs, hq⟩ := r.fn_inv
    refine ARep.fn_mk (by omega) fun k x hx => ?_
    obtain ⟨cv, hv, hr⟩ := hq k x hx
    exact ⟨cv, hv, ltc_rep (List.all_eq_true.1 h x (List.mem_of_getElem? hx)) hr⟩
  · rename_i cs
    obtain ⟨vs, rfl, hs, hq⟩ := r.tup_inv
    refine ARep.tup_mk (by omega) fun k x hx => ?_
    obtain ⟨cv, hv, hr⟩ := hq k x hx
    exact ⟨cv, hv, ltc_rep (List.all_eq_true.1 h x (List.mem_of_getElem? hx)) hr⟩
  · exact ltc_rep h r
theorem Inv.cut {S : Store} {J : JMap} {M : Mem} {w : World} (I : Inv fid S J M w) {n : Nat} (h : (S.take n).all (Blk.lt n) = true) : Inv fid (S.take n) (J.cut n) M w := by
  have hget : ∀ b B, (S.take n)[b]? = some B → b < n ∧ S[b]? = some B := by
    intro b B e
    have hb : b < n := by have := (List.getElem?_eq_some_iff.1 e).1; simp at this; omega
    rw [List.getElem?_take_of_lt hb] at e
    exact ⟨hb, e⟩
  refine ⟨I.mem, fun b c e hb hj => ?_, fun b c hb hj => ?_, fun b vl hj => ?_, fun b vl c e hb hj => ?_, fun b vl blk1 base1 ps1 h => I.jps b vl blk1 base1 ps1 (JMap.cut_le J n _ _ _ h), ?_⟩
  · have hall := List.all_eq_true.1 h _ (List.mem_of_getElem? hb)
    obtain ⟨hbn, hb'⟩ := hget b _ hb
    rcases I.blk b c e hb' (by obtain ⟨vl, x⟩ := hj; rw [JMap.cut_lt hbn] at x; exact ⟨vl, x⟩) with ⟨a1, a2, a3⟩ | ⟨blk', base', ps', arr', el', a1, a2, a3, a4, a5, a6, a7⟩
    · exact .inl ⟨a1, a2, by rw [JMap.cut_lt hbn]; exact a3⟩
    · exact .inr ⟨blk', base', ps', arr', el', by rw [JMap.cut_lt hbn]; exact a1, a2, a3, a4, a5, fun k x hx => let ⟨v, u1, u2, u3⟩ := a6 k x hx; ⟨v, u1, u2, lt1_rep (List.all_eq_true.1 hall x (List.mem_of_getElem? hx)) u3⟩, a7⟩
  · obtain ⟨hbn, hb'⟩ := hget b _ hb
    rcases I.fzb b c hb' (by obtain ⟨vl, x⟩ := hj; rw [JMap.cut_lt hbn] at x; exact ⟨vl, x⟩) with ⟨a1, a2⟩ | ⟨blk', base', ps', a1, a2⟩
    · exact .inl ⟨a1, by rw [JMap.cut_lt hbn]; exact a2⟩
    · exact .inr ⟨blk', base', ps', by rw [JMap.cut_lt hbn]; exact a1, a2⟩
  · have hbn : b < n := by
      unfold JMap.cut at hj
      split at hj
      · assumption
      · exact absurd rfl hj
    rw [JMap.cut_lt hbn] at hj
    have := I.jlt b vl hj
    simp; omega
  · obtain ⟨hbn, hb'⟩ := hget b _ hb
    rw [JMap.cut_lt hbn] at hj
    exact I.jmx b vl c e hb' hj
  · intro b1 b2 c1 e1 c2 e2 blk' base1 ps1 base2 ps2 hb1 hj1 hb2 hj2
    obtain ⟨h1, hb1'⟩ := hget b1 _ hb1
    obtain ⟨h2, hb2'⟩ := hget b2 _ hb2
    rw [JMap.cut_lt h1] at hj1
    rw [JMap.cut_lt h2] at hj2
    exact I.inj b1 b2 c1 e1 c2 e2 blk' base1 ps1 base2 ps2 hb1' hj1 hb2' hj2
theorem Step.cut {S0 S : Store} {J0 J : JMap} {M0 M : Mem} {w0 w : World} (h : Step S0 J0 M0 w0 S J M w) (I0 : Inv fid S0 J0 M0 w0) : Step S0 J0 M0 w0 (S.take S0.length) (J.cut S0.length) M w := by
  refine ⟨fun b vl l e => ?_, h.mle, h.mnew, h.frame, fun i hi => ?_, h.size, h.os, h.tape, h.output, by simp only [List.length_take]; exact Nat.le_min.2 ⟨Nat.le_refl _, h.slen⟩, fun b hb hj => ?_⟩
  · rw [JMap.cut_lt (I0.jlt b vl (by rw [e]; simp))]; exact h.jle _ _ _ e
  · obtain ⟨b, c, e, base, ps, hb, hj⟩ := hi
    have hbn : b < S0.length := by have := (List.getElem?_eq_some_iff.1 hb).1; simp at this; omega
    rw [List.getElem?_take_of_lt hbn] at hb
    rw [JMap.cut_lt hbn] at hj
    exact h.wnew i ⟨b, c, e, base, ps, hb, hj⟩
  · obtain ⟨a1, a2⟩ := h.keep b hb hj
    exact ⟨by rw [List.getElem?_take_of_lt hb]; exact a1, fun vl => by rw [JMap.cut_lt hb]; exact a2 vl⟩
theorem ids_def {S : Store} {J : JMap} {M : Mem} {w : World} (I : Inv fid S J M w) (fuel : Nat) : ∀ {v : AV} {cv : Value}, ARep fid J M v cv → ∀ b ∈ ids S fuel v, ∃ vl, J b vl ≠ none := by
  induction fuel with
  | zero => intro v cv r b hb; cases v <;> simp [ids] at hb
  | succ fuel ih =>
    have content : ∀ b vl, J b vl ≠ none → ∀ i ∈ (match S[b]? with | some (.mu cs _) => cs.flatMap (ids S fuel) | _ => []), ∃ vl, J i vl ≠ none := by
      intro b vl hj i hi
      split at hi
      · rename_i cs ex hb
        obtain ⟨x, hx, hi⟩ := List.mem_flatMap.1 hi
        rcases I.blk b cs ex hb ⟨vl, hj⟩ with ⟨rfl, _⟩ | ⟨blk', base', ps', arr', el', a1, a2, a3, a4, a5, a6, a7⟩
        · cases hx
        · obtain ⟨k, hk⟩ := List.mem_iff_getElem?.1 hx
          obtain ⟨v, _, _, hr⟩ := a6 k x hk
          exact ih hr i hi
      · cases hi
    intro v cv r b hb
    cases r with
    | any v => simp [ids] at hb
    | fr r => rw [ids_fr (fuel + 1) r] at hb; cases hb
    | mptr b' off vl blk base ps e =>
      simp only [ids, List.mem_cons] at hb
      rcases hb with rfl | hb
      · exact ⟨vl, by rw [e]; simp⟩
      · exact content b' vl (by rw [e]; simp) b hb
    | msl b' off n sz vl cap blk base ps c a e hn hc ha =>
      simp only [ids, List.mem_cons] at hb
      rcases hb with rfl | hb
      · exact ⟨vl, by rw [e]; simp⟩
      · exact content b' vl (by rw [e]; simp) b hb
    | mslN b' sz cap a e hc =>
      simp only [ids, List.mem_cons] at hb
      rcases hb with rfl | hb
      · exact ⟨0, by rw [e]; simp⟩
      · exact content b' 0 (by rw [e]; simp) b hb
    | tl | tup => simp [ids] at hb
    | agg cs vs hs cv h1 h2 =>
      obtain ⟨x, hx, hb⟩ := List.mem_flatMap.1 hb
      obtain ⟨k, hk⟩ := List.mem_iff_getElem?.1 hx
      exact ih (h2 k x hk) b hb
    | fn f cs vs hs cv h1 h2 =>
      obtain ⟨x, hx, hb⟩ := List.mem_flatMap.1 hb
      obtain ⟨k, hk⟩ := List.mem_iff_getElem?.1 hx
      exact ih (h2 k x hk) b hb
theorem settle_get {S : Store} {all : List Nat} : ∀ {bs : List Nat} {S1 S' : Store}, settle S all bs S1 = some S' → S'.length = S1.length ∧
    ∀ b, S'[b]? = S1[b]? ∨ (b ∈ bs ∧ ∃ cs ex cs', S[b]? = some (.mu cs ex) ∧ cs.mapM (fzc S fzDepth) = some cs' ∧ (∀ x ∈ cs, ∀ i ∈ ids S fzDepth x, i ∈ all) ∧ S'[b]? = some (.fz cs')) ∨ S'[b]? = none
  | [], S1, S', h => by
    simp only [settle] at h; cases h
    exact ⟨rfl, fun b => .inl rfl⟩
  | b0 :: bs, S1, S', h => by
    simp only [settle] at h
    split at h
    · rename_i cs ex hb
      obtain ⟨hall, h⟩ := chk_some.1 h
      obtain ⟨cs', hm, h⟩ := Option.bind_eq_some_iff.1 h
      obtain ⟨hl, hg⟩ := settle_get h
      refine ⟨by rw [hl, List.length_set], fun b => ?_⟩
      rcases hg b with e | ⟨hb', r⟩ | e
      · by_cases hbb : b = b0
        · subst hbb
          by_cases hlt : b < S1.length
          · rw [List.getElem?_set_self hlt] at e
            refine .inr (.inl ⟨List.mem_cons_self .., cs, ex, cs', hb, hm, fun x hx i hi => ?_, e⟩)
            have := List.all_eq_true.1 hall i (List.mem_flatMap.2 ⟨x, hx, hi⟩)
            simpa using this
          · exact .inr (.inr (by rw [e]; simp [hlt]))
        · rw [List.getElem?_set_ne (fun h => hbb h.symm)] at e
          exact .inl e
      · exact .inr (.inl ⟨List.mem_cons_of_mem _ hb', r⟩)
      · exact .inr (.inr e)
    · obtain ⟨hl, hg⟩ := settle_get h
      refine ⟨hl, fun b => ?_⟩
      rcases hg b with e | ⟨hb', r⟩ | e
      · exact .inl e
      · exact .inr (.inl ⟨List.mem_cons_of_mem _ hb', r⟩)
      · exact .inr (.inr e)
theorem after_drop {S : Store} {J : JMap} {M : Mem} {w w' : World} (I : Inv fid S J M w) (hf : ∀ i, i < w.heap.size → w'.heap[i]? = w.heap[i]?) (hs : w.heap.size ≤ w'.heap.size)
    (h1 : w'.os = w.os) (h2 : w'.tape = w.tape) (h3 : w'.output = w.output) : Inv fid S J M w' ∧ Step S J M w S J M w' :=
  ⟨I.grow hf, (Step.refl S J M w).grow hf hs h1 h2 h3⟩
theorem after_keep {S : Store} {J : JMap} {M M' : Mem} {w w' : World} (I : Inv fid S J M w) (hm : M.le M') (hn : ∀ b o v, M' b o = some v → M b o = some v ∨ w.heap.size ≤ b)
    (hw : ∀ b o v, M' b o = some v → w'.cell? ⟨b, o, none⟩ = some v ∧ v.plain)
    (hf : ∀ i, i < w.heap.size → w'.heap[i]? = w.heap[i]?) (hs : w.heap.size ≤ w'.heap.size)
    (h1 : w'.os = w.os) (h2 : w'.tape = w.tape) (h3 : w'.output = w.output) : Inv fid S J M' w' ∧ Step S J M w S J M' w' := by
  have I' := I.grow hf
  refine ⟨⟨hw, fun b cs ex hb hj => ?_, fun b cs hb hj => ?_, I.jlt, I.jmx, I.jps, I.inj⟩, ⟨fun _ _ _ h => h, hm, fun b o v h => (hn b o v h).imp id .inl, fun i hi _ => hf i hi, fun _ h => .inl h, hs, h1, h2, h3, Nat.le_refl _, fun _ _ h => ⟨rfl, h⟩⟩⟩
  · rcases I'.blk b cs ex hb hj with h | ⟨blk', base', ps', arr', el', a1, a2, a3, a4, a5, a6, a7⟩
    · exact .inl h
    · refine .inr ⟨blk', base', ps', arr', el', a1, a2, a3, a4, a5, fun k x hx => let ⟨v, u1, u2, u3⟩ := a6 k x hx; ⟨v, u1, u2, u3.mono (fun _ _ _ h => h) hm⟩, fun o => ?_⟩
      cases e : M' blk' o with
      | none => rfl
      | some v =>
        rcases hn _ _ _ e with h | h
        · rw [a7] at h; cases h
        · have := I.wr_lt ⟨b, cs, ex, base', ps', hb, a1⟩; omega
  · rcases I'.fzb b cs hb hj with h | ⟨blk', base', ps', a1, a2⟩
    · exact .inl h
    · exact .inr ⟨blk', base', ps', a1, fun k x hx => let ⟨v, u1, u2⟩ := a2 k x hx; ⟨v, hm _ _ _ u1, u2.mono hm⟩⟩
theorem after_settle {S S' : Store} {J : JMap} {M M' : Mem} {w w' : World} (I : Inv fid S J M w) {bs : List Nat} (hst : settle S bs bs S = some S') (hd : ∀ b ∈ bs, ∃ vl, J b vl ≠ none)
    (hm : (Mset S J M w (· ∈ bs)).le M') (hn : ∀ b o v, M' b o = some v → Mset S J M w (· ∈ bs) b o = some v ∨ w.heap.size ≤ b)
    (hw : ∀ b o v, M' b o = some v → w'.cell? ⟨b, o, none⟩ = some v ∧ v.plain)
    (hf : ∀ i, i < w.heap.size → w'.heap[i]? = w.heap[i]?) (hs : w.heap.size ≤ w'.heap.size)
    (h1 : w'.os = w.os) (h2 : w'.tape = w.tape) (h3 : w'.output = w.output) : Inv fid S' J M' w' ∧ Step S J M w S' J M' w' := by
  have I' := I.grow hf
  have hmm : M.le M' := fun b o v h => hm _ _ _ (Mset_le _ _ _ _ h)
  obtain ⟨hl, hg⟩ := settle_get hst
  have hmu : ∀ (b : Nat) (cs : List AV) (ex : Bool), S'[b]? = some (Blk.mu cs ex) → S[b]? = some (Blk.mu cs ex) := by
    intro b cs ex e
    rcases hg b with h | ⟨_, _, _, _, _, _, _, h⟩ | h
    · rw [h] at e; exact e
    · rw [h] at e; cases e
    · rw [h] at e; cases e
  have hnot : ∀ (b : Nat) (cs : List AV) (ex : Bool), S'[b]? = some (Blk.mu cs ex) → b ∉ bs := by
    intro b cs ex e hb
    -- a block of the list that is still a mutable one was none before
    have key : ∀ {bs0 : List Nat} {S1 : Store}, settle S bs bs0 S1 = some S' → b ∈ bs0 → (∃ cs', S1[b]? = some (.fz cs')) ∨ b < S1.length → ∃ cs', S'[b]? = some (.fz cs') := by
      intro bs0
      induction bs0 with
      | nil => intro S1 _ h _; cases h
      | cons b0 r ih =>
        intro S1 hs hb hl1
        have stay : ∀ {r : List Nat} {S1 : Store}, settle S bs r S1 = some S' → (∃ cs', S1[b]? = some (.fz cs')) → ∃ cs', S'[b]? = some (.fz cs') := by
          intro r
          induction r with
          | nil => intro S1 h e; simp only [settle] at h; cases h; exact e
          | cons b1 r ih =>
            intro S1 h e
            simp only [settle] at h
            split at h
            · obtain ⟨_, h⟩ := chk_some.1 h
              obtain ⟨cs1, _, h⟩ := Option.bind_eq_some_iff.1 h
              refine ih h ?_
              by_cases hbb : b = b1
              · subst hbb
                obtain ⟨c, e⟩ := e
                exact ⟨cs1, List.getElem?_set_self (List.getElem?_eq_some_iff.1 e).1⟩
              · rw [List.getElem?_set_ne (fun h => hbb h.symm)]; exact e
            · exact ih h e
        simp only [settle] at hs
        split at hs
        · rename_i c e' hb0
          obtain ⟨_, hs⟩ := chk_some.1 hs
          obtain ⟨cs1, _, hs⟩ := Option.bind_eq_some_iff.1 hs
          by_cases hbb : b = b0
          · subst hbb
            refine stay hs ⟨cs1, List.getElem?_set_self ?_⟩
            rcases hl1 with ⟨c, e⟩ | h
            · exact (List.getElem?_eq_some_iff.1 e).1
            · exact h
          · refine ih hs ((List.mem_cons.1 hb).resolve_left hbb) ?_
            rw [List.getElem?_set_ne (fun h => hbb h.symm), List.length_set]
            exact hl1
        · rename_i hb0
          by_cases hbb : b = b0
          · subst hbb
            exact absurd (hmu b cs ex e) (hb0 cs ex)
          · exact ih hs ((List.mem_cons.1 hb).resolve_left hbb) hl1
    obtain ⟨cs', h⟩ := key hst hb (.inr (by rw [← hl]; exact (List.getElem?_eq_some_iff.1 e).1))
    rw [h] at e; cases e
  refine ⟨⟨hw, fun b cs ex hb hj => ?_, fun b cs hb hj => ?_, fun b vl h => by rw [hl]; exact I.jlt b vl h, fun b vl cs ex hb h => I.jmx b vl cs ex (hmu b cs ex hb) h, I.jps, ?_⟩,
    ⟨fun _ _ _ h => h, hmm, fun b o v h => ?_, fun i hi _ => hf i hi, fun i hi => ?_, hs, h1, h2, h3, by rw [hl]; exact Nat.le_refl _, fun b hb hj => ⟨?_, hj⟩⟩⟩
  · have hb' := hmu b cs ex hb
    rcases I'.blk b cs ex hb' hj with h | ⟨blk', base', ps', arr', el', a1, a2, a3, a4, a5, a6, a7⟩
    · exact .inl h
    · refine .inr ⟨blk', base', ps', arr', el', a1, a2, a3, a4, a5, fun k x hx => let ⟨v, u1, u2, u3⟩ := a6 k x hx; ⟨v, u1, u2, u3.mono (fun _ _ _ h => h) hmm⟩, fun o => ?_⟩
      cases e : M' blk' o with
      | none => rfl
      | some v =>
        rcases hn _ _ _ e with h | h
        · rw [Mset_none I (hnot b cs ex hb) hb' a1] at h; cases h
        · have := I.wr_lt ⟨b, cs, ex, base', ps', hb', a1⟩; omega
  · rcases hg b with h | ⟨hbs, c, e, cs', hb', hm', hcl, h⟩ | h
    · rw [h] at hb
      rcases I'.fzb b cs hb hj with h | ⟨blk', base', ps', a1, a2⟩
      · exact .inl h
      · exact .inr ⟨blk', base', ps', a1, fun k x hx => let ⟨v, u1, u2⟩ := a2 k x hx; ⟨v, hmm _ _ _ u1, u2.mono hmm⟩⟩
    · rw [h] at hb; cases hb
      obtain ⟨hlen, _⟩ := mapM_some hm'
      rcases I.blk b c e hb' hj with ⟨rfl, _, h0⟩ | ⟨blk', base', ps', arr', el', a1, a2, a3, a4, a5, a6, a7⟩
      · exact .inl ⟨List.eq_nil_of_length_eq_zero (by simpa using hlen), h0⟩
      · refine .inr ⟨blk', base', ps', by rw [hlen]; exact a1, fun k y hy => ?_⟩
        obtain ⟨x, hx, hf'⟩ := mapM_inv hm' hy
        obtain ⟨v, hv, hp, hr⟩ := Mset_of I (B := (· ∈ bs)) hbs hb' a1 hx
        exact ⟨v, hm _ _ _ hv, (fzc_sound I (· ∈ bs) fzDepth hf' (fun i hi => hcl x (List.mem_of_getElem? hx) i hi) hr).mono hm⟩
    · rw [h] at hb; cases hb
  · intro b1 b2 c1 e1 c2 e2 blk' base1 ps1 base2 ps2 hb1 hj1 hb2 hj2
    exact I.inj b1 b2 c1 e1 c2 e2 blk' base1 ps1 base2 ps2 (hmu _ _ _ hb1) hj1 (hmu _ _ _ hb2) hj2
  · rcases hn _ _ _ h with h | h
    · rcases Mset_cases h with h | ⟨_, hc, _⟩
      · exact .inl h
      · exact .inr (.inr hc.wr)
    · exact .inr (.inl h)
  · obtain ⟨b, c, e, base, ps, hb, hj⟩ := hi
    exact .inl ⟨b, c, e, base, ps, hmu _ _ _ hb, hj⟩
  · rcases hg b with h | ⟨hbs, _⟩ | h
    · exact h
    · obtain ⟨vl, hne⟩ := hd b hbs
      exact absurd (hj vl) hne
    · have : b < S'.length := by omega
      simp [List.getElem?_eq_getElem this] at h
end
def okV : Value → AV → Bool
  | .bool b, .bool c => b == c
  | .int k n, .int q m => decide (k = q) && n == m
  | .string s, .str t => s.data.toList == t.data.toList
  | .pointer none, .nilp => true
  | .nilFunc, .nilfn => true
  | .slice none 0 0, .sl [] _ _ => true
  | .tuple cs, .tup [] => cs.isEmpty
  | _, _ => false
def okVs : List Value → List AV → Bool
  | [], [] => true
  | v :: vs, x :: xs => okV v x && v.oneCell' && okVs vs xs
  | _, _ => false
def okC : Value → AV → Bool
  | .agg cs, .agg xs => okVs cs.toList xs
  | v, x => okV v x
section
variable (P : Program) (mid : FuncId → Option Nat)
def okOpd : Operand → Opd → Bool
  | .tmp t, .t i => t == i
  | .const v, .c x => okC v x
  | .func f, .c (.fn m []) => mid f == some m
  | _, _ => false
def okOpds : List Operand → List Opd → Bool
  | [], [] => true
  | x :: xs, p :: ps => okOpd mid x p && okOpds xs ps
  | _, _ => false
def szIs (t : TypeId) (n : Nat) : Bool := match P.info? t with | some i => i.size == n | none => false
def byIs (t : TypeId) (n : Nat) : Bool := match P.info? t with | some i => i.bytes == n | none => false
def aggIs (t : TypeId) (b : Bool) : Bool := match P.underlying t with | some (.struct _) | some (.array _ _) => b | some _ => !b | none => false
def zeroIs (t : TypeId) (z : List AV) : Bool := match P.info? t with
  | some i => (match i.zero with | some v => okVs v.cells.toList z && v.cells.size == i.size | none => false)
  | none => false
def eqTy (q : Option IntKind) : Nat → TypeId → Bool
  | 0, _ => false
  | d + 1, t => match P.underlying t with
    | some .bool => q.isNone && szIs P t 1
    | some (.int k) => q == some k && szIs P t 1
    | some (.array n e) => eqTy q d e && (match P.info? e with | some i => (match P.info? t with | some j => j.size == n * i.size | none => false) | none => false)
    | _ => false
def placesAre (fs : List Field) : List (Nat × Nat) → List Nat → Bool
  | [], [] => true
  | (off, n) :: ps, i :: is => (match fs[i]? with | some f => f.offset == off && szIs P f.type n | none => false) && placesAre fs ps is
  | _, _ => false
def rowsAre (sz : Nat) : List (Nat × Nat) → List Nat → Bool
  | [], [] => true
  | (off, n) :: ps, i :: is => off == i * sz && n == sz && rowsAre sz ps is
  | _, _ => false
def optArgs (xs : List (Option Operand)) : List Operand := xs.filterMap id
def isClone (sz by_ : Nat) (fn : Func) : Bool :=
  (match fn.results.toList with | [.tmp 2] => true | _ => false) && fn.ntmps == 8 && fn.name != "runtime.NumGoroutine" &&
  match fn.body with
  | some (.seq (.region _ r0 false) (.seq (.seq (.region _ r1 false) (.cond (.tmp 4) (.seq (.region _ r2 false) .ret) .skip)) (.seq (.region _ r3 false) .ret))) =>
    (match r0.toList with
      | [⟨some 2, .assign (.const (.slice none 0 0)), _, _, _, none⟩] => true
      | _ => false) &&
    (match r1.toList with
      | [⟨some 3, .move (.tmp 0), _, _, _, none⟩, ⟨some 4, .binOp .eql t (.tmp 3) (.const (.slice none 0 0)) _, _, _, _, none⟩] => (match P.underlying t with | some (.slice _) => true | _ => false)
      | _ => false) &&
    (match r2.toList with
      | [⟨some 2, .assign (.const (.slice none 0 0)), _, _, _, none⟩] => true
      | _ => false) &&
    (match r3.toList with
      | [⟨some 5, .buildSlice t 0 parts, _, _, _, none⟩, ⟨some 6, .move (.tmp 0), _, _, _, none⟩, ⟨some 7, .call { callee := .builtin .append, args, argTypes }, _, _, _, none⟩, ⟨some 2, .assign (.tmp 7), _, _, _, none⟩] =>
        parts.isEmpty && (match P.underlying t with | some (.slice e) => szIs P e sz && byIs P e by_ && (match P.info? e with | some i => (match i.zero with | some z => z.cells.size == sz | none => false) | none => false) | _ => false) &&
        (match args.toList with | [.tmp 5, .tmp 6] => true | _ => false) && (match argTypes.toList with | [t1, t2] => t1 == t && t2 == t | _ => false)
      | _ => false)
  | _ => false
def okOp (op : Op) (k : K) (ps : List Opd) : Bool :=
  match k with
  | .stop => true
  | .mv => (match op with | .move x | .assign x => okOpds mid [x] ps | _ => false)
  | .own _ => (match op with | .move x | .assign x => okOpds mid [x] ps | _ => false)
  | .pick => (match op with | .pick c a b => okOpds mid [c, a, b] ps | _ => false)
  | .alloc z => (match op with | .alloc t => zeroIs P t z && ps.isEmpty | _ => false)
  | .box n => (match op with | .box t x => szIs P t n && okOpds mid [x] ps | _ => false)
  | .build z pl => (match op with
    | .build t parts => zeroIs P t z && okOpds mid (parts.toList.map (·.2)) ps && (match P.underlying t with
      | some (.struct fs) => placesAre P fs.toList pl (parts.toList.map (·.1)) && fs.toList.all (fun f => (P.info? f.type).isSome)
      | some (.array _ e) => (match P.info? e with | some i => rowsAre i.size pl (parts.toList.map (·.1)) | none => false)
      | _ => false)
    | _ => false)
  | .lit sz z len ix => (match op with
    | .buildSlice t n parts => n == len && ix == parts.toList.map (·.1) && okOpds mid (parts.toList.map (·.2)) ps && decide (n * sz ≤ 16777216) && (match P.underlying t with
      | some (.slice e) => szIs P e sz && zeroIs P e z.cells && (z.cells.length == sz) && (sz == 1 || z.cells.length != 1) && decide (0 < sz)
      | _ => false)
    | _ => false)
  | .litm sz z len ix => (match op with
    | .buildSlice t n parts => n == len && ix == parts.toList.map (·.1) && okOpds mid (parts.toList.map (·.2)) ps && decide (n * sz ≤ 16777216) && (match P.underlying t with
      | some (.slice e) => szIs P e sz && zeroIs P e z.cells && (z.cells.length == sz) && (sz == 1 || z.cells.length != 1) && decide (0 < sz)
      | _ => false)
    | _ => false)
  | .load ag n => (match op with | .load t a => aggIs P t ag && szIs P t n && (ag || n == 1) && okOpds mid [a] ps | _ => false)
  | .loadf ag n => (match op with | .load t a => aggIs P t ag && szIs P t n && (ag || n == 1) && okOpds mid [a] ps | _ => false)
  | .store n => (match op with | .store t a x => szIs P t n && okOpds mid [a, x] ps | _ => false)
  | .nilChk => (match op with | .nilCheck x => okOpds mid [x] ps | _ => false)
  | .bin b => (match op with | .binOp b' _ x y _ => b == b' && okOpds mid [x, y] ps | _ => false)
  | .eqb neg => (match op with
    | .binOp b t x y _ => (if neg then b == .neq else b == .eql) && (match P.underlying t with | some .bool => true | _ => false) && okOpds mid [x, y] ps
    | _ => false)
  | .eqa neg q n => (match op with
    | .binOp b t x y _ => (if neg then b == .neq else b == .eql) && eqTy P q 8 t && aggIs P t true && szIs P t n && !P.eqGuardType P.depth t && okOpds mid [x, y] ps
    | _ => false)
  | .un u => (match op with | .unOp u' _ x => u == u' && okOpds mid [x] ps | _ => false)
  | .conv q => (match op with
    | .convert s d x => (P.underlying s).isSome && (match P.underlying d with | some (.int k) => k == q | _ => false) && okOpds mid [x] ps
    | _ => false)
  | .mkfn m => (match op with | .makeFunc (.func f) first caps => mid f == some m && first.isEmpty && okOpds mid caps.toList ps | _ => false)
  | .mks sz by_ z => (match op with
    | .makeSlice t l c => (match P.underlying t with | some (.slice e) => szIs P e sz && byIs P e by_ && zeroIs P e z | _ => false) && okOpds mid [l, c] ps
    | _ => false)
  | .slc sz lo hi mx => (match op with
    | .slice t x l h m => (match P.underlying t with | some (.slice e) => szIs P e sz | _ => false) && l.isSome == lo && h.isSome == hi && m.isSome == mx && okOpds mid (x :: optArgs [l, h, m]) ps
    | _ => false)
  | .slca n sz lo hi mx => (match op with
    | .slice t x l h m => (match P.underlying t with | some (.array n' e) => n' == n && szIs P e sz | _ => false) && l.isSome == lo && h.isSome == hi && m.isSome == mx && okOpds mid (x :: optArgs [l, h, m]) ps
    | _ => false)
  | .faddr off n => (match op with
    | .fieldAddr t x i => (match P.underlying t with | some (.struct fs) => (match fs[i]? with | some f => f.offset == off && szIs P f.type n && decide (0 < n) | none => false) | _ => false) && okOpds mid [x] ps
    | _ => false)
  | .fld ag off n => (match op with
    | .field t x i => (match P.underlying t with | some (.struct fs) => (match fs[i]? with | some f => f.offset == off && szIs P f.type n && aggIs P f.type ag && (ag || n == 1) | none => false) | _ => false) && okOpds mid [x] ps
    | _ => false)
  | .iaa n sz => (match op with | .indexAddr t x i => (match P.underlying t with | some (.array n' e) => n' == n && szIs P e sz | _ => false) && okOpds mid [x, i] ps | _ => false)
  | .ias sz => (match op with | .indexAddr t x i => (match P.underlying t with | some (.slice e) => szIs P e sz | _ => false) && okOpds mid [x, i] ps | _ => false)
  | .ixa ag n sz => (match op with | .index t x i => (match P.underlying t with | some (.array n' e) => n' == n && szIs P e sz && aggIs P e ag && (ag || sz == 1) | _ => false) && okOpds mid [x, i] ps | _ => false)
  | .ixs => (match op with | .index t x i => (match P.underlying t with | some .string => true | _ => false) && okOpds mid [x, i] ps | _ => false)
  | .ext i => (match op with | .extract t j => i == j && okOpds mid [t] ps | _ => false)
  | .len => (match op with
    | .call { callee := .builtin .len, args, argTypes } => (match argTypes.toList with | [t] => (match P.underlying t with | some (.slice _) => true | _ => false) | _ => false) && okOpds mid args.toList ps
    | _ => false)
  | .lens => (match op with
    | .call { callee := .builtin .len, args, argTypes } => (match argTypes.toList with | [t] => (match P.underlying t with | some .string => true | _ => false) | _ => false) && okOpds mid args.toList ps
    | _ => false)
  | .lenc n => (match op with
    | .call { callee := .builtin .len, args, argTypes } => (match argTypes.toList with
      | [t] => (match P.underlying t with | some (.array n' _) => n' == n | some (.pointer a) => (match P.underlying a with | some (.array n' _) => n' == n | _ => false) | _ => false)
      | _ => false) && okOpds mid args.toList ps
    | _ => false)
  | .app sz by_ => (match op with
    | .call { callee := .builtin .append, args, argTypes } => (match argTypes.toList with
      | [t, t'] => t == t' && (match P.underlying t with | some (.slice e) => szIs P e sz && byIs P e by_ && (match P.info? e with | some i => (match i.zero with | some z => z.cells.size == sz | none => false) | none => false) | _ => false)
      | _ => false) && okOpds mid args.toList ps && decide (0 < sz) && decide (0 < by_)
    | _ => false)
  | .clone sz by_ => (match op with
    | .call { callee := .value (.func f), args, .. } => (match P.funcs[f]? with | some fn => isClone P sz by_ fn | none => false) && okOpds mid args.toList ps && decide (0 < sz) && decide (0 < by_)
    | _ => false)
  | .cpy sz => (match op with
    | .call { callee := .builtin .copy, args, argTypes } => (match argTypes.toList with
      | [t, _] => (match P.underlying t with | some (.slice e) => szIs P e sz | _ => false)
      | _ => false) && okOpds mid args.toList ps && decide (0 < sz)
    | _ => false)
  | .clr sz z => (match op with
    | .call { callee := .builtin .clear, args, argTypes } => (match argTypes.toList with
      | [t] => (match P.underlying t with | some (.slice e) => szIs P e sz && zeroIs P e z | _ => false)
      | _ => false) && okOpds mid args.toList ps && decide (0 < sz)
    | _ => false)
  | .mn => (match op with | .call { callee := .builtin .min, args, .. } => okOpds mid args.toList ps | _ => false)
  | .mx => (match op with | .call { callee := .builtin .max, args, .. } => okOpds mid args.toList ps | _ => false)
  | .call _ _ m => (match op with | .call { callee := .value (.func f), args, .. } => mid f == some m && okOpds mid args.toList ps | _ => false)
  | .callv _ _ => (match op with | .call { callee := .value x, args, .. } => okOpds mid (x :: args.toList) ps | _ => false)
def okGuard (ops : Array Oper) : Option (Nat × Bool) → Option (Nat × Bool) → Bool
  | none, none => true
  | some (j, w), some (t, w') => w == w' && (ops[j]?).bind (·.dst) == some t
  | _, _ => false
def okR (ops : Array Oper) (o : Oper) (r : ROp) : Bool :=
  o.dst == r.dst && okOp P mid o.op r.k r.args && okGuard ops o.guard r.g
def okRs (ops : Array Oper) : List Oper → List ROp → Bool
  | [], [] => true
  | o :: os, r :: rs => okR P mid ops o r && okRs ops os rs
  | _, _ => false
end
theorem plain_one {v : Value} : v.plain ↔ v.oneCell' = true := by
  cases v <;> simp [Value.plain, Value.oneCell']
section
variable {P : Program} {fid : Nat → FuncId} {mid : FuncId → Option Nat}
structure TRep (fid : Nat → FuncId) (J : JMap) (M : Mem) (tm : List AV) (ts : Array Value) : Prop where
  size : ts.size = tm.length
  at_ : ∀ (i : Nat) (x : AV), tm[i]? = some x → ∃ v, ts[i]? = some v ∧ ARep fid J M x v
theorem TRep.mono {J J' : JMap} {M M' : Mem} {tm : List AV} {ts : Array Value} (h : TRep fid J M tm ts) (hj : J.le J') (hm : M.le M') : TRep fid J' M' tm ts :=
  ⟨h.size, fun i x hx => let ⟨v, a, b⟩ := h.at_ i x hx; ⟨v, a, b.mono hj hm⟩⟩
theorem TRep.get {J : JMap} {M : Mem} {tm : List AV} {ts : Array Value} (h : TRep fid J M tm ts) (i : Nat) : ARep fid J M (tm.getD i .any) (ts.getD i undef) := by
  cases e : tm[i]? with
  | none => rw [List.getD_eq_getElem?_getD, e]; exact .any _
  | some x =>
    obtain ⟨v, hv, hr⟩ := h.at_ i x e
    rw [List.getD_eq_getElem?_getD, e]
    have : ts.getD i undef = v := by rw [Array.getD_eq_getD_getElem?, hv]; rfl
    rw [this]; exact hr
theorem TRep.put {J : JMap} {M : Mem} {tm : List AV} {a : Act} (h : TRep fid J M tm a.tmps) {d : Option Nat} {x : AV} {v : Value} (r : ARep fid J M x v) : TRep fid J M (Go.AVM.put tm d x) (a.put d v).tmps := by
  cases d with
  | none => exact h
  | some d =>
    refine ⟨by simp [Act.put, Go.AVM.put, h.size], fun i y hy => ?_⟩
    simp only [Go.AVM.put, Act.put] at hy ⊢
    by_cases hid : d = i
    · subst hid
      have hlt : d < tm.length := by have := (List.getElem?_eq_some_iff.1 hy).1; simpa using this
      rw [List.getElem?_set_self hlt] at hy; cases hy
      exact ⟨v, by rw [Array.getElem?_setIfInBounds_self_of_lt (by rw [h.size]; exact hlt)], r⟩
    · rw [List.getElem?_set_ne hid] at hy
      obtain ⟨u, hu, hr⟩ := h.at_ i y hy
      exact ⟨u, by rw [Array.getElem?_setIfInBounds_ne hid]; exact hu, hr⟩
theorem okV_rep {J : JMap} {M : Mem} {v : Value} {x : AV} (h : okV v x = true) : ARep fid J M x v := by
  unfold okV at h
  split at h <;> try (simp at h)
  · subst h; exact .fr (.bool _)
  · obtain ⟨rfl, rfl⟩ := h; exact .fr (.int _ _)
  · rename_i s t
    have : s = t := by cases s; cases t; simp at h; exact congrArg _ (Array.toList_inj.1 (by simpa using h))
    subst this; exact .fr (.str _)
  · exact .fr .nilp
  · exact .fr .nilfn
  · exact .fr (.slN _ _ _ _ (fun _ => rfl))
  · subst h; exact .tup [] #[] rfl (fun _ => default) (fun k x hx => by simp at hx) (fun k x hx => by simp at hx)
theorem okVs_rep {J : JMap} {M : Mem} : ∀ {vs : List Value} {xs : List AV}, okVs vs xs = true → vs.length = xs.length ∧ ∀ (k : Nat) (x : AV), xs[k]? = some x → ∃ v, vs[k]? = some v ∧ v.plain ∧ ARep fid J M x v
  | [], [], _ => ⟨rfl, fun k x hx => by simp at hx⟩
  | v :: vs, x :: xs, h => by
    simp only [okVs, Bool.and_eq_true] at h
    obtain ⟨hl, hq⟩ := okVs_rep (J := J) (M := M) h.2
    refine ⟨by simp [hl], fun k y hy => ?_⟩
    cases k with
    | zero => simp at hy; subst hy; exact ⟨v, rfl, plain_one.2 h.1.2, okV_rep h.1.1⟩
    | succ k => simp at hy; simpa using hq k y hy
theorem okC_rep {J : JMap} {M : Mem} {v : Value} {x : AV} (h : okC v x = true) : ARep fid J M x v := by
  unfold okC at h
  split at h
  · obtain ⟨hl, hq⟩ := okVs_rep (fid := fid) (J := J) (M := M) h
    exact ARep.agg_mk (by simpa using hl) (by simpa using hq)
  · exact okV_rep h
def MidOk (fid : Nat → FuncId) (mid : FuncId → Option Nat) : Prop := ∀ f m, mid f = some m → fid m = f
theorem okOpd_rep (hm : MidOk fid mid) {J : JMap} {M : Mem} {tm : List AV} {a : Act} (ht : TRep fid J M tm a.tmps) {x : Operand} {p : Opd} (h : okOpd mid x p = true) : ARep fid J M (p.ev tm) (a.eval x) := by
  unfold okOpd at h
  split at h
  · rename_i t i
    have : t = i := by simpa using h
    subst this
    exact ht.get t
  · exact okC_rep h
  · rename_i f m
    have : mid f = some m := by simpa using h
    have hf := hm f m this
    subst hf
    exact ARep.fn_mk rfl (fun k x hx => by simp at hx)
  · cases h
theorem okOpds_rep (hm : MidOk fid mid) {J : JMap} {M : Mem} {tm : List AV} {a : Act} (ht : TRep fid J M tm a.tmps) : ∀ {xs : List Operand} {ps : List Opd}, okOpds mid xs ps = true →
    xs.length = ps.length ∧ ∀ (k : Nat) (v : AV), (ps.map (·.ev tm))[k]? = some v → ∃ x, xs[k]? = some x ∧ ARep fid J M v (a.eval x)
  | [], [], _ => ⟨rfl, fun k v hv => by simp at hv⟩
  | x :: xs, p :: ps, h => by
    simp only [okOpds, Bool.and_eq_true] at h
    obtain ⟨hl, hq⟩ := okOpds_rep hm ht h.2
    refine ⟨by simp [hl], fun k v hv => ?_⟩
    cases k with
    | zero => simp at hv; subst hv; exact ⟨x, rfl, okOpd_rep hm ht h.1⟩
    | succ k => simp at hv; simpa using hq k v (by simpa using hv)
theorem okOpds1 (hm : MidOk fid mid) {J : JMap} {M : Mem} {tm : List AV} {a : Act} (ht : TRep fid J M tm a.tmps) {x : Operand} {ps : List Opd} (h : okOpds mid [x] ps = true) : ∃ v, ps.map (·.ev tm) = [v] ∧ ARep fid J M v (a.eval x) := by
  cases ps with
  | nil => simp [okOpds] at h
  | cons p ps =>
    cases ps with
    | nil => exact ⟨_, rfl, okOpd_rep hm ht (by simpa [okOpds] using h)⟩
    | cons q ps => simp [okOpds] at h
theorem okOpds2 (hm : MidOk fid mid) {J : JMap} {M : Mem} {tm : List AV} {a : Act} (ht : TRep fid J M tm a.tmps) {x y : Operand} {ps : List Opd} (h : okOpds mid [x, y] ps = true) :
    ∃ v u, ps.map (·.ev tm) = [v, u] ∧ ARep fid J M v (a.eval x) ∧ ARep fid J M u (a.eval y) := by
  cases ps with
  | nil => simp [okOpds] at h
  | cons p ps =>
    simp only [okOpds, Bool.and_eq_true] at h
    obtain ⟨u, hu, hr⟩ := okOpds1 hm ht (x := y) (ps := ps) (by simpa [okOpds] using h.2)
    exact ⟨_, u, by simp [hu], okOpd_rep hm ht h.1, hr⟩
theorem okOpds3 (hm : MidOk fid mid) {J : JMap} {M : Mem} {tm : List AV} {a : Act} (ht : TRep fid J M tm a.tmps) {x y z : Operand} {ps : List Opd} (h : okOpds mid [x, y, z] ps = true) :
    ∃ v u t, ps.map (·.ev tm) = [v, u, t] ∧ ARep fid J M v (a.eval x) ∧ ARep fid J M u (a.eval y) ∧ ARep fid J M t (a.eval z) := by
  cases ps with
  | nil => simp [okOpds] at h
  | cons p ps =>
    simp only [okOpds, Bool.and_eq_true] at h
    obtain ⟨u, t, hu, hr⟩ := okOpds2 hm ht (x := y) (y := z) (ps := ps) (by simpa [okOpds] using h.2)
    exact ⟨_, u, t, by simp [hu], okOpd_rep hm ht h.1, hr⟩
theorem szIs_run {t : TypeId} {n : Nat} (h : szIs P t n = true) (w : World) : (sizeOf t).run P w = .ok n w := by
  unfold szIs at h
  cases hi : P.info? t with
  | none => rw [hi] at h; cases h
  | some i =>
    rw [hi] at h
    have : i.size = n := by simpa using h
    simp [sizeOf, typeInfo, hi, this]
theorem aggIs_run {t : TypeId} {b : Bool} (h : aggIs P t b = true) (w : World) : (isAgg t).run P w = .ok b w := by
  unfold aggIs at h
  cases hu : P.underlying t with
  | none => rw [hu] at h; simp at h
  | some d =>
    rw [hu] at h
    cases d <;> simp [isAgg, run_underlying hu] at h ⊢ <;> simp [h]
def Yields' (P : Program) (fid : Nat → FuncId) (r : World → Result Next) (S : Store) (J : JMap) (M : Mem) (w : World) (v' : AV) (S' : Store) : Prop :=
  ∃ cv J' M' w', (r w = .ok (.value cv) w' ∨ (r w = .ok .skip w' ∧ cv = undef)) ∧ Inv fid S' J' M' w' ∧ Step S J M w S' J' M' w' ∧ ARep fid J' M' v' cv
theorem Yields'.same {r : World → Result Next} {S : Store} {J : JMap} {M : Mem} {w : World} {v' : AV} (I : Inv fid S J M w) {cv : Value} (h : r w = .ok (.value cv) w) (hr : ARep fid J M v' cv) : Yields' P fid r S J M w v' S :=
  ⟨cv, J, M, w, .inl h, I, Step.refl .., hr⟩
theorem run_intBin {M : Mem} {op : BinOp} {k : IntKind} {a b : Int} {v : AV} (h : intBin op k a b = some v) (hs : op ≠ .shl ∧ op ≠ .shr) (t : TypeId) (w : World) : ∃ cv, (binOp op t (.int k a) (.int k b)).run P w = .ok cv w ∧ FRep fid M v cv := by
  unfold intBin at h
  cases op <;> simp only [chk_some] at h <;> try (obtain ⟨hb, h⟩ := h) <;> try (cases h)
  all_goals try (cases h)
  all_goals (first | (exact absurd rfl hs.1) | (exact absurd rfl hs.2) | skip)
  all_goals simp [binOp, Op.intArith, Op.intDiv, Op.intBits, Op.intCmp, *]
  all_goals first | exact .int _ _ | exact .bool _
theorem run_binA {M : Mem} {op : BinOp} {x y v : AV} (h : binA op x y = some v) {J : JMap} {cx cy : Value} (hx : ARep fid J M x cx) (hy : ARep fid J M y cy) (t : TypeId) (w : World) :
    ∃ cv, (binOp op t cx cy).run P w = .ok cv w ∧ FRep fid M v cv ∧ (∃ k a q b, cx = .int k a ∧ cy = .int q b) := by
  unfold binA at h
  split at h
  · rename_i k a q b
    obtain ⟨hb, h⟩ := chk_some.1 h
    cases h
    rw [hx.int_inv, hy.int_inv]
    have : ¬ b < 0 := by omega
    exact ⟨_, by simp [binOp, Op.shift, this], .int _ _, _, _, _, _, rfl, rfl⟩
  · rename_i k a q b
    obtain ⟨hb, h⟩ := chk_some.1 h
    cases h
    rw [hx.int_inv, hy.int_inv]
    have : ¬ b < 0 := by omega
    exact ⟨_, by simp [binOp, Op.shift, this], .int _ _, _, _, _, _, rfl, rfl⟩
  · rename_i k a k' b h1 h2
    obtain ⟨rfl, h'⟩ := chk_some.1 h
    rw [hx.int_inv, hy.int_inv]
    obtain ⟨cv, h3, h4⟩ := run_intBin (P := P) (fid := fid) (M := M) h' ⟨h1, h2⟩ t w
    exact ⟨cv, h3, h4, _, _, _, _, rfl, rfl⟩
  · cases h
theorem run_unA {M : Mem} {u : UnOp} {x v : AV} (h : unA u x = some v) {J : JMap} {cx : Value} (hx : ARep fid J M x cx) (w : World) : ∃ cv, (Op.unary u cx).run P w = .ok cv w ∧ FRep fid M v cv := by
  unfold unA at h
  split at h <;> cases h
  · rw [hx.int_inv]; exact ⟨_, by simp [Op.unary, Op.intArith], .int _ _⟩
  · rw [hx.int_inv]; exact ⟨_, by simp [Op.unary, Op.intBits], .int _ _⟩
  · rw [hx.bool_inv]; exact ⟨_, by simp [Op.unary], .bool _⟩
end
section
variable {P : Program} {fid : Nat → FuncId} {mid : FuncId → Option Nat} {S S' : Store} {J : JMap} {M : Mem} {w : World} {tm : List AV} {a : Act} {o : Oper} {ps : List Opd} {v' : AV} {R : RunF}
def Sim (P : Program) (fid : Nat → FuncId) (mid : FuncId → Option Nat) (R : RunF) (o : Oper) (k : K) : Prop :=
  ∀ {ps : List Opd} {S S' : Store} {J : JMap} {M : Mem} {w : World} {tm : List AV} {a : Act} {v' : AV}, okOp P mid o.op k ps = true → Inv fid S J M w → TRep fid J M tm a.tmps →
    opA R k (ps.map (·.ev tm)) S = some (v', S') → Yields' P fid (fun w => (execOp a.eval o).run P w) S J M w v' S'
theorem sim_mv (hm : MidOk fid mid) : Sim P fid mid R o .mv := by
  intro ps S S' J M w tm a v' hok I ht h
  cases hop : o.op <;> simp only [okOp, hop] at hok <;> try (cases hok)
  all_goals
    obtain ⟨x, hx, hr⟩ := okOpds1 hm ht hok
    rw [hx] at h
    simp only [opA] at h
    cases h
    exact .same I (by simp [execOp, hop]) hr
theorem sim_pick (hm : MidOk fid mid) : Sim P fid mid R o .pick := by
  intro ps S S' J M w tm a v' hok I ht h
  cases hop : o.op <;> simp only [okOp, hop] at hok <;> try (cases hok)
  obtain ⟨x, y, z, hx, h1, h2, h3⟩ := okOpds3 hm ht hok
  rw [hx] at h
  cases x <;> simp only [opA] at h <;> cases h
  rename_i b
  have e := h1.bool_inv
  refine .same I (cv := if b then _ else _) (by simp [execOp, hop, e, asBool]; rfl) ?_
  cases b
  · exact h3
  · exact h2
theorem load_rep {t : TypeId} {ag : Bool} {n : Nat} {cs : List AV} {blk o : Nat} {v' : AV} (ha : aggIs P t ag = true) (hs : szIs P t n = true) (h1 : (ag || n == 1) = true) (hl : cs.length = n)
    (hc : ∀ (k : Nat) (x : AV), cs[k]? = some x → ∃ v, w.cell? ⟨blk, o + k, none⟩ = some v ∧ v.plain ∧ ARep fid J M x v) (h : ofCells ag cs = some v') :
    ∃ cv, (loadVar t ⟨blk, o, none⟩).run P w = .ok cv w ∧ ARep fid J M v' cv := by
  obtain ⟨cv, hq⟩ := choose_cells hc
  cases ag with
  | true =>
    simp only [ofCells, if_true, Option.some.injEq] at h
    subst h
    have hrun := run_loadCells (P := P) w ⟨blk, o, none⟩ n cv (fun j hj => by
      have := (hq j cs[j] (by simp [hl, hj])).1
      rw [Addr.add_lit]; exact this)
    refine ⟨.agg ((List.range n).map cv).toArray, by simp [loadVar, aggIs_run ha, szIs_run hs, hrun], ?_⟩
    refine ARep.agg_mk (by simp [hl]) fun k x hx => ?_
    have hk : k < n := by have := (List.getElem?_eq_some_iff.1 hx).1; omega
    exact ⟨cv k, by simp [hk], (hq k x hx).2.1, (hq k x hx).2.2⟩
  | false =>
    have hn : n = 1 := by simpa using h1
    subst hn
    simp only [ofCells, Bool.false_eq_true, if_false] at h
    have h0 : cs[0]? = some v' := by rw [← h]; cases cs <;> simp
    obtain ⟨e1, e2, e3⟩ := hq 0 v' h0
    exact ⟨cv 0, by simp [loadVar, aggIs_run ha]; rw [show w.cell? ⟨blk, o, none⟩ = some (cv 0) from e1], e3⟩
theorem loadA_rep (I : Inv fid S J M w) {t : TypeId} {ag : Bool} {n : Nat} (ha : aggIs P t ag = true) (hs : szIs P t n = true) (h1 : (ag || n == 1) = true) {x v' : AV} {cx : Value} (hx : ARep fid J M x cx) (h : loadA S ag n x = some v') :
    ∃ ad cv, cx = .pointer (some ad) ∧ (loadVar t ad).run P w = .ok cv w ∧ ARep fid J M v' cv := by
  unfold loadA at h
  split at h
  · rename_i b off vl
    obtain ⟨cs, hr, h⟩ := Option.bind_eq_some_iff.1 h
    obtain ⟨blk, base, p, hj, rfl⟩ := hx.mptr_inv
    obtain ⟨hl, hc⟩ := I.rd hr hj
    obtain ⟨cv, h2, h3⟩ := load_rep (P := P) ha hs h1 hl hc h
    exact ⟨_, cv, rfl, h2, h3⟩
  · rename_i cs
    obtain ⟨hle, h⟩ := chk_some.1 h
    obtain ⟨blk, off, rfl, hc⟩ := hx.fptr_inv
    obtain ⟨cv, h2, h3⟩ := load_rep (P := P) (w := w) (fid := fid) (J := J) (M := M) (cs := cs.take n) (blk := blk) (o := off) ha hs h1 (by simp; omega) (fun k x hx => by
      have hk : k < n := by have := (List.getElem?_eq_some_iff.1 hx).1; simp at this; omega
      rw [List.getElem?_take_of_lt hk] at hx
      obtain ⟨v, hv, hr⟩ := hc k x hx
      obtain ⟨e1, e2⟩ := I.mem _ _ _ hv
      exact ⟨v, e1, e2, .fr hr⟩) h
    exact ⟨_, cv, rfl, h2, h3⟩
  · cases h
theorem sim_load (hm : MidOk fid mid) {ag : Bool} {n : Nat} : Sim P fid mid R o (.load ag n) := by
  intro ps S S' J M w tm a v' hok I ht h
  cases hop : o.op <;> simp only [okOp, hop] at hok <;> try (cases hok)
  simp only [Bool.and_eq_true] at hok
  obtain ⟨⟨⟨h1, h2⟩, h3⟩, h4⟩ := hok
  obtain ⟨x, hx, hr⟩ := okOpds1 hm ht h4
  rw [hx] at h
  simp only [opA] at h
  obtain ⟨v, hv, h⟩ := Option.bind_eq_some_iff.1 h
  cases h
  obtain ⟨ad, cv, e, hrun, hrep⟩ := loadA_rep (P := P) I h1 h2 h3 hr hv
  exact .same I (by simp [execOp, hop, Instr.loadAt, Instr.sureAddr, e, hrun]) hrep
theorem sim_nilChk (hm : MidOk fid mid) : Sim P fid mid R o .nilChk := by
  intro ps S S' J M w tm a v' hok I ht h
  cases hop : o.op <;> simp only [okOp, hop] at hok <;> try (cases hok)
  obtain ⟨x, hx, hr⟩ := okOpds1 hm ht hok
  rw [hx] at h
  cases x <;> simp only [opA] at h <;> cases h
  · obtain ⟨_, _, _, _, e⟩ := hr.mptr_inv
    exact .same I (cv := a.eval _) (by simp [execOp, hop, e]) hr
  · obtain ⟨_, _, e, _⟩ := hr.fptr_inv
    exact .same I (cv := a.eval _) (by simp [execOp, hop, e]) hr
  · obtain ⟨_, e, _⟩ := hr.fn_inv
    exact .same I (cv := a.eval _) (by simp [execOp, hop, e]) hr
theorem eqGuard_int (op : BinOp) (t : TypeId) (x y : Operand) (k q : IntKind) (m n : Int) : (eqGuard op t x y (.int k m) (.int q n)).run P w = .ok () w := by
  cases op <;> simp [eqGuard]
theorem sim_bin (hm : MidOk fid mid) {op : BinOp} : Sim P fid mid R o (.bin op) := by
  intro ps S S' J M w tm a v' hok I ht h
  cases hop : o.op <;> simp only [okOp, hop] at hok <;> try (cases hok)
  simp only [Bool.and_eq_true, beq_iff_eq] at hok
  obtain ⟨rfl, h4⟩ := hok
  obtain ⟨x, y, hx, h1, h2⟩ := okOpds2 hm ht h4
  rw [hx] at h
  simp only [opA] at h
  obtain ⟨v, hv, h⟩ := Option.bind_eq_some_iff.1 h
  cases h
  rename_i xt ox oy _
  obtain ⟨cv, hrun, hrep, k, m, q, n, e1, e2⟩ := run_binA (P := P) hv h1 h2 xt w
  refine .same I (cv := cv) ?_ (.fr hrep)
  rw [e1, e2] at hrun
  simp [execOp, hop, e1, e2, eqGuard_int, hrun]
theorem run_equal_bool {t : TypeId} (hu : P.underlying t = some .bool) (b c : Bool) (w : World) : (Op.equal t (.bool b) (.bool c)).run P w = .ok (b == c) w := by
  have : ∀ d, (Op.equalIn (d + 1) t (.bool b) (.bool c)).run P w = .ok (b == c) w := fun d => by simp [Op.equalIn, run_underlying hu]
  exact this 9999
theorem sim_eqb (hm : MidOk fid mid) {neg : Bool} : Sim P fid mid R o (.eqb neg) := by
  intro ps S S' J M w tm a v' hok I ht h
  cases hop : o.op <;> simp only [okOp, hop] at hok <;> try (cases hok)
  simp only [Bool.and_eq_true] at hok
  obtain ⟨⟨hb, hu⟩, h4⟩ := hok
  obtain ⟨x, y, hx, h1, h2⟩ := okOpds2 hm ht h4
  rw [hx] at h
  cases x <;> simp only [opA] at h <;> try (cases h)
  cases y <;> simp only [opA] at h <;> cases h
  rename_i bop xt ox oy _ b c
  have e1 := h1.bool_inv
  have e2 := h2.bool_inv
  have hu' : P.underlying xt = some .bool := by
    split at hu
    · assumption
    · cases hu
  cases neg
  · have : bop = BinOp.eql := by simpa using hb
    subst this
    exact .same I (cv := .bool (b == c)) (by simp [execOp, hop, e1, e2, eqGuard, binOp, run_equal_bool hu']) (.fr (.bool _))
  · have : bop = BinOp.neq := by simpa using hb
    subst this
    exact .same I (cv := .bool (b != c)) (by simp [execOp, hop, e1, e2, eqGuard, binOp, run_equal_bool hu']; cases b <;> cases c <;> rfl) (.fr (.bool _))
theorem eqcs_append {q : Option IntKind} {xs ys xs' ys' : List AV} (hl : xs.length = ys.length) : eqcs q (xs ++ xs') (ys ++ ys') = (eqcs q xs ys).bind fun b => (eqcs q xs' ys').bind fun c => some (b && c) := by
  induction xs generalizing ys with
  | nil =>
    cases ys with
    | nil => simp [eqcs]
    | cons y ys => simp at hl
  | cons x xs ih =>
    cases ys with
    | nil => simp at hl
    | cons y ys =>
      simp only [List.cons_append, eqcs, ih (by simpa using hl)]
      cases eqc q x y with
      | none => rfl
      | some b =>
        simp only [Option.bind_some]
        cases eqcs q xs ys with
        | none => rfl
        | some c =>
          simp only [Option.bind_some]
          cases eqcs q xs' ys' with
          | none => rfl
          | some d => simp [Bool.and_assoc]
def CRep (fid : Nat → FuncId) (J : JMap) (M : Mem) (xs : List AV) (vs : Array Value) : Prop := vs.size = xs.length ∧ ∀ (k : Nat) (x : AV), xs[k]? = some x → ∃ cv : Value, vs[k]? = some cv ∧ cv.plain ∧ ARep fid J M x cv
theorem CRep.extract {xs : List AV} {vs : Array Value} (h : CRep fid J M xs vs) (i n : Nat) (hl : i + n ≤ xs.length) : CRep fid J M ((xs.drop i).take n) (vs.extract i (i + n)) := by
  refine ⟨by simp [h.1]; omega, fun k x hx => ?_⟩
  have hk : k < n := by have := (List.getElem?_eq_some_iff.1 hx).1; simp at this; omega
  rw [List.getElem?_take_of_lt hk, List.getElem?_drop] at hx
  obtain ⟨cv, a1, a2, a3⟩ := h.2 _ x hx
  refine ⟨cv, ?_, a2, a3⟩
  rw [Array.getElem?_extract]
  have : k < min (i + n) vs.size - i := by rw [h.1]; omega
  rw [if_pos this]; exact a1
theorem part_rep {t : TypeId} {ag : Bool} {n off : Nat} {xs : List AV} {vs : Array Value} {v : AV} (ha : aggIs P t ag = true) (hs : szIs P t n = true) (h1 : (ag || n == 1) = true) (hx : CRep fid J M xs vs) (hl : off + n ≤ xs.length)
    (h : ofCells ag ((xs.drop off).take n) = some v) : ∃ cv, (part t vs off).run P w = .ok cv w ∧ ARep fid J M v cv := by
  cases ag with
  | true =>
    simp only [ofCells, if_true, Option.some.injEq] at h
    subst h
    obtain ⟨e1, e2⟩ := hx.extract off n hl
    exact ⟨.agg (vs.extract off (off + n)), by simp [part, aggIs_run ha, szIs_run hs], ARep.agg_mk e1 e2⟩
  | false =>
    have hn : n = 1 := by simpa using h1
    subst hn
    simp only [ofCells, Bool.false_eq_true, if_false] at h
    have h0 : xs[off]? = some v := by
      have hlt : off < xs.length := by omega
      rw [List.drop_eq_getElem_cons hlt] at h
      simp only [List.take_succ_cons, List.head?_cons, Option.some.injEq] at h
      simp [hlt, h]
    obtain ⟨cv, c1, c2, c3⟩ := hx.2 _ _ h0
    exact ⟨cv, by simp [part, aggIs_run ha, c1], c3⟩
theorem run_eqItems {q : Option IntKind} (d c : Nat) (e : TypeId) (w : World) {xs ys : List AV} {vs us : Array Value} (hx : CRep fid J M xs vs) (hy : CRep fid J M ys us)
    (step : ∀ i, (i + 1) * c ≤ xs.length → (i + 1) * c ≤ ys.length → ∀ b, eqcs q ((xs.drop (i * c)).take c) ((ys.drop (i * c)).take c) = some b →
      ∃ p r, (part e vs (i * c)).run P w = .ok p w ∧ (part e us (i * c)).run P w = .ok r w ∧ (Op.equalIn d e p r).run P w = .ok b w) :
    ∀ (n i : Nat) (b : Bool), (i + n) * c ≤ xs.length → (i + n) * c ≤ ys.length → eqcs q ((xs.drop (i * c)).take (n * c)) ((ys.drop (i * c)).take (n * c)) = some b →
      (Op.eqItems d e c vs us (List.range' i n)).run P w = .ok b w
  | 0, i, b, _, _, h => by simp [eqcs] at h; subst h; simp [Op.eqItems]
  | n + 1, i, b, hl1, hl2, h => by
    have hle : (i + 1) * c ≤ (i + (n + 1)) * c := Nat.mul_le_mul_right _ (by omega)
    have e1 : ∀ l : List AV, (l.drop (i * c)).take ((n + 1) * c) = (l.drop (i * c)).take c ++ (l.drop ((i + 1) * c)).take (n * c) := by
      intro l
      rw [Nat.succ_mul, Nat.add_comm (n * c) c, List.take_add, List.drop_drop, Nat.succ_mul i c]
    rw [e1, e1, eqcs_append (by simp; rw [Nat.succ_mul] at hle; omega)] at h
    cases hb1 : eqcs q ((xs.drop (i * c)).take c) ((ys.drop (i * c)).take c) with
    | none => rw [hb1] at h; cases h
    | some b1 =>
      rw [hb1] at h
      simp only [Option.bind_some] at h
      cases hb2 : eqcs q ((xs.drop ((i + 1) * c)).take (n * c)) ((ys.drop ((i + 1) * c)).take (n * c)) with
      | none => rw [hb2] at h; cases h
      | some b2 =>
        rw [hb2] at h
        simp only [Option.bind_some, Option.some.injEq] at h
        obtain ⟨p, r, r1, r2, r3⟩ := step i (by omega) (by omega) b1 hb1
        have ih := run_eqItems d c e w hx hy step n (i + 1) b2 (by rw [show i + 1 + n = i + (n + 1) by omega]; exact hl1) (by rw [show i + 1 + n = i + (n + 1) by omega]; exact hl2) hb2
        simp only [List.range'_succ, Op.eqItems, Sem.run_bind, r1, r2, r3, Result.andThen_ok]
        cases b1
        · simp at h; subst h; simp
        · simp at h; subst h; simpa using ih
theorem eqTy_agg {q : Option IntKind} {d : Nat} {t : TypeId} (h : eqTy P q d t = true) : aggIs P t true = true ∨ (aggIs P t false = true ∧ szIs P t 1 = true ∧ (q = none ∧ P.underlying t = some .bool ∨ ∃ k, q = some k ∧ P.underlying t = some (.int k))) := by
  cases d with
  | zero => simp [eqTy] at h
  | succ d =>
    unfold eqTy at h
    split at h
    · rename_i hu
      simp only [Bool.and_eq_true] at h
      exact .inr ⟨by simp [aggIs, hu], h.2, .inl ⟨by simpa using h.1, hu⟩⟩
    · rename_i k hu
      simp only [Bool.and_eq_true, beq_iff_eq] at h
      exact .inr ⟨by simp [aggIs, hu], h.2, .inr ⟨k, h.1, hu⟩⟩
    · rename_i n e hu
      exact .inl (by simp [aggIs, hu])
    · cases h
theorem szIs_fun {t : TypeId} {n m : Nat} (h : szIs P t n = true) (h' : szIs P t m = true) : n = m := by
  unfold szIs at h h'
  cases hi : P.info? t with
  | none => rw [hi] at h; cases h
  | some i => rw [hi] at h h'; simp at h h'; omega
theorem aggIs_fun {t : TypeId} {b c : Bool} (h : aggIs P t b = true) (h' : aggIs P t c = true) : b = c := by
  unfold aggIs at h h'
  cases hu : P.underlying t with
  | none => rw [hu] at h; cases h
  | some d => rw [hu] at h h'; cases d <;> simp_all
def VRep (P : Program) (fid : Nat → FuncId) (J : JMap) (M : Mem) (t : TypeId) (xs : List AV) (v : Value) : Prop :=
  (aggIs P t true = true ∧ ∃ vs, v = .agg vs ∧ CRep fid J M xs vs) ∨ (aggIs P t false = true ∧ ∃ x, xs = [x] ∧ ARep fid J M x v)
theorem run_equalIn {q : Option IntKind} : ∀ (d f : Nat) (t : TypeId) (_ : d ≤ f) (xs ys : List AV) (b : Bool) (cx cy : Value), eqTy P q d t = true → eqcs q xs ys = some b →
    (∀ n, szIs P t n = true → xs.length = n ∧ ys.length = n) → VRep P fid J M t xs cx → VRep P fid J M t ys cy → (Op.equalIn f t cx cy).run P w = .ok b w
  | 0, _, _, _, _, _, _, _, _, he, _, _, _, _ => by simp [eqTy] at he
  | d + 1, 0, _, hd, _, _, _, _, _, _, _, _, _, _ => by omega
  | d + 1, f + 1, t, hd, xs, ys, b, cx, cy, he, hb, hsz, hx, hy => by
    rcases eqTy_agg he with ha | ⟨ha, hs, hq⟩
    · unfold eqTy at he
      split at he
      · rename_i hu; simp [aggIs, hu] at ha
      · rename_i k hu; simp [aggIs, hu] at ha
      · rename_i n e hu
        simp only [Bool.and_eq_true] at he
        obtain ⟨he, hse⟩ := he
        rcases hx with ⟨_, vs, rfl, hx⟩ | ⟨ha', _⟩
        · rcases hy with ⟨_, us, rfl, hy⟩ | ⟨ha', _⟩
          · cases hi : P.info? e with
            | none => rw [hi] at hse; cases hse
            | some i =>
              cases hj : P.info? t with
              | none => rw [hi, hj] at hse; cases hse
              | some j =>
                rw [hi, hj] at hse
                have hjs : j.size = n * i.size := by simpa using hse
                have hce : P.cellsOf e = i.size := by simp [Program.cellsOf, hi]
                have hl := hsz j.size (by simp [szIs, hj])
                rw [run_equalIn_array w f vs us hu hi, hce, List.range_eq_range']
                refine run_eqItems (q := q) f i.size e w hx hy (fun k h1 h2 b' hb' => ?_) n 0 b (by rw [Nat.zero_add]; omega) (by rw [Nat.zero_add]; omega) (by
                  rw [Nat.zero_mul, List.drop_zero, List.drop_zero, List.take_of_length_le (by omega), List.take_of_length_le (by omega)]; exact hb)
                have hsi : szIs P e i.size = true := by simp [szIs, hi]
                have hle : k * i.size + i.size ≤ xs.length := by rw [Nat.succ_mul] at h1; omega
                have hle' : k * i.size + i.size ≤ ys.length := by rw [Nat.succ_mul] at h2; omega
                have mk : ∀ {zs : List AV} {ws : Array Value}, k * i.size + i.size ≤ zs.length → CRep fid J M zs ws → ∃ p, (part e ws (k * i.size)).run P w = .ok p w ∧ VRep P fid J M e ((zs.drop (k * i.size)).take i.size) p := by
                  intro zs ws hz hc
                  rcases eqTy_agg he with hae | ⟨hae, hs1, _⟩
                  · obtain ⟨e1, e2⟩ := hc.extract (k * i.size) i.size hz
                    exact ⟨.agg (ws.extract (k * i.size) (k * i.size + i.size)), by simp [part, aggIs_run hae, szIs_run hsi], .inl ⟨hae, _, rfl, e1, e2⟩⟩
                  · have h1 := szIs_fun hsi hs1
                    rw [h1] at hz ⊢
                    obtain ⟨p, p1, p2⟩ := part_rep (P := P) (w := w) (ag := false) (n := 1) (off := k * 1) (v := zs[k * 1]'(by omega)) hae hs1 rfl hc hz (by
                      rw [List.drop_eq_getElem_cons (by omega)]; rfl)
                    exact ⟨p, p1, .inr ⟨hae, _, by rw [List.drop_eq_getElem_cons (by omega)]; rfl, p2⟩⟩
                obtain ⟨p, p1, p2⟩ := mk hle hx
                obtain ⟨r, r1, r2⟩ := mk hle' hy
                exact ⟨p, r, p1, r1, run_equalIn d f e (by omega) _ _ b' p r he hb' (fun m hm => by
                  have := szIs_fun hm hsi
                  subst this
                  constructor <;> simp <;> omega) p2 r2⟩
          · exact absurd (aggIs_fun ha ha') (by simp)
        · exact absurd (aggIs_fun ha ha') (by simp)
      · cases he
    · rcases hx with ⟨ha', _⟩ | ⟨_, x, rfl, hx⟩
      · exact absurd (aggIs_fun ha ha') (by simp)
      · rcases hy with ⟨ha', _⟩ | ⟨_, y, rfl, hy⟩
        · exact absurd (aggIs_fun ha ha') (by simp)
        · simp only [eqcs, Option.bind_some, Bool.and_true] at hb
          obtain ⟨b', hb', hb⟩ := Option.bind_eq_some_iff.1 hb
          cases hb
          unfold eqc at hb'
          split at hb' <;> try (cases hb')
          · rcases hq with ⟨_, hu⟩ | ⟨k, hk, _⟩
            · rw [hx.bool_inv, hy.bool_inv]; simp [Op.equalIn, run_underlying hu]
            · cases hk
          · obtain ⟨⟨rfl, rfl⟩, e⟩ := chk_some.1 hb'
            cases e
            rcases hq with ⟨hk, _⟩ | ⟨k, hk, hu⟩
            · cases hk
            · cases hk
              rw [hx.int_inv, hy.int_inv]; simp [Op.equalIn, run_underlying hu]
theorem sim_eqa (hm : MidOk fid mid) {neg : Bool} {q : Option IntKind} {n : Nat} : Sim P fid mid R o (.eqa neg q n) := by
  intro ps S S' J M w tm a v' hok I ht h
  cases hop : o.op <;> simp only [okOp, hop] at hok <;> try (cases hok)
  rename_i bop xt ox oy yt
  simp only [Bool.and_eq_true] at hok
  obtain ⟨⟨⟨⟨⟨hb, hty⟩, hag⟩, hsn⟩, hg⟩, h4⟩ := hok
  obtain ⟨x, y, hx, h1, h2⟩ := okOpds2 hm ht h4
  rw [hx] at h
  cases x <;> simp only [opA] at h <;> try (cases h)
  cases y <;> simp only [opA] at h <;> try (cases h)
  rename_i xs ys
  obtain ⟨⟨hl1, hl2⟩, h⟩ := chk_some.1 h
  obtain ⟨b, hb', h⟩ := Option.bind_eq_some_iff.1 h
  cases h
  obtain ⟨vs, e1, hc1⟩ := h1.agg_inv
  obtain ⟨us, e2, hc2⟩ := h2.agg_inv
  have hg' : P.eqGuardType P.depth xt = false := by simpa using hg
  have hsz : ∀ m, szIs P xt m = true → xs.length = m ∧ ys.length = m := fun m hm => by
    have := szIs_fun hm hsn
    omega
  have hrun : (Op.equal xt (.agg vs) (.agg us)).run P w = .ok b w :=
    run_equalIn 8 Op.maxDepth xt (by decide) xs ys b _ _ hty hb' hsz (.inl ⟨hag, vs, rfl, hc1⟩) (.inl ⟨hag, us, rfl, hc2⟩)
  cases neg
  · have : bop = BinOp.eql := by simpa using hb
    subst this
    exact .same I (cv := .bool b) (by simp [execOp, hop, e1, e2, run_eqGuard_agg (P := P) (w := w) _ xt ox oy vs us hg', binOp, hrun]) (.fr (.bool _))
  · have : bop = BinOp.neq := by simpa using hb
    subst this
    exact .same I (cv := .bool (!b)) (by simp [execOp, hop, e1, e2, run_eqGuard_agg (P := P) (w := w) _ xt ox oy vs us hg', binOp, hrun]) (.fr (.bool _))
end
section
variable {P : Program} {fid : Nat → FuncId} {mid : FuncId → Option Nat} {S S' : Store} {J : JMap} {M : Mem} {w : World} {tm : List AV} {a : Act} {o : Oper} {ps : List Opd} {v' : AV} {R : RunF}
theorem sim_un (hm : MidOk fid mid) {u : UnOp} : Sim P fid mid R o (.un u) := by
  intro ps S S' J M w tm a v' hok I ht h
  cases hop : o.op <;> simp only [okOp, hop] at hok <;> try (cases hok)
  simp only [Bool.and_eq_true, beq_iff_eq] at hok
  obtain ⟨rfl, h4⟩ := hok
  obtain ⟨x, hx, hr⟩ := okOpds1 hm ht h4
  rw [hx] at h
  simp only [opA] at h
  obtain ⟨v, hv, h⟩ := Option.bind_eq_some_iff.1 h
  cases h
  obtain ⟨cv, hrun, hrep⟩ := run_unA (P := P) hv hr w
  exact .same I (by simp [execOp, hop, hrun]) (.fr hrep)
theorem sim_conv (hm : MidOk fid mid) {q : IntKind} : Sim P fid mid R o (.conv q) := by
  intro ps S S' J M w tm a v' hok I ht h
  cases hop : o.op <;> simp only [okOp, hop] at hok <;> try (cases hok)
  simp only [Bool.and_eq_true] at hok
  obtain ⟨⟨hs, hd⟩, h4⟩ := hok
  obtain ⟨x, hx, hr⟩ := okOpds1 hm ht h4
  rw [hx] at h
  cases x <;> simp only [opA] at h <;> cases h
  rename_i st dt ox k n
  obtain ⟨ds, hs⟩ := Option.isSome_iff_exists.1 hs
  have hd' : P.underlying dt = some (.int q) := by
    split at hd
    · rename_i k' e; have : k' = q := by simpa using hd
      subst this; exact e
    · cases hd
  have e := hr.int_inv
  exact .same I (cv := .int q (q.wrap n)) (by simp [execOp, hop, e, convert, run_underlying hs, run_underlying hd', Conv.intToInt]) (.fr (.int _ _))
theorem args_rep (hm : MidOk fid mid) (ht : TRep fid J M tm a.tmps) {xs : Array Operand} (h : okOpds mid xs.toList ps = true) : (xs.map a.eval).size = (ps.map (·.ev tm)).length ∧
    ∀ (k : Nat) (v : AV), (ps.map (·.ev tm))[k]? = some v → ∃ cv : Value, (xs.map a.eval)[k]? = some cv ∧ ARep fid J M v cv := by
  obtain ⟨hl, hq⟩ := okOpds_rep hm ht h
  refine ⟨by simp; simpa using hl, fun k v hv => ?_⟩
  obtain ⟨x, hx, hr⟩ := hq k v hv
  exact ⟨_, by simp at hx; simp [hx], hr⟩
theorem sim_mkfn (hm : MidOk fid mid) {m : Nat} : Sim P fid mid R o (.mkfn m) := by
  intro ps S S' J M w tm a v' hok I ht h
  cases hop : o.op <;> simp only [okOp, hop] at hok <;> try (cases hok)
  rename_i fn first caps
  cases fn <;> simp only at hok <;> try (cases hok)
  rename_i f
  simp only [Bool.and_eq_true, beq_iff_eq] at hok
  obtain ⟨⟨hf, he⟩, h4⟩ := hok
  have hfe : first = #[] := by simpa using he
  subst hfe
  have := hm f m hf
  subst this
  cases h
  obtain ⟨e1, e2⟩ := args_rep hm ht h4
  exact .same I (cv := .func (.func (fid m)) #[] (caps.map a.eval)) (by simp [execOp, hop, Instr.makeFunc]) (ARep.fn_mk e1 e2)
theorem sim_ext (hm : MidOk fid mid) {i : Nat} : Sim P fid mid R o (.ext i) := by
  intro ps S S' J M w tm a v' hok I ht h
  cases hop : o.op <;> simp only [okOp, hop] at hok <;> try (cases hok)
  simp only [Bool.and_eq_true, beq_iff_eq] at hok
  obtain ⟨rfl, h4⟩ := hok
  obtain ⟨x, hx, hr⟩ := okOpds1 hm ht h4
  rw [hx] at h
  cases x <;> simp only [opA] at h <;> try (cases h)
  obtain ⟨v, hv, h⟩ := Option.bind_eq_some_iff.1 h
  cases h
  obtain ⟨vs, e, hs, hq⟩ := hr.tup_inv
  obtain ⟨cv, hc, hrep⟩ := hq _ _ hv
  exact .same I (by simp [execOp, hop, e, Instr.extract, hc]) hrep
theorem sim_faddr (hm : MidOk fid mid) {off n : Nat} : Sim P fid mid R o (.faddr off n) := by
  intro ps S S' J M w tm a v' hok I ht h
  cases hop : o.op <;> simp only [okOp, hop] at hok <;> try (cases hok)
  rename_i st ox fi
  simp only [Bool.and_eq_true] at hok
  obtain ⟨hok, h4⟩ := hok
  obtain ⟨x, hx, hr⟩ := okOpds1 hm ht h4
  rw [hx] at h
  split at hok
  · rename_i fs hu
    split at hok
    · rename_i f hf
      simp only [Bool.and_eq_true, beq_iff_eq, decide_eq_true_eq] at hok
      obtain ⟨⟨rfl, hsz⟩, hpos⟩ := hok
      have hrun : ∀ ad : Addr, ∀ w, (Instr.fieldAt st (.pointer (some ad)) fi).run P w = .ok (.pointer (some (ad.add f.offset))) w := by
        intro ad w
        have : ¬ n = 0 := by omega
        simp [Instr.fieldAt, run_underlying hu, hf, Instr.sureAddr, fieldPlace, szIs_run hsz, this]
      cases x <;> simp only [opA] at h <;> try (cases h)
      · rename_i b o vl
        replace h := chk_some.1 h; obtain ⟨hle, h⟩ := h
        cases h
        obtain ⟨blk, base, p, hj, e⟩ := hr.mptr_inv
        refine .same I (cv := .pointer (some ⟨blk, base + (o + f.offset), none⟩)) (by simp [execOp, hop, e, hrun, Addr.add_lit, Nat.add_assoc]) (.mptr b _ vl blk base p hj)
      · rename_i cs
        replace h := chk_some.1 h; obtain ⟨hle, h⟩ := h
        cases h
        obtain ⟨blk, o, e, hc⟩ := hr.fptr_inv
        refine .same I (cv := .pointer (some ⟨blk, o + f.offset, none⟩)) (by simp [execOp, hop, e, hrun, Addr.add_lit]) (.fr (FRep.fptr_mk fun k x hx => ?_))
        rw [List.getElem?_drop] at hx
        rw [Nat.add_assoc]
        exact hc _ x hx
    · cases hok
  · cases hok
theorem sim_fld (hm : MidOk fid mid) {ag : Bool} {off n : Nat} : Sim P fid mid R o (.fld ag off n) := by
  intro ps S S' J M w tm a v' hok I ht h
  cases hop : o.op <;> simp only [okOp, hop] at hok <;> try (cases hok)
  rename_i st ox fi
  simp only [Bool.and_eq_true] at hok
  obtain ⟨hok, h4⟩ := hok
  obtain ⟨x, hx, hr⟩ := okOpds1 hm ht h4
  rw [hx] at h
  split at hok
  · rename_i fs hu
    split at hok
    · rename_i f hf
      simp only [Bool.and_eq_true, beq_iff_eq] at hok
      obtain ⟨⟨⟨rfl, hsz⟩, hag⟩, h1⟩ := hok
      cases x <;> simp only [opA] at h <;> try (cases h)
      replace h := chk_some.1 h; obtain ⟨hle, h⟩ := h
      obtain ⟨v, hv, h⟩ := Option.bind_eq_some_iff.1 h
      cases h
      obtain ⟨vs, e, hs, hq⟩ := hr.agg_inv
      obtain ⟨cv, hrun, hrep⟩ := part_rep (P := P) (w := w) hag hsz h1 ⟨hs, hq⟩ hle hv
      exact .same I (by simp [execOp, hop, e, Instr.field, run_underlying hu, hf, asAgg, hrun]) hrep
    · cases hok
  · cases hok
theorem sim_iaa (hm : MidOk fid mid) {n sz : Nat} : Sim P fid mid R o (.iaa n sz) := by
  intro ps S S' J M w tm a v' hok I ht h
  cases hop : o.op <;> simp only [okOp, hop] at hok <;> try (cases hok)
  rename_i t ox oi
  simp only [Bool.and_eq_true] at hok
  obtain ⟨hok, h4⟩ := hok
  obtain ⟨x, y, hx, h1, h2⟩ := okOpds2 hm ht h4
  rw [hx] at h
  split at hok
  · rename_i n' e hu
    simp only [Bool.and_eq_true, beq_iff_eq] at hok
    obtain ⟨rfl, hsz⟩ := hok
    have hrun : ∀ (ad : Addr) (k : IntKind) (i : Int), 0 ≤ i → i < n' → ∀ w, (Instr.indexAt t (.pointer (some ad)) (.int k i)).run P w = .ok (.pointer (some (ad.add (i.toNat * sz)))) w := by
      intro ad k i h0 h1 w
      have e1 : ¬ (i < 0) := by omega
      simp [Instr.indexAt, asIntOf, run_underlying hu, Instr.sureAddr, szIs_run hsz, h0, h1]
    cases x <;> simp only [opA] at h <;> try (cases h)
    · cases y <;> simp only at h <;> try (cases h)
      rename_i b off vl k i
      replace h := chk_some.1 h; obtain ⟨⟨hle, hlt⟩, h⟩ := h
      cases h
      obtain ⟨blk, base, p, hj, e1⟩ := h1.mptr_inv
      have e2 := h2.int_inv
      exact .same I (cv := .pointer (some ⟨blk, base + (off + i.toNat * sz), none⟩)) (by simp [execOp, hop, e1, e2, hrun _ _ _ hle hlt, Addr.add_lit, Nat.add_assoc]) (.mptr b _ vl blk base p hj)
    · cases y <;> simp only at h <;> try (cases h)
      rename_i cs k i
      replace h := chk_some.1 h; obtain ⟨⟨hle, hlt⟩, h⟩ := h
      cases h
      obtain ⟨blk, off, e1, hc⟩ := h1.fptr_inv
      have e2 := h2.int_inv
      refine .same I (cv := .pointer (some ⟨blk, off + i.toNat * sz, none⟩)) (by simp [execOp, hop, e1, e2, hrun _ _ _ hle hlt, Addr.add_lit]) (.fr (FRep.fptr_mk fun k x hx => ?_))
      rw [List.getElem?_drop] at hx
      rw [Nat.add_assoc]
      exact hc _ x hx
  · cases hok
theorem sim_ias (hm : MidOk fid mid) {sz : Nat} : Sim P fid mid R o (.ias sz) := by
  intro ps S S' J M w tm a v' hok I ht h
  cases hop : o.op <;> simp only [okOp, hop] at hok <;> try (cases hok)
  rename_i t ox oi
  simp only [Bool.and_eq_true] at hok
  obtain ⟨hok, h4⟩ := hok
  obtain ⟨x, y, hx, h1, h2⟩ := okOpds2 hm ht h4
  rw [hx] at h
  split at hok
  · rename_i e hu
    have hrun : ∀ (ad : Addr) (n c : Nat) (k : IntKind) (i : Int), 0 ≤ i → i < n → ∀ w, (Instr.indexAt t (.slice (some ad) n c) (.int k i)).run P w = .ok (.pointer (some (ad.add (i.toNat * sz)))) w := by
      intro ad n c k i h0 h1 w
      simp [Instr.indexAt, asIntOf, run_underlying hu, szIs_run hok, h0, h1]
    cases x <;> simp only [opA] at h <;> try (cases h)
    · cases y <;> simp only at h <;> try (cases h)
      rename_i es sz' t' k i
      replace h := chk_some.1 h; obtain ⟨⟨hle, hlt, hzz⟩, h⟩ := h
      subst hzz
      obtain ⟨e', he, h⟩ := Option.bind_eq_some_iff.1 h
      cases h
      obtain ⟨ad, c, e1, hc, _, hq⟩ := h1.sl_inv
      have e2 := h2.int_inv
      rcases hq with rfl | ⟨blk, off, rfl, hq⟩
      · simp at he
      · refine .same I (cv := .pointer (some ⟨blk, off + i.toNat * sz, none⟩)) (by simp [execOp, hop, e1, e2, hrun _ _ _ _ _ hle hlt, Addr.add_lit]) (.fr (FRep.fptr_mk fun k x hx => ?_))
        exact (hq _ _ he).2 k x hx
    · cases y <;> simp only at h <;> try (cases h)
      rename_i b off n sz' vl cap k i
      replace h := chk_some.1 h; obtain ⟨⟨hle, hlt, hzz⟩, h⟩ := h
      subst hzz
      cases h
      have e2 := h2.int_inv
      rcases h1.msl_inv with ⟨blk, base, p, c, ad, hj, hn, hcap, had, e1⟩ | ⟨_, rfl, _⟩
      · have : ad = some ⟨blk, base + off, none⟩ := had.resolve_left (by omega)
        subst this
        exact .same I (cv := .pointer (some ⟨blk, base + (off + i.toNat * sz), none⟩)) (by simp [execOp, hop, e1, e2, hrun _ _ _ _ _ hle hlt, Addr.add_lit, Nat.add_assoc]) (.mptr b _ vl blk base p hj)
      · omega
  · cases hok
theorem sim_ixa (hm : MidOk fid mid) {ag : Bool} {n sz : Nat} : Sim P fid mid R o (.ixa ag n sz) := by
  intro ps S S' J M w tm a v' hok I ht h
  cases hop : o.op <;> simp only [okOp, hop] at hok <;> try (cases hok)
  rename_i t ox oi
  simp only [Bool.and_eq_true] at hok
  obtain ⟨hok, h4⟩ := hok
  obtain ⟨x, y, hx, h1, h2⟩ := okOpds2 hm ht h4
  rw [hx] at h
  split at hok
  · rename_i n' e hu
    simp only [Bool.and_eq_true, beq_iff_eq] at hok
    obtain ⟨⟨⟨rfl, hsz⟩, hag⟩, hone⟩ := hok
    cases x <;> simp only [opA] at h <;> try (cases h)
    cases y <;> simp only at h <;> try (cases h)
    rename_i cs k i
    replace h := chk_some.1 h; obtain ⟨⟨hle, hlt, hfit⟩, h⟩ := h
    obtain ⟨v, hv, h⟩ := Option.bind_eq_some_iff.1 h
    cases h
    obtain ⟨vs, e1, hs, hq⟩ := h1.agg_inv
    have e2 := h2.int_inv
    have hfit' : i.toNat * sz + sz ≤ cs.length := by
      have : (i.toNat + 1) * sz ≤ n' * sz := Nat.mul_le_mul_right _ (by omega)
      rw [Nat.succ_mul] at this; omega
    obtain ⟨cv, hrun, hrep⟩ := part_rep (P := P) (w := w) hag hsz hone ⟨hs, hq⟩ hfit' hv
    exact .same I (by simp [execOp, hop, e1, e2, Instr.index, asIntOf, run_underlying hu, hle, hlt, szIs_run hsz, hrun]) hrep
  · cases hok
theorem sim_ixs (hm : MidOk fid mid) : Sim P fid mid R o .ixs := by
  intro ps S S' J M w tm a v' hok I ht h
  cases hop : o.op <;> simp only [okOp, hop] at hok <;> try (cases hok)
  rename_i t ox oi
  simp only [Bool.and_eq_true] at hok
  obtain ⟨hok, h4⟩ := hok
  obtain ⟨x, y, hx, h1, h2⟩ := okOpds2 hm ht h4
  rw [hx] at h
  have hu : P.underlying t = some .string := by
    split at hok
    · assumption
    · cases hok
  cases x <;> simp only [opA] at h <;> try (cases h)
  cases y <;> simp only at h <;> try (cases h)
  rename_i s k i
  replace h := chk_some.1 h; obtain ⟨hle, h⟩ := h
  obtain ⟨b, hb, h⟩ := Option.bind_eq_some_iff.1 h
  cases h
  have e1 := h1.str_inv
  have e2 := h2.int_inv
  exact .same I (cv := .int .u8 b.toNat) (by simp [execOp, hop, e1, e2, Instr.index, asIntOf, run_underlying hu, hle, hb]) (.fr (.int _ _))
theorem execOp_builtin {b : Builtin} {args : Array Operand} {ats : Array TypeId} (hop : o.op = .call { callee := .builtin b, args, argTypes := ats }) (a : Act) (w : World) :
    (execOp a.eval o).run P w = (builtin b ats o.type (args.map fun | .const _ => true | _ => false) (args.map a.eval)).run P w := by
  simp only [execOp, hop, resolve, Sem.run_bind, Sem.run_pure, Result.andThen_ok, invoke]
  rfl
theorem args1 (hm : MidOk fid mid) (ht : TRep fid J M tm a.tmps) {xs : Array Operand} {v : AV} (h : okOpds mid xs.toList ps = true) (hv : ps.map (·.ev tm) = [v]) : ∃ cv, xs.map a.eval = #[cv] ∧ ARep fid J M v cv := by
  obtain ⟨e1, e2⟩ := args_rep hm ht h
  rw [hv] at e1 e2
  obtain ⟨cv, hc, hr⟩ := e2 0 v rfl
  refine ⟨cv, ?_, hr⟩
  apply Array.ext_getElem?
  intro i
  cases i with
  | zero => rw [hc]; rfl
  | succ i => rw [Array.getElem?_eq_none (by rw [e1]; simp), Array.getElem?_eq_none (by simp)]
theorem args2 (hm : MidOk fid mid) (ht : TRep fid J M tm a.tmps) {xs : Array Operand} {v u : AV} (h : okOpds mid xs.toList ps = true) (hv : ps.map (·.ev tm) = [v, u]) : ∃ cv cu, xs.map a.eval = #[cv, cu] ∧ ARep fid J M v cv ∧ ARep fid J M u cu := by
  obtain ⟨e1, e2⟩ := args_rep hm ht h
  rw [hv] at e1 e2
  obtain ⟨cv, hc, hr⟩ := e2 0 v rfl
  obtain ⟨cu, hc', hr'⟩ := e2 1 u rfl
  refine ⟨cv, cu, ?_, hr, hr'⟩
  apply Array.ext_getElem?
  intro i
  match i with
  | 0 => rw [hc]; rfl
  | 1 => rw [hc']; rfl
  | i + 2 => rw [Array.getElem?_eq_none (by rw [e1]; simp), Array.getElem?_eq_none (by simp)]
theorem args3 (hm : MidOk fid mid) (ht : TRep fid J M tm a.tmps) {xs : Array Operand} {v u t : AV} (h : okOpds mid xs.toList ps = true) (hv : ps.map (·.ev tm) = [v, u, t]) :
    ∃ cv cu ct, xs.map a.eval = #[cv, cu, ct] ∧ ARep fid J M v cv ∧ ARep fid J M u cu ∧ ARep fid J M t ct := by
  obtain ⟨e1, e2⟩ := args_rep hm ht h
  rw [hv] at e1 e2
  obtain ⟨cv, hc, hr⟩ := e2 0 v rfl
  obtain ⟨cu, hc', hr'⟩ := e2 1 u rfl
  obtain ⟨ct, hc'', hr''⟩ := e2 2 t rfl
  refine ⟨cv, cu, ct, ?_, hr, hr', hr''⟩
  apply Array.ext_getElem?
  intro i
  match i with
  | 0 => rw [hc]; rfl
  | 1 => rw [hc']; rfl
  | 2 => rw [hc'']; rfl
  | i + 3 => rw [Array.getElem?_eq_none (by rw [e1]; simp), Array.getElem?_eq_none (by simp)]
theorem toList_one {α : Type} {xs : Array α} {x : α} (h : xs.toList = [x]) : xs = #[x] := by rw [← Array.toArray_toList (xs := xs), h]
theorem toList_two {α : Type} {xs : Array α} {x y : α} (h : xs.toList = [x, y]) : xs = #[x, y] := by rw [← Array.toArray_toList (xs := xs), h]
theorem sim_len (hm : MidOk fid mid) : Sim P fid mid R o .len := by
  intro ps S S' J M w tm a v' hok I ht h
  unfold okOp at hok
  simp only at hok
  split at hok
  · rename_i args ats hop
    simp only [Bool.and_eq_true] at hok
    obtain ⟨hty, h4⟩ := hok
    split at hty
    · rename_i t hat
      have hat' := toList_one hat
      cases hvs : ps.map (·.ev tm) with
      | nil => rw [hvs] at h; simp [opA] at h
      | cons x xs =>
        rw [hvs] at h
        cases xs with
        | cons y ys => cases x <;> simp [opA] at h
        | nil =>
          obtain ⟨cv, hca, hr⟩ := args1 hm ht h4 hvs
          split at hty
          · rename_i e hu
            cases x <;> simp only [opA] at h <;> cases h
            · obtain ⟨ad, c, e1, _⟩ := hr.sl_inv
              subst e1
              exact .same I (cv := goInt _) (by rw [execOp_builtin hop, hca]; simp [builtin, Builtin.len_, hat', run_underlying hu]) (.fr (.int _ _))
            · rcases hr.msl_inv with ⟨_, _, _, c, ad, _, _, _, _, e1⟩ | ⟨_, rfl, _, _, _, ad, e1⟩
              · subst e1
                exact .same I (cv := goInt _) (by rw [execOp_builtin hop, hca]; simp [builtin, Builtin.len_, hat', run_underlying hu]) (.fr (.int _ _))
              · subst e1
                exact .same I (cv := goInt 0) (by rw [execOp_builtin hop, hca]; simp [builtin, Builtin.len_, hat', run_underlying hu]) (.fr (.int _ _))
          · cases hty
    · cases hty
  · cases hok
theorem sim_lens (hm : MidOk fid mid) : Sim P fid mid R o .lens := by
  intro ps S S' J M w tm a v' hok I ht h
  unfold okOp at hok
  simp only at hok
  split at hok
  · rename_i args ats hop
    simp only [Bool.and_eq_true] at hok
    obtain ⟨hty, h4⟩ := hok
    split at hty
    · rename_i t hat
      have hat' := toList_one hat
      cases hvs : ps.map (·.ev tm) with
      | nil => rw [hvs] at h; simp [opA] at h
      | cons x xs =>
        rw [hvs] at h
        cases xs with
        | cons y ys => cases x <;> simp [opA] at h
        | nil =>
          obtain ⟨cv, hca, hr⟩ := args1 hm ht h4 hvs
          split at hty
          · rename_i hu
            cases x <;> simp only [opA] at h <;> cases h
            have e1 := hr.str_inv
            subst e1
            exact .same I (cv := goInt _) (by rw [execOp_builtin hop, hca]; simp [builtin, Builtin.len_, hat', run_underlying hu]) (.fr (.int _ _))
          · cases hty
    · cases hty
  · cases hok
theorem sim_lenc (hm : MidOk fid mid) {n : Nat} : Sim P fid mid R o (.lenc n) := by
  intro ps S S' J M w tm a v' hok I ht h
  unfold okOp at hok
  simp only at hok
  split at hok
  · rename_i args ats hop
    simp only [Bool.and_eq_true] at hok
    obtain ⟨hty, h4⟩ := hok
    split at hty
    · rename_i t hat
      have hat' := toList_one hat
      cases hvs : ps.map (·.ev tm) with
      | nil => rw [hvs] at h; simp [opA] at h
      | cons x xs =>
        rw [hvs] at h
        cases xs with
        | cons y ys => simp [opA] at h
        | nil =>
          obtain ⟨cv, hca, hr⟩ := args1 hm ht h4 hvs
          simp only [opA] at h
          cases h
          split at hty
          · rename_i n' e hu
            have : n' = n := by simpa using hty
            subst this
            exact .same I (cv := goInt _) (by rw [execOp_builtin hop, hca]; simp [builtin, Builtin.len_, hat', run_underlying hu]) (.fr (.int _ _))
          · rename_i pt hu
            split at hty
            · rename_i n' e hu'
              have : n' = n := by simpa using hty
              subst this
              exact .same I (cv := goInt _) (by rw [execOp_builtin hop, hca]; simp [builtin, Builtin.len_, hat', run_underlying hu, run_underlying hu']) (.fr (.int _ _))
            · cases hty
          · cases hty
    · cases hty
  · cases hok
theorem sim_mn (hm : MidOk fid mid) : Sim P fid mid R o .mn := by
  intro ps S S' J M w tm a v' hok I ht h
  unfold okOp at hok
  simp only at hok
  split at hok
  · rename_i args ats hop
    simp only [opA] at h
    obtain ⟨v, hv, h⟩ := Option.bind_eq_some_iff.1 h
    cases h
    unfold minA at hv
    split at hv
    · rename_i k x k' y hvs
      replace hv := chk_some.1 hv; obtain ⟨rfl, hv⟩ := hv
      cases hv
      obtain ⟨c1, c2, hca, h1, h2⟩ := args2 hm ht hok hvs
      rw [h1.int_inv, h2.int_inv] at hca
      exact .same I (by rw [execOp_builtin hop, hca]; simp [builtin, Builtin.min_, Builtin.min2]) (.fr (.int _ _))
    · rename_i k x k' y k'' z hvs
      replace hv := chk_some.1 hv; obtain ⟨⟨rfl, rfl⟩, hv⟩ := hv
      cases hv
      obtain ⟨c1, c2, c3, hca, h1, h2, h3⟩ := args3 hm ht hok hvs
      rw [h1.int_inv, h2.int_inv, h3.int_inv] at hca
      exact .same I (by rw [execOp_builtin hop, hca]; simp [builtin, Builtin.min_, Builtin.min2]) (.fr (.int _ _))
    · cases hv
  · cases hok
theorem sim_mx (hm : MidOk fid mid) : Sim P fid mid R o .mx := by
  intro ps S S' J M w tm a v' hok I ht h
  unfold okOp at hok
  simp only at hok
  split at hok
  · rename_i args ats hop
    simp only [opA] at h
    obtain ⟨v, hv, h⟩ := Option.bind_eq_some_iff.1 h
    cases h
    unfold maxA at hv
    split at hv
    · rename_i k x k' y hvs
      replace hv := chk_some.1 hv; obtain ⟨rfl, hv⟩ := hv
      cases hv
      obtain ⟨c1, c2, hca, h1, h2⟩ := args2 hm ht hok hvs
      rw [h1.int_inv, h2.int_inv] at hca
      exact .same I (by rw [execOp_builtin hop, hca]; simp [builtin, Builtin.max_, Builtin.max2]) (.fr (.int _ _))
    · rename_i k x k' y k'' z hvs
      replace hv := chk_some.1 hv; obtain ⟨⟨rfl, rfl⟩, hv⟩ := hv
      cases hv
      obtain ⟨c1, c2, c3, hca, h1, h2, h3⟩ := args3 hm ht hok hvs
      rw [h1.int_inv, h2.int_inv, h3.int_inv] at hca
      exact .same I (by rw [execOp_builtin hop, hca]; simp [builtin, Builtin.max_, Builtin.max2]) (.fr (.int _ _))
    · cases hv
  · cases hok
end
end Go.AVM
