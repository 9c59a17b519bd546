/- Small facts for showing runs: numbers, lists of cells. -/
import Derived.Test.YtlpbjbgfgfjnlaaAvSym
set_option linter.unusedVariables false
set_option linter.unusedSimpArgs false
set_option linter.unusedSectionVars false
namespace Go.AVM
section
variable {k : IntKind} {a b : Int}
@[simp] theorem binA_add : binA .add (.int k a) (.int k b) = some (.int k (k.wrap (a + b))) := by simp [binA, intBin, chk]
@[simp] theorem binA_sub : binA .sub (.int k a) (.int k b) = some (.int k (k.wrap (a - b))) := by simp [binA, intBin, chk]
@[simp] theorem binA_mul : binA .mul (.int k a) (.int k b) = some (.int k (k.wrap (a * b))) := by simp [binA, intBin, chk]
@[simp] theorem binA_quo : binA .quo (.int k a) (.int k b) = chk (b ≠ 0) (some (.int k (k.wrap (a.tdiv b)))) := by simp [binA, intBin, chk]
@[simp] theorem binA_rem : binA .rem (.int k a) (.int k b) = chk (b ≠ 0) (some (.int k (a.tmod b))) := by simp [binA, intBin, chk]
theorem binA_and : binA .and (.int k a) (.int k b) = some (.int k (k.wrap (BitVec.ofInt k.bits a &&& BitVec.ofInt k.bits b).toNat)) := by simp [binA, intBin, chk]
theorem binA_or : binA .or (.int k a) (.int k b) = some (.int k (k.wrap (BitVec.ofInt k.bits a ||| BitVec.ofInt k.bits b).toNat)) := by simp [binA, intBin, chk]
@[simp] theorem binA_eql : binA .eql (.int k a) (.int k b) = some (.bool (decide (a = b))) := by
  by_cases h : a = b <;> simp [binA, intBin, chk, h]
@[simp] theorem binA_neq : binA .neq (.int k a) (.int k b) = some (.bool (decide (a ≠ b))) := by
  by_cases h : a = b <;> simp [binA, intBin, chk, h]
@[simp] theorem binA_lss : binA .lss (.int k a) (.int k b) = some (.bool (decide (a < b))) := by simp [binA, intBin, chk]
@[simp] theorem binA_leq : binA .leq (.int k a) (.int k b) = some (.bool (decide (a ≤ b))) := by simp [binA, intBin, chk]
@[simp] theorem binA_gtr : binA .gtr (.int k a) (.int k b) = some (.bool (decide (b < a))) := by simp [binA, intBin, chk]
@[simp] theorem binA_geq : binA .geq (.int k a) (.int k b) = some (.bool (decide (b ≤ a))) := by simp [binA, intBin, chk]
@[simp] theorem binA_shl {q : IntKind} : binA .shl (.int k a) (.int q b) = chk (0 ≤ b) (some (.int k (k.wrap (a * 2 ^ (min b.toNat k.bits))))) := by simp [binA]
@[simp] theorem binA_shr {q : IntKind} : binA .shr (.int k a) (.int q b) = chk (0 ≤ b) (some (.int k (a.fdiv (2 ^ (min b.toNat k.bits))))) := by simp [binA]
@[simp] theorem unA_neg : unA .neg (.int k a) = some (.int k (k.wrap (0 - a))) := rfl
@[simp] theorem unA_not {b : Bool} : unA .not (.bool b) = some (.bool !b) := rfl
@[simp] theorem minA2 : minA [.int k a, .int k b] = some (.int k (if b < a then b else a)) := by simp [minA, chk]
@[simp] theorem maxA2 : maxA [.int k a, .int k b] = some (.int k (if b > a then b else a)) := by simp [maxA, chk]
end

/-! ### Wrapping -/
theorem wrap_i64_eq (n : Int) : IntKind.i64.wrap n = if 9223372036854775808 ≤ n % 18446744073709551616 then n % 18446744073709551616 - 18446744073709551616 else n % 18446744073709551616 := by simp [IntKind.wrap, IntKind.bits, IntKind.signed]
theorem wrap_i64 {n : Int} (h1 : -9223372036854775808 ≤ n) (h2 : n < 9223372036854775808) : IntKind.i64.wrap n = n := by
  rw [wrap_i64_eq]
  split <;> omega
theorem wrap_u64 (n : Int) : IntKind.u64.wrap n = n % 18446744073709551616 := by simp [IntKind.wrap, IntKind.bits, IntKind.signed]
theorem wrap_u32 (n : Int) : IntKind.u32.wrap n = n % 4294967296 := by simp [IntKind.wrap, IntKind.bits, IntKind.signed]
theorem wrap_u16 (n : Int) : IntKind.u16.wrap n = n % 65536 := by simp [IntKind.wrap, IntKind.bits, IntKind.signed]
theorem wrap_u8 (n : Int) : IntKind.u8.wrap n = n % 256 := by simp [IntKind.wrap, IntKind.bits, IntKind.signed]

/-! ### Cells -/
@[simp] theorem cells_int (k : IntKind) (n : Int) : (AV.int k n).cells = [.int k n] := rfl
@[simp] theorem cells_bool (b : Bool) : (AV.bool b).cells = [.bool b] := rfl
@[simp] theorem cells_agg (cs : List AV) : (AV.agg cs).cells = cs := rfl
@[simp] theorem cells_sl (es : List AV) (sz : Nat) (t : Bool) : (AV.sl es sz t).cells = [.sl es sz t] := rfl
@[simp] theorem cells_msl (b off n sz vl : Nat) (c : Option Nat) : (AV.msl b off n sz vl c).cells = [.msl b off n sz vl c] := rfl
@[simp] theorem whole_int (k : IntKind) (n : Int) : (AV.int k n).whole = true := rfl
@[simp] theorem whole_bool (b : Bool) : (AV.bool b).whole = true := rfl
@[simp] theorem whole_agg (cs : List AV) : (AV.agg cs).whole = true := rfl
@[simp] theorem whole_sl (es : List AV) (sz : Nat) (t : Bool) : (AV.sl es sz t).whole = true := rfl
@[simp] theorem whole_msl (b off n sz vl : Nat) (c : Option Nat) : (AV.msl b off n sz vl c).whole = true := rfl
@[simp] theorem ofCells_true (cs : List AV) : ofCells true cs = some (.agg cs) := rfl
@[simp] theorem ofCells_false (cs : List AV) : ofCells false cs = cs.head? := rfl
@[simp] theorem loadA_fptr (S : Store) (ag : Bool) (n : Nat) (cs : List AV) : loadA S ag n (.fptr cs) = chk (n ≤ cs.length) (ofCells ag (cs.take n)) := rfl
@[simp] theorem loadA_mptr (S : Store) (ag : Bool) (n b off vl : Nat) : loadA S ag n (.mptr b off vl) = (rd S b off vl n).bind (ofCells ag) := rfl
@[simp] theorem chk_eq_some {α : Type} {c : Prop} [Decidable c] {x : Option α} {r : α} : (chk c x = some r) = (c ∧ x = some r) := propext chk_some

/-- Numbers of a kind, as cells. -/
def nums (k : IntKind) (xs : List Int) : List AV := xs.map (.int k)
@[simp] theorem nums_length (k : IntKind) (xs : List Int) : (nums k xs).length = xs.length := by simp [nums]
@[simp] theorem nums_get (k : IntKind) (xs : List Int) (i : Nat) : (nums k xs)[i]? = (xs[i]?).map (.int k) := by simp [nums]
@[simp] theorem nums_nil (k : IntKind) : nums k [] = [] := rfl
@[simp] theorem nums_cons (k : IntKind) (x : Int) (xs : List Int) : nums k (x :: xs) = .int k x :: nums k xs := rfl
theorem nums_take (k : IntKind) (xs : List Int) (n : Nat) : (nums k xs).take n = nums k (xs.take n) := by simp [nums, List.map_take]
theorem nums_drop (k : IntKind) (xs : List Int) (n : Nat) : (nums k xs).drop n = nums k (xs.drop n) := by simp [nums, List.map_drop]
theorem nums_append (k : IntKind) (xs ys : List Int) : nums k xs ++ nums k ys = nums k (xs ++ ys) := by simp [nums]
@[simp] theorem head_take_drop {α : Type} (l : List α) (i : Nat) : ((l.drop i).take 1).head? = l[i]? := by
  rw [List.head?_take]; simp [List.head?_drop]
@[simp] theorem nums_cells (k : IntKind) (xs : List Int) : (nums k xs).flatMap AV.cells = nums k xs := by
  induction xs with
  | nil => rfl
  | cons x xs ih => simp [ih]
@[simp] theorem nums_fzc (S : Store) (fuel : Nat) (k : IntKind) (xs : List Int) : (nums k xs).mapM (fzc S fuel) = some (nums k xs) := by
  induction xs with
  | nil => rfl
  | cons x xs ih => cases fuel <;> simp [List.mapM_cons, fzc, ih]
@[simp] theorem nums_nrc (k : IntKind) (xs : List Int) : (nums k xs).all nrc = true := by simp [nums, nrc]
@[simp] theorem nums_lt1 (k : IntKind) (xs : List Int) (n : Nat) : (nums k xs).all (lt1 n) = true := by simp [nums, lt1, ltc]
@[simp] theorem nums_ltc (k : IntKind) (xs : List Int) (n : Nat) : (nums k xs).all (ltc n) = true := by simp [nums, ltc]
theorem nums_set (k : IntKind) (xs : List Int) (i : Nat) (v : Int) : (nums k xs).set i (.int k v) = nums k (xs.set i v) := by simp [nums, List.map_set]
@[simp] theorem nums_chunk1 (k : IntKind) (xs : List Int) : chunk 1 xs.length (nums k xs) = nums k xs := by
  induction xs with
  | nil => rfl
  | cons x xs ih => simp [chunk, ih]
theorem nums_chunk {k : IntKind} {xs : List Int} {n : Nat} (h : xs.length = n) : chunk 1 n (nums k xs) = nums k xs := by subst h; simp

/-! ### Freezing -/
section
variable {S : Store} {fuel : Nat}
@[simp] theorem fzc_int (k : IntKind) (n : Int) : fzc S fuel (.int k n) = some (.int k n) := by cases fuel <;> rfl
@[simp] theorem fzc_bool (b : Bool) : fzc S fuel (.bool b) = some (.bool b) := by cases fuel <;> rfl
@[simp] theorem fzc_str (b : ByteArray) : fzc S fuel (.str b) = some (.str b) := by cases fuel <;> rfl
@[simp] theorem fzc_sl (es : List AV) (sz : Nat) (t : Bool) : fzc S fuel (.sl es sz t) = some (.sl es sz false) := by cases fuel <;> rfl
@[simp] theorem fzc_fptr (cs : List AV) : fzc S fuel (.fptr cs) = some (.fptr cs) := by cases fuel <;> rfl
@[simp] theorem fzc_nilp : fzc S fuel .nilp = some .nilp := by cases fuel <;> rfl
@[simp] theorem fz1_int (k : IntKind) (n : Int) : fz1 S (.int k n) = some (.int k n) := rfl
@[simp] theorem fz1_bool (b : Bool) : fz1 S (.bool b) = some (.bool b) := rfl
@[simp] theorem fz1_str (b : ByteArray) : fz1 S (.str b) = some (.str b) := rfl
@[simp] theorem fz1_sl (es : List AV) (sz : Nat) (t : Bool) : fz1 S (.sl es sz t) = some (.sl es sz false) := rfl
@[simp] theorem fz1_fptr (cs : List AV) : fz1 S (.fptr cs) = some (.fptr cs) := rfl
@[simp] theorem fz1_agg (cs : List AV) : fz1 S (.agg cs) = (cs.mapM (fzc S 5)).bind fun cs' => some (.agg cs') := rfl
@[simp] theorem fz1_fn (f : Nat) (cs : List AV) : fz1 S (.fn f cs) = (cs.mapM (fzc S 5)).bind fun cs' => some (.fn f cs') := rfl
@[simp] theorem fz1_msl (b off n sz vl : Nat) (c : Option Nat) : fz1 S (.msl b off n sz vl c) = fzc S (5 + 1) (.msl b off n sz vl c) := rfl
@[simp] theorem fzv_int (k : IntKind) (n : Int) : fzv S (.int k n) = some (.int k n) := rfl
@[simp] theorem fzv_bool (b : Bool) : fzv S (.bool b) = some (.bool b) := rfl
@[simp] theorem fzv_str (b : ByteArray) : fzv S (.str b) = some (.str b) := rfl
@[simp] theorem fzv_sl (es : List AV) (sz : Nat) (t : Bool) : fzv S (.sl es sz t) = some (.sl es sz false) := rfl
@[simp] theorem fzv_agg (cs : List AV) : fzv S (.agg cs) = fz1 S (.agg cs) := rfl
@[simp] theorem fzv_tup (cs : List AV) : fzv S (.tup cs) = (cs.mapM (fz1 S)).bind fun cs' => some (.tup cs') := rfl
@[simp] theorem fzv_msl (b off n sz vl : Nat) (c : Option Nat) : fzv S (.msl b off n sz vl c) = fz1 S (.msl b off n sz vl c) := rfl
@[simp] theorem nr1_int (k : IntKind) (n : Int) : nr1 (.int k n) = true := rfl
@[simp] theorem nr1_bool (b : Bool) : nr1 (.bool b) = true := rfl
@[simp] theorem nr1_sl (es : List AV) (sz : Nat) (t : Bool) : nr1 (.sl es sz t) = true := rfl
@[simp] theorem nr1_fptr (cs : List AV) : nr1 (.fptr cs) = true := rfl
@[simp] theorem nr1_str (b : ByteArray) : nr1 (.str b) = true := rfl
@[simp] theorem nr1_agg (cs : List AV) : nr1 (.agg cs) = cs.all nrc := rfl
@[simp] theorem nrc_int (k : IntKind) (n : Int) : nrc (.int k n) = true := rfl
@[simp] theorem nrc_bool (b : Bool) : nrc (.bool b) = true := rfl
@[simp] theorem nrc_sl (es : List AV) (sz : Nat) (t : Bool) : nrc (.sl es sz t) = true := rfl
@[simp] theorem mapM_nil' {f : AV → Option AV} : [].mapM f = some [] := rfl
@[simp] theorem mapM_cons' {f : AV → Option AV} {x : AV} {xs : List AV} : (x :: xs).mapM f = (f x).bind fun y => (xs.mapM f).bind fun ys => some (y :: ys) := by simp [List.mapM_cons]
theorem after_nr {st : Bool} {S : Store} {args : List AV} {r : AV} (h : args.all nr1 = true) : after st S args r = some S := by unfold after; simp [h]
theorem after_bare {st : Bool} {S : Store} {args : List AV} {r : AV} (h : r.bare = true) : after st S args r = some S := by unfold after; simp [h]
@[simp] theorem resA_t (s : St) (i : Nat) : resA s (.t i) = some (s.tm.getD i .any) := rfl
@[simp] theorem resA_c (s : St) (i : Nat) (ag : Bool) (n : Nat) : resA s (.c i ag n) = loadA s.st ag n (s.tm.getD i .any) := rfl
@[simp] theorem resAll1 (s : St) (r : ARes) : resAll s [r] = resA s r := by
  unfold resAll
  cases h : resA s r <;> simp [List.mapM_cons, h]
@[simp] theorem resAll2 (s : St) (r q : ARes) : resAll s [r, q] = (resA s r).bind fun a => (resA s q).bind fun b => some (.tup [a, b]) := by
  unfold resAll
  cases h : resA s r <;> cases h' : resA s q <;> simp [List.mapM_cons, h, h']
@[simp] theorem resAll3 (s : St) (r q o : ARes) : resAll s [r, q, o] = (resA s r).bind fun a => (resA s q).bind fun b => (resA s o).bind fun c => some (.tup [a, b, c]) := by
  unfold resAll
  cases h : resA s r <;> cases h' : resA s q <;> cases h'' : resA s o <;> simp [List.mapM_cons, h, h', h'']
theorem enter_eq (af : AF) (args : List AV) (S : Store) : enter af args S = ⟨args ++ List.replicate (af.nt - args.length) (.tup []), S⟩ := rfl
end

/-! ### The store -/
theorem trunc_len {n : Nat} {vs : List AV} {S : Store} (h : S.length ≤ n) : trunc n vs S = S := by
  unfold trunc
  split
  · exact List.take_of_length_le h
  · rfl
@[simp] theorem trunc_one (n : Nat) (vs : List AV) (x : Blk) : trunc (n + 1) vs [x] = [x] := trunc_len (by simp)
@[simp] theorem trunc_nil (n : Nat) (vs : List AV) : trunc n vs [] = [] := trunc_len (by simp)
theorem mask_map : ∀ (live : List Bool) (tm : List AV), mask live tm = (List.range tm.length).map fun i => bif live.getD i false then tm.getD i .any else .any
  | live, [] => by cases live <;> rfl
  | [], v :: vs => by
    rw [mask, mask_map [] vs, List.length_cons, List.range_succ_eq_map]
    simp
  | b :: bs, v :: vs => by
    rw [mask, mask_map bs vs, List.length_cons, List.range_succ_eq_map]
    simp
theorem mask_of {live : List Bool} {tm : List AV} {n : Nat} (h : tm.length = n) : mask live tm = (List.range n).map fun i => bif live.getD i false then tm.getD i .any else .any := by
  subst h; exact mask_map live tm

/-! ### Equations, told once -/
theorem eqs_told : True := by
  have := @appA.eq_1
  have := @held.eq_1
  have := @room.eq_1
  have := @rd.eq_1
  have := @wr.eq_1
  have := @splice.eq_1
  have := @bounds.eq_1
  have := @sliceA.eq_1
  have := @sliceArr.eq_1
  have := @capAt.eq_1
  have := @tightAt.eq_1
  have := @trunc.eq_1
  have := @elt.eq_1
  have := @after.eq_1
  have := @head.eq_1
  have := @enter.eq_1
  have := @chk.eq_1
  have := @bound.eq_1
  have := @takeOwn.eq_1
  have := @ownRes.eq_1
  have := @land.eq_1
  have := @land1.eq_1
  have := @callSh.eq_1
  have := @callPure.eq_1
  have := @callOwn.eq_1
  have := @wanB.eq_1
  have := @retQ.eq_1
  have := @doCall.eq_1
  have := @appA.eq_def
  have := @held.eq_def
  have := @fillA.eq_def
  have := @fillE.eq_def
  have := @fzc.eq_def
  have := @chunk.eq_def
  have := @mask.eq_def
  have := @bounds.eq_def
  have := @sliceA.eq_def
  have := @sliceArr.eq_def
  have := @capAt.eq_def
  have := @tightAt.eq_def
  have := @lt1.eq_def
  have := @ltc.eq_def
  have := @Blk.lt.eq_def
  have := @opA.eq_def
  have := @settle.eq_def
  have := @ids.eq_def
  have := @fzv.eq_def
  have := @fz1.eq_def
  have := @nr1.eq_def
  have := @nrc.eq_def
  trivial
theorem eqs_told2 (S : Store) (x y : AV) (vs : List AV) (k : IntKind) (a : Int) : True := by
  have : fillA [] [] vs = some vs := by simp [fillA]
  have : fillE 1 [] [] vs = some vs := by simp [fillE]
  have : chunk 1 0 vs = [] := by simp [chunk]
  have : mask [] ([] : List AV) = [] := by simp [mask]
  have : mask [true] [x] = [x] := by simp [mask]
  have : fzc S 1 (.msl 0 0 0 1 0 none) = fzc S 1 (.msl 0 0 0 1 0 none) := by simp only [fzc]
  have : bounds 0 0 false false false [] = some (0, 0, none) := by simp [bounds]
  have : sliceA 1 false false false (.sl [] 1 true) [] = sliceA 1 false false false (.sl [] 1 true) [] := by simp only [sliceA]
  have : sliceArr 1 1 false false false (.mptr 0 0 1) [] = sliceArr 1 1 false false false (.mptr 0 0 1) [] := by simp only [sliceArr]
  have : lt1 0 (.int k a) = true := by simp [lt1, ltc]
  have : lt1 0 (.agg [x]) = lt1 0 (.agg [x]) := by simp only [lt1]
  have : Blk.lt 0 (.mu [] true) = true := by simp [Blk.lt]
  have : held S 1 (.sl [] 1 true) = some (0, []) := by simp [held, chk]
  trivial
end Go.AVM
