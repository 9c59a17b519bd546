/- Stores to which blocks are laid: what is read and written of them. -/
import Derived.Test.YtlpbjbgfgfjnlaaAvUn
set_option linter.unusedVariables false
set_option linter.unusedSimpArgs false
set_option linter.unusedSectionVars false
namespace Go.AVM
section
variable {S : Store} {x : Blk} {cs vs : List AV} {ex : Bool} {b off vl n : Nat}
theorem get_last : (S ++ [x])[S.length]? = some x := by simp
theorem get_app (h : b < S.length) : (S ++ [x])[b]? = S[b]? := List.getElem?_append_left h
theorem lt_of_get {y : Blk} (h : S[b]? = some y) : b < S.length := (List.getElem?_eq_some_iff.1 h).1
theorem rd_mu (h : S[b]? = some (.mu cs ex)) (hl : cs.length = vl) (ho : off + n ≤ vl) : rd S b off vl n = some ((cs.drop off).take n) := by
  unfold rd; rw [h]; exact chk_pos ⟨hl, ho⟩
theorem wr_mu (h : S[b]? = some (.mu cs ex)) (hl : cs.length = vl) (ho : off + vs.length ≤ vl) : wr S b off vl vs = some (S.set b (.mu (splice cs off vs) ex)) := by
  unfold wr; rw [h]; exact chk_pos ⟨hl, ho⟩
@[simp] theorem rd_last : rd (S ++ [.mu cs ex]) S.length off vl n = chk (cs.length = vl ∧ off + n ≤ vl) (some ((cs.drop off).take n)) := by
  unfold rd; rw [get_last]
@[simp] theorem wr_last : wr (S ++ [.mu cs ex]) S.length off vl vs = chk (cs.length = vl ∧ off + vs.length ≤ vl) (some (S ++ [.mu (splice cs off vs) ex])) := by
  unfold wr; rw [get_last]; simp
theorem rd_app (h : b < S.length) : rd (S ++ [x]) b off vl n = rd S b off vl n := by
  unfold rd; rw [get_app h]
theorem set_get {y : Blk} (h : b < S.length) : (S.set b y)[b]? = some y := by simp [h]
/-- One number of a block of numbers. -/
theorem rd_num {k : IntKind} {xs : List Int} {v : Int} {i : Nat} (h : S[b]? = some (.mu (nums k xs) ex)) (hl : xs.length = vl) (hi : xs[i]? = some v) : rd S b i vl 1 = some [.int k v] := by
  have hi' := (List.getElem?_eq_some_iff.1 hi).1
  rw [rd_mu h (by simpa using hl) (by omega), nums_drop, nums_take]
  rw [List.drop_eq_getElem_cons hi']
  have := (List.getElem?_eq_some_iff.1 hi).2
  rw [this]; rfl
theorem splice_num {k : IntKind} {xs : List Int} {v : Int} {i : Nat} (hi : i < xs.length) : splice (nums k xs) i [.int k v] = nums k (xs.set i v) := by
  unfold splice
  rw [← nums_set, List.set_eq_take_append_cons_drop]
  simp [hi]
theorem wr_num {k : IntKind} {xs : List Int} {v : Int} {i : Nat} (h : S[b]? = some (.mu (nums k xs) ex)) (hl : xs.length = vl) (hi : i < vl) : wr S b i vl [.int k v] = some (S.set b (.mu (nums k (xs.set i v)) ex)) := by
  rw [wr_mu h (by simpa using hl) (by simp; omega), splice_num (by omega)]
end
/-- Rows of eight, one after the other. -/
theorem flat_len {α : Type} : ∀ {t : List (List α)}, (∀ r ∈ t, r.length = 8) → t.flatten.length = 8 * t.length
  | [], _ => rfl
  | r :: t, h => by
    rw [List.flatten_cons, List.length_append, flat_len fun x hx => h x (by simp [hx]), h r (by simp), List.length_cons]; omega
theorem flat_get8 {α : Type} : ∀ (t : List (List α)), (∀ r ∈ t, r.length = 8) → ∀ q j, j < 8 → t.flatten[8 * q + j]? = (t.getD q [])[j]?
  | [], _, q, j, _ => by simp
  | r :: t, h, 0, j, hj => by
    have h8 := h r (by simp)
    rw [List.flatten_cons, List.getElem?_append_left (by omega)]; simp
  | r :: t, h, q + 1, j, hj => by
    have h8 := h r (by simp)
    rw [List.flatten_cons, List.getElem?_append_right (by omega), List.getD_cons_succ, ← flat_get8 t (fun x hx => h x (by simp [hx])) q j hj]
    congr 1; omega
/-- Cut into rows of eight. -/
def cut8 : Nat → List Int → List (List Int)
  | 0, _ => []
  | n + 1, l => l.take 8 :: cut8 n (l.drop 8)
theorem cut8_len : ∀ (n : Nat) (l : List Int), (cut8 n l).length = n
  | 0, _ => rfl
  | n + 1, l => by rw [cut8, List.length_cons, cut8_len n]
theorem cut8_mem : ∀ (n : Nat) (l : List Int), l.length = 8 * n → ∀ r ∈ cut8 n l, r.length = 8 ∧ ∀ x ∈ r, x ∈ l
  | 0, _, _, r, hr => by cases hr
  | n + 1, l, hl, r, hr => by
    rcases List.mem_cons.1 hr with rfl | hr
    · exact ⟨by rw [List.length_take]; omega, fun x hx => List.mem_of_mem_take hx⟩
    · have := cut8_mem n (l.drop 8) (by rw [List.length_drop]; omega) r hr
      exact ⟨this.1, fun x hx => List.mem_of_mem_drop (this.2 x hx)⟩
theorem cut8_get : ∀ (n : Nat) (l : List Int), l.length = 8 * n → ∀ i, (cut8 n l)[i]? = if i < n then some ((l.drop (8 * i)).take 8) else none
  | 0, _, _, i => by simp [cut8]
  | n + 1, l, hl, 0 => by simp [cut8]
  | n + 1, l, hl, i + 1 => by
    rw [cut8, List.getElem?_cons_succ, cut8_get n (l.drop 8) (by rw [List.length_drop]; omega) i, List.drop_drop]
    have : 8 + 8 * i = 8 * (i + 1) := by omega
    rw [this]
    by_cases h : i < n
    · rw [if_pos h, if_pos (by omega)]
    · rw [if_neg h, if_neg (by omega)]
theorem chunk_cut : ∀ (n : Nat) (l : List Int), l.length = 8 * n → chunk 8 n (nums .i64 l) = (cut8 n l).map R8
  | 0, _, _ => rfl
  | n + 1, l, hl => by
    rw [chunk, if_neg (by decide), nums_take, nums_drop, chunk_cut n (l.drop 8) (by rw [List.length_drop]; omega), cut8]; rfl
theorem rows_cells (o : List (List Int)) : (o.map R8).flatMap AV.cells = nums .i64 o.flatten := by
  induction o with
  | nil => rfl
  | cons r o ih => rw [List.map_cons, List.flatMap_cons, ih, List.flatten_cons, ← nums_append]; rfl
/-- What a live variable leads to is kept. -/
theorem trunc_get {n : Nat} {vs : List AV} {S : Store} {b : Nat} (h : b < n ∨ ∃ v ∈ vs, lt1 n v = false) : (trunc n vs S)[b]? = S[b]? := by
  unfold trunc
  split
  · rename_i hc
    rw [Bool.and_eq_true, List.all_eq_true] at hc
    rcases h with h | ⟨v, hv, hf⟩
    · rw [List.getElem?_take]; simp [h]
    · have := hc.1 v hv
      rw [hf] at this; cases this
  · rfl
end Go.AVM
