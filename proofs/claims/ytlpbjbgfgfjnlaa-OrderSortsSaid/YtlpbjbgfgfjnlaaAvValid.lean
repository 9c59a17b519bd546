/- Orders: which are valid. -/
import Derived.Test.YtlpbjbgfgfjnlaaAvMade3
set_option linter.unusedVariables false
set_option linter.unusedSimpArgs false
set_option linter.unusedSectionVars false
namespace Go.AVM
def bools (bs : List Bool) : List AV := bs.map .bool
@[simp] theorem bools_length (bs : List Bool) : (bools bs).length = bs.length := by simp [bools]
theorem bools_take (bs : List Bool) (n : Nat) : (bools bs).take n = bools (bs.take n) := by simp [bools, List.map_take]
theorem bools_drop (bs : List Bool) (n : Nat) : (bools bs).drop n = bools (bs.drop n) := by simp [bools, List.map_drop]
theorem bools_set (bs : List Bool) (i : Nat) (b : Bool) : (bools bs).set i (.bool b) = bools (bs.set i b) := by simp [bools, List.map_set]
section
variable {S : Store} {b vl i : Nat} {ex v : Bool} {bs : List Bool}
theorem rd_bool (h : S[b]? = some (.mu (bools bs) ex)) (hl : bs.length = vl) (hi : bs[i]? = some v) : rd S b i vl 1 = some [.bool v] := by
  have hi' := (List.getElem?_eq_some_iff.1 hi).1
  rw [rd_mu h (by simpa using hl) (by omega), bools_drop, bools_take]
  rw [List.drop_eq_getElem_cons hi']
  have := (List.getElem?_eq_some_iff.1 hi).2
  rw [this]; rfl
theorem wr_bool (h : S[b]? = some (.mu (bools bs) ex)) (hl : bs.length = vl) (hi : i < vl) : wr S b i vl [.bool v] = some (S.set b (.mu (bools (bs.set i v)) ex)) := by
  rw [wr_mu h (by simpa using hl) (by simp; omega)]
  congr 4
  unfold splice
  rw [← bools_set, List.set_eq_take_append_cons_drop]
  simp [show i < bs.length by omega]
end
/-- A weight that may stand there. -/
def okW (w : Int) (b : Bool) : Bool := decide (-1000 ≤ w) && (decide (w ≤ 1000) && (decide (0 ≤ w) || b))
def nextW (w : Int) (b : Bool) : Bool := b || decide (0 < w)
def rowOk : List Int → List Bool → Bool
  | w :: ws, b :: bs => okW w b && rowOk ws bs
  | _, _ => true
def rowNext : List Int → List Bool → List Bool
  | w :: ws, b :: bs => nextW w b :: rowNext ws bs
  | _, bs => bs
def goV : List Bool → List (List Int) → Bool
  | _, [] => true
  | bs, w :: o => rowOk w bs && goV (rowNext w bs) o
/-- Which orders are valid. -/
def validB (o : List (List Int)) : Bool := decide (o.length ≤ 24) && goV (List.replicate 8 false) o
theorem rowNext_len : ∀ (w : List Int) (bs : List Bool), (rowNext w bs).length = bs.length
  | [], bs => by cases bs <;> rfl
  | _ :: _, [] => rfl
  | w :: ws, b :: bs => by simp [rowNext, rowNext_len ws bs]
theorem rowNext_get : ∀ (w : List Int) (bs : List Bool) (k : Nat) (x : Int) (b : Bool), w[k]? = some x → bs[k]? = some b → (rowNext w bs)[k]? = some (nextW x b)
  | [], _, _, _, _, h, _ => by simp at h
  | _ :: _, [], _, _, _, _, h => by simp at h
  | w :: ws, b :: bs, 0, x, b', h, h' => by simp at h h'; subst h; subst h'; rfl
  | w :: ws, b :: bs, k + 1, x, b', h, h' => by
    simp only [rowNext, List.getElem?_cons_succ] at h h' ⊢
    exact rowNext_get ws bs k x b' h h'
theorem rowOk_drop {w : List Int} {bs : List Bool} {k : Nat} {x : Int} {b : Bool} (h : w[k]? = some x) (h' : bs[k]? = some b) : rowOk (w.drop k) (bs.drop k) = (okW x b && rowOk (w.drop (k + 1)) (bs.drop (k + 1))) := by
  obtain ⟨h1, h2⟩ := List.getElem?_eq_some_iff.1 h
  obtain ⟨h3, h4⟩ := List.getElem?_eq_some_iff.1 h'
  rw [List.drop_eq_getElem_cons h1, List.drop_eq_getElem_cons h3, h2, h4]; rfl
theorem take_drop_set {α : Type} {l m : List α} {k : Nat} {v : α} (hl : m.length = l.length) (h : m[k]? = some v) : (m.take k ++ l.drop k).set k v = m.take (k + 1) ++ l.drop (k + 1) := by
  obtain ⟨h1, h2⟩ := List.getElem?_eq_some_iff.1 h
  have hlen : (m.take k).length = k := by rw [List.length_take]; omega
  rw [List.set_append_right _ _ (by omega), hlen, Nat.sub_self, List.drop_eq_getElem_cons (l := l) (by omega), List.set_cons_zero, List.take_add_one, h]
  simp
set_option maxRecDepth 20000 in
theorem valid_inner {w : List Int} {bs : List Bool} (hw : w.length = 8) (hbs : bs.length = 8) {r : Blk} {x11 x12 x13 : AV} {Q : FQ}
    (h1 : ∀ (tm : List AV) (hl : tm.length = 49), tm[3] = .mptr 0 0 8 → tm[11] = x11 → tm[12] = x12 → tm[13] = x13 → rowOk w bs = true → Q (.ex 2) ⟨tm, [.mu (bools (rowNext w bs)) true, r]⟩)
    (h2 : ∀ (tm : List AV) (hl : tm.length = 49) (S : Store), tm[2] = .bool false → rowOk w bs = false → Q .ret ⟨tm, S⟩) :
    ∀ (m k : Nat), k + m = 8 → rowOk (w.drop k) (bs.drop k) = rowOk w bs →
    wpL RT f24_0m 2 f24_0 ⟨[.any, .any, .any, .mptr 0 0 8, .any, .any, .any, .any, .any, .any, .any, x11, x12, x13, .any, .any, .any, R8 w, .int .i64 (k : Int)] ++ List.replicate 30 .any, [.mu (bools ((rowNext w bs).take k ++ bs.drop k)) true, r]⟩ Q := by
  intro m
  induction m with
  | zero =>
    intro k hk he
    have hk' : k = 8 := by omega
    subst hk'
    rw [wpL_step]
    generalize hK : loopQ RT f24_0m 2 f24_0 Q = K
    simp [f24_0, List.replicate]
    subst hK
    have e : (rowNext w bs).take 8 ++ bs.drop 8 = rowNext w bs := by
      rw [List.drop_of_length_le (by omega), List.take_of_length_le (by rw [rowNext_len]; omega), List.append_nil]
    rw [e]
    refine h1 _ rfl rfl rfl rfl rfl ?_
    rw [← he, List.drop_of_length_le (by omega)]; rfl
  | succ m ih =>
    intro k hk he
    have hki : (k : Int) < 8 := by omega
    have hwk : w[k]? = some w[k] := List.getElem?_eq_getElem (by omega)
    have hbk : bs[k]? = some bs[k] := List.getElem?_eq_getElem (by omega)
    have hnk := rowNext_get w bs k _ _ hwk hbk
    rw [rowOk_drop hwk hbk] at he
    generalize w[k] = x at *
    generalize bs[k] = b at *
    have hlen : ((rowNext w bs).take k ++ bs.drop k).length = 8 := by simp [rowNext_len]; omega
    have hcur : ((rowNext w bs).take k ++ bs.drop k)[k]? = some b := by
      have hlen : ((rowNext w bs).take k).length = k := by rw [List.length_take, rowNext_len]; omega
      rw [List.getElem?_append_right (by omega), hlen, Nat.sub_self, List.getElem?_drop]; simpa using hbk
    have hset := take_drop_set (l := bs) (m := rowNext w bs) (by rw [rowNext_len]) hnk
    have hw1 : IntKind.i64.wrap ((k : Int) + 1) = ((k + 1 : Nat) : Int) := wrap_i64 (by omega) (by omega)
    generalize hcs : (rowNext w bs).take k ++ bs.drop k = cs at *
    have hrd : rd [.mu (bools cs) true, r] 0 k 8 1 = some [.bool b] := rd_bool rfl hlen hcur
    have hwr : ∀ v, wr [.mu (bools cs) true, r] 0 k 8 [.bool v] = some [.mu (bools (cs.set k v)) true, r] := fun v => wr_bool (S := [.mu (bools cs) true, r]) rfl hlen (by omega)
    rw [wpL_step]
    generalize hK : loopQ RT f24_0m 2 f24_0 Q = K
    have fin : okW x b = false → rowOk w bs = false := fun h => by rw [← he, h]; rfl
    have go : okW x b = true → wpL RT f24_0m 2 f24_0 ⟨[.any, .any, .any, .mptr 0 0 8, .any, .any, .any, .any, .any, .any, .any, x11, x12, x13, .any, .any, .any, R8 w, .int .i64 ((k + 1 : Nat) : Int)] ++ List.replicate 30 .any, [.mu (bools ((rowNext w bs).take (k + 1) ++ bs.drop (k + 1))) true, r]⟩ Q := by
      intro h
      rw [h, Bool.true_and] at he
      exact ih (k + 1) (by omega) he
    rw [← hset] at go
    by_cases c1 : x < -1000
    · have hf := fin (by unfold okW; simp; omega)
      simp [f24_0, List.replicate, hki, hw, hwk, hrd, c1]
      subst hK
      exact h2 _ rfl _ rfl hf
    · by_cases c2 : 1000 < x
      · have hf := fin (by unfold okW; simp; omega)
        simp [f24_0, List.replicate, hki, hw, hwk, hrd, c1, c2]
        subst hK
        exact h2 _ rfl _ rfl hf
      · by_cases c3 : x < 0
        · cases b with
          | false =>
            have hf := fin (by unfold okW; simp; omega)
            simp [f24_0, List.replicate, hki, hw, hwk, hrd, c1, c2, c3]
            subst hK
            exact h2 _ rfl _ rfl hf
          | true =>
            have hg := go (by unfold okW; simp; omega)
            have hn : nextW x true = true := rfl
            rw [hn] at hg
            simp [f24_0, List.replicate, hki, hw, hwk, hrd, c1, c2, c3, hwr, hw1]
            subst hK
            simp [head, f24_0m, mask, trunc_len]
            simpa [f24_0m, List.replicate] using hg
        · have hg := go (by unfold okW; simp; omega)
          cases b with
          | true =>
            have hn : nextW x true = true := rfl
            rw [hn] at hg
            simp [f24_0, List.replicate, hki, hw, hwk, hrd, c1, c2, c3, hwr, hw1]
            subst hK
            simp [head, f24_0m, mask, trunc_len]
            simpa [f24_0m, List.replicate] using hg
          | false =>
            have hn : nextW x false = decide (0 < x) := by simp [nextW]
            rw [hn] at hg
            simp [f24_0, List.replicate, hki, hw, hwk, hrd, c1, c2, c3, hwr, hw1]
            subst hK
            simp [head, f24_0m, mask, trunc_len]
            simpa [f24_0m, List.replicate] using hg
set_option maxRecDepth 20000 in
theorem valid_outer {o : List (List Int)} (ho : ∀ w ∈ o, w.length = 8) (hol : o.length < 1000000) {Q : FQ}
    (h1 : ∀ (tm : List AV) (hl : tm.length = 49) (S : Store), goV (List.replicate 8 false) o = true → Q (.ex 0) ⟨tm, S⟩)
    (h2 : ∀ (tm : List AV) (hl : tm.length = 49) (S : Store), tm[2] = .bool false → goV (List.replicate 8 false) o = false → Q .ret ⟨tm, S⟩) :
    ∀ (m i : Nat), i + m = o.length → ∀ bs : List Bool, bs.length = 8 → goV bs (o.drop i) = goV (List.replicate 8 false) o →
    wpL RT f24_1m 1 f24_1 ⟨[.any, .any, .any, .mptr 0 0 8, .any, .any, .any, .any, .any, .any, .any, OR o, .int .i64 (o.length : Int), .int .i64 (i : Int)] ++ List.replicate 35 .any, [.mu (bools bs) true]⟩ Q := by
  intro m
  induction m with
  | zero =>
    intro i hi bs hbs he
    have hi' : i = o.length := by omega
    subst hi'
    rw [wpL_step]
    generalize hK : loopQ RT f24_1m 1 f24_1 Q = K
    simp [f24_1, List.replicate]
    subst hK
    refine h1 _ rfl _ ?_
    rw [← he, List.drop_of_length_le (Nat.le_refl _)]
    cases bs <;> rfl
  | succ m ih =>
    intro i hi bs hbs he
    have hi1 : i < o.length := by omega
    rw [List.drop_eq_getElem_cons hi1] at he
    have hwl := ho o[i] (List.getElem_mem hi1)
    have hget : o[i]? = some o[i] := List.getElem?_eq_getElem hi1
    generalize o[i] = w at *
    have hw : IntKind.i64.wrap ((i : Int) + 1) = ((i + 1 : Nat) : Int) := wrap_i64 (by omega) (by omega)
    have hlt : (i : Int) < (o.length : Int) := by omega
    rw [wpL_step]
    generalize hK : loopQ RT f24_1m 1 f24_1 Q = K
    have hz : splice [.int .i64 0, .int .i64 0, .int .i64 0, .int .i64 0, .int .i64 0, .int .i64 0, .int .i64 0, .int .i64 0] 0 (nums .i64 w) = nums .i64 w := row_splice hwl rfl
    have ht8 : (nums .i64 w).take 8 = nums .i64 w := List.take_of_length_le (by simp [hwl])
    simp [f24_1, List.replicate, hlt, hget, hwl, ht8, wr, chk, hz, rd]
    simp [head, f24_0m, mask, trunc_len]
    refine valid_inner hwl hbs (r := .mu (nums .i64 w) true) ?_ ?_ 8 0 rfl rfl
    · intro tm hl h3 h11 h12 h13 hr
      have he' : goV (rowNext w bs) (o.drop (i + 1)) = goV (List.replicate 8 false) o := by rw [← he]; simp only [goV, hr, Bool.true_and]
      simp [hl, h3, h11, h12, h13, hw]
      subst hK
      simp only [loopQ_nrm, head]
      rw [mask_of (n := 49) (by simp [hl])]
      have := ih (i + 1) (by omega) (rowNext w bs) (by rw [rowNext_len]; exact hbs) he'
      have hlb : Blk.lt 1 (.mu (bools (rowNext w bs)) true) = true := by simp [Blk.lt, bools, lt1, ltc]
      simp [f24_1m, hl, h3, h11, h12, List.range_succ, trunc, lt1, ltc, hlb]
      simpa [f24_1m, List.replicate] using this
    · intro tm hl S h2' hr
      have he' : goV (List.replicate 8 false) o = false := by rw [← he]; simp only [goV, hr, Bool.false_and]
      simp [hl, h2']
      subst hK
      exact h2 _ (by simp [hl]) _ (by simp [h2']) he'
theorem run_valid {o : List (List Int)} (ho : ∀ w ∈ o, w.length = 8) (hol : o.length < 1000000) : callPure RT 24 [OR o] = some (.bool (validB o)) := by
  refine callPure_of (wpF_of tab_24 rfl ?_)
  unfold validB
  by_cases hc : (24 : Int) < (o.length : Int)
  · have : ¬ o.length ≤ 24 := by omega
    simp [f24, enter, hc, this]
  · have : o.length ≤ 24 := by omega
    simp [f24, enter, hc, this]
    simp [head, f24_1m, mask, trunc_len]
    refine valid_outer ho hol ?_ ?_ o.length 0 (by simp) (List.replicate 8 false) rfl rfl
    · intro tm hl S h
      have h' : goV [false, false, false, false, false, false, false, false] o = true := h
      simp [hl, h']
    · intro tm hl S h2 h
      have h' : goV [false, false, false, false, false, false, false, false] o = false := h
      simp [hl, h2, h']
end Go.AVM
