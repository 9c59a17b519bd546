/- Texts joined: AvValid, AvElim1, AvInt2, AvInt3, AvInt4, AvInt5, AvInt6, AvInt7, AvInt8, AvInt9, AvInt10, AvInt11, AvInt12, AvInt13, AvInt14, AvInt15, AvInt16, AvRat1, AvInd1. -/
import Derived.Test.YtlpbjbgfgfjnlaaGreatAvErrors4
set_option linter.unusedVariables false
set_option linter.unusedSimpArgs false
set_option linter.unusedSectionVars false
namespace Go.AVM
def bools (bs : List Bool) : List AV := bs.map .bool
@[simp] theorem bools_length (bs : List Bool) : (bools bs).length = bs.length := by simp [bools]
theorem bools_take (bs : List Bool) (n : Nat) : (bools bs).take n = bools (bs.take n) := by simp [bools, List.map_take]
theorem bools_drop (bs : List Bool) (n : Nat) : (bools bs).drop n = bools (bs.drop n) := by simp [bools, List.map_drop]
theorem bools_set (bs : List Bool) (i : Nat) (b : Bool) : (bools bs).set i (.bool b) = bools (bs.set i b) := by simp [bools, List.map_set]
section
variable {S : Store} {b vl i : Nat} {ex v : Bool} {bs : List Bool}
theorem rd_bool (h : S[b]? = some (.mu (bools bs) ex)) (hl : bs.length = vl) (hi : bs[i]? = some v) : rd S b i vl 1 = some [.bool v] := by
  have hi' := (List.getElem?_eq_some_iff.1 hi).1
  rw [rd_mu h (by simpa using hl) (by omega), bools_drop, bools_take]
  rw [List.drop_eq_getElem_cons hi']
  have := (List.getElem?_eq_some_iff.1 hi).2
  rw [this]; rfl
theorem wr_bool (h : S[b]? = some (.mu (bools bs) ex)) (hl : bs.length = vl) (hi : i < vl) : wr S b i vl [.bool v] = some (S.set b (.mu (bools (bs.set i v)) ex)) := by
  rw [wr_mu h (by simpa using hl) (by simp; omega)]
  congr 4
  unfold splice
  rw [← bools_set, List.set_eq_take_append_cons_drop]
  simp [show i < bs.length by omega]
end
def okW (w : Int) (b : Bool) : Bool := decide (-1000 ≤ w) && (decide (w ≤ 1000) && (decide (0 ≤ w) || b))
def nextW (w : Int) (b : Bool) : Bool := b || decide (0 < w)
def rowOk : List Int → List Bool → Bool
  | w :: ws, b :: bs => okW w b && rowOk ws bs
  | _, _ => true
def rowNext : List Int → List Bool → List Bool
  | w :: ws, b :: bs => nextW w b :: rowNext ws bs
  | _, bs => bs
def goV : List Bool → List (List Int) → Bool
  | _, [] => true
  | bs, w :: o => rowOk w bs && goV (rowNext w bs) o
def validB (o : List (List Int)) : Bool := decide (o.length ≤ 24) && goV (List.replicate 8 false) o
theorem rowNext_len : ∀ (w : List Int) (bs : List Bool), (rowNext w bs).length = bs.length
  | [], bs => by cases bs <;> rfl
  | _ :: _, [] => rfl
  | w :: ws, b :: bs => by simp [rowNext, rowNext_len ws bs]
theorem rowNext_get : ∀ (w : List Int) (bs : List Bool) (k : Nat) (x : Int) (b : Bool), w[k]? = some x → bs[k]? = some b → (rowNext w bs)[k]? = some (nextW x b)
  | [], _, _, _, _, h, _ => by simp at h
  | _ :: _, [], _, _, _, _, h => by simp at h
  | w :: ws, b :: bs, 0, x, b', h, h' => by simp at h h'; subst h; subst h'; rfl
  | w :: ws, b :: bs, k + 1, x, b', h, h' => by
    simp only [rowNext, List.getElem?_cons_succ] at h h' ⊢
    exact rowNext_get ws bs k x b' h h'
theorem rowOk_drop {w : List Int} {bs : List Bool} {k : Nat} {x : Int} {b : Bool} (h : w[k]? = some x) (h' : bs[k]? = some b) : rowOk (w.drop k) (bs.drop k) = (okW x b && rowOk (w.drop (k + 1)) (bs.drop (k + 1))) := by
  obtain ⟨h1, h2⟩ := List.getElem?_eq_some_iff.1 h
  obtain ⟨h3, h4⟩ := List.getElem?_eq_some_iff.1 h'
  rw [List.drop_eq_getElem_cons h1, List.drop_eq_getElem_cons h3, h2, h4]; rfl
theorem take_drop_set {α : Type} {l m : List α} {k : Nat} {v : α} (hl : m.length = l.length) (h : m[k]? = some v) : (m.take k ++ l.drop k).set k v = m.take (k + 1) ++ l.drop (k + 1) := by
  obtain ⟨h1, h2⟩ := List.getElem?_eq_some_iff.1 h
  have hlen : (m.take k).length = k := by rw [List.length_take]; omega
  rw [List.set_append_right _ _ (by omega), hlen, Nat.sub_self, List.drop_eq_getElem_cons (l := l) (by omega), List.set_cons_zero, List.take_add_one, h]
  simp
set_option maxRecDepth 20000 in
theorem valid_inner {w : List Int} {bs : List Bool} (hw : w.length = 8) (hbs : bs.length = 8) {r : Blk} {x11 x12 x13 : AV} {Q : FQ}
    (h1 : ∀ (tm : List AV) (hl : tm.length = 49), tm[3] = .mptr 0 0 8 → tm[11] = x11 → tm[12] = x12 → tm[13] = x13 → rowOk w bs = true → Q (.ex 2) ⟨tm, [.mu (bools (rowNext w bs)) true, r]⟩)
    (h2 : ∀ (tm : List AV) (hl : tm.length = 49) (S : Store), tm[2] = .bool false → rowOk w bs = false → Q .ret ⟨tm, S⟩) :
    ∀ (m k : Nat), k + m = 8 → rowOk (w.drop k) (bs.drop k) = rowOk w bs →
    wpL RT f24_0m 2 f24_0 ⟨[.any, .any, .any, .mptr 0 0 8, .any, .any, .any, .any, .any, .any, .any, x11, x12, x13, .any, .any, .any, R8 w, .int .i64 (k : Int)] ++ List.replicate 30 .any, [.mu (bools ((rowNext w bs).take k ++ bs.drop k)) true, r]⟩ Q := by
  intro m
  induction m with
  | zero =>
    intro k hk he
    have hk' : k = 8 := by omega
    subst hk'
    rw [wpL_step]
    generalize hK : loopQ RT f24_0m 2 f24_0 Q = K
    simp [f24_0, List.replicate]
    subst hK
    have e : (rowNext w bs).take 8 ++ bs.drop 8 = rowNext w bs := by
      rw [List.drop_of_length_le (by omega), List.take_of_length_le (by rw [rowNext_len]; omega), List.append_nil]
    rw [e]
    refine h1 _ rfl rfl rfl rfl rfl ?_
    rw [← he, List.drop_of_length_le (by omega)]; rfl
  | succ m ih =>
    intro k hk he
    have hki : (k : Int) < 8 := by omega
    have hwk : w[k]? = some w[k] := List.getElem?_eq_getElem (by omega)
    have hbk : bs[k]? = some bs[k] := List.getElem?_eq_getElem (by omega)
    have hnk := rowNext_get w bs k _ _ hwk hbk
    rw [rowOk_drop hwk hbk] at he
    generalize w[k] = x at *
    generalize bs[k] = b at *
    have hlen : ((rowNext w bs).take k ++ bs.drop k).length = 8 := by simp [rowNext_len]; omega
    have hcur : ((rowNext w bs).take k ++ bs.drop k)[k]? = some b := by
      have hlen : ((rowNext w bs).take k).length = k := by rw [List.length_take, rowNext_len]; omega
      rw [List.getElem?_append_right (by omega), hlen, Nat.sub_self, List.getElem?_drop]; simpa using hbk
    have hset := take_drop_set (l := bs) (m := rowNext w bs) (by rw [rowNext_len]) hnk
    have hw1 : IntKind.i64.wrap ((k : Int) + 1) = ((k + 1 : Nat) : Int) := wrap_i64 (by omega) (by omega)
    generalize hcs : (rowNext w bs).take k ++ bs.drop k = cs at *
    have hrd : rd [.mu (bools cs) true, r] 0 k 8 1 = some [.bool b] := rd_bool rfl hlen hcur
    have hwr : ∀ v, wr [.mu (bools cs) true, r] 0 k 8 [.bool v] = some [.mu (bools (cs.set k v)) true, r] := fun v => wr_bool (S := [.mu (bools cs) true, r]) rfl hlen (by omega)
    rw [wpL_step]
    generalize hK : loopQ RT f24_0m 2 f24_0 Q = K
    have fin : okW x b = false → rowOk w bs = false := fun h => by rw [← he, h]; rfl
    have go : okW x b = true → wpL RT f24_0m 2 f24_0 ⟨[.any, .any, .any, .mptr 0 0 8, .any, .any, .any, .any, .any, .any, .any, x11, x12, x13, .any, .any, .any, R8 w, .int .i64 ((k + 1 : Nat) : Int)] ++ List.replicate 30 .any, [.mu (bools ((rowNext w bs).take (k + 1) ++ bs.drop (k + 1))) true, r]⟩ Q := by
      intro h
      rw [h, Bool.true_and] at he
      exact ih (k + 1) (by omega) he
    rw [← hset] at go
    by_cases c1 : x < -1000
    · have hf := fin (by unfold okW; simp; omega)
      simp [f24_0, List.replicate, hki, hw, hwk, hrd, c1]
      subst hK
      exact h2 _ rfl _ rfl hf
    · by_cases c2 : 1000 < x
      · have hf := fin (by unfold okW; simp; omega)
        simp [f24_0, List.replicate, hki, hw, hwk, hrd, c1, c2]
        subst hK
        exact h2 _ rfl _ rfl hf
      · by_cases c3 : x < 0
        · cases b with
          | false =>
            have hf := fin (by unfold okW; simp; omega)
            simp [f24_0, List.replicate, hki, hw, hwk, hrd, c1, c2, c3]
            subst hK
            exact h2 _ rfl _ rfl hf
          | true =>
            have hg := go (by unfold okW; simp; omega)
            have hn : nextW x true = true := rfl
            rw [hn] at hg
            simp [f24_0, List.replicate, hki, hw, hwk, hrd, c1, c2, c3, hwr, hw1]
            subst hK
            simp [head, f24_0m, mask, trunc_len]
            simpa [f24_0m, List.replicate] using hg
        · have hg := go (by unfold okW; simp; omega)
          cases b with
          | true =>
            have hn : nextW x true = true := rfl
            rw [hn] at hg
            simp [f24_0, List.replicate, hki, hw, hwk, hrd, c1, c2, c3, hwr, hw1]
            subst hK
            simp [head, f24_0m, mask, trunc_len]
            simpa [f24_0m, List.replicate] using hg
          | false =>
            have hn : nextW x false = decide (0 < x) := by simp [nextW]
            rw [hn] at hg
            simp [f24_0, List.replicate, hki, hw, hwk, hrd, c1, c2, c3, hwr, hw1]
            subst hK
            simp [head, f24_0m, mask, trunc_len]
            simpa [f24_0m, List.replicate] using hg
set_option maxRecDepth 20000 in
theorem valid_outer {o : List (List Int)} (ho : ∀ w ∈ o, w.length = 8) (hol : o.length < 1000000) {Q : FQ}
    (h1 : ∀ (tm : List AV) (hl : tm.length = 49) (S : Store), goV (List.replicate 8 false) o = true → Q (.ex 0) ⟨tm, S⟩)
    (h2 : ∀ (tm : List AV) (hl : tm.length = 49) (S : Store), tm[2] = .bool false → goV (List.replicate 8 false) o = false → Q .ret ⟨tm, S⟩) :
    ∀ (m i : Nat), i + m = o.length → ∀ bs : List Bool, bs.length = 8 → goV bs (o.drop i) = goV (List.replicate 8 false) o →
    wpL RT f24_1m 1 f24_1 ⟨[.any, .any, .any, .mptr 0 0 8, .any, .any, .any, .any, .any, .any, .any, OR o, .int .i64 (o.length : Int), .int .i64 (i : Int)] ++ List.replicate 35 .any, [.mu (bools bs) true]⟩ Q := by
  intro m
  induction m with
  | zero =>
    intro i hi bs hbs he
    have hi' : i = o.length := by omega
    subst hi'
    rw [wpL_step]
    generalize hK : loopQ RT f24_1m 1 f24_1 Q = K
    simp [f24_1, List.replicate]
    subst hK
    refine h1 _ rfl _ ?_
    rw [← he, List.drop_of_length_le (Nat.le_refl _)]
    cases bs <;> rfl
  | succ m ih =>
    intro i hi bs hbs he
    have hi1 : i < o.length := by omega
    rw [List.drop_eq_getElem_cons hi1] at he
    have hwl := ho o[i] (List.getElem_mem hi1)
    have hget : o[i]? = some o[i] := List.getElem?_eq_getElem hi1
    generalize o[i] = w at *
    have hw : IntKind.i64.wrap ((i : Int) + 1) = ((i + 1 : Nat) : Int) := wrap_i64 (by omega) (by omega)
    have hlt : (i : Int) < (o.length : Int) := by omega
    rw [wpL_step]
    generalize hK : loopQ RT f24_1m 1 f24_1 Q = K
    have hz : splice [.int .i64 0, .int .i64 0, .int .i64 0, .int .i64 0, .int .i64 0, .int .i64 0, .int .i64 0, .int .i64 0] 0 (nums .i64 w) = nums .i64 w := row_splice hwl rfl
    have ht8 : (nums .i64 w).take 8 = nums .i64 w := List.take_of_length_le (by simp [hwl])
    simp [f24_1, List.replicate, hlt, hget, hwl, ht8, wr, chk, hz, rd]
    simp [head, f24_0m, mask, trunc_len]
    refine valid_inner hwl hbs (r := .mu (nums .i64 w) true) ?_ ?_ 8 0 rfl rfl
    · intro tm hl h3 h11 h12 h13 hr
      have he' : goV (rowNext w bs) (o.drop (i + 1)) = goV (List.replicate 8 false) o := by rw [← he]; simp only [goV, hr, Bool.true_and]
      simp [hl, h3, h11, h12, h13, hw]
      subst hK
      simp only [loopQ_nrm, head]
      rw [mask_of (n := 49) (by simp [hl])]
      have := ih (i + 1) (by omega) (rowNext w bs) (by rw [rowNext_len]; exact hbs) he'
      have hlb : Blk.lt 1 (.mu (bools (rowNext w bs)) true) = true := by simp [Blk.lt, bools, lt1, ltc]
      simp [f24_1m, hl, h3, h11, h12, List.range_succ, trunc, lt1, ltc, hlb]
      simpa [f24_1m, List.replicate] using this
    · intro tm hl S h2' hr
      have he' : goV (List.replicate 8 false) o = false := by rw [← he]; simp only [goV, hr, Bool.false_and]
      simp [hl, h2']
      subst hK
      exact h2 _ (by simp [hl]) _ (by simp [h2']) he'
theorem run_valid {o : List (List Int)} (ho : ∀ w ∈ o, w.length = 8) (hol : o.length < 1000000) : callPure RT 24 [OR o] = some (.bool (validB o)) := by
  refine callPure_of (wpF_of tab_24 rfl ?_)
  unfold validB
  by_cases hc : (24 : Int) < (o.length : Int)
  · have : ¬ o.length ≤ 24 := by omega
    simp [f24, enter, hc, this]
  · have : o.length ≤ 24 := by omega
    simp [f24, enter, hc, this]
    simp [head, f24_1m, mask, trunc_len]
    refine valid_outer ho hol ?_ ?_ o.length 0 (by simp) (List.replicate 8 false) rfl rfl
    · intro tm hl S h
      have h' : goV [false, false, false, false, false, false, false, false] o = true := h
      simp [hl, h']
    · intro tm hl S h2 h
      have h' : goV [false, false, false, false, false, false, false, false] o = false := h
      simp [hl, h2, h']
end Go.AVM
namespace Go.AVM
end Go.AVM
namespace Go.AVM
abbrev Lim : Nat := 1099511627776
theorem wds_chunk {ws : List Nat} {n : Nat} (h : ws.length = n) : chunk 1 n (wds ws) = wds ws := by
  subst h
  induction ws with
  | nil => rfl
  | cons w ws ih =>
    have : wds (w :: ws) = AV.int .u32 (w : Int) :: wds ws := rfl
    rw [this]
    simp only [List.length_cons, chunk, if_true, List.headD_cons, List.drop_one, List.tail_cons]
    rw [ih]
@[simp] theorem wds_nil : wds [] = [] := rfl
@[simp] theorem wds_one (w : Nat) : wds [w] = [.int .u32 (w : Int)] := rfl
theorem wds_cons (w : Nat) (ws : List Nat) : wds (w :: ws) = .int .u32 (w : Int) :: wds ws := rfl
theorem fzc_msl {S : Store} {b n : Nat} {ex : Bool} {ws : List Nat} {cap : Option Nat} {fuel : Nat} (h : S[b]? = some (.mu (wds ws) ex)) (hn : n ≤ ws.length) :
    fzc S (fuel + 1) (.msl b 0 n 1 ws.length cap) = some (W (ws.take n)) := by
  have hr : rd S b 0 ws.length (n * 1) = some (wds (ws.take n)) := by
    unfold rd
    rw [h, Nat.mul_one]
    simp only [wds_length, List.drop_zero, wds_take]
    exact chk_pos ⟨trivial, by omega⟩
  simp only [fzc, hr, Option.bind_some, wds_fzc]
  rw [wds_chunk (by simp; omega)]
theorem fzc_mslv {S : Store} {b n vl : Nat} {ex : Bool} {ws : List Nat} {cap : Option Nat} {fuel : Nat} (h : S[b]? = some (.mu (wds ws) ex)) (hv : vl = ws.length) (hn : n ≤ ws.length) :
    fzc S (fuel + 1) (.msl b 0 n 1 vl cap) = some (W (ws.take n)) := by subst hv; exact fzc_msl h hn
theorem dig_len_le {ws : List Nat} (hw : Wd ws) : (dig (val ws)).length ≤ ws.length := (norm_take hw).2
theorem run_signed {ws : List Nat} {t neg : Bool} (hw : Wd ws) (hlen : ws.length ≤ Lim) : callPure RT 84 [.sl (wds ws) 1 t, .bool neg] = some (.agg [.bool (neg && decide (val ws ≠ 0)), N (val ws)]) := by
  refine callPure_of (wpF_of tab_84 rfl ?_)
  have hL : Lim = 1099511627776 := rfl
  have hn := run_norm (t := false) hw (by omega)
  have hd := dig_len_le hw
  by_cases h0 : val ws = 0
  · cases neg
    · simp [f84, enter, hn, h0, after_nr, appA, held, chk, fillA, splice, wr, rd]
    · simp [f84, enter, hn, h0, after_nr, appA, held, chk, fillA, splice, wr, rd]
  · have h1 : (dig (val ws)).length ≠ 0 := fun h => h0 (dig_nil.1 (List.eq_nil_of_length_eq_zero h))
    have h2 : 0 < (dig (val ws)).length := by omega
    have hroom : room (dig (val ws)).length 4 := by unfold room; omega
    have hf : ∀ x : Blk, fzc [x, .mu (wds (dig (val ws))) false] 5 (.msl 1 0 (dig (val ws)).length 1 (dig (val ws)).length none) = some (N (val ws)) := fun x => by
      rw [fzc_msl (ex := false) rfl (Nat.le_refl _), List.take_length]
    cases neg
    · simp [f84, enter, hn, h0, h1, h2, after_nr, appA, held, chk, hroom, fillA, splice, wr, rd, hf]
    · simp [f84, enter, hn, h0, h1, h2, after_nr, appA, held, chk, hroom, fillA, splice, wr, rd, hf]
theorem run_natural {n : Nat} (h : n < 18446744073709551616) : callPure RT 83 [.int .u64 (n : Int)] = some (N n) := by
  refine callPure_of (wpF_of tab_83 rfl ?_)
  obtain ⟨lo, hlo⟩ : ∃ lo, lo = n % 4294967296 := ⟨_, rfl⟩
  obtain ⟨hi, hhi⟩ : ∃ hi, hi = n / 4294967296 := ⟨_, rfl⟩
  have e1 : (n : Int) % 4294967296 = (lo : Int) := by omega
  have e2 : (n : Int) / 4294967296 % 4294967296 = (hi : Int) := by omega
  have hw : Wd [lo, hi] := Wd.mk (show lo < 4294967296 by omega) (Wd.mk (show hi < 4294967296 by omega) Wd.nil)
  have hn := run_norm (t := false) hw (by simp)
  have hv : val [lo, hi] = n := by
    simp only [val]
    have : B = 4294967296 := rfl
    rw [this]; omega
  rw [hv, wds_cons, wds_one] at hn
  simp [f83, enter, wrap_u32, fdiv_word, IntKind.bits, opA_litn, fillE, elt, e1, e2, hn, after_nr]
theorem rd_word {S : Store} {b i vl : Nat} {ws : List Nat} {ex : Bool} (h : S[b]? = some (.mu (wds ws) ex)) (hv : vl = ws.length) (hi : i < ws.length) : rd S b i vl 1 = some [.int .u32 ((ws[i] : Nat) : Int)] := by
  subst hv
  unfold rd
  rw [h]
  simp only [wds_length]
  rw [chk_pos ⟨trivial, by omega⟩, wds_drop, wds_take]
  have : (ws.drop i).take 1 = [ws[i]] := by
    rw [List.drop_eq_getElem_cons hi]; rfl
  rw [this, wds_one]
theorem wr_word {S : Store} {b i vl w : Nat} {ws : List Nat} {ex : Bool} (h : S[b]? = some (.mu (wds ws) ex)) (hv : vl = ws.length) (hi : i < ws.length) : wr S b i vl [.int .u32 (w : Int)] = some (S.set b (.mu (wds (ws.set i w)) ex)) := by
  subst hv
  unfold wr
  rw [h]
  simp only [wds_length, List.length_singleton]
  rw [chk_pos ⟨trivial, by omega⟩]
  congr 4
  unfold splice
  rw [← wds_set, List.set_eq_take_append_cons_drop]
  simp [hi]
theorem wds_ids (S : Store) (fuel : Nat) (ws : List Nat) : (wds ws).flatMap (ids S fuel) = [] := by
  rw [List.flatMap_eq_nil_iff]
  intro x hx
  unfold wds at hx
  obtain ⟨w, _, rfl⟩ := List.mem_map.1 hx
  cases fuel <;> rfl
theorem after_row {S : Store} {b off n vl : Nat} {cap : Option Nat} {ws : List Nat} {ex : Bool} {r : AV} (h : S[b]? = some (.mu (wds ws) ex)) (hr : r.bare = false) :
    after false S [.msl b off n 1 vl cap] r = some (S.set b (.fz (wds ws))) := by
  have hi : ids S fzDepth (.msl b off n 1 vl cap) = [b] := by
    show ids S (5 + 1) _ = _
    simp only [ids, h, wds_ids]
  unfold after
  have h1 : ([AV.msl b off n 1 vl cap].all nr1 || r.bare) = false := by rw [hr]; rfl
  rw [h1]
  simp only [Bool.false_eq_true, if_false, List.flatMap_cons, List.flatMap_nil, List.append_nil, hi, settle, h, wds_ids, List.all_nil, wds_fzc]
  rfl
theorem add_loop {xs ys : List Nat} (hx : Wd xs) (hy : Wd ys) (hlx : xs.length ≤ Lim) (hly : ys.length ≤ Lim) {n : Nat} (hn : n = max xs.length ys.length) {Q : FQ}
    (hQ : ∀ (tm : List AV) (hl : tm.length = 42) (ds : List Nat) (c : Nat), tm[5] = .int .i64 (n : Int) → tm[6] = .msl 0 0 (n + 1) 1 (n + 1) none → tm[7] = .int .u32 (c : Int) → ds.length = n → Wd ds → c ≤ 1 → val ds + B ^ n * c = val xs + val ys → Q (.ex 0) ⟨tm, [.mu (wds (ds ++ [0])) true]⟩) :
    ∀ (m i : Nat), i + m = n → ∀ (ds : List Nat) (c : Nat), ds.length = i → Wd ds → c ≤ 1 → val ds + B ^ i * c = val (xs.take i) + val (ys.take i) →
    wpL RT f95_0m 1 f95_0 ⟨[.sl (wds xs) 1 false, .sl (wds ys) 1 false, .any, .any, .any, .int .i64 (n : Int), .msl 0 0 (n + 1) 1 (n + 1) none, .int .u32 (c : Int), .any, .any, .any, .any, .any, .any, .any, .any, .any, .int .i64 (n : Int), .int .i64 (i : Int), .any, .any, .any, .any, .any, .any, .any, .any, .any, .any, .any, .any, .any, .any, .any, .any, .any, .any, .any, .any, .any, .any, .any],
      [.mu (wds (ds ++ List.replicate (m + 1) 0)) true]⟩ Q := by
  have hL : Lim = 1099511627776 := rfl
  intro m
  induction m with
  | zero =>
    intro i hi ds c hds hwd hc he
    have hi' : i = n := by omega
    subst hi'
    rw [wpL_eq]
    generalize hK : (fun s' => wpL RT f95_0m 1 f95_0 (head f95_0m 1 s') Q) = K
    simp [f95_0]
    rw [List.take_of_length_le (by omega), List.take_of_length_le (by omega)] at he
    exact hQ _ rfl ds c rfl rfl rfl hds hwd hc he
  | succ m ih =>
    intro i hi ds c hds hwd hc he
    rw [wpL_eq]
    generalize hK : (fun s' => wpL RT f95_0m 1 f95_0 (head f95_0m 1 s') Q) = K
    have hlt : (i : Int) < (n : Int) := by omega
    have ha1 := run_at (ws := xs) (t := false) (i := i) (by omega)
    have ha2 := run_at (ws := ys) (t := false) (i := i) (by omega)
    have hbx : xs.getD i 0 < B := by
      rw [List.getD_eq_getElem?_getD]
      cases h : xs[i]? with
      | none => decide
      | some w => exact hx.get h
    have hby : ys.getD i 0 < B := by
      rw [List.getD_eq_getElem?_getD]
      cases h : ys[i]? with
      | none => decide
      | some w => exact hy.get h
    have had := run_Add32 hbx hby (show c < B from Nat.lt_of_le_of_lt hc (by decide))
    have e1 := val_take_succ xs i
    have e2 := val_take_succ ys i
    generalize xs.getD i 0 = a at *
    generalize ys.getD i 0 = b at *
    obtain ⟨s, hs⟩ : ∃ s, s = (a + b + c) % B := ⟨_, rfl⟩
    obtain ⟨d, hd⟩ : ∃ d, d = (a + b + c) / B := ⟨_, rfl⟩
    rw [← hs, ← hd] at had
    have hsB : s < B := by rw [hs]; exact Nat.mod_lt _ (by decide)
    have hwr := wr_word (S := [.mu (wds (ds ++ List.replicate (m + 1 + 1) 0)) true]) (b := 0) (i := i) (vl := n + 1) (w := s) rfl (by simp; omega) (by simp; omega)
    have hset : (ds ++ List.replicate (m + 1 + 1) 0).set i s = (ds ++ [s]) ++ List.replicate (m + 1) 0 := by
      rw [List.set_append_right _ _ (by omega), hds, Nat.sub_self, List.replicate_succ, List.set_cons_zero]
      simp
    rw [hset] at hwr
    have hwi : IntKind.i64.wrap ((i : Int) + 1) = ((i + 1 : Nat) : Int) := wrap_i64 (by omega) (by omega)
    simp [f95_0, hlt, ha1, ha2, had, after_nr]
    refine ⟨by omega, ?_⟩
    rw [hwr]
    simp [hwi]
    subst hK
    simp [head, f95_0m, mask]
    have := ih (i + 1) (by omega) (ds ++ [s]) d (by simp [hds]) (Wd.app hwd (Wd.mk hsB Wd.nil)) (by
      rw [hd]
      exact Nat.lt_succ_iff.1 (Nat.div_lt_of_lt_mul (by omega))) (by
      rw [val_append, hds, e1, e2]
      have hdm := Nat.mod_add_div (a + b + c) B
      rw [← hs, ← hd] at hdm
      simp only [val, Nat.pow_succ]
      have e3 : B ^ i * (s + B * 0) + B ^ i * B * d = B ^ i * (a + b + c) := by
        rw [← hdm, Nat.mul_assoc, ← Nat.mul_add]; simp
      simp only [Nat.mul_zero, Nat.add_zero, Nat.mul_add] at e3 ⊢
      omega)
    simpa [f95_0m] using this
theorem wds_rep (n w : Nat) : List.replicate n (AV.int .u32 (w : Int)) = wds (List.replicate n w) := by simp [wds]
theorem run_nadd {x y : Nat} (hx : size x ≤ Lim) (hy : size y ≤ Lim) : callPure RT 95 [N x, N y] = some (N (x + y)) := by
  refine callPure_of (wpF_of tab_95 rfl ?_)
  have hL : Lim = 1099511627776 := rfl
  unfold size at hx hy
  obtain ⟨n, hn⟩ : ∃ n, n = max (dig x).length (dig y).length := ⟨_, rfl⟩
  have hmax : (if (dig x).length < (dig y).length then ((dig y).length : Int) else ((dig x).length : Int)) = (n : Int) := by
    split <;> omega
  have hwn : IntKind.i64.wrap ((n : Int) + 1) = ((n + 1 : Nat) : Int) := wrap_i64 (by omega) (by omega)
  have hroom : room (n + 1) 4 := by unfold room; omega
  have hln : (n : Int) + 1 ≤ 281474976710656 := by omega
  have htn : ((n : Int) + 1).toNat = n + 1 := by omega
  have hnn : (0 : Int) ≤ (n : Int) + 1 := by omega
  simp only [f95, enter_eq]
  simp [hmax, hwn, htn, hln, hnn, hroom]
  simp [head, mask, f95_0m]
  have hst : List.replicate (n + 1) (AV.int .u32 0) = wds ([] ++ List.replicate (n + 1) 0) := wds_rep (n + 1) 0
  rw [hst]
  refine add_loop (dig_wd x) (dig_wd y) hx hy hn ?_ n 0 (by omega) [] 0 rfl Wd.nil (by omega) (by simp [val])
  intro tm hl ds c h5 h6 h7 hds hwd hc he
  have hwr := wr_word (S := [.mu (wds (ds ++ [0])) true]) (b := 0) (i := n) (vl := n + 1) (w := c) rfl (by simp [hds]) (by simp [hds])
  have hset : (ds ++ [0]).set n c = ds ++ [c] := by
    rw [List.set_append_right _ _ (by omega), hds, Nat.sub_self]; rfl
  rw [hset] at hwr
  have hcB : c < B := Nat.lt_of_le_of_lt hc (by decide)
  have hwd2 : Wd (ds ++ [c]) := Wd.app hwd (Wd.mk hcB Wd.nil)
  have hv : val (ds ++ [c]) = x + y := by
    rw [val_append, hds]; simp only [val, Nat.mul_zero, Nat.add_zero, val_dig] at he ⊢; exact he
  have hnorm := run_norm (t := false) hwd2 (by simp [hds]; omega)
  rw [hv] at hnorm
  have hfz : fzc [.mu (wds (ds ++ [c])) true] (5 + 1) (.msl 0 0 (n + 1) 1 (n + 1) none) = some (W (ds ++ [c])) := by
    have := fzc_mslv (S := [.mu (wds (ds ++ [c])) true]) (b := 0) (n := n + 1) (vl := n + 1) (cap := none) (fuel := 5) rfl (by simp [hds]) (by simp [hds])
    rwa [List.take_of_length_le (by simp [hds])] at this
  simp [hl, h5, h6, h7]
  rw [hwr]
  simp [hl, h5, h6, h7, hfz, hnorm, after_row (S := [.mu (wds (ds ++ [c])) true]) (b := 0) rfl (show (N (x + y)).bare = false from rfl)]
  omega
theorem borrow_eq {a c b : Nat} (ha : a < B) (hc : c < B) (hb : b ≤ 1) : (a + 2 * B - c - b) % B + c + b = a + B * (if a < c + b then 1 else 0) := by
  have ha' : a < 4294967296 := ha
  have hc' : c < 4294967296 := hc
  show (a + 2 * 4294967296 - c - b) % 4294967296 + c + b = a + 4294967296 * _
  split <;> omega
theorem sub_loop {xs ys : List Nat} (hx : Wd xs) (hy : Wd ys) (hlx : xs.length ≤ Lim) (hly : ys.length ≤ Lim) {n : Nat} (hn : n = xs.length) {Q : FQ}
    (hQ : ∀ (tm : List AV) (hl : tm.length = 34) (ds : List Nat) (b : Nat), tm[5] = .msl 0 0 n 1 n none → ds.length = n → Wd ds → b ≤ 1 → val ds + val (ys.take n) = val xs + B ^ n * b → Q (.ex 0) ⟨tm, [.mu (wds ds) true]⟩) :
    ∀ (m i : Nat), i + m = n → ∀ (ds : List Nat) (b : Nat), ds.length = i → Wd ds → b ≤ 1 → val ds + val (ys.take i) = val (xs.take i) + B ^ i * b →
    wpL RT f96_0m 1 f96_0 ⟨[.sl (wds xs) 1 false, .sl (wds ys) 1 false, .any, .any, .any, .msl 0 0 n 1 n none, .int .u32 (b : Int), .any, .any, .any, .any, .any, .int .i64 (n : Int), .int .i64 (i : Int), .any, .any, .any, .any, .any, .any, .any, .any, .any, .any, .any, .any, .any, .any, .any, .any, .any, .any, .any, .any],
      [.mu (wds (ds ++ List.replicate m 0)) true]⟩ Q := by
  have hL : Lim = 1099511627776 := rfl
  intro m
  induction m with
  | zero =>
    intro i hi ds b hds hwd hb he
    have hi' : i = n := by omega
    subst hi'
    rw [wpL_eq]
    generalize hK : (fun s' => wpL RT f96_0m 1 f96_0 (head f96_0m 1 s') Q) = K
    simp [f96_0]
    rw [List.take_of_length_le (l := xs) (by omega)] at he
    exact hQ _ rfl ds b rfl hds hwd hb he
  | succ m ih =>
    intro i hi ds b hds hwd hb he
    rw [wpL_eq]
    generalize hK : (fun s' => wpL RT f96_0m 1 f96_0 (head f96_0m 1 s') Q) = K
    have hlt : (i : Int) < (n : Int) := by omega
    have hix : i < xs.length := by omega
    have hixz : (i : Int) < (xs.length : Int) := by omega
    obtain ⟨a, hget⟩ : ∃ a, xs[i]? = some a := ⟨xs[i], List.getElem?_eq_getElem hix⟩
    have haB : a < B := hx.get hget
    have ha2 := run_at (ws := ys) (t := false) (i := i) (by omega)
    have hby : ys.getD i 0 < B := by
      rw [List.getD_eq_getElem?_getD]
      cases h : ys[i]? with
      | none => decide
      | some w => exact hy.get h
    have hsu := run_Sub32 haB hby hb
    have e1 := val_take_succ xs i
    have e2 := val_take_succ ys i
    have hga : xs.getD i 0 = a := by rw [List.getD_eq_getElem?_getD, hget]; rfl
    rw [hga] at e1
    generalize ys.getD i 0 = c at *
    obtain ⟨d, hd⟩ : ∃ d, d = (a + 2 * B - c - b) % B := ⟨_, rfl⟩
    obtain ⟨b', hb'⟩ : ∃ b', b' = if a < c + b then 1 else 0 := ⟨_, rfl⟩
    rw [← hd, ← hb'] at hsu
    have hdB : d < B := by rw [hd]; exact Nat.mod_lt _ (by decide)
    have hb1 : b' ≤ 1 := by rw [hb']; split <;> omega
    have heq : d + c + b = a + B * b' := by rw [hd, hb']; exact borrow_eq haB hby hb
    have hwr := wr_word (S := [.mu (wds (ds ++ List.replicate (m + 1) 0)) true]) (b := 0) (i := i) (vl := n) (w := d) rfl (by simp; omega) (by simp; omega)
    have hset : (ds ++ List.replicate (m + 1) 0).set i d = (ds ++ [d]) ++ List.replicate m 0 := by
      rw [List.set_append_right _ _ (by omega), hds, Nat.sub_self, List.replicate_succ, List.set_cons_zero]
      simp
    rw [hset] at hwr
    have hwi : IntKind.i64.wrap ((i : Int) + 1) = ((i + 1 : Nat) : Int) := wrap_i64 (by omega) (by omega)
    simp [f96_0, hlt, hget, ha2, hsu, after_nr]
    refine ⟨by omega, ?_⟩
    rw [hwr]
    simp [hwi]
    subst hK
    simp [head, f96_0m, mask]
    have := ih (i + 1) (by omega) (ds ++ [d]) b' (by simp [hds]) (Wd.app hwd (Wd.mk hdB Wd.nil)) hb1 (by
      rw [val_append, hds, e1, e2]
      simp only [val, Nat.pow_succ, Nat.mul_zero, Nat.add_zero]
      have e3 : B ^ i * (d + c + b) = B ^ i * (a + B * b') := by rw [heq]
      simp only [Nat.mul_add, ← Nat.mul_assoc] at e3
      omega)
    simpa [f96_0m] using this
theorem run_nsub {x y : Nat} (hx : size x ≤ Lim) (hyx : y ≤ x) : callPure RT 96 [N x, N y] = some (N (x - y)) := by
  refine callPure_of (wpF_of tab_96 rfl ?_)
  have hL : Lim = 1099511627776 := rfl
  have hy : size y ≤ size x := size_mono hyx
  unfold size at hx hy
  obtain ⟨n, hn⟩ : ∃ n, n = (dig x).length := ⟨_, rfl⟩
  have hroom : room n 4 := by unfold room; omega
  have hln : (n : Int) ≤ 281474976710656 := by omega
  simp only [f96, enter_eq]
  simp [← hn, hroom]
  refine ⟨by omega, ?_⟩
  simp [head, mask, f96_0m]
  have hst : List.replicate n (AV.int .u32 0) = wds ([] ++ List.replicate n 0) := wds_rep n 0
  rw [hst]
  refine sub_loop (dig_wd x) (dig_wd y) hx (by omega) hn ?_ n 0 (by omega) [] 0 rfl Wd.nil (by omega) (by simp [val])
  intro tm hl ds b h5 hds hwd hb he
  rw [List.take_of_length_le (by omega), val_dig, val_dig] at he
  have hlt := val_lt hwd
  rw [hds] at hlt
  have hb0 : b = 0 := by
    rcases Nat.lt_or_ge b 1 with h | h
    · omega
    · have : b = 1 := by omega
      subst this
      simp only [Nat.mul_one] at he
      omega
  subst hb0
  have hv : val ds = x - y := by simp only [Nat.mul_zero, Nat.add_zero] at he; omega
  have hnorm := run_norm (t := false) hwd (by omega)
  rw [hv] at hnorm
  have hfz : fzc [.mu (wds ds) true] (5 + 1) (.msl 0 0 n 1 n none) = some (W ds) := by
    have := fzc_mslv (S := [.mu (wds ds) true]) (b := 0) (n := n) (vl := n) (cap := none) (fuel := 5) rfl (by simp [hds]) (by simp [hds])
    rwa [List.take_of_length_le (by simp [hds])] at this
  simp [hl, h5, hfz, hnorm, after_row (S := [.mu (wds ds) true]) (b := 0) rfl (show (N (x - y)).bare = false from rfl)]
theorem val_split {xs : List Nat} {k a : Nat} (h : xs[k]? = some a) : val xs = val (xs.take k) + B ^ k * (a + B * val (xs.drop (k + 1))) := by
  have hk := (List.getElem?_eq_some_iff.1 h).1
  conv => lhs; rw [← List.take_append_drop k xs, val_append, List.length_take, Nat.min_eq_left (by omega), List.drop_eq_getElem_cons hk]
  have : xs[k] = a := (List.getElem?_eq_some_iff.1 h).2
  rw [this]; rfl
theorem val_take_lt {xs : List Nat} (hx : Wd xs) {k : Nat} (hk : k ≤ xs.length) : val (xs.take k) < B ^ k := by
  have := val_lt (hx.take k)
  rwa [List.length_take, Nat.min_eq_left hk] at this
theorem cmp_at {xs ys : List Nat} (hx : Wd xs) {k a b : Nat} (ha : xs[k]? = some a) (hb : ys[k]? = some b) (hd : xs.drop (k + 1) = ys.drop (k + 1)) (hab : a < b) : val xs < val ys := by
  rw [val_split ha, val_split hb, hd]
  have hk := (List.getElem?_eq_some_iff.1 ha).1
  have h1 := val_take_lt hx (k := k) (by omega)
  have h2 : B ^ k * (a + 1 + B * val (ys.drop (k + 1))) ≤ B ^ k * (b + B * val (ys.drop (k + 1))) := Nat.mul_le_mul_left _ (by omega)
  have h3 : B ^ k * (a + 1 + B * val (ys.drop (k + 1))) = B ^ k * (a + B * val (ys.drop (k + 1))) + B ^ k := by
    rw [show a + 1 + B * val (ys.drop (k + 1)) = (a + B * val (ys.drop (k + 1))) + 1 by omega, Nat.mul_succ]
  omega
theorem size_lt {x y : Nat} (h : size x < size y) : x < y := by
  have hy : y ≠ 0 := by rintro rfl; simp [size] at h
  have h1 := lt_size x
  have h2 := le_of_size hy
  have h3 : B ^ size x ≤ B ^ (size y - 1) := Nat.pow_le_pow_right (by decide) (by omega)
  omega
theorem cmp_loop {xs ys : List Nat} (hx : Wd xs) (hy : Wd ys) (hlx : xs.length ≤ Lim) {n : Nat} (hnx : xs.length = n) (hny : ys.length = n) {Q : FQ}
    (hQe : ∀ (tm : List AV) (hl : tm.length = 46), xs = ys → Q (.ex 0) ⟨tm, []⟩) (hQr : ∀ (tm : List AV) (hl : tm.length = 46), tm[4] = .int .i64 (cmpI (val xs) (val ys)) → Q .ret ⟨tm, []⟩) :
    ∀ (m i : Nat), i + m = n → xs.drop m = ys.drop m →
    wpL RT f97_0m 0 f97_0 ⟨[.sl (wds xs) 1 false, .sl (wds ys) 1 false, .any, .any, .any, .any, .any, .any, .any, .any, .any, .any, .any, .any, .any, .any, .any, .any, .int .i64 (n : Int), .int .i64 (i : Int), .any, .any, .any, .any, .any, .any, .any, .any, .any, .any, .any, .any, .any, .any, .any, .any, .any, .any, .any, .any, .any, .any, .any, .any, .any, .any], []⟩ Q := by
  have hL : Lim = 1099511627776 := rfl
  intro m
  induction m with
  | zero =>
    intro i hi hd
    have hi' : i = n := by omega
    subst hi'
    rw [wpL_eq]
    generalize hK : (fun s' => wpL RT f97_0m 0 f97_0 (head f97_0m 0 s') Q) = K
    simp [f97_0]
    exact hQe _ rfl (by simpa using hd)
  | succ m ih =>
    intro i hi hd
    rw [wpL_eq]
    generalize hK : (fun s' => wpL RT f97_0m 0 f97_0 (head f97_0m 0 s') Q) = K
    have hlt : (i : Int) < (n : Int) := by omega
    obtain ⟨a, ha⟩ : ∃ a, xs[m]? = some a := ⟨xs[m], List.getElem?_eq_getElem (by omega)⟩
    obtain ⟨b, hb⟩ : ∃ b, ys[m]? = some b := ⟨ys[m], List.getElem?_eq_getElem (by omega)⟩
    have hw1 : IntKind.i64.wrap ((xs.length : Int) - 1) = (xs.length : Int) - 1 := wrap_i64 (by omega) (by omega)
    have hw2 : IntKind.i64.wrap ((xs.length : Int) - 1 - (i : Int)) = (m : Int) := by
      have : (xs.length : Int) - 1 - (i : Int) = m := by omega
      rw [this]; exact wrap_i64 (by omega) (by omega)
    have hwi : IntKind.i64.wrap ((i : Int) + 1) = ((i + 1 : Nat) : Int) := wrap_i64 (by omega) (by omega)
    have hmx : (m : Int) < (xs.length : Int) := by omega
    have hmy : (m : Int) < (ys.length : Int) := by omega
    by_cases hab : a = b
    · subst hab
      simp [f97_0, hlt, hw1, hw2, ha, hb, hwi]
      refine ⟨by omega, by omega, ?_⟩
      subst hK
      simp [head, f97_0m, mask]
      have := ih (i + 1) (by omega) (by
        rw [List.drop_eq_getElem_cons (by omega : m < xs.length), List.drop_eq_getElem_cons (by omega : m < ys.length), hd]
        have e1 : xs[m] = a := (List.getElem?_eq_some_iff.1 ha).2
        have e2 : ys[m] = a := (List.getElem?_eq_some_iff.1 hb).2
        rw [e1, e2])
      simpa [f97_0m] using this
    · have hc := run_cmp32 (a : Int) (b : Int)
      have habz : ¬ (a : Int) = (b : Int) := by omega
      simp [f97_0, hlt, hw1, hw2, ha, hb, habz, hc, after_nr]
      refine ⟨by omega, by omega, by omega, by omega, hQr _ rfl ?_⟩
      show AV.int .i64 (cmpI a b) = _
      congr 1
      unfold cmpI
      rcases Nat.lt_or_gt_of_ne hab with h | h
      · have := cmp_at hx ha hb hd h
        rw [if_pos (by omega), if_pos (by omega)]
      · have := cmp_at hy hb ha hd.symm h
        rw [if_neg (by omega), if_pos (by omega), if_neg (by omega), if_pos (by omega)]
theorem run_ncmp {x y : Nat} (hx : size x ≤ Lim) : callPure RT 97 [N x, N y] = some (.int .i64 (cmpI x y)) := by
  refine callPure_of (wpF_of tab_97 rfl ?_)
  have hL : Lim = 1099511627776 := rfl
  by_cases hs : (dig x).length = (dig y).length
  · simp [f97, enter_eq, hs]
    simp [head, mask, f97_0m]
    refine cmp_loop (dig_wd x) (dig_wd y) hx hs rfl ?_ ?_ (dig y).length 0 (by omega) ?_
    · intro tm hl he
      have hxy : x = y := by rw [← val_dig x, he, val_dig]
      subst hxy
      simp [cmpI, hl]
    · intro tm hl h4
      simp [hl, h4]
    · rw [List.drop_of_length_le (by omega), List.drop_of_length_le (by omega)]
  · have hc := run_cmpI ((dig x).length : Int) ((dig y).length : Int)
    have hsz : ¬ ((dig x).length : Int) = ((dig y).length : Int) := by omega
    simp [f97, enter_eq, hsz, hc, after_nr]
    unfold cmpI
    rcases Nat.lt_or_gt_of_ne hs with h | h
    · have := size_lt (x := x) (y := y) h
      rw [if_pos (by omega), if_pos (by omega)]
    · have := size_lt (x := y) (y := x) h
      rw [if_neg (by omega), if_pos (by omega), if_neg (by omega), if_pos (by omega)]
def Z (i : Int) : AV := .agg [.bool (decide (i < 0)), N i.natAbs]
theorem Z_of (neg : Bool) (n : Nat) : AV.agg [.bool (neg && decide (n ≠ 0)), N n] = Z (if neg then -(n : Int) else n) := by
  unfold Z
  cases neg
  · have : ¬ ((n : Int) < 0) := by omega
    simp [this]
  · by_cases h : n = 0
    · subst h; simp
    · have h1 : 0 < n := by omega
      simp [h, h1]
theorem run_signedN {n : Nat} {t neg : Bool} (h : size n ≤ Lim) : callPure RT 84 [.sl (wds (dig n)) 1 t, .bool neg] = some (Z (if neg then -(n : Int) else n)) := by
  rw [run_signed (dig_wd n) h, val_dig, Z_of]
@[simp] theorem fz1_Z (S : Store) (i : Int) : fz1 S (Z i) = some (Z i) := by simp [Z]
@[simp] theorem nr1_Z (i : Int) : nr1 (Z i) = true := by simp [Z]
@[simp] theorem Z_whole (i : Int) : (Z i).whole = true := rfl
@[simp] theorem Z_cl (i : Int) : (Z i).cells = [.bool (decide (i < 0)), .sl (wds (dig i.natAbs)) 1 false] := rfl
theorem Z_fold (i : Int) : AV.agg [.bool (decide (i < 0)), .sl (wds (dig i.natAbs)) 1 false] = Z i := rfl
@[simp] theorem fzv_Z (S : Store) (i : Int) : fzv S (Z i) = some (Z i) := by unfold Z; simp
def zsize (i : Int) : Nat := size i.natAbs
theorem run_Sign (i : Int) : callPure RT 73 [Z i] = some (.int .i64 i.sign) := by
  refine callPure_of (wpF_of tab_73 rfl ?_)
  by_cases h : i < 0
  · simp [f73, enter_eq, Z, rd, chk, h]
    exact (Int.sign_eq_neg_one_iff_neg.2 h).symm
  · by_cases h0 : i = 0
    · subst h0
      simp [f73, enter_eq, Z, rd, chk]
    · have hp : 0 < i := by omega
      have h1 : (dig i.natAbs).length ≠ 0 := fun e => h0 (by
        have := dig_nil.1 (List.eq_nil_of_length_eq_zero e); omega)
      have hs : (if 1 < ((dig i.natAbs).length : Int) then (1 : Int) else ((dig i.natAbs).length : Int)) = 1 := by split <;> omega
      simp [f73, enter_eq, Z, rd, chk, h]
      rw [Int.sign_eq_one_iff_pos.2 hp]
      split <;> omega
theorem run_Of {n : Int} (h1 : -9223372036854775808 ≤ n) (h2 : n < 9223372036854775808) : callPure RT 72 [.int .i64 n] = some (Z n) := by
  refine callPure_of (wpF_of tab_72 rfl ?_)
  obtain ⟨m, hm⟩ : ∃ m, m = n.natAbs := ⟨_, rfl⟩
  have hmb : m < 18446744073709551616 := by omega
  have hn := run_natural hmb
  have hsz : size m ≤ Lim := by
    have : size m ≤ 2 := size_le (by show m < B ^ 2; have : B ^ 2 = 18446744073709551616 := by decide
                                     omega)
    have hL : Lim = 1099511627776 := rfl
    omega
  by_cases h : n < 0
  · have e : (0 - n % 18446744073709551616) % 18446744073709551616 = (m : Int) := by omega
    have hs := run_signedN (t := false) (neg := true) hsz
    have hz : (if true = true then -(m : Int) else m) = n := by simp; omega
    rw [hz] at hs
    simp only [f72, enter_eq]
    simp [h, wrap_u64]
    have e' : -(n % 18446744073709551616) % 18446744073709551616 = (m : Int) := by omega
    simp [e', hn, hs, after_nr, rd, wr, chk, splice, Z]
  · have e : n % 18446744073709551616 = (m : Int) := by omega
    have hs := run_signedN (t := false) (neg := false) hsz
    have hz : (if false = true then -(m : Int) else m) = n := by simp; omega
    rw [hz] at hs
    simp only [f72, enter_eq]
    simp [h, wrap_u64, e, hn, hs, after_nr, rd, wr, chk, splice, Z]
theorem run_Neg {i : Int} (h : zsize i ≤ Lim) : callPure RT 87 [Z i] = some (Z (-i)) := by
  refine callPure_of (wpF_of tab_87 rfl ?_)
  have hs := run_signedN (t := false) (neg := !decide (i < 0)) h
  have hz : (if (!decide (i < 0)) = true then -(i.natAbs : Int) else i.natAbs) = -i := by
    by_cases h : i < 0 <;> simp [h] <;> omega
  rw [hz] at hs
  simp [f87, enter_eq, Z, rd, wr, chk, splice]
  simp [Z] at hs
  simp [hs, after_nr, rd, wr, chk, splice]
theorem Z_cells (i : Int) : Z i = .agg [.bool (decide (i < 0)), N i.natAbs] := rfl
theorem size_add_le {x y k : Nat} (hx : size x ≤ k) (hy : size y ≤ k) : size (x + y) ≤ k + 1 := by
  refine size_le ?_
  have h1 := Nat.lt_of_lt_of_le (lt_size x) (Nat.pow_le_pow_right (by decide : 0 < B) hx)
  have h2 := Nat.lt_of_lt_of_le (lt_size y) (Nat.pow_le_pow_right (by decide : 0 < B) hy)
  rw [Nat.pow_succ]
  have : B ^ k * 2 ≤ B ^ k * B := Nat.mul_le_mul_left _ (by decide)
  omega
theorem run_Add {i j : Int} (hi : zsize i < Lim) (hj : zsize j < Lim) : callPure RT 89 [Z i, Z j] = some (Z (i + j)) := by
  refine callPure_of (wpF_of tab_89 rfl ?_)
  have hL : Lim = 1099511627776 := rfl
  unfold zsize at hi hj
  have hadd := run_nadd (x := i.natAbs) (y := j.natAbs) (by omega) (by omega)
  have hcmp := run_ncmp (x := i.natAbs) (y := j.natAbs) (by omega)
  have hsz : size (i.natAbs + j.natAbs) ≤ Lim := by
    have := size_add_le (x := i.natAbs) (y := j.natAbs) (k := Lim - 1) (by omega) (by omega)
    omega
  simp only [f89, enter_eq]
  by_cases hs : decide (i < 0) = decide (j < 0)
  · have hsg := run_signedN (t := false) (neg := decide (j < 0)) hsz
    have hz : (if decide (j < 0) = true then -((i.natAbs + j.natAbs : Nat) : Int) else ((i.natAbs + j.natAbs : Nat) : Int)) = i + j := by
      by_cases h1 : i < 0 <;> by_cases h2 : j < 0 <;> simp [h1, h2] at hs ⊢ <;> omega
    rw [hz] at hsg
    simp [Z_cells, hs, rd, wr, chk, splice]
    simp [hadd, after_nr, rd, wr, chk, splice]
    simp [hsg, Z_cells, after_nr, rd, wr, chk, splice]
  · by_cases hlt : i.natAbs < j.natAbs
    · have hc : cmpI i.natAbs j.natAbs < 0 := by unfold cmpI; rw [if_pos (by omega)]; decide
      have hsub := run_nsub (x := j.natAbs) (y := i.natAbs) (by omega) (by omega)
      have hsg := run_signedN (t := false) (neg := decide (j < 0)) (n := j.natAbs - i.natAbs) (Nat.le_trans (size_mono (Nat.sub_le _ _)) (by omega))
      have hz : (if decide (j < 0) = true then -((j.natAbs - i.natAbs : Nat) : Int) else ((j.natAbs - i.natAbs : Nat) : Int)) = i + j := by
        by_cases h1 : i < 0 <;> by_cases h2 : j < 0 <;> simp [h1, h2] at hs ⊢ <;> omega
      rw [hz] at hsg
      have hs' : (decide (i < 0) == decide (j < 0)) = false := by simpa using hs
      simp [Z_cells, rd, wr, chk, splice]
      simp [hs', hcmp, hc, after_nr, rd, wr, chk, splice]
      simp [hsub, after_nr, rd, wr, chk, splice]
      simp [hsg, Z_cells, after_nr, rd, wr, chk, splice]
    · have hc : ¬ cmpI i.natAbs j.natAbs < 0 := by unfold cmpI; rw [if_neg (by omega)]; split <;> decide
      have hsub := run_nsub (x := i.natAbs) (y := j.natAbs) (by omega) (by omega)
      have hsg := run_signedN (t := false) (neg := decide (i < 0)) (n := i.natAbs - j.natAbs) (Nat.le_trans (size_mono (Nat.sub_le _ _)) (by omega))
      have hz : (if decide (i < 0) = true then -((i.natAbs - j.natAbs : Nat) : Int) else ((i.natAbs - j.natAbs : Nat) : Int)) = i + j := by
        by_cases h1 : i < 0 <;> by_cases h2 : j < 0 <;> simp [h1, h2] at hs ⊢ <;> omega
      rw [hz] at hsg
      have hs' : (decide (i < 0) == decide (j < 0)) = false := by simpa using hs
      simp [Z_cells, rd, wr, chk, splice]
      simp [hs', hcmp, hc, after_nr, rd, wr, chk, splice]
      simp [hsub, after_nr, rd, wr, chk, splice]
      simp [hsg, Z_cells, after_nr, rd, wr, chk, splice]
theorem run_Sub {i j : Int} (hi : zsize i < Lim) (hj : zsize j < Lim) : callPure RT 77 [Z i, Z j] = some (Z (i - j)) := by
  refine callPure_of (wpF_of tab_77 rfl ?_)
  have hn := run_Neg (i := j) (by omega)
  have ha := run_Add (i := i) (j := -j) hi (by unfold zsize at *; rwa [Int.natAbs_neg])
  rw [← Int.sub_eq_add_neg] at ha
  simp only [f77, enter_eq]
  simp [Z_fold, hn, ha, after_nr, rd, wr, chk, splice]
theorem mul_inner {xs ys : List Nat} (hy : Wd ys) (hly : ys.length ≤ Lim) {i a L n : Nat} (ha : a < B) (hL' : L ≤ 2 * Lim) (hiL : i + ys.length < L) {out0 : List Nat} (hl0 : out0.length = L) {Q : FQ}
    (hQ : ∀ (tm : List AV) (hl : tm.length = 67) (out : List Nat) (c : Nat), tm[1] = .sl (wds ys) 1 false → tm[5] = .msl 0 0 L 1 L none → tm[6] = .int .i64 (i : Int) → tm[8] = .int .u64 (c : Int) → tm[17] = .sl (wds xs) 1 false → tm[18] = .int .i64 (n : Int) → tm[19] = .int .i64 (i : Int) →
      out.length = L → Wd out → c < B → val out + B ^ (i + ys.length) * c = val out0 + B ^ i * (a * val ys) → (∀ j, i + ys.length ≤ j → out[j]? = out0[j]?) → Q (.ex 2) ⟨tm, [.mu (wds out) true]⟩) :
    ∀ (m k : Nat), k + m = ys.length → ∀ (out : List Nat) (c : Nat), out.length = L → Wd out → c < B → val out + B ^ (i + k) * c = val out0 + B ^ i * (a * val (ys.take k)) → (∀ j, i + k ≤ j → out[j]? = out0[j]?) →
    wpL RT f93_0m 1 f93_0 ⟨[.any, .sl (wds ys) 1 false, .any, .any, .any, .msl 0 0 L 1 L none, .int .i64 (i : Int), .int .u32 (a : Int), .int .u64 (c : Int), .any, .any, .any, .any, .any, .any, .any, .any, .sl (wds xs) 1 false, .int .i64 (n : Int), .int .i64 (i : Int), .any, .any, .any, .any, .sl (wds ys) 1 false, .int .i64 (ys.length : Int), .int .i64 (k : Int),
      .any, .any, .any, .any, .any, .any, .any, .any, .any, .any, .any, .any, .any, .any, .any, .any, .any, .any, .any, .any, .any, .any, .any, .any, .any, .any, .any, .any, .any, .any, .any, .any, .any, .any, .any, .any, .any, .any, .any, .any], [.mu (wds out) true]⟩ Q := by
  have hL : Lim = 1099511627776 := rfl
  intro m
  induction m with
  | zero =>
    intro k hk out c hlo hwo hc he hsame
    have hk' : k = ys.length := by omega
    subst hk'
    rw [wpL_eq]
    generalize hK : (fun s' => wpL RT f93_0m 1 f93_0 (head f93_0m 1 s') Q) = K
    simp [f93_0]
    rw [List.take_of_length_le (Nat.le_refl _)] at he
    exact hQ _ rfl out c rfl rfl rfl rfl rfl rfl rfl hlo hwo hc he hsame
  | succ m ih =>
    intro k hk out c hlo hwo hc he hsame
    rw [wpL_eq]
    generalize hK : (fun s' => wpL RT f93_0m 1 f93_0 (head f93_0m 1 s') Q) = K
    have hlt : (k : Int) < (ys.length : Int) := by omega
    obtain ⟨b, hb⟩ : ∃ b, ys[k]? = some b := ⟨ys[k], List.getElem?_eq_getElem (by omega)⟩
    have hbB : b < B := hy.get hb
    obtain ⟨w, hw⟩ : ∃ w, out[i + k]? = some w := ⟨out[i + k], List.getElem?_eq_getElem (by omega)⟩
    have hwB : w < B := hwo.get hw
    have hwik : IntKind.i64.wrap ((i : Int) + (k : Int)) = ((i + k : Nat) : Int) := wrap_i64 (by omega) (by omega)
    have hwk : IntKind.i64.wrap ((k : Int) + 1) = ((k + 1 : Nat) : Int) := wrap_i64 (by omega) (by omega)
    have hab : a * b ≤ (B - 1) * (B - 1) := Nat.mul_le_mul (by omega) (by omega)
    have hB : B = 4294967296 := rfl
    rw [hB] at hab ha hbB hwB hc
    have hrd := rd_word (S := [.mu (wds out) true]) (b := 0) (i := i + k) (vl := L) rfl hlo.symm (by omega)
    have hwe : out[i + k] = w := by rw [List.getElem?_eq_getElem (by omega)] at hw; exact Option.some.inj hw
    rw [hwe] at hrd
    obtain ⟨s, hs⟩ : ∃ s, s = c + (a * b + w) := ⟨_, rfl⟩
    obtain ⟨lo, hlo'⟩ : ∃ lo, lo = s % 4294967296 := ⟨_, rfl⟩
    obtain ⟨hi, hhi⟩ : ∃ hi, hi = s / 4294967296 := ⟨_, rfl⟩
    obtain ⟨p, hp⟩ : ∃ p, p = a * b := ⟨_, rfl⟩
    have hpz : (a : Int) * (b : Int) = (p : Int) := by rw [hp]; push_cast; rfl
    rw [← hp] at hab hs
    have ea : (a : Int) % 18446744073709551616 = a := by omega
    have eb : (b : Int) % 18446744073709551616 = b := by omega
    have ew : (w : Int) % 18446744073709551616 = w := by omega
    have e1 : (p : Int) % 18446744073709551616 = (p : Int) := by omega
    have e2 : ((p : Int) + w) % 18446744073709551616 = (p : Int) + w := by omega
    have e3 : ((c : Int) + ((p : Int) + w)) % 18446744073709551616 = (s : Int) := by omega
    have e4 : (s : Int) % 4294967296 = (lo : Int) := by omega
    have e5 : (s : Int) / 4294967296 % 18446744073709551616 = (hi : Int) := by omega
    have e5' : (s : Int) / 4294967296 = (hi : Int) := by omega
    have hwr := wr_word (S := [.mu (wds out) true]) (b := 0) (i := i + k) (vl := L) (w := lo) rfl hlo.symm (by omega)
    have htn : ((i : Int) + (k : Int)).toNat = i + k := by omega
    have hb1 : (0 : Int) ≤ (i : Int) + (k : Int) := by omega
    have hb2 : (i : Int) + (k : Int) < (L : Int) := by omega
    simp [f93_0, hlt, hb, hwik, hwk, wrap_u64, wrap_u32, ea, eb, hpz, e1, ew, e2, e3, e4, fdiv_word, IntKind.bits, e5', htn, hb1, hb2, hrd]
    rw [hwr]
    simp [hwk, fdiv_word, e5', IntKind.bits]
    subst hK
    simp [head, f93_0m, mask]
    have hsB : lo < B := by rw [hB]; omega
    have hval := val_set (w' := lo) hw
    have e6 := val_take_succ ys k
    have hgb : ys.getD k 0 = b := by rw [List.getD_eq_getElem?_getD, hb]; rfl
    rw [hgb] at e6
    have := ih (k + 1) (by omega) (out.set (i + k) lo) hi (by simp [hlo]) (hwo.set hsB) (by rw [hB]; omega) (by
      rw [e6]
      have hdm : lo + B * hi = c + (p + w) := by rw [hB]; omega
      have e7 : B ^ (i + k) * (lo + B * hi) = B ^ (i + k) * (c + (p + w)) := by rw [hdm]
      rw [hp] at e7
      simp only [Nat.mul_add, Nat.pow_add, Nat.pow_succ, Nat.pow_zero, Nat.one_mul, Nat.mul_one] at e7 he hval ⊢
      have e8 : B ^ i * (a * (B ^ k * b)) = B ^ i * B ^ k * (a * b) := by
        rw [Nat.mul_assoc (B ^ i), Nat.mul_left_comm a]
      rw [e8]
      have e9 : B ^ i * (B ^ k * B) * hi = B ^ i * B ^ k * (B * hi) := by
        rw [← Nat.mul_assoc (B ^ i), Nat.mul_assoc (B ^ i * B ^ k)]
      rw [e9]
      omega) (fun j hj => by rw [List.getElem?_set_ne (by omega)]; exact hsame j (by omega))
    simpa [f93_0m] using this
theorem mul_outer {xs ys : List Nat} (hx : Wd xs) (hy : Wd ys) (hlx : xs.length ≤ Lim) (hly : ys.length ≤ Lim) {L n : Nat} (hn : n = xs.length) (hLe : L = n + ys.length) {Q : FQ}
    (hQ : ∀ (tm : List AV) (hl : tm.length = 67) (out : List Nat), tm[5] = .msl 0 0 L 1 L none → out.length = L → Wd out → val out = val xs * val ys → Q (.ex 0) ⟨tm, [.mu (wds out) true]⟩) :
    ∀ (m i : Nat), i + m = n → ∀ (out : List Nat), out.length = L → Wd out → val out = val (xs.take i) * val ys →
    wpL RT f93_1m 1 f93_1 ⟨[.any, .sl (wds ys) 1 false, .any, .any, .any, .msl 0 0 L 1 L none, .any, .any, .any, .any, .any, .any, .any, .any, .any, .any, .any, .sl (wds xs) 1 false, .int .i64 (n : Int), .int .i64 (i : Int), .any, .any, .any, .any, .any, .any, .any,
      .any, .any, .any, .any, .any, .any, .any, .any, .any, .any, .any, .any, .any, .any, .any, .any, .any, .any, .any, .any, .any, .any, .any, .any, .any, .any, .any, .any, .any, .any, .any, .any, .any, .any, .any, .any, .any, .any, .any, .any], [.mu (wds out) true]⟩ Q := by
  have hL : Lim = 1099511627776 := rfl
  intro m
  induction m with
  | zero =>
    intro i hi out hlo hwo he
    have hi' : i = n := by omega
    subst hi'
    rw [wpL_eq]
    generalize hK : (fun s' => wpL RT f93_1m 1 f93_1 (head f93_1m 1 s') Q) = K
    simp [f93_1]
    rw [List.take_of_length_le (by omega)] at he
    exact hQ _ rfl out rfl hlo hwo he
  | succ m ih =>
    intro i hi out hlo hwo he
    rw [wpL_eq]
    generalize hK : (fun s' => wpL RT f93_1m 1 f93_1 (head f93_1m 1 s') Q) = K
    have hlt : (i : Int) < (n : Int) := by omega
    obtain ⟨a, hget⟩ : ∃ a, xs[i]? = some a := ⟨xs[i], List.getElem?_eq_getElem (by omega)⟩
    have haB : a < B := hx.get hget
    have hwi : IntKind.i64.wrap ((i : Int) + 1) = ((i + 1 : Nat) : Int) := wrap_i64 (by omega) (by omega)
    simp [f93_1, hlt, hget]
    refine ⟨by omega, ?_⟩
    simp [head, mask, f93_0m]
    have hin := fun (Q' : FQ) => mul_inner (xs := xs) (n := n) (Q := Q') hy hly (i := i) (a := a) (L := L) haB (by omega) (by omega) hlo
    refine hin _ ?_ ys.length 0 (by omega) out 0 hlo hwo (by decide) (by simp [val]) (fun j _ => rfl)
    intro tm hl out2 c h1 h5 h6 h8 h17 h18 h19 hlo2 hwo2 hc he2 hsame
    have hwil : IntKind.i64.wrap ((i : Int) + (ys.length : Int)) = (i : Int) + (ys.length : Int) := wrap_i64 (by omega) (by omega)
    have htn : ((i : Int) + (ys.length : Int)).toNat = i + ys.length := by omega
    have hb1 : (0 : Int) ≤ (i : Int) + (ys.length : Int) := by omega
    have hb2 : (i : Int) + (ys.length : Int) < (L : Int) := by omega
    have hB : B = 4294967296 := rfl
    have ec : (c : Int) % 4294967296 = (c : Int) := by rw [hB] at hc; omega
    have hwr := wr_word (S := [.mu (wds out2) true]) (b := 0) (i := i + ys.length) (vl := L) (w := c) rfl hlo2.symm (by omega)
    simp [hl, h1, h5, h6, h8, hwil, wrap_u32, ec, htn, hb1, hb2]
    rw [hwr]
    simp [hl, h1, h5, h6, h8, h17, h18, h19, hwi]
    subst hK
    simp only [head]
    rw [mask_of (n := 67) (by simp [hl])]
    simp [f93_1m, hl, h1, h5, h17, h18, List.range_succ]
    obtain ⟨w0, hw0⟩ : ∃ w0, out2[i + ys.length]? = some w0 := ⟨out2[i + ys.length], List.getElem?_eq_getElem (by omega)⟩
    have hw00 : w0 = 0 := by
      have h1' := hsame (i + ys.length) (Nat.le_refl _)
      rw [hw0] at h1'
      have h2 := val_ge h1'.symm
      have h3 := val_take_lt hx (k := i) (by omega)
      have h4 := val_lt hy
      have h5' : val out < B ^ (i + ys.length) := by
        rw [he, Nat.pow_add]
        exact Nat.mul_lt_mul'' h3 h4
      refine Classical.byContradiction fun hne => ?_
      have : B ^ (i + ys.length) * 1 ≤ B ^ (i + ys.length) * w0 := Nat.mul_le_mul_left _ (by omega)
      omega
    subst hw00
    have hvs := val_set (w' := c) hw0
    have e6 := val_take_succ xs i
    have hga : xs.getD i 0 = a := by rw [List.getD_eq_getElem?_getD, hget]; rfl
    rw [hga] at e6
    have := ih (i + 1) (by omega) (out2.set (i + ys.length) c) (by simp [hlo2]) (hwo2.set hc) (by
      rw [e6, Nat.add_mul, ← he, Nat.mul_assoc]
      omega)
    simpa [f93_1m] using this
theorem size_mul_le {x y : Nat} : size (x * y) ≤ size x + size y := by
  refine size_le ?_
  rw [Nat.pow_add]
  exact Nat.mul_lt_mul'' (lt_size x) (lt_size y)
theorem run_nmul {x y : Nat} (hx : size x ≤ Lim) (hy : size y ≤ Lim) : callPure RT 93 [N x, N y] = some (N (x * y)) := by
  refine callPure_of (wpF_of tab_93 rfl ?_)
  have hL : Lim = 1099511627776 := rfl
  unfold size at hx hy
  obtain ⟨n, hn⟩ : ∃ n, n = (dig x).length := ⟨_, rfl⟩
  obtain ⟨L, hLe⟩ : ∃ L, L = n + (dig y).length := ⟨_, rfl⟩
  have hw : IntKind.i64.wrap ((n : Int) + ((dig y).length : Int)) = (L : Int) := by
    have : (n : Int) + ((dig y).length : Int) = L := by omega
    rw [this]; exact wrap_i64 (by omega) (by omega)
  have hroom : room L 4 := by unfold room; omega
  have hln : (L : Int) ≤ 281474976710656 := by omega
  simp only [f93, enter_eq]
  simp [← hn, hw, hroom]
  refine ⟨by omega, ?_⟩
  simp [head, mask, f93_1m]
  have hst : List.replicate L (AV.int .u32 0) = wds (List.replicate L 0) := wds_rep L 0
  rw [hst]
  refine mul_outer (dig_wd x) (dig_wd y) hx hy hn hLe ?_ n 0 (by omega) (List.replicate L 0) (by simp) (Wd.rep (by decide)) (by simp [val, val_rep0])
  intro tm hl out h5 hlo hwo he
  rw [val_dig, val_dig] at he
  have hnorm := run_norm (t := false) hwo (by omega)
  rw [he] at hnorm
  have hfz : fzc [.mu (wds out) true] (5 + 1) (.msl 0 0 L 1 L none) = some (W out) := by
    have := fzc_mslv (S := [.mu (wds out) true]) (b := 0) (n := L) (vl := L) (cap := none) (fuel := 5) rfl hlo.symm (by omega)
    rwa [List.take_of_length_le (by omega)] at this
  simp [hl, h5, hfz, hnorm, after_row (S := [.mu (wds out) true]) (b := 0) rfl (show (N (x * y)).bare = false from rfl)]
theorem run_Mul {i j : Int} (hi : 2 * zsize i ≤ Lim) (hj : 2 * zsize j ≤ Lim) : callPure RT 85 [Z i, Z j] = some (Z (i * j)) := by
  refine callPure_of (wpF_of tab_85 rfl ?_)
  unfold zsize at hi hj
  have hm := run_nmul (x := i.natAbs) (y := j.natAbs) (by omega) (by omega)
  have hsz : size (i.natAbs * j.natAbs) ≤ Lim := by
    have := size_mul_le (x := i.natAbs) (y := j.natAbs); omega
  have hs := run_signedN (t := false) (neg := decide (i < 0) != decide (j < 0)) hsz
  have hz : (if (decide (i < 0) != decide (j < 0)) = true then -((i.natAbs * j.natAbs : Nat) : Int) else ((i.natAbs * j.natAbs : Nat) : Int)) = i * j := by
    rw [← Int.natAbs_mul]
    rcases Int.lt_or_le i 0 with h1 | h1 <;> rcases Int.lt_or_le j 0 with h2 | h2
    · have := Int.mul_pos_of_neg_of_neg h1 h2
      simp [h1, h2]; omega
    · have := Int.mul_nonneg (show 0 ≤ -i by omega) h2
      rw [Int.neg_mul] at this
      have h3 : ¬ j < 0 := by omega
      simp [h1, h3]; omega
    · have := Int.mul_nonneg h1 (show 0 ≤ -j by omega)
      rw [Int.mul_neg] at this
      have h3 : ¬ i < 0 := by omega
      simp [h2, h3]; omega
    · have := Int.mul_nonneg h1 h2
      have h3 : ¬ j < 0 := by omega
      have h4 : ¬ i < 0 := by omega
      simp [h3, h4]; omega
  rw [hz] at hs
  simp only [f85, enter_eq]
  simp [rd, wr, chk, splice]
  simp [hm, after_nr, rd, wr, chk, splice]
  simp [hs, after_nr, rd, wr, chk, splice, Z_fold]
theorem run_Div32 {h l d : Nat} (hh : h < d) (hl : l < B) (hd : d < B) : callPure RT 107 [.int .u32 (h : Int), .int .u32 (l : Int), .int .u32 (d : Int)] = some (.tup [.int .u32 (((h * B + l) / d : Nat) : Int), .int .u32 (((h * B + l) % d : Nat) : Int)]) := by
  refine callPure_of (wpF_of tab_107 rfl ?_)
  have hB : B = 4294967296 := rfl
  have hd0 : ¬ (d : Int) = 0 := by omega
  have hdh : ¬ (d : Int) ≤ (h : Int) := by omega
  obtain ⟨n, hn⟩ : ∃ n, n = h * B + l := ⟨_, rfl⟩
  obtain ⟨q, hq⟩ : ∃ q, q = n / d := ⟨_, rfl⟩
  obtain ⟨r, hr⟩ : ∃ r, r = n % d := ⟨_, rfl⟩
  have hqB : q < B := by
    rw [hq]
    refine Nat.div_lt_of_lt_mul ?_
    have : (h + 1) * B ≤ d * B := Nat.mul_le_mul_right _ hh
    rw [Nat.succ_mul] at this
    omega
  have hrB : r < B := by
    have := Nat.mod_lt n (show 0 < d by omega)
    omega
  rw [hB] at hn hl hd hqB hrB
  have hor : (h * 4294967296) ||| l = n := by
    rw [hn]
    have := Nat.two_pow_add_eq_or_of_lt (i := 32) (b := l) hl h
    rw [Nat.mul_comm h]
    exact this.symm
  have e1 : (h : Int) % 18446744073709551616 = h := by omega
  have e2 : (h : Int) * 4294967296 % 18446744073709551616 = ((h * 4294967296 : Nat) : Int) := by omega
  have e3 : (l : Int) % 18446744073709551616 = l := by omega
  have e4 : (d : Int) % 18446744073709551616 = d := by omega
  have hb : binA .or (.int .u64 ((h : Int) * 4294967296)) (.int .u64 (l : Int)) = some (.int .u64 (n : Int)) := by
    have hc : (h : Int) * 4294967296 = ((h * 4294967296 : Nat) : Int) := by omega
    rw [hc, or_nat rfl (show h * 4294967296 < 2 ^ 64 by omega) (show l < 2 ^ 64 by omega), hor]
  have e5 : ((n : Int).tdiv (d : Int)) % 18446744073709551616 % 4294967296 = (q : Int) := by
    rw [Int.tdiv_eq_ediv_of_nonneg (by omega)]
    have : (n : Int) / (d : Int) = (q : Int) := by rw [hq]; push_cast; rfl
    rw [this]; omega
  have e6 : ((n : Int).tmod (d : Int)) % 4294967296 = (r : Int) := by
    rw [Int.tmod_eq_emod_of_nonneg (by omega)]
    have : (n : Int) % (d : Int) = (r : Int) := by rw [hr]; push_cast; rfl
    rw [this]; omega
  rw [← hB] at hn
  rw [← hn, ← hq, ← hr]
  simp only [f107, enter_eq]
  have hd0' : ¬ d = 0 := by omega
  have hdh' : ¬ d ≤ h := by omega
  have e7 : (n : Int) / (d : Int) = (q : Int) := by rw [hq]; push_cast; rfl
  have e8 : (q : Int) % 18446744073709551616 = q := by omega
  have e9 : (q : Int) % 4294967296 = q := by omega
  simp [hd0', hdh', wrap_u64, wrap_u32, IntKind.bits, e1, e2, e3, hb]
  simp [e4, hd0', e6, e7, e8, e9, wrap_u64, wrap_u32]
theorem word_loop {xs : List Nat} (hx : Wd xs) (hlx : xs.length ≤ Lim) {n d : Nat} (hn : n = xs.length) (hd : d < B) (hd0 : 0 < d) {Q : FQ}
    (hQ : ∀ (tm : List AV) (hl : tm.length = 40) (ds : List Nat) (r : Nat), tm[6] = .msl 0 0 n 1 n none → tm[7] = .int .u32 (r : Int) → ds.length = n → Wd ds → r < d → val ds * d + r = val xs → Q (.ex 0) ⟨tm, [.mu (wds ds) true]⟩) :
    ∀ (m i : Nat), i + m = n → ∀ (ds : List Nat) (r : Nat), ds.length = i → Wd ds → r < d → val ds * d + r = val (xs.drop m) →
    wpL RT f98_0m 1 f98_0 ⟨[.sl (wds xs) 1 false, .int .u32 (d : Int), .any, .any, .any, .any, .msl 0 0 n 1 n none, .int .u32 (r : Int), .any, .any, .any, .any, .any, .any, .int .i64 (n : Int), .int .i64 (i : Int),
      .any, .any, .any, .any, .any, .any, .any, .any, .any, .any, .any, .any, .any, .any, .any, .any, .any, .any, .any, .any, .any, .any, .any, .any], [.mu (wds (List.replicate m 0 ++ ds)) true]⟩ Q := by
  have hL : Lim = 1099511627776 := rfl
  intro m
  induction m with
  | zero =>
    intro i hi ds r hds hwd hr he
    have hi' : i = n := by omega
    subst hi'
    rw [wpL_eq]
    generalize hK : (fun s' => wpL RT f98_0m 1 f98_0 (head f98_0m 1 s') Q) = K
    simp [f98_0]
    exact hQ _ rfl ds r rfl rfl hds hwd hr (by simpa using he)
  | succ m ih =>
    intro i hi ds r hds hwd hr he
    rw [wpL_eq]
    generalize hK : (fun s' => wpL RT f98_0m 1 f98_0 (head f98_0m 1 s') Q) = K
    have hlt : (i : Int) < (n : Int) := by omega
    obtain ⟨a, hget⟩ : ∃ a, xs[m]? = some a := ⟨xs[m], List.getElem?_eq_getElem (by omega)⟩
    have haB : a < B := hx.get hget
    have hdv := run_Div32 hr haB hd
    have hw1 : IntKind.i64.wrap ((xs.length : Int) - 1) = (xs.length : Int) - 1 := wrap_i64 (by omega) (by omega)
    have hw2 : IntKind.i64.wrap ((xs.length : Int) - 1 - (i : Int)) = (m : Int) := by
      have : (xs.length : Int) - 1 - (i : Int) = m := by omega
      rw [this]; exact wrap_i64 (by omega) (by omega)
    have hwi : IntKind.i64.wrap ((i : Int) + 1) = ((i + 1 : Nat) : Int) := wrap_i64 (by omega) (by omega)
    obtain ⟨q, hq⟩ : ∃ q, q = (r * B + a) / d := ⟨_, rfl⟩
    obtain ⟨r', hr'⟩ : ∃ r', r' = (r * B + a) % d := ⟨_, rfl⟩
    rw [← hq, ← hr'] at hdv
    have hqB : q < B := by
      rw [hq]
      refine Nat.div_lt_of_lt_mul ?_
      have : (r + 1) * B ≤ d * B := Nat.mul_le_mul_right _ hr
      rw [Nat.succ_mul] at this
      omega
    have hwr := wr_word (S := [.mu (wds (List.replicate (m + 1) 0 ++ ds)) true]) (b := 0) (i := m) (vl := n) (w := q) rfl (by simp; omega) (by simp; omega)
    have hset : (List.replicate (m + 1) 0 ++ ds).set m q = List.replicate m 0 ++ (q :: ds) := by
      rw [List.replicate_succ', List.append_assoc, List.set_append_right _ _ (by simp)]
      simp
    rw [hset] at hwr
    simp [f98_0, hlt, hw1, hw2, hget, hdv, after_nr]
    refine ⟨by omega, by omega, ?_⟩
    rw [hwr]
    simp [hwi]
    subst hK
    simp [head, f98_0m, mask]
    have hdm := Nat.div_add_mod (r * B + a) d
    rw [← hq, ← hr'] at hdm
    have := ih (i + 1) (by omega) (q :: ds) r' (by simp [hds]) (Wd.mk hqB hwd) (by rw [hr']; exact Nat.mod_lt _ hd0) (by
      rw [List.drop_eq_getElem_cons (show m < xs.length by omega)]
      have e1 : xs[m] = a := (List.getElem?_eq_some_iff.1 hget).2
      rw [e1]
      simp only [val]
      rw [← he, Nat.add_mul, Nat.mul_add, Nat.mul_assoc, Nat.mul_comm B r, Nat.mul_comm q d]
      omega)
    simpa [f98_0m] using this
theorem run_word {x d : Nat} (hx : size x ≤ Lim) (hd : d < B) (hd0 : 0 < d) : callPure RT 98 [N x, .int .u32 (d : Int)] = some (.tup [N (x / d), .int .u32 ((x % d : Nat) : Int)]) := by
  obtain ⟨r0, hr0⟩ : ∃ r0, r0 = x % d := ⟨_, rfl⟩
  rw [← hr0]
  refine callPure_of (wpF_of tab_98 rfl ?_)
  have hL : Lim = 1099511627776 := rfl
  unfold size at hx
  obtain ⟨n, hn⟩ : ∃ n, n = (dig x).length := ⟨_, rfl⟩
  have hroom : room n 4 := by unfold room; omega
  simp only [f98, enter_eq]
  simp [← hn, hroom]
  refine ⟨by omega, ?_⟩
  simp [head, mask, f98_0m]
  have hst : List.replicate n (AV.int .u32 0) = wds (List.replicate n 0 ++ []) := by rw [List.append_nil]; exact wds_rep n 0
  rw [hst]
  refine word_loop (dig_wd x) hx hn hd hd0 ?_ n 0 (by omega) [] 0 rfl Wd.nil hd0 (by rw [List.drop_of_length_le (by omega)]; simp [val])
  intro tm hl ds r h6 h7 hds hwd hr he
  rw [val_dig] at he
  have hq : val ds = x / d := by
    rw [← he, Nat.mul_comm, Nat.mul_add_div hd0, Nat.div_eq_of_lt hr, Nat.add_zero]
  have hr2 : r = x % d := by
    rw [← he, Nat.mul_comm, Nat.mul_add_mod, Nat.mod_eq_of_lt hr]
  have hnorm := run_norm (t := false) hwd (by omega)
  rw [hq] at hnorm
  have hfz : fzc [.mu (wds ds) true] (5 + 1) (.msl 0 0 n 1 n none) = some (W ds) := by
    have := fzc_mslv (S := [.mu (wds ds) true]) (b := 0) (n := n) (vl := n) (cap := none) (fuel := 5) rfl hds.symm (by omega)
    rwa [List.take_of_length_le (by omega)] at this
  rw [hr2, ← hr0] at h7
  simp [hl, h6, h7, hfz, hnorm, after_row (S := [.mu (wds ds) true]) (b := 0) rfl (show (N (x / d)).bare = false from rfl)]
def tabOk (i : Nat) : Bool := match tab256[i]? with
  | some b => decide (b.toNat ≤ 8) && decide (i < 2 ^ b.toNat) && (i == 0 || decide (2 ^ b.toNat ≤ 2 * i))
  | none => false
theorem tab_all : (List.range 256).all tabOk = true := by decide +kernel
theorem tab_get {i : Nat} (h : i < 256) : ∃ b, tab256[i]? = some b ∧ b.toNat ≤ 8 ∧ i < 2 ^ b.toNat ∧ (0 < i → 2 ^ b.toNat ≤ 2 * i) := by
  have := List.all_eq_true.1 tab_all i (List.mem_range.2 h)
  unfold tabOk at this
  split at this
  · rename_i b hb
    simp only [Bool.and_eq_true, decide_eq_true_eq, Bool.or_eq_true, beq_iff_eq] at this
    exact ⟨b, hb, this.1.1, this.1.2, fun h => this.2.resolve_left (by omega)⟩
  · cases this
@[simp] theorem opA_ixs {R : RunF} {s : ByteArray} {k : IntKind} {j : Int} {S : Store} : opA R .ixs [.str s, .int k j] S = chk (0 ≤ j) ((s[j.toNat]?).bind fun b => some (.int .u8 b.toNat, S)) := rfl
theorem len_fin {x y n t : Nat} (hy : y = x / 2 ^ n) (h1 : y < 2 ^ t) (h2 : 2 ^ t ≤ 2 * y) : x < 2 ^ (n + t) ∧ 2 ^ (n + t) ≤ 2 * x := by
  have hp : 0 < 2 ^ n := Nat.two_pow_pos n
  rw [Nat.pow_add]
  constructor
  · have : x < 2 ^ n * (y + 1) := by rw [hy]; exact Nat.lt_mul_div_succ x hp
    exact Nat.lt_of_lt_of_le this (Nat.mul_le_mul_left _ h1)
  · have h3 : 2 ^ n * y ≤ x := by rw [hy]; exact Nat.mul_div_le x (2 ^ n)
    have h4 : 2 ^ n * 2 ^ t ≤ 2 ^ n * (2 * y) := Nat.mul_le_mul_left _ h2
    rw [Nat.mul_left_comm] at h4
    omega
theorem run_Len32 {x : Nat} (hx : x < B) (h0 : 0 < x) : ∃ k : Nat, k ≤ 32 ∧ callPure RT 68 [.int .u32 (x : Int)] = some (.int .i64 (k : Int)) ∧ x < 2 ^ k ∧ 2 ^ k ≤ 2 * x := by
  have hx' : x < 4294967296 := hx
  have fin : ∀ (y n : Nat), y = x / 2 ^ n → y < 256 → 0 < y → n ≤ 24 → (∀ b : UInt8, tab256[y]? = some b → b.toNat ≤ 8 → callPure RT 68 [.int .u32 (x : Int)] = some (.int .i64 ((n + b.toNat : Nat) : Int))) →
      ∃ k : Nat, k ≤ 32 ∧ callPure RT 68 [.int .u32 (x : Int)] = some (.int .i64 (k : Int)) ∧ x < 2 ^ k ∧ 2 ^ k ≤ 2 * x := by
    intro y n hy h1 h2 hn h
    obtain ⟨b, b1, b2, b3, b4⟩ := tab_get h1
    exact ⟨n + b.toNat, by omega, h b b1 b2, len_fin hy b3 (b4 h2)⟩
  have wr1 : ∀ b : UInt8, b.toNat ≤ 8 → IntKind.i64.wrap (b.toNat : Int) = b.toNat := fun b hb => wrap_i64 (by omega) (by omega)
  have wr2 : ∀ (n : Nat) (b : UInt8), b.toNat ≤ 8 → n ≤ 24 → IntKind.i64.wrap ((n : Int) + (b.toNat : Int)) = (n : Int) + (b.toNat : Int) := fun n b hb hn => wrap_i64 (by omega) (by omega)
  have f16 : ∀ a : Int, a.fdiv 65536 = a / 65536 := fun a => Int.fdiv_eq_ediv_of_nonneg _ (by decide)
  have f8 : ∀ a : Int, a.fdiv 256 = a / 256 := fun a => Int.fdiv_eq_ediv_of_nonneg _ (by decide)
  by_cases h16 : 65536 ≤ x
  · have h16z : (65536 : Int) ≤ (x : Int) := by omega
    obtain ⟨y, hy⟩ : ∃ y, y = x / 65536 := ⟨_, rfl⟩
    have ey : (x : Int) / 65536 = (y : Int) := by omega
    by_cases h8 : 256 ≤ y
    · have h8z : (256 : Int) ≤ (y : Int) := by omega
      obtain ⟨z, hz⟩ : ∃ z, z = y / 256 := ⟨_, rfl⟩
      have ez : (y : Int) / 256 = (z : Int) := by omega
      refine fin z 24 (by omega) (by omega) (by omega) (by omega) fun b hb h8b => ?_
      refine callPure_of (wpF_of tab_68 rfl ?_)
      have e1 : (z : Int) % 256 = z := by omega
      have w16 : IntKind.i64.wrap 24 = 24 := by decide
      simp [f68, enter_eq, h16z, f16, ey, f8, h8z, ez, IntKind.bits, wrap_u8, e1, hb, w16, wr1 b h8b]
      have := wr2 24 b h8b (by omega)
      simpa using this
    · have h8z : ¬ (256 : Int) ≤ (y : Int) := by omega
      refine fin y 16 (by omega) (by omega) (by omega) (by omega) fun b hb h8b => ?_
      refine callPure_of (wpF_of tab_68 rfl ?_)
      have e1 : (y : Int) % 256 = y := by omega
      simp [f68, enter_eq, h16z, f16, ey, h8z, IntKind.bits, wrap_u8, e1, hb, wr1 b h8b]
      have := wr2 16 b h8b (by omega)
      simpa using this
  · have h16z : ¬ (65536 : Int) ≤ (x : Int) := by omega
    by_cases h8 : 256 ≤ x
    · have h8z : (256 : Int) ≤ (x : Int) := by omega
      obtain ⟨z, hz⟩ : ∃ z, z = x / 256 := ⟨_, rfl⟩
      have ez : (x : Int) / 256 = (z : Int) := by omega
      refine fin z 8 (by omega) (by omega) (by omega) (by omega) fun b hb h8b => ?_
      refine callPure_of (wpF_of tab_68 rfl ?_)
      have e1 : (z : Int) % 256 = z := by omega
      have w8 : IntKind.i64.wrap 8 = 8 := by decide
      simp [f68, enter_eq, h16z, f8, h8z, ez, IntKind.bits, wrap_u8, e1, hb, w8, wr1 b h8b]
      have := wr2 8 b h8b (by omega)
      simpa using this
    · have h8z : ¬ (256 : Int) ≤ (x : Int) := by omega
      refine fin x 0 (by omega) (by omega) (by omega) (by omega) fun b hb h8b => ?_
      refine callPure_of (wpF_of tab_68 rfl ?_)
      have e1 : (x : Int) % 256 = x := by omega
      simp [f68, enter_eq, h16z, h8z, IntKind.bits, wrap_u8, e1, hb, wr1 b h8b]
theorem run_LeadingZeros32 {x : Nat} (hx : x < B) (h0 : 0 < x) : ∃ s : Nat, s < 32 ∧ callPure RT 99 [.int .u32 (x : Int)] = some (.int .i64 (s : Int)) ∧ x * 2 ^ s < B ∧ B ≤ 2 * (x * 2 ^ s) := by
  obtain ⟨k, hk, hr, h1, h2⟩ := run_Len32 hx h0
  have hk0 : 0 < k := by
    rcases Nat.eq_zero_or_pos k with h | h
    · subst h; simp at h1; omega
    · exact h
  have hp : B = 2 ^ k * 2 ^ (32 - k) := by rw [← Nat.pow_add, show k + (32 - k) = 32 by omega]
  refine ⟨32 - k, by omega, ?_, ?_, ?_⟩
  · refine callPure_of (wpF_of tab_99 rfl ?_)
    have hw : IntKind.i64.wrap (32 - (k : Int)) = ((32 - k : Nat) : Int) := by
      have : (32 : Int) - (k : Int) = ((32 - k : Nat) : Int) := by omega
      rw [this]; exact wrap_i64 (by omega) (by omega)
    simp [f99, enter_eq, hr, after_nr, hw]
  · rw [hp]; exact Nat.mul_lt_mul_of_pos_right h1 (Nat.two_pow_pos _)
  · rw [hp, ← Nat.mul_assoc]; exact Nat.mul_le_mul_right _ h2
theorem shl_loop {xs : List Nat} (hx : Wd xs) (hlx : xs.length ≤ Lim) {n s : Nat} (hn : n = xs.length) (hs : s < 32) {Q : FQ}
    (hQ : ∀ (tm : List AV) (hl : tm.length = 41) (out : List Nat), tm[5] = .msl 0 0 (n + 1) 1 (n + 1) none → out.length = n + 1 → Wd out → val out = val xs * 2 ^ s → Q (.ex 0) ⟨tm, [.mu (wds out) true]⟩) :
    ∀ (m i : Nat), i + m = n → ∀ (ds : List Nat) (c : Nat), ds.length = i → Wd ds → c < 2 ^ s → val ds + B ^ i * c = val (xs.take i) * 2 ^ s →
    wpL RT f100_0m 1 f100_0 ⟨[.any, .int .i64 (s : Int), .any, .any, .any, .msl 0 0 (n + 1) 1 (n + 1) none, .any, .any, .any, .any, .any, .any, .any, .sl (wds xs) 1 false, .int .i64 (n : Int), .int .i64 (i : Int),
      .any, .any, .any, .any, .any, .any, .any, .any, .any, .any, .any, .any, .any, .any, .any, .any, .any, .any, .any, .any, .any, .any, .any, .any, .any], [.mu (wds (ds ++ c :: List.replicate m 0)) true]⟩ Q := by
  have hL : Lim = 1099511627776 := rfl
  have hsB : B = 2 ^ s * 2 ^ (32 - s) := by rw [← Nat.pow_add, show s + (32 - s) = 32 by omega]
  have hps : 0 < 2 ^ s := Nat.two_pow_pos s
  have hps2 : 0 < 2 ^ (32 - s) := Nat.two_pow_pos _
  have hsle : 2 ^ s ≤ B := by rw [hsB]; exact Nat.le_mul_of_pos_right _ hps2
  intro m
  induction m with
  | zero =>
    intro i hi ds c hds hwd hc he
    have hi' : i = n := by omega
    subst hi'
    rw [wpL_eq]
    generalize hK : (fun s' => wpL RT f100_0m 1 f100_0 (head f100_0m 1 s') Q) = K
    simp [f100_0]
    refine hQ _ rfl (ds ++ [c]) rfl (by simp [hds]) (Wd.app hwd (Wd.mk (by omega) Wd.nil)) ?_
    rw [val_append, hds]
    rw [List.take_of_length_le (by omega)] at he
    simpa [val] using he
  | succ m ih =>
    intro i hi ds c hds hwd hc he
    rw [wpL_eq]
    generalize hK : (fun s' => wpL RT f100_0m 1 f100_0 (head f100_0m 1 s') Q) = K
    have hlt : (i : Int) < (n : Int) := by omega
    obtain ⟨w, hget⟩ : ∃ w, xs[i]? = some w := ⟨xs[i], List.getElem?_eq_getElem (by omega)⟩
    have hwB : w < B := hx.get hget
    obtain ⟨p, hp⟩ : ∃ p, p = w * 2 ^ s := ⟨_, rfl⟩
    obtain ⟨lo, hlo⟩ : ∃ lo, lo = p % B := ⟨_, rfl⟩
    obtain ⟨hi2, hhi⟩ : ∃ hi2, hi2 = p / B := ⟨_, rfl⟩
    have hp64 : p < 18446744073709551616 := by
      have h1 : w * 2 ^ s ≤ w * B := Nat.mul_le_mul_left _ hsle
      have h2 : w * B < B * B := Nat.mul_lt_mul_of_pos_right hwB (by decide)
      have h3 : B * B = 18446744073709551616 := by decide
      omega
    have hhi2 : hi2 < 2 ^ s := by
      rw [hhi]
      refine Nat.div_lt_of_lt_mul ?_
      rw [hp]
      exact Nat.mul_lt_mul_of_pos_right hwB hps
    have hloB : lo < B := by rw [hlo]; exact Nat.mod_lt _ (by decide)
    have hlom : lo = 2 ^ s * (w % 2 ^ (32 - s)) := by
      rw [hlo, hp, hsB, Nat.mul_comm w, Nat.mul_mod_mul_left]
    have hor : c ||| lo = lo + c := by
      rw [hlom, Nat.or_comm]
      exact (Nat.two_pow_add_eq_or_of_lt hc _).symm
    have hsum : lo + c < B := by
      have h1 : w % 2 ^ (32 - s) + 1 ≤ 2 ^ (32 - s) := Nat.mod_lt _ hps2
      have h2 := Nat.mul_le_mul_left (2 ^ s) h1
      rw [Nat.mul_add, Nat.mul_one, ← hlom, ← hsB] at h2
      omega
    have hwi : IntKind.i64.wrap ((i : Int) + 1) = ((i + 1 : Nat) : Int) := wrap_i64 (by omega) (by omega)
    have hshl : ((w : Int) * 2 ^ min s 64) % 18446744073709551616 = (p : Int) := by
      rw [Nat.min_eq_left (by omega)]
      have : (w : Int) * 2 ^ s = (p : Int) := by rw [hp]; push_cast; rfl
      rw [this]; omega
    have hw64 : (w : Int) % 18446744073709551616 = (w : Int) := by
      have : B = 4294967296 := rfl
      omega
    have e1 : (p : Int) % 4294967296 = (lo : Int) := by rw [hlo]; show _ = ((p % 4294967296 : Nat) : Int); omega
    have e2 : (p : Int) / 4294967296 % 4294967296 = (hi2 : Int) := by
      have h1 : hi2 = p / 4294967296 := hhi
      omega
    obtain ⟨e, hee⟩ : ∃ e, e = lo + c := ⟨_, rfl⟩
    rw [← hee] at hor hsum
    have hbo : binA .or (.int .u32 (c : Int)) (.int .u32 (lo : Int)) = some (.int .u32 (e : Int)) := by
      rw [or_nat rfl (show c < 2 ^ 32 from by have : B = 2 ^ 32 := rfl; omega) (show lo < 2 ^ 32 from hloB), hor]
    have hgc : (ds ++ c :: List.replicate (m + 1) 0)[i]? = some c := by
      rw [List.getElem?_append_right (by omega), hds, Nat.sub_self]; rfl
    have hrd := rd_word (S := [.mu (wds (ds ++ c :: List.replicate (m + 1) 0)) true]) (b := 0) (i := i) (vl := n + 1) (ws := ds ++ c :: List.replicate (m + 1) 0) rfl (by simp; omega) (by simp; omega)
    have hge : (ds ++ c :: List.replicate (m + 1) 0)[i]'(by simp; omega) = c := (List.getElem?_eq_some_iff.1 hgc).2
    rw [hge] at hrd
    have hwr1 := wr_word (S := [.mu (wds (ds ++ c :: List.replicate (m + 1) 0)) true]) (b := 0) (i := i) (vl := n + 1) (w := e) rfl (by simp; omega) (by simp; omega)
    have hset1 : (ds ++ c :: List.replicate (m + 1) 0).set i e = ds ++ e :: List.replicate (m + 1) 0 := by
      rw [List.set_append_right _ _ (by omega), hds, Nat.sub_self]; rfl
    rw [hset1] at hwr1
    have hwr2 := wr_word (S := [.mu (wds (ds ++ e :: List.replicate (m + 1) 0)) true]) (b := 0) (i := i + 1) (vl := n + 1) (w := hi2) rfl (by simp; omega) (by simp; omega)
    have hset2 : (ds ++ e :: List.replicate (m + 1) 0).set (i + 1) hi2 = (ds ++ [e]) ++ hi2 :: List.replicate m 0 := by
      rw [List.set_append_right _ _ (by omega), hds, show i + 1 - i = 1 by omega, List.replicate_succ]; simp
    rw [hset2] at hwr2
    have hlt1 : (i : Int) < (n : Int) + 1 := by omega
    have hlt2 : (i : Int) + 1 < (n : Int) + 1 := by omega
    have htn : ((i : Int) + 1).toNat = i + 1 := by omega
    have hz1 : (0 : Int) ≤ (i : Int) + 1 := by omega
    simp [f100_0, hlt, hget, wrap_u64, wrap_u32, hw64, IntKind.bits, hshl, hrd, e1, hbo, hlt1]
    refine ⟨by omega, ?_⟩
    rw [hwr1]
    simp [hwi, e2, fdiv_word, IntKind.bits, wrap_u32, htn, hz1, hlt1, hlt2]
    rw [hwr2]
    simp [hwi]
    subst hK
    simp [head, f100_0m, mask]
    have hdm := Nat.mod_add_div p B
    rw [← hlo, ← hhi] at hdm
    have e6 := val_take_succ xs i
    have hga : xs.getD i 0 = w := by rw [List.getD_eq_getElem?_getD, hget]; rfl
    rw [hga] at e6
    have := ih (i + 1) (by omega) (ds ++ [e]) hi2 (by simp [hds]) (Wd.app hwd (Wd.mk hsum Wd.nil)) hhi2 (by
      rw [val_append, hds, e6, Nat.add_mul, ← he, Nat.mul_assoc, ← hp, ← hdm, hee]
      simp only [val, Nat.pow_succ, Nat.mul_zero, Nat.add_zero, Nat.mul_add, Nat.mul_assoc]
      omega)
    simpa [f100_0m] using this
theorem run_shl {x s : Nat} (hx : size x ≤ Lim) (hs : s < 32) : wpF RT 100 [N x, .int .i64 (s : Int)] [] fun r S' => ∃ out : List Nat, out.length = size x + 1 ∧ Wd out ∧ val out = x * 2 ^ s ∧ r = .msl 0 0 (size x + 1) 1 (size x + 1) none ∧ S' = [.mu (wds out) true] := by
  refine wpF_of tab_100 rfl ?_
  have hL : Lim = 1099511627776 := rfl
  obtain ⟨n, hn⟩ : ∃ n, n = size x := ⟨_, rfl⟩
  have hn' : n = (dig x).length := hn
  rw [← hn] at hx ⊢
  have hw : IntKind.i64.wrap ((n : Int) + 1) = ((n + 1 : Nat) : Int) := wrap_i64 (by omega) (by omega)
  have hroom : room (n + 1) 4 := by unfold room; omega
  have htn : ((n : Int) + 1).toNat = n + 1 := by omega
  have hz : (0 : Int) ≤ (n : Int) + 1 := by omega
  have hln : (n : Int) + 1 ≤ 281474976710656 := by omega
  simp only [f100, enter_eq]
  simp [← hn', hw, htn, hz, hln, hroom]
  simp [head, mask, f100_0m]
  have hst : List.replicate (n + 1) (AV.int .u32 0) = wds ([] ++ 0 :: List.replicate n 0) := wds_rep (n + 1) 0
  rw [hst]
  refine shl_loop (dig_wd x) (by omega) hn' hs ?_ n 0 (by omega) [] 0 rfl Wd.nil (Nat.two_pow_pos s) (by simp [val])
  intro tm hl out h5 hlo hwo he
  rw [val_dig] at he
  simp [hl, h5]
  exact ⟨out, hlo, hwo, he, rfl⟩
theorem run_shlP {x s : Nat} (hx : size x ≤ Lim) (hs : s < 32) : ∃ out : List Nat, out.length = size x + 1 ∧ Wd out ∧ val out = x * 2 ^ s ∧ callPure RT 100 [N x, .int .i64 (s : Int)] = some (W out) ∧ callOwn RT 0 100 [N x, .int .i64 (s : Int)] = some (.osl (wds out) out.length 1 true) := by
  obtain ⟨r, S', hr, out, h1, h2, h3, rfl, rfl⟩ := run_shl hx hs
  refine ⟨out, h1, h2, h3, ?_, ?_⟩
  · refine callPure_of ⟨_, _, hr, ?_⟩
    show fzc _ (5 + 1) _ = _
    have := fzc_mslv (S := [.mu (wds out) true]) (b := 0) (n := size x + 1) (vl := size x + 1) (cap := none) (fuel := 5) rfl h1.symm (by omega)
    rwa [List.take_of_length_le (by omega)] at this
  · refine callOwn_of ⟨_, _, hr, ?_⟩
    have ht : (wds out).take (size x + 1) = wds out := List.take_of_length_le (by simp; omega)
    simp [ownRes, takeOwn, chk, h1, ht]
theorem shr_word {a b s : Nat} (ha : a < B) (hb : b < B) (hs : s < 32) : ∃ d, ((b * B + a) / 2 ^ s) % B = d ∧ d * 2 ^ s + a % 2 ^ s = (b % 2 ^ s) * B + a := by
  have hsB : B = 2 ^ s * 2 ^ (32 - s) := by rw [← Nat.pow_add, show s + (32 - s) = 32 by omega]
  have hps : 0 < 2 ^ s := Nat.two_pow_pos s
  refine ⟨((b % 2 ^ s) * B + a) / 2 ^ s, ?_, ?_⟩
  · have e1 : b * B + a = 2 ^ s * ((b / 2 ^ s) * B) + ((b % 2 ^ s) * B + a) := by
      conv => lhs; rw [← Nat.mod_add_div b (2 ^ s)]
      rw [Nat.add_mul, Nat.mul_assoc]; omega
    rw [e1, Nat.mul_add_div hps, Nat.add_comm, Nat.add_mul_mod_self_right, Nat.mod_eq_of_lt]
    refine Nat.div_lt_of_lt_mul ?_
    have h1 : (b % 2 ^ s + 1) * B ≤ 2 ^ s * B := Nat.mul_le_mul_right _ (Nat.mod_lt _ hps)
    rw [Nat.succ_mul] at h1
    omega
  · have e2 : ((b % 2 ^ s) * B + a) % 2 ^ s = a % 2 ^ s := by
      rw [hsB, Nat.mul_left_comm, Nat.mul_add_mod]
    have := Nat.div_add_mod ((b % 2 ^ s) * B + a) (2 ^ s)
    rw [e2, Nat.mul_comm] at this
    exact this
theorem shr_loop {xs : List Nat} (hx : Wd xs) (hlx : xs.length ≤ Lim) {n s : Nat} (hn : n = xs.length) (hs : s < 32) {Q : FQ}
    (hQ : ∀ (tm : List AV) (hl : tm.length = 36) (ds : List Nat), tm[5] = .msl 0 0 n 1 n none → ds.length = n → Wd ds → val ds * 2 ^ s + xs.getD 0 0 % 2 ^ s = val xs → Q (.ex 0) ⟨tm, [.mu (wds ds) true]⟩) :
    ∀ (m i : Nat), i + m = n → ∀ (ds : List Nat), ds.length = i → Wd ds → val ds * 2 ^ s + xs.getD 0 0 % 2 ^ s = val (xs.take i) + B ^ i * (xs.getD i 0 % 2 ^ s) →
    wpL RT f102_0m 1 f102_0 ⟨[.sl (wds xs) 1 false, .int .i64 (s : Int), .any, .any, .any, .msl 0 0 n 1 n none, .any, .any, .any, .any, .any, .int .i64 (n : Int), .int .i64 (i : Int),
      .any, .any, .any, .any, .any, .any, .any, .any, .any, .any, .any, .any, .any, .any, .any, .any, .any, .any, .any, .any, .any, .any, .any], [.mu (wds (ds ++ List.replicate m 0)) true]⟩ Q := by
  have hL : Lim = 1099511627776 := rfl
  intro m
  induction m with
  | zero =>
    intro i hi ds hds hwd he
    have hi' : i = n := by omega
    subst hi'
    rw [wpL_eq]
    generalize hK : (fun s' => wpL RT f102_0m 1 f102_0 (head f102_0m 1 s') Q) = K
    simp [f102_0]
    refine hQ _ rfl ds rfl hds hwd ?_
    have h0 : xs.getD i 0 = 0 := by rw [List.getD_eq_getElem?_getD, List.getElem?_eq_none (by omega)]; rfl
    rw [h0, List.take_of_length_le (by omega)] at he
    simpa using he
  | succ m ih =>
    intro i hi ds hds hwd he
    rw [wpL_eq]
    generalize hK : (fun s' => wpL RT f102_0m 1 f102_0 (head f102_0m 1 s') Q) = K
    have hlt : (i : Int) < (n : Int) := by omega
    obtain ⟨a, hget⟩ : ∃ a, xs[i]? = some a := ⟨xs[i], List.getElem?_eq_getElem (by omega)⟩
    have haB : a < B := hx.get hget
    have hga : xs.getD i 0 = a := by rw [List.getD_eq_getElem?_getD, hget]; rfl
    have hat := run_at (ws := xs) (t := false) (i := i + 1) (by omega)
    have hbB : xs.getD (i + 1) 0 < B := by
      rw [List.getD_eq_getElem?_getD]
      cases h : xs[i + 1]? with
      | none => decide
      | some w => exact hx.get h
    have e6 := val_take_succ xs i
    rw [hga] at he e6
    generalize hb : xs.getD (i + 1) 0 = b at *
    obtain ⟨d, hd1, hd2⟩ := shr_word haB hbB hs
    have hdB : d < B := by rw [← hd1]; exact Nat.mod_lt _ (by decide)
    obtain ⟨p, hp⟩ : ∃ p, p = b * B + a := ⟨_, rfl⟩
    rw [← hp] at hd1
    have hB : B = 4294967296 := rfl
    have hpl : p < 18446744073709551616 := by rw [hB] at hp haB hbB; omega
    have hwi : IntKind.i64.wrap ((i : Int) + 1) = ((i + 1 : Nat) : Int) := wrap_i64 (by omega) (by omega)
    have e1 : (b : Int) % 18446744073709551616 = b := by rw [hB] at hbB; omega
    have e2 : (a : Int) % 18446744073709551616 = a := by rw [hB] at haB; omega
    have e3 : (b : Int) * 4294967296 % 18446744073709551616 = (b : Int) * 4294967296 := by rw [hB] at hbB; omega
    have hbo : binA .or (.int .u64 ((b : Int) * 4294967296)) (.int .u64 (a : Int)) = some (.int .u64 (p : Int)) := by
      have hc : (b : Int) * 4294967296 = ((b * 4294967296 : Nat) : Int) := by omega
      rw [hc, or_nat rfl (show b * 4294967296 < 2 ^ 64 by rw [hB] at hbB; omega) (show a < 2 ^ 64 by rw [hB] at haB; omega)]
      have := Nat.two_pow_add_eq_or_of_lt (i := 32) (b := a) haB b
      rw [Nat.mul_comm] at this
      rw [hp]
      show some (AV.int .u64 ((b * 2 ^ 32 ||| a : Nat) : Int)) = _
      rw [← this]
    have e4 : Int.fdiv (p : Int) (2 ^ min s 64) % 4294967296 = (d : Int) := by
      rw [Nat.min_eq_left (by omega), Int.fdiv_eq_ediv_of_nonneg _ (by exact Int.le_of_lt (Int.pow_pos (by decide)))]
      have : (p : Int) / 2 ^ s = ((p / 2 ^ s : Nat) : Int) := by push_cast; rfl
      rw [this]
      rw [hB] at hd1; omega
    have hwr := wr_word (S := [.mu (wds (ds ++ List.replicate (m + 1) 0)) true]) (b := 0) (i := i) (vl := n) (w := d) rfl (by simp; omega) (by simp; omega)
    have hset : (ds ++ List.replicate (m + 1) 0).set i d = (ds ++ [d]) ++ List.replicate m 0 := by
      rw [List.set_append_right _ _ (by omega), hds, Nat.sub_self, List.replicate_succ, List.set_cons_zero]
      simp
    rw [hset] at hwr
    have hat' : callPure RT 104 [.sl (wds xs) 1 false, .int .i64 ((i : Int) + 1)] = some (.int .u32 (b : Int)) := hat
    simp [f102_0, hlt, hget, hwi, hat', after_nr, wrap_u64, wrap_u32, IntKind.bits, e1, e2, e3, hbo, e4]
    refine ⟨by omega, ?_⟩
    rw [hwr]
    simp [hwi]
    subst hK
    simp [head, f102_0m, mask]
    have := ih (i + 1) (by omega) (ds ++ [d]) (by simp [hds]) (Wd.app hwd (Wd.mk hdB Wd.nil)) (by
      rw [val_append, hds, e6, hb]
      simp only [val, Nat.mul_zero, Nat.add_zero, Nat.add_mul, Nat.pow_succ]
      have e8 : B ^ i * (d * 2 ^ s + a % 2 ^ s) = B ^ i * (b % 2 ^ s * B + a) := by rw [hd2]
      rw [Nat.mul_add, Nat.mul_add, ← Nat.mul_assoc, Nat.mul_comm (b % 2 ^ s) B, ← Nat.mul_assoc] at e8
      omega)
    simpa [f102_0m] using this
theorem run_shr {x s : Nat} (hx : size x ≤ Lim) (hs : s < 32) : callPure RT 102 [N x, .int .i64 (s : Int)] = some (N (x / 2 ^ s)) := by
  refine callPure_of (wpF_of tab_102 rfl ?_)
  have hL : Lim = 1099511627776 := rfl
  unfold size at hx
  obtain ⟨n, hn⟩ : ∃ n, n = (dig x).length := ⟨_, rfl⟩
  have hroom : room n 4 := by unfold room; omega
  simp only [f102, enter_eq]
  simp [← hn, hroom]
  refine ⟨by omega, ?_⟩
  simp [head, mask, f102_0m]
  have hst : List.replicate n (AV.int .u32 0) = wds ([] ++ List.replicate n 0) := wds_rep n 0
  rw [hst]
  refine shr_loop (dig_wd x) hx hn hs ?_ n 0 (by omega) [] rfl Wd.nil (by simp [val])
  intro tm hl ds h5 hds hwd he
  rw [val_dig] at he
  have hps : 0 < 2 ^ s := Nat.two_pow_pos s
  have hq : val ds = x / 2 ^ s := by
    rw [← he, Nat.mul_comm, Nat.mul_add_div hps, Nat.div_eq_of_lt (Nat.mod_lt _ hps), Nat.add_zero]
  have hnorm := run_norm (t := false) hwd (by omega)
  rw [hq] at hnorm
  have hfz : fzc [.mu (wds ds) true] (5 + 1) (.msl 0 0 n 1 n none) = some (W ds) := by
    have := fzc_mslv (S := [.mu (wds ds) true]) (b := 0) (n := n) (vl := n) (cap := none) (fuel := 5) rfl hds.symm (by omega)
    rwa [List.take_of_length_le (by omega)] at this
  simp [hl, h5, hfz, hnorm, after_row (S := [.mu (wds ds) true]) (b := 0) rfl (show (N (x / 2 ^ s)).bare = false from rfl)]
@[simp] theorem wds_getElem (xs : List Nat) (i : Nat) (h : i < (wds xs).length) : (wds xs)[i] = .int .u32 ((xs[i]'(by simpa using h) : Nat) : Int) := by simp [wds]
def maskG : List Bool → Nat → (Nat → AV) → Nat → List AV
  | _, 0, _, _ => []
  | [], n + 1, f, k => .any :: maskG [] n f (k + 1)
  | b :: bs, n + 1, f, k => (bif b then f k else .any) :: maskG bs n f (k + 1)
theorem maskG_nil : ∀ (n : Nat) (f : Nat → AV) (k : Nat), maskG [] n f k = List.replicate n .any
  | 0, _, _ => rfl
  | n + 1, f, k => by rw [maskG, maskG_nil n f (k + 1)]; rfl
theorem maskG_t (bs : List Bool) (n : Nat) (f : Nat → AV) (k : Nat) : maskG (true :: bs) (n + 1) f k = f k :: maskG bs n f (k + 1) := rfl
theorem maskG_f (bs : List Bool) (n : Nat) (f : Nat → AV) (k : Nat) : maskG (false :: bs) (n + 1) f k = .any :: maskG bs n f (k + 1) := rfl
theorem maskG_get : ∀ (live : List Bool) (tm : List AV) (f : Nat → AV) (k : Nat), (∀ i, i < tm.length → f (k + i) = tm.getD i .any) → mask live tm = maskG live tm.length f k
  | live, [], f, k, _ => by cases live <;> rfl
  | [], v :: tm, f, k, h => by
    rw [mask, List.length_cons, maskG, maskG_get [] tm f (k + 1) fun i hi => by
      have := h (i + 1) (by simpa using hi)
      rw [show k + 1 + i = k + (i + 1) by omega, this]; rfl]
  | b :: bs, v :: tm, f, k, h => by
    rw [mask, List.length_cons, maskG, maskG_get bs tm f (k + 1) fun i hi => by
      have := h (i + 1) (by simpa using hi)
      rw [show k + 1 + i = k + (i + 1) by omega, this]; rfl]
    have h0 := h 0 (by simp)
    rw [Nat.add_zero] at h0
    rw [h0]; rfl
theorem mask_G {live : List Bool} {tm : List AV} {n : Nat} (h : tm.length = n) : mask live tm = maskG live n (fun i => tm.getD i .any) 0 := by
  subst h
  exact maskG_get live tm _ 0 fun i _ => by rw [Nat.zero_add]
theorem est_le {X V xt vt k : Nat} (hV : vt * B ^ k ≤ V) (hX : X < (xt + 1) * B ^ k) (hvt : 0 < vt) : X / V ≤ xt / vt := by
  rw [Nat.le_div_iff_mul_le hvt]
  have h1 : X / V * V ≤ X := Nat.div_mul_le_self X V
  have h2 : X / V * (vt * B ^ k) ≤ X / V * V := Nat.mul_le_mul_left _ hV
  have h3 : X / V * vt * B ^ k < (xt + 1) * B ^ k := by rw [Nat.mul_assoc]; omega
  have := Nat.lt_of_mul_lt_mul_right h3
  omega
theorem est_lt {X V xt vt k d : Nat} (hV : vt * B ^ k ≤ V) (hX : X < (xt + 1) * B ^ k) (hvt : 0 < vt) (hd : xt < d * vt) : X / V < d := by
  have hpos : 0 < V := Nat.lt_of_lt_of_le (Nat.mul_pos hvt (Nat.pow_pos (by decide))) hV
  rw [Nat.div_lt_iff_lt_mul hpos]
  have h2 : d * (vt * B ^ k) ≤ d * V := Nat.mul_le_mul_left _ hV
  have h3 : (xt + 1) * B ^ k ≤ d * vt * B ^ k := Nat.mul_le_mul_right _ hd
  rw [Nat.mul_assoc] at h3
  omega
theorem window_set {us ds : List Nat} {off i d : Nat} (h : off + i < us.length) (hd : ds.length = i) : (us.take off ++ ds ++ us.drop (off + i)).set (off + i) d = us.take off ++ (ds ++ [d]) ++ us.drop (off + (i + 1)) := by
  have hl : (us.take off ++ ds).length = off + i := by simp [hd]; omega
  rw [List.set_append_right _ _ (by omega), hl, Nat.sub_self, List.drop_eq_getElem_cons h, List.set_cons_zero]
  simp [Nat.add_assoc]
theorem window_get {us ds : List Nat} {off i : Nat} (h : off + i < us.length) (hd : ds.length = i) : (us.take off ++ ds ++ us.drop (off + i))[off + i]? = some us[off + i] := by
  have hl : (us.take off ++ ds).length = off + i := by simp [hd]; omega
  rw [List.getElem?_append_right (by omega), hl, Nat.sub_self, List.drop_eq_getElem_cons h]
  rfl
set_option maxRecDepth 20000 in
theorem red_sub {S : Store} {b : Nat} {us vs : List Nat} {off n g : Nat} (hS : S[b]? = some (.mu (wds us) true)) (hus : Wd us) (hvs : Wd vs) (hn : vs.length = n) (hoff : off + (n + 1) ≤ us.length) (hg : g < B) (hlen : us.length ≤ 2 * Lim) {Q : FQ}
    (hQ : ∀ (tm : List AV) (hl : tm.length = 141) (ds : List Nat) (bo : Nat), tm[0] = .msl b off (n + 1) 1 us.length none → tm[1] = .sl (wds vs) 1 false → tm[6] = .int .u64 (g : Int) → tm[11] = .int .u32 (bo : Int) → ds.length = n + 1 → Wd ds → bo ≤ 1 →
      val ds + g * val vs = val ((us.drop off).take (n + 1)) + B ^ (n + 1) * bo → Q (.ex 2) ⟨tm, S.set b (.mu (wds (us.take off ++ ds ++ us.drop (off + (n + 1)))) true)⟩) :
    ∀ (m i : Nat), i + m = n + 1 → ∀ (ds : List Nat) (c bo low : Nat), ds.length = i → Wd ds → c < B → bo ≤ 1 → low < B ^ i → low + B ^ i * c = g * val (vs.take i) → val ds + g * val (vs.take i) = val ((us.drop off).take i) + B ^ i * (c + bo) →
    wpL RT f101_1m S.length f101_1 ⟨[.msl b off (n + 1) 1 us.length none, .sl (wds vs) 1 false, .any, .any, .any, .any, .int .u64 (g : Int), .any, .any, .any, .int .u64 (c : Int), .int .u32 (bo : Int)] ++ List.replicate 70 .any ++ [.int .i64 ((n + 1 : Nat) : Int), .int .i64 (i : Int)] ++ List.replicate 57 .any,
      S.set b (.mu (wds (us.take off ++ ds ++ us.drop (off + i))) true)⟩ Q := by
  have hL : Lim = 1099511627776 := rfl
  intro m
  induction m with
  | zero =>
    intro i hi ds c bo low hds hwd hc hb hlow hpr he
    have hi' : i = n + 1 := by omega
    subst hi'
    rw [wpL_eq]
    generalize hK : (fun s' => wpL RT f101_1m S.length f101_1 (head f101_1m S.length s') Q) = K
    simp [f101_1, List.replicate]
    have hv : vs.take (n + 1) = vs := List.take_of_length_le (by omega)
    rw [hv] at hpr he
    have hc0 : c = 0 := by
      have h1 := val_lt hvs
      rw [hn] at h1
      have h2 : g * val vs < B ^ (n + 1) := by rw [Nat.pow_succ']; exact Nat.mul_lt_mul'' hg h1
      refine Classical.byContradiction fun h => ?_
      have h3 : B ^ (n + 1) * 1 ≤ B ^ (n + 1) * c := Nat.mul_le_mul_left _ (by omega)
      rw [Nat.mul_one] at h3
      generalize B ^ (n + 1) * c = z at *
      generalize B ^ (n + 1) = y at *
      omega
    subst hc0
    rw [Nat.zero_add] at he
    have := hQ
    simp only [List.append_assoc] at hQ
    exact hQ _ rfl ds bo rfl rfl rfl rfl hds hwd hb he
  | succ m ih =>
    intro i hi ds c bo low hds hwd hc hb hlow hpr he
    rw [wpL_eq]
    generalize hK : (fun s' => wpL RT f101_1m S.length f101_1 (head f101_1m S.length s') Q) = K
    have hlt : (i : Int) < ((n + 1 : Nat) : Int) := by omega
    have hlt' : (i : Int) < (n : Int) + 1 := by omega
    have hat := run_at (ws := vs) (t := false) (i := i) (by omega)
    have hvB : vs.getD i 0 < B := by
      rw [List.getD_eq_getElem?_getD]
      cases h : vs[i]? with
      | none => decide
      | some w => exact hvs.get h
    have e2 := val_take_succ vs i
    generalize vs.getD i 0 = v at *
    obtain ⟨w, hw⟩ : ∃ w, us[off + i]? = some w := ⟨us[off + i], List.getElem?_eq_getElem (by omega)⟩
    have hwB : w < B := hus.get hw
    have hB : B = 4294967296 := rfl
    have hgv : g * v ≤ (B - 1) * (B - 1) := Nat.mul_le_mul (by omega) (by omega)
    obtain ⟨p, hp⟩ : ∃ p, p = g * v := ⟨_, rfl⟩
    rw [← hp, hB] at hgv
    obtain ⟨q, hq⟩ : ∃ q, q = c + p := ⟨_, rfl⟩
    obtain ⟨lo, hlo⟩ : ∃ lo, lo = q % 4294967296 := ⟨_, rfl⟩
    obtain ⟨hi2, hhi⟩ : ∃ hi2, hi2 = q / 4294967296 := ⟨_, rfl⟩
    rw [hB] at hc hvB hg hwB
    have hsu := run_Sub32 (x := w) (y := lo) (b := bo) (by rw [hB]; omega) (by rw [hB]; omega) hb
    have hbe := borrow_eq (a := w) (c := lo) (b := bo) (by rw [hB]; omega) (by rw [hB]; omega) hb
    obtain ⟨d, hd⟩ : ∃ d, d = (w + 2 * B - lo - bo) % B := ⟨_, rfl⟩
    obtain ⟨bo', hbo'⟩ : ∃ bo', bo' = if w < lo + bo then 1 else 0 := ⟨_, rfl⟩
    rw [← hd, ← hbo'] at hsu hbe
    have hdB : d < B := by rw [hd]; exact Nat.mod_lt _ (by decide)
    have hb1 : bo' ≤ 1 := by rw [hbo']; split <;> omega
    have hq2 : q < 18446744073709551616 := by omega
    have hql : q = lo + 4294967296 * hi2 := by omega
    have hget0 := window_get (us := us) (ds := ds) (off := off) (i := i) (by omega) hds
    have hset0 := window_set (us := us) (ds := ds) (off := off) (i := i) (d := d) (by omega) hds
    have hwu : us[off + i]'(by omega) = w := (List.getElem?_eq_some_iff.1 hw).2
    rw [hwu] at hget0
    have hbl := lt_of_get hS
    have hlen0 : (us.take off ++ ds ++ us.drop (off + i)).length = us.length := by simp [hds]; omega
    have hih := ih (i + 1) (by omega) (ds ++ [d]) hi2 bo' (low + B ^ i * lo) (by simp [hds]) (Wd.app hwd (Wd.mk hdB Wd.nil)) (by rw [hB]; omega) hb1 (by
      rw [Nat.pow_succ]
      have : B ^ i * lo ≤ B ^ i * (B - 1) := Nat.mul_le_mul_left _ (by rw [hB]; omega)
      have e : B ^ i * (B - 1) + B ^ i = B ^ i * B := by
        rw [← Nat.mul_succ]; rfl
      omega) (by
      rw [e2, Nat.pow_succ, Nat.mul_add]
      have e3 : B ^ i * lo + B ^ i * B * hi2 = B ^ i * q := by
        rw [hql, Nat.mul_assoc, ← Nat.mul_add]
      have e4 : g * (B ^ i * v) = B ^ i * p := by rw [hp, ← Nat.mul_assoc, Nat.mul_comm g, Nat.mul_assoc]
      have e5 : B ^ i * q = B ^ i * c + B ^ i * p := by rw [hq, Nat.mul_add]
      omega) (by
      have e6 : val ((us.drop off).take (i + 1)) = val ((us.drop off).take i) + B ^ i * w := by
        rw [val_take_succ, List.getD_eq_getElem?_getD, List.getElem?_drop, hw]; rfl
      rw [val_append, hds, e2, e6, Nat.pow_succ, Nat.mul_add]
      have e4 : g * (B ^ i * v) = B ^ i * p := by rw [hp, ← Nat.mul_assoc, Nat.mul_comm g, Nat.mul_assoc]
      have e7 : B ^ i * (d + (c + bo + p)) = B ^ i * (w + B * (hi2 + bo')) := by
        congr 1
        rw [hB] at hbe ⊢; omega
      have e8 : B ^ i * B * (hi2 + bo') = B ^ i * (B * (hi2 + bo')) := Nat.mul_assoc ..
      have e9 : val [d] = d := by simp [val]
      rw [e8, e9]
      simp only [Nat.mul_add] at e7 he ⊢
      omega)
    rw [← Nat.add_assoc] at hset0
    have e0 : off + (i + 1) = off + i + 1 := by omega
    rw [e0] at hih
    rw [← hset0] at hih
    generalize hcs : us.take off ++ ds ++ us.drop (off + i) = cs at *
    have hrd := rd_word (S := S.set b (.mu (wds cs) true)) (b := b) (i := off + i) (vl := us.length) (ws := cs) (ex := true) (set_get hbl) (by rw [hlen0]) (by omega)
    have hwr := wr_word (S := S.set b (.mu (wds cs) true)) (b := b) (i := off + i) (vl := us.length) (w := d) (ws := cs) (ex := true) (set_get hbl) (by rw [hlen0]) (by omega)
    have hcw : cs[off + i]'(by omega) = w := (List.getElem?_eq_some_iff.1 hget0).2
    rw [hcw] at hrd
    rw [List.set_set] at hwr
    have f1 : (v : Int) % 18446744073709551616 = v := by omega
    have f2 : (g : Int) * (v : Int) % 18446744073709551616 = (p : Int) := by
      have : (g : Int) * (v : Int) = ((g * v : Nat) : Int) := by push_cast; rfl
      rw [this, ← hp]; omega
    have f3 : ((c : Int) + (p : Int)) % 18446744073709551616 = (q : Int) := by omega
    have f4 : (q : Int) % 4294967296 = (lo : Int) := by omega
    have f5 : Int.fdiv (q : Int) 4294967296 = (hi2 : Int) := by rw [fdiv_word]; omega
    have hwi : IntKind.i64.wrap ((i : Int) + 1) = ((i + 1 : Nat) : Int) := wrap_i64 (by omega) (by omega)
    simp [f101_1, List.replicate, hlt', hat, after_nr, wrap_u64, wrap_u32, f1, f2, f3, hrd, f4, hsu, hwr, f5, hwi, IntKind.bits]
    subst hK
    simp [head, f101_1m, mask, trunc_len]
    simpa [f101_1m, List.replicate] using hih
set_option maxRecDepth 20000 in
theorem red_add {S : Store} {b : Nat} {us vs : List Nat} {off n g bo : Nat} (hS : S[b]? = some (.mu (wds us) true)) (hus : Wd us) (hvs : Wd vs) (hn : vs.length = n) (hoff : off + (n + 1) ≤ us.length) (hlen : us.length ≤ 2 * Lim) {Q : FQ}
    (hQ : ∀ (tm : List AV) (hl : tm.length = 141) (ds : List Nat) (mo : Nat), tm[0] = .msl b off (n + 1) 1 us.length none → tm[1] = .sl (wds vs) 1 false → tm[6] = .int .u64 (g : Int) → tm[11] = .int .u32 (bo : Int) → tm[13] = .int .u32 (mo : Int) → ds.length = n + 1 → Wd ds → mo ≤ 1 →
      val ds + B ^ (n + 1) * mo = val ((us.drop off).take (n + 1)) + val vs → Q (.ex 6) ⟨tm, S.set b (.mu (wds (us.take off ++ ds ++ us.drop (off + (n + 1)))) true)⟩) :
    ∀ (m i : Nat), i + m = n + 1 → ∀ (ds : List Nat) (mo : Nat), ds.length = i → Wd ds → mo ≤ 1 → val ds + B ^ i * mo = val ((us.drop off).take i) + val (vs.take i) →
    wpL RT f101_2m S.length f101_2 ⟨[.msl b off (n + 1) 1 us.length none, .sl (wds vs) 1 false, .any, .any, .any, .any, .int .u64 (g : Int), .any, .any, .any, .any, .int .u32 (bo : Int), .any, .int .u32 (mo : Int)] ++ List.replicate 102 .any ++ [.int .i64 ((n + 1 : Nat) : Int), .int .i64 (i : Int)] ++ List.replicate 23 .any,
      S.set b (.mu (wds (us.take off ++ ds ++ us.drop (off + i))) true)⟩ Q := by
  have hL : Lim = 1099511627776 := rfl
  intro m
  induction m with
  | zero =>
    intro i hi ds mo hds hwd hmo he
    have hi' : i = n + 1 := by omega
    subst hi'
    have hv : vs.take (n + 1) = vs := List.take_of_length_le (by omega)
    rw [hv] at he
    have hfin := fun tm hl h0 h1 h6 h11 h13 => hQ tm hl ds mo h0 h1 h6 h11 h13 hds hwd hmo he
    generalize us.take off ++ ds ++ us.drop (off + (n + 1)) = cs at *
    rw [wpL_step]
    generalize hK : loopQ RT f101_2m S.length f101_2 Q = K
    simp [f101_2, List.replicate]
    subst hK
    exact hfin _ rfl rfl rfl rfl rfl rfl
  | succ m ih =>
    intro i hi ds mo hds hwd hmo he
    have hlt' : (i : Int) < (n : Int) + 1 := by omega
    have hat := run_at (ws := vs) (t := false) (i := i) (by omega)
    have hvB : vs.getD i 0 < B := by
      rw [List.getD_eq_getElem?_getD]
      cases h : vs[i]? with
      | none => decide
      | some w => exact hvs.get h
    have e2 := val_take_succ vs i
    generalize vs.getD i 0 = v at *
    obtain ⟨w, hw⟩ : ∃ w, us[off + i]? = some w := ⟨us[off + i], List.getElem?_eq_getElem (by omega)⟩
    have hwB : w < B := hus.get hw
    have had := run_Add32 (x := w) (y := v) (c := mo) hwB hvB (Nat.lt_of_le_of_lt hmo (by decide))
    obtain ⟨s, hs⟩ : ∃ s, s = (w + v + mo) % B := ⟨_, rfl⟩
    obtain ⟨d, hd⟩ : ∃ d, d = (w + v + mo) / B := ⟨_, rfl⟩
    rw [← hs, ← hd] at had
    have hsB : s < B := by rw [hs]; exact Nat.mod_lt _ (by decide)
    have hd1 : d ≤ 1 := by rw [hd]; exact Nat.lt_succ_iff.1 (Nat.div_lt_of_lt_mul (by have : B = 4294967296 := rfl; omega))
    have hdm := Nat.mod_add_div (w + v + mo) B
    rw [← hs, ← hd] at hdm
    have hget0 := window_get (us := us) (ds := ds) (off := off) (i := i) (by omega) hds
    have hset0 := window_set (us := us) (ds := ds) (off := off) (i := i) (d := s) (by omega) hds
    have hwu : us[off + i]'(by omega) = w := (List.getElem?_eq_some_iff.1 hw).2
    rw [hwu] at hget0
    have hbl := lt_of_get hS
    have hlen0 : (us.take off ++ ds ++ us.drop (off + i)).length = us.length := by simp [hds]; omega
    have hih := ih (i + 1) (by omega) (ds ++ [s]) d (by simp [hds]) (Wd.app hwd (Wd.mk hsB Wd.nil)) hd1 (by
      have e6 : val ((us.drop off).take (i + 1)) = val ((us.drop off).take i) + B ^ i * w := by
        rw [val_take_succ, List.getD_eq_getElem?_getD, List.getElem?_drop, hw]; rfl
      rw [val_append, hds, e2, e6, Nat.pow_succ]
      have e9 : val [s] = s := by simp [val]
      have e3 : B ^ i * s + B ^ i * B * d = B ^ i * (w + v + mo) := by rw [← hdm, Nat.mul_assoc, ← Nat.mul_add]
      rw [e9]
      simp only [Nat.mul_add] at e3
      omega)
    have e0 : off + (i + 1) = off + i + 1 := by omega
    rw [← hset0] at hih
    generalize hcs : us.take off ++ ds ++ us.drop (off + i) = cs at *
    have hrd := rd_word (S := S.set b (.mu (wds cs) true)) (b := b) (i := off + i) (vl := us.length) (ws := cs) (ex := true) (set_get hbl) (by rw [hlen0]) (by omega)
    have hwr := wr_word (S := S.set b (.mu (wds cs) true)) (b := b) (i := off + i) (vl := us.length) (w := s) (ws := cs) (ex := true) (set_get hbl) (by rw [hlen0]) (by omega)
    have hcw : cs[off + i]'(by omega) = w := (List.getElem?_eq_some_iff.1 hget0).2
    rw [hcw] at hrd
    rw [List.set_set] at hwr
    have hwi : IntKind.i64.wrap ((i : Int) + 1) = ((i + 1 : Nat) : Int) := wrap_i64 (by omega) (by omega)
    rw [wpL_step]
    generalize hK : loopQ RT f101_2m S.length f101_2 Q = K
    simp [f101_2, List.replicate, hlt', hat, after_nr, hrd, had, hwr, hwi]
    subst hK
    simp [head, f101_2m, mask, trunc_len]
    simpa [f101_2m, List.replicate] using hih
theorem win_take {us ds : List Nat} {off n : Nat} (hoff : off + (n + 1) ≤ us.length) (hds : ds.length = n + 1) : (us.take off ++ ds ++ us.drop (off + (n + 1))).length = us.length ∧ ((us.take off ++ ds ++ us.drop (off + (n + 1))).drop off).take (n + 1) = ds ∧
    (us.take off ++ ds ++ us.drop (off + (n + 1))).take off = us.take off ∧ (us.take off ++ ds ++ us.drop (off + (n + 1))).drop (off + (n + 1)) = us.drop (off + (n + 1)) := by
  have hl : (us.take off).length = off := by rw [List.length_take]; omega
  refine ⟨by simp [hds]; omega, ?_, ?_, ?_⟩
  · rw [List.append_assoc, List.drop_append, List.drop_of_length_le (by omega), List.nil_append, hl, Nat.sub_self, List.drop_zero, List.take_append, List.take_of_length_le (by omega), hds, Nat.sub_self, List.take_zero, List.append_nil]
  · rw [List.append_assoc, List.take_append, hl, Nat.sub_self, List.take_zero, List.append_nil, List.take_of_length_le (by omega)]
  · have : (us.take off ++ ds).length = off + (n + 1) := by rw [List.length_append, hl, hds]
    rw [List.drop_append, List.drop_of_length_le (by omega), List.nil_append, this, Nat.sub_self, List.drop_zero]
set_option maxRecDepth 20000 in
theorem red_back {S : Store} {b : Nat} {us vs : List Nat} {off n X P : Nat} (hP : B ^ (n + 1) = P) (hS : S[b]? = some (.mu (wds us) true)) (hus : Wd us) (hvs : Wd vs) (hn : vs.length = n) (hoff : off + (n + 1) ≤ us.length) (hlen : us.length ≤ 2 * Lim) (hV : 0 < val vs) {Q : FQ}
    (hQ : ∀ (tm : List AV) (hl : tm.length = 141) (ds : List Nat), tm[6] = .int .u64 ((X / val vs : Nat) : Int) → ds.length = n + 1 → Wd ds → val ds = X % val vs → Q (.ex 4) ⟨tm, S.set b (.mu (wds (us.take off ++ ds ++ us.drop (off + (n + 1)))) true)⟩) :
    ∀ (g : Nat) (ds : List Nat) (bo : Nat), g < B → X / val vs ≤ g → ds.length = n + 1 → Wd ds → bo ≤ 1 → val ds + g * val vs = X + P * bo →
    wpL RT f101_3m S.length f101_3 ⟨[.msl b off (n + 1) 1 us.length none, .sl (wds vs) 1 false, .any, .any, .any, .any, .int .u64 (g : Int), .any, .any, .any, .any, .int .u32 (bo : Int)] ++ List.replicate 129 .any, S.set b (.mu (wds (us.take off ++ ds ++ us.drop (off + (n + 1)))) true)⟩ Q := by
  intro g
  induction g with
  | zero =>
    intro ds bo hgB hge hds hwd hbo he
    have hb0 : bo = 0 := by
      refine Classical.byContradiction fun h => ?_
      have h1 : bo = 1 := by omega
      subst h1
      have := val_lt hwd
      rw [hds, hP] at this
      rw [Nat.zero_mul, Nat.add_zero, Nat.mul_one] at he
      omega
    subst hb0
    have hq : X / val vs = 0 := Nat.eq_zero_of_le_zero hge
    have hr : val ds = X % val vs := by
      have := Nat.mod_add_div X (val vs)
      rw [hq, Nat.mul_zero, Nat.add_zero] at this
      rw [this]
      simpa using he
    have hfin := fun tm hl h6 => hQ tm hl ds h6 hds hwd hr
    rw [hq] at hfin
    generalize us.take off ++ ds ++ us.drop (off + (n + 1)) = cs at *
    rw [wpL_step]
    generalize hK : loopQ RT f101_3m S.length f101_3 Q = K
    simp [f101_3, List.replicate]
    subst hK
    exact hfin _ rfl rfl
  | succ g ih =>
    intro ds bo hgB hge hds hwd hbo he
    have hlt := val_lt hwd
    rw [hds, hP] at hlt
    have hbl := lt_of_get hS
    by_cases hb0 : bo = 0
    · subst hb0
      have hle : (g + 1) * val vs ≤ X := by omega
      have hq : X / val vs = g + 1 := Nat.le_antisymm hge ((Nat.le_div_iff_mul_le hV).2 hle)
      have hr : val ds = X % val vs := by
        have := Nat.mod_add_div X (val vs)
        rw [hq, Nat.mul_comm] at this
        omega
      have hfin := fun tm hl h6 => hQ tm hl ds h6 hds hwd hr
      rw [hq] at hfin
      generalize us.take off ++ ds ++ us.drop (off + (n + 1)) = cs at *
      rw [wpL_step]
      generalize hK : loopQ RT f101_3m S.length f101_3 Q = K
      simp [f101_3, List.replicate]
      subst hK
      exact hfin _ rfl rfl
    · have h1 : bo = 1 := by omega
      subst h1
      obtain ⟨wl, wt, w0, w2⟩ := win_take (us := us) (ds := ds) hoff hds
      have hge2 : X / val vs ≤ g := by
        have : X < (g + 1) * val vs := by
          rw [Nat.mul_one] at he
          omega
        have := (Nat.div_lt_iff_lt_mul hV).2 this
        omega
      have hwcs : Wd (us.take off ++ ds ++ us.drop (off + (n + 1))) := Wd.app (Wd.app (hus.take off) hwd) (hus.drop _)
      have hSl : (S.set b (.mu (wds (us.take off ++ ds ++ us.drop (off + (n + 1)))) true)).length = S.length := by simp
      have key := fun (Q' : FQ) hQ' => red_add (S := S.set b (.mu (wds (us.take off ++ ds ++ us.drop (off + (n + 1)))) true)) (b := b) (us := us.take off ++ ds ++ us.drop (off + (n + 1))) (vs := vs) (off := off) (n := n) (g := g) (bo := 1) (set_get hbl) hwcs hvs hn (by rw [wl]; exact hoff) (by rw [wl]; exact hlen) (Q := Q') hQ' (n + 1) 0 (by omega) [] 0 rfl Wd.nil (by omega) (by simp [val])
      rw [hSl, wl, wt, w0] at key
      simp only [List.set_set, List.append_nil, Nat.add_zero] at key
      have hdt : us.take off ++ (us.take off ++ ds ++ us.drop (off + (n + 1))).drop off = us.take off ++ ds ++ us.drop (off + (n + 1)) := by
        have hl : (us.take off).length = off := by rw [List.length_take]; omega
        rw [List.append_assoc, List.drop_append, List.drop_of_length_le (by omega), List.nil_append, hl, Nat.sub_self, List.drop_zero]
      rw [hdt] at key
      have hih := fun ds2 mo h => ih ds2 (1 - mo) (by omega) hge2 h
      generalize hcs : us.take off ++ ds ++ us.drop (off + (n + 1)) = cs at *
      have hg1 : ((g : Int) + 1 - 1) % 18446744073709551616 = (g : Int) := by
        have : B = 4294967296 := rfl
        omega
      have hg1' : (g : Int) % 18446744073709551616 = (g : Int) := by
        have : B = 4294967296 := rfl
        omega
      rw [wpL_step]
      generalize hK : loopQ RT f101_3m S.length f101_3 Q = K
      simp [f101_3, List.replicate, wrap_u64, hg1, hg1']
      simp [head, f101_2m, mask, trunc_len]
      simp [List.replicate] at key
      refine key _ ?_
      intro tm hl ds2 mo h0 h1 h6 h11 h13 hds2 hwd2 hmo he2
      have hlt2 := val_lt hwd2
      rw [hds2, hP] at hlt2
      rw [hP] at he2
      have hih2 := hih ds2 mo hds2 hwd2 (by omega) (by
        rw [Nat.succ_mul] at he
        have hm : mo = 0 ∨ mo = 1 := by omega
        rcases hm with rfl | rfl
        · simp only [Nat.mul_zero, Nat.add_zero, Nat.sub_zero, Nat.mul_one] at he2 he ⊢; omega
        · simp only [Nat.sub_self, Nat.mul_zero, Nat.mul_one, Nat.add_zero] at he2 he ⊢; omega)
      rw [w2]
      have hm1 : ((1 : Int) - (mo : Int)) % 4294967296 = ((1 - mo : Nat) : Int) := by omega
      simp [hl, h0, h1, h6, h11, h13, wrap_u32, hm1]
      subst hK
      simp only [loopQ_nrm, head]
      rw [mask_G (n := 141) (by simp [hl])]
      simp [f101_3m, hl, h0, h1, h6, maskG_t, maskG_f, maskG_nil, trunc_len]
      simpa [f101_3m, List.replicate] using hih2
theorem est_step {xt g vt v2 x2 rest Bv z y w : Nat} (hx : g * vt + rest = xt) (hz : z = rest * Bv) (hy : y = z + x2) (hw : w = g * v2) (c : y < w) : xt * Bv + x2 < g * (vt * Bv + v2) := by
  have h1 : g * (vt * Bv + v2) = g * vt * Bv + g * v2 := by rw [Nat.mul_add, Nat.mul_assoc]
  have h2 : xt * Bv = g * vt * Bv + rest * Bv := by rw [← hx, Nat.add_mul]
  rw [h1, h2]
  omega
theorem pred_mul' {g vt : Nat} (h : 1 ≤ g) : g * vt = (g - 1) * vt + vt := by
  obtain ⟨j, rfl⟩ : ∃ j, g = j + 1 := ⟨g - 1, by omega⟩
  rw [Nat.succ_mul]; rfl
theorem or_word {r x : Nat} (hr : r < B) (hx : x < B) : binA .or (.int .u64 ((r * 4294967296 : Nat) : Int)) (.int .u64 (x : Int)) = some (.int .u64 ((r * 4294967296 + x : Nat) : Int)) := by
  have hB : B = 4294967296 := rfl
  have h : r * 4294967296 ||| x = r * 4294967296 + x := by
    have := Nat.two_pow_add_eq_or_of_lt (i := 32) (b := x) hx r
    rw [Nat.mul_comm] at this
    exact this.symm
  rw [or_nat rfl (show r * 4294967296 < 2 ^ 64 by omega) (show x < 2 ^ 64 by omega), h]
theorem or_word' {r x y z : Nat} (hr : r < B) (hx : x < B) (hz : z = r * 4294967296) (hy : y = z + x) : binA .or (.int .u64 (z : Int)) (.int .u64 (x : Int)) = some (.int .u64 (y : Int)) := by
  subst hy hz
  exact or_word hr hx
set_option maxHeartbeats 2000000 in
set_option maxRecDepth 20000 in
theorem red_est {S : Store} {b : Nat} {us vs : List Nat} {off n X xt vt v2 x2 : Nat} (hS : S[b]? = some (.mu (wds us) true)) (hvs : Wd vs) (hn : vs.length = n) (hn2 : 2 ≤ n) (hoff : off + (n + 1) ≤ us.length) (hlen : us.length ≤ 2 * Lim)
    (hvt : vs[n - 1]? = some vt) (hv2 : vs[n - 2]? = some v2) (hx2 : us[off + (n - 2)]? = some x2) (hvt0 : 0 < vt) (hvtB : vt < B) (hv2B : v2 < B) (hx2B : x2 < B)
    (hV : (vt * B + v2) * B ^ (n - 2) ≤ val vs) (hX : X < (xt * B + x2 + 1) * B ^ (n - 2)) {Q : FQ}
    (hQ : ∀ (tm : List AV) (hl : tm.length = 141) (g : Nat), tm[0] = .msl b off (n + 1) 1 us.length none → tm[1] = .sl (wds vs) 1 false → tm[6] = .int .u64 (g : Int) → X / val vs ≤ g → g < B → Q (.ex 0) ⟨tm, S⟩) :
    ∀ (N g rest : Nat), g ≤ N → g < B → g * vt + rest = xt → X / val vs ≤ g → rest < 2 * B →
    wpL RT f101_0m S.length f101_0 ⟨[.msl b off (n + 1) 1 us.length none, .sl (wds vs) 1 false, .any, .any, .any, .int .i64 (n : Int), .int .u64 (g : Int), .any, .any, .int .u64 (rest : Int)] ++ List.replicate 131 .any, S⟩ Q := by
  have hL : Lim = 1099511627776 := rfl
  have hB : B = 4294967296 := rfl
  obtain ⟨k, rfl⟩ : ∃ k, n = k + 2 := ⟨n - 2, by omega⟩
  simp only [show k + 2 - 1 = k + 1 by omega, show k + 2 - 2 = k by omega] at hvt hv2 hx2 hV hX
  intro N
  induction N with
  | zero =>
    intro g rest hgN hgB hx hge hrB
    have hg0 : g = 0 := by omega
    subst hg0
    have hfin := fun tm hl h0 h1 h6 => hQ tm hl 0 h0 h1 h6 hge (by decide)
    by_cases c : (rest : Int) ≤ 4294967295
    · have e1 : IntKind.i64.wrap ((k : Int) + 2 - 2) = (k : Int) := by rw [wrap_i64 (by omega) (by omega)]; omega
      have e1' : IntKind.i64.wrap (k : Int) = (k : Int) := wrap_i64 (by omega) (by omega)
      have hv2' : vs[k] = v2 := (List.getElem?_eq_some_iff.1 hv2).2
      have hx2' : us[off + k]'(by omega) = x2 := (List.getElem?_eq_some_iff.1 hx2).2
      have hrd := rd_word (i := off + k) hS (rfl : us.length = us.length) (by omega)
      rw [hx2'] at hrd
      have f1 : (v2 : Int) % 18446744073709551616 = v2 := by omega
      have f2 : (x2 : Int) % 18446744073709551616 = x2 := by omega
      obtain ⟨z, hz⟩ : ∃ z, z = rest * 4294967296 := ⟨_, rfl⟩
      obtain ⟨y, hy⟩ : ∃ y, y = z + x2 := ⟨_, rfl⟩
      have f3 : (rest : Int) * 4294967296 % 18446744073709551616 = (z : Int) := by omega
      have hor := or_word' (r := rest) (x := x2) (by omega) hx2B hz hy
      have f4 : ¬ ((y : Int) < 0) := by omega
      have e4 : (k : Int) < (k : Int) + 2 + 1 := by omega
      have e5 : (k : Int) < (k : Int) + 2 := by omega
      rw [wpL_step]
      generalize hK : loopQ RT f101_0m S.length f101_0 Q = K
      simp [f101_0, List.replicate, c, e1, e1', hn, hv2', wrap_u64, f1, f3, IntKind.bits, e4, e5, hrd, f2, hor, f4]
      subst hK
      exact hfin _ rfl rfl rfl rfl
    · rw [wpL_step]
      generalize hK : loopQ RT f101_0m S.length f101_0 Q = K
      simp [f101_0, List.replicate, c]
      subst hK
      exact hfin _ rfl rfl rfl rfl
  | succ N ih =>
    intro g rest hgN hgB hx hge hrB
    have hfin := fun tm hl h0 h1 h6 => hQ tm hl g h0 h1 h6 hge hgB
    by_cases c : (rest : Int) ≤ 4294967295
    · have e1 : IntKind.i64.wrap ((k : Int) + 2 - 2) = (k : Int) := by rw [wrap_i64 (by omega) (by omega)]; omega
      have e1' : IntKind.i64.wrap (k : Int) = (k : Int) := wrap_i64 (by omega) (by omega)
      have e1b : IntKind.i64.wrap ((k : Int) + 2 - 1) = (k : Int) + 1 := by rw [wrap_i64 (by omega) (by omega)]; omega
      have e1b' : IntKind.i64.wrap ((k : Int) + 1) = (k : Int) + 1 := wrap_i64 (by omega) (by omega)
      have hv2' : vs[k] = v2 := (List.getElem?_eq_some_iff.1 hv2).2
      have hvt' : vs[k + 1] = vt := (List.getElem?_eq_some_iff.1 hvt).2
      have hx2' : us[off + k]'(by omega) = x2 := (List.getElem?_eq_some_iff.1 hx2).2
      have hrd := rd_word (i := off + k) hS (rfl : us.length = us.length) (by omega)
      rw [hx2'] at hrd
      have f1 : (v2 : Int) % 18446744073709551616 = v2 := by omega
      have f1b : (vt : Int) % 18446744073709551616 = vt := by omega
      have f2 : (x2 : Int) % 18446744073709551616 = x2 := by omega
      obtain ⟨z, hz⟩ : ∃ z, z = rest * 4294967296 := ⟨_, rfl⟩
      obtain ⟨y, hy⟩ : ∃ y, y = z + x2 := ⟨_, rfl⟩
      have f3 : (rest : Int) * 4294967296 % 18446744073709551616 = (z : Int) := by omega
      have hor := or_word' (r := rest) (x := x2) (by omega) hx2B hz hy
      have hgv : g * v2 ≤ (B - 1) * (B - 1) := Nat.mul_le_mul (by omega) (by omega)
      rw [hB] at hgv
      obtain ⟨w, hw⟩ : ∃ w, w = g * v2 := ⟨_, rfl⟩
      rw [← hw] at hgv
      have f5 : (g : Int) * (v2 : Int) % 18446744073709551616 = (w : Int) := by
        have : (g : Int) * (v2 : Int) = (w : Int) := by rw [hw]; push_cast; rfl
        rw [this]; omega
      have f6 : (rest : Int) + (vt : Int) < 18446744073709551616 := by omega
      have f7 : ((rest : Int) + (vt : Int)) % 18446744073709551616 = ((rest + vt : Nat) : Int) := by omega
      have e4 : (k : Int) < (k : Int) + 2 + 1 := by omega
      have e5 : (k : Int) < (k : Int) + 2 := by omega
      have e6 : (k : Int) + 1 < (k : Int) + 2 := by omega
      have e7 : ((k : Int) + 1).toNat = k + 1 := by omega
      have e8 : (0 : Int) ≤ (k : Int) + 1 := by omega
      by_cases c2 : y < w
      · have hg1 : 1 ≤ g := by
          refine Classical.byContradiction fun h => ?_
          have : g = 0 := by omega
          rw [this, Nat.zero_mul] at hw; omega
        have hzB : z = rest * B := by rw [hB]; exact hz
        have hst := est_step (Bv := B) hx hzB hy hw c2
        have hpos : 0 < vt * B + v2 := Nat.lt_of_lt_of_le (Nat.mul_pos hvt0 (by decide)) (Nat.le_add_right _ _)
        have hlt : X / val vs < g := est_lt hV hX hpos hst
        have hih := ih (g - 1) (rest + vt) (by omega) (by omega) (by
          rw [← hx, pred_mul' (vt := vt) hg1, Nat.add_assoc, Nat.add_comm vt rest]) (by omega) (by omega)
        have f8 : ((g : Int) - 1) % 18446744073709551616 = ((g - 1 : Nat) : Int) := by omega
        have f4 : (y : Int) < (w : Int) := by omega
        generalize rest + vt = rv at *
        generalize g - 1 = g1 at *
        rw [wpL_step]
        generalize hK : loopQ RT f101_0m S.length f101_0 Q = K
        simp [f101_0, List.replicate, c, e1, e1', e1b, e1b', hn, hv2', hvt', wrap_u64, f1, f1b, f3, f5, IntKind.bits, e4, e5, e6, e7, e8, hrd, f2, hor, f4, c2, f7, f8]
        subst hK
        simp [head, f101_0m, mask, trunc_len]
        simpa [f101_0m, List.replicate] using hih
      · have f4 : ¬ ((y : Int) < (w : Int)) := by omega
        rw [wpL_step]
        generalize hK : loopQ RT f101_0m S.length f101_0 Q = K
        simp [f101_0, List.replicate, c, e1, e1', hn, hv2', wrap_u64, f1, f3, f5, IntKind.bits, e4, e5, hrd, f2, hor, f4, c2]
        subst hK
        exact hfin _ rfl rfl rfl rfl
    · rw [wpL_step]
      generalize hK : loopQ RT f101_0m S.length f101_0 Q = K
      simp [f101_0, List.replicate, c]
      subst hK
      exact hfin _ rfl rfl rfl rfl
def f101T : AC :=
 ((.seq
      (.reg [⟨(some 10), .mv, [.c (.int .u64 0)], none⟩])
      ((.seq
       (.reg [⟨(some 11), .mv, [.c (.int .u32 0)], none⟩])
       ((.seq
        ((.seq
         (.reg [⟨(some 81), .mv, [.t 0], none⟩,
           ⟨(some 82), .len, [.t 81], none⟩,
           ⟨(some 83), .mv, [.c (.int .i64 0)], none⟩])
         (.block 2 (.loop f101_1m f101_1))))
        ((.seq
         (.block 4 (.loop f101_3m f101_3))
         ((.seq
          (.reg [⟨(some 139), .mv, [.t 6], none⟩,
            ⟨(some 140), .conv .u32, [.t 139], none⟩,
            ⟨(some 4), .mv, [.t 140], none⟩])
          (.ret)))))))))))
theorem f101_parts : f101 = ⟨2, 141, [.t 4],
 (.seq
  (.reg [⟨(some 4), .mv, [.c (.int .u32 0)], none⟩])
  ((.seq
   (.reg [⟨(some 15), .mv, [.t 1], none⟩,
     ⟨(some 16), .len, [.t 15], none⟩,
     ⟨(some 5), .mv, [.t 16], none⟩])
   ((.seq
    (.reg [⟨(some 6), .mv, [.c (.int .u64 4294967295)], none⟩])
    ((.seq
     ((.seq
      (.reg [⟨(some 17), .mv, [.t 0], none⟩,
        ⟨(some 18), .mv, [.t 5], none⟩,
        ⟨(some 19), .ias 1, [.t 17, .t 18], none⟩,
        ⟨(some 20), .load false 1, [.t 19], none⟩,
        ⟨(some 21), .mv, [.t 1], none⟩,
        ⟨(some 22), .mv, [.t 5], none⟩,
        ⟨(some 23), .bin .sub, [.t 22, .c (.int .i64 1)], none⟩,
        ⟨(some 24), .ias 1, [.t 21, .t 23], none⟩,
        ⟨(some 25), .load false 1, [.t 24], none⟩,
        ⟨(some 26), .bin .lss, [.t 20, .t 25], none⟩])
      (.cond (.t 26)
       ((.seq
        (.reg [⟨(some 28), .mv, [.t 0], none⟩,
          ⟨(some 29), .mv, [.t 5], none⟩,
          ⟨(some 30), .ias 1, [.t 28, .t 29], none⟩,
          ⟨(some 31), .load false 1, [.t 30], none⟩,
          ⟨(some 32), .mv, [.t 0], none⟩,
          ⟨(some 33), .mv, [.t 5], none⟩,
          ⟨(some 34), .bin .sub, [.t 33, .c (.int .i64 1)], none⟩,
          ⟨(some 35), .ias 1, [.t 32, .t 34], none⟩,
          ⟨(some 36), .load false 1, [.t 35], none⟩,
          ⟨(some 37), .mv, [.t 1], none⟩,
          ⟨(some 38), .mv, [.t 5], none⟩,
          ⟨(some 39), .bin .sub, [.t 38, .c (.int .i64 1)], none⟩,
          ⟨(some 40), .ias 1, [.t 37, .t 39], none⟩,
          ⟨(some 41), .load false 1, [.t 40], none⟩,
          ⟨(some 42), .call .pure true 107, [.t 31, .t 36, .t 41], none⟩,
          ⟨(some 27), .mv, [.t 42], none⟩,
          ⟨(some 43), .ext 0, [.t 27], none⟩,
          ⟨(some 44), .ext 1, [.t 27], none⟩,
          ⟨(some 7), .mv, [.t 43], none⟩,
          ⟨(some 8), .mv, [.t 44], none⟩])
        ((.seq
         (.reg [⟨(some 45), .mv, [.t 8], none⟩,
           ⟨(some 46), .conv .u64, [.t 45], none⟩,
           ⟨(some 9), .mv, [.t 46], none⟩])
         ((.seq
          (.reg [⟨(some 47), .mv, [.t 7], none⟩,
            ⟨(some 48), .conv .u64, [.t 47], none⟩,
            ⟨(some 6), .mv, [.t 48], none⟩])
          (.block 0 (.loop f101_0m f101_0))))))))
       (.skip))))
     f101T)))))))⟩ := rfl
theorem est_top {a P Bv x2 x1 xn : Nat} (ha : a < P) : a + P * x2 + P * Bv * x1 + P * Bv * Bv * xn < ((xn * Bv + x1) * Bv + x2 + 1) * P := by
  have h : ((xn * Bv + x1) * Bv + x2 + 1) * P = P * Bv * Bv * xn + P * Bv * x1 + P * x2 + P := by
    simp only [Nat.add_mul, Nat.one_mul]
    simp only [Nat.mul_comm, Nat.mul_left_comm, Nat.mul_assoc]
  rw [h]
  omega
def RedQ (S : Store) (b : Nat) (us vs : List Nat) (off n X : Nat) (r : AV) (S' : Store) : Prop :=
  r = .int .u32 ((X / val vs : Nat) : Int) ∧ ∃ ds : List Nat, ds.length = n + 1 ∧ Wd ds ∧ val ds = X % val vs ∧ S' = S.set b (.mu (wds (us.take off ++ ds ++ us.drop (off + (n + 1)))) true)
set_option maxHeartbeats 2000000 in
set_option maxRecDepth 20000 in
theorem red_tail {S : Store} {b : Nat} {us vs : List Nat} {off n X g : Nat} (hS : S[b]? = some (.mu (wds us) true)) (hus : Wd us) (hvs : Wd vs) (hn : vs.length = n) (hoff : off + (n + 1) ≤ us.length) (hlen : us.length ≤ 2 * Lim) (hV : 0 < val vs)
    (hX : val ((us.drop off).take (n + 1)) = X) (hge : X / val vs ≤ g) (hgB : g < B) (tm : List AV) (hl : tm.length = 141) (h0 : tm[0] = .msl b off (n + 1) 1 us.length none) (h1 : tm[1] = .sl (wds vs) 1 false) (h6 : tm[6] = .int .u64 (g : Int)) :
    wpE (run tab) f101T ⟨tm, S⟩ (retQ [.t 4] (RedQ S b us vs off n X)) := by
  have hB : B = 4294967296 := rfl
  have hbl := lt_of_get hS
  have e0 : S.set b (.mu (wds (us.take off ++ [] ++ us.drop (off + 0))) true) = S := by
    rw [List.append_nil, Nat.add_zero, List.take_append_drop]
    obtain ⟨h1, h2⟩ := List.getElem?_eq_some_iff.1 hS
    rw [← h2]; exact List.set_getElem_self h1
  have key := fun (Q' : FQ) hQ' => red_sub hS hus hvs hn hoff hgB hlen (Q := Q') hQ' (n + 1) 0 (by omega) [] 0 0 0 rfl Wd.nil (by decide) (by omega) (by simp) (by simp [val]) (by simp [val])
  rw [e0] at key
  simp [f101T, hl, h0, h1, h6]
  simp only [head]
  rw [mask_G (n := 141) (by simp [hl])]
  simp [f101_1m, hl, h0, h1, h6, maskG_t, maskG_f, maskG_nil, trunc_len]
  simp [List.replicate] at key
  refine key _ ?_
  intro tm2 hl2 ds bo k0 k1 k6 k11 hds hwd hbo he
  rw [hX] at he
  simp [hl2, k0, k1, k6, k11]
  simp only [head]
  rw [mask_G (n := 141) (by simp [hl2])]
  simp [f101_3m, hl2, k0, k1, k6, k11, maskG_t, maskG_f, maskG_nil, trunc_len]
  have key2 := fun (Q' : FQ) hQ' => red_back (P := B ^ (n + 1)) rfl hS hus hvs hn hoff hlen hV (X := X) (Q := Q') hQ' g ds bo hgB hge hds hwd hbo he
  have hqlt : X / val vs < 4294967296 := Nat.lt_of_le_of_lt hge hgB
  obtain ⟨q, hqq⟩ : ∃ q, X / val vs = q := ⟨_, rfl⟩
  rw [hqq] at key2 hqlt
  unfold RedQ
  rw [hqq]
  have f1 : (q : Int) % 4294967296 = (q : Int) := by omega
  simp [List.replicate] at key2
  refine key2 _ ?_
  intro tm3 hl3 ds2 m6 hds2 hwd2 hval
  simp [hl3, m6, wrap_u32, f1]
  exact ⟨ds2, hds2, hwd2, hval, by simp⟩
set_option maxHeartbeats 2000000 in
set_option maxRecDepth 20000 in
theorem run_reduce {S : Store} {b : Nat} {us vs : List Nat} {off n X vt : Nat} (hS : S[b]? = some (.mu (wds us) true)) (hus : Wd us) (hvs : Wd vs) (hn : vs.length = n) (hn2 : 2 ≤ n) (hoff : off + (n + 1) ≤ us.length) (hlen : us.length ≤ 2 * Lim)
    (hvt : vs[n - 1]? = some vt) (hvt0 : 0 < vt) (hX : val ((us.drop off).take (n + 1)) = X) (hXV : X < B * val vs) :
    wpF (run tab) 101 [.msl b off (n + 1) 1 us.length none, .sl (wds vs) 1 false] S (RedQ S b us vs off n X) := by
  have hL : Lim = 1099511627776 := rfl
  have hB : B = 4294967296 := rfl
  obtain ⟨k, rfl⟩ : ∃ k, n = k + 2 := ⟨n - 2, by omega⟩
  simp only [show k + 2 - 1 = k + 1 by omega] at hvt
  have hvtB := hvs.get hvt
  have hVge : B ^ (k + 1) * vt ≤ val vs := val_ge hvt
  have hV : 0 < val vs := Nat.lt_of_lt_of_le (Nat.mul_pos (Nat.pow_pos (by decide)) hvt0) hVge
  have ht := fun g => red_tail (X := X) (off := off) (g := g) hS hus hvs hn hoff hlen hV hX
  obtain ⟨xn, hxn⟩ : ∃ x, us[off + (k + 2)]? = some x := ⟨us[off + (k + 2)], List.getElem?_eq_getElem (by omega)⟩
  obtain ⟨x1, hx1⟩ : ∃ x, us[off + (k + 1)]? = some x := ⟨us[off + (k + 1)], List.getElem?_eq_getElem (by omega)⟩
  obtain ⟨x2, hx2⟩ : ∃ x, us[off + k]? = some x := ⟨us[off + k], List.getElem?_eq_getElem (by omega)⟩
  obtain ⟨v2, hv2⟩ : ∃ x, vs[k]? = some x := ⟨vs[k], List.getElem?_eq_getElem (by omega)⟩
  have hxnB := hus.get hxn
  have hx1B := hus.get hx1
  have hx2B := hus.get hx2
  have hv2B := hvs.get hv2
  have wn : ∀ j x, j ≤ k + 2 → us[off + j]? = some x → (us.drop off).getD j 0 = x := fun j x _ h => by rw [List.getD_eq_getElem?_getD, List.getElem?_drop, h]; rfl
  have s1 : val ((us.drop off).take (k + 2 + 1)) = val ((us.drop off).take (k + 1)) + B ^ (k + 1) * x1 + B ^ (k + 2) * xn := by
    rw [val_take_succ, wn _ _ (by omega) hxn, val_take_succ, wn _ _ (by omega) hx1]
  have s2 : val ((us.drop off).take (k + 1)) = val ((us.drop off).take k) + B ^ k * x2 := by rw [val_take_succ, wn _ _ (by omega) hx2]
  have b0 : val ((us.drop off).take k) < B ^ k := val_take_lt (hus.drop off) (by simp; omega)
  have sV : val vs = val (vs.take k) + B ^ k * (v2 + B * vt) := by
    rw [val_split hv2, List.drop_eq_getElem_cons (by omega), (List.getElem?_eq_some_iff.1 hvt).2, List.drop_of_length_le (by omega)]
    simp [val]
  have hVest : (vt * B + v2) * B ^ k ≤ val vs := by
    rw [sV, Nat.mul_comm _ (B ^ k), Nat.mul_comm vt B, Nat.add_comm v2]; omega
  have pw1 : B ^ (k + 1) = B ^ k * B := Nat.pow_succ ..
  have pw2 : B ^ (k + 2) = B ^ k * B * B := by rw [Nat.pow_succ, Nat.pow_succ]
  have hXest : X < ((xn * B + x1) * B + x2 + 1) * B ^ k := by
    rw [← hX, s1, s2, pw2, pw1]
    exact est_top b0
  have hge1 : xn < vt → X / val vs ≤ (xn * B + x1) / vt := fun _ => by
    refine est_le (k := k + 1) (by rw [Nat.mul_comm]; exact hVge) ?_ hvt0
    have : X < ((xn * B + x1) * B + B) * B ^ k := Nat.lt_of_lt_of_le hXest (Nat.mul_le_mul_right _ (by omega))
    have e : ((xn * B + x1) * B + B) * B ^ k = (xn * B + x1 + 1) * B ^ (k + 1) := by
      rw [← Nat.succ_mul, Nat.mul_assoc, Nat.pow_succ', Nat.succ_eq_add_one]
    rw [← e]; exact this
  have hgeM : X / val vs ≤ 4294967295 := by
    have := (Nat.div_lt_iff_lt_mul hV).2 hXV
    omega
  have r0 : rd S b (off + (k + 2)) us.length 1 = some [.int .u32 ((xn : Nat) : Int)] := by
    have := rd_word (i := off + (k + 2)) hS (rfl : us.length = us.length) (by omega)
    rw [(List.getElem?_eq_some_iff.1 hxn).2] at this; exact this
  have r1 : rd S b (off + (k + 1)) us.length 1 = some [.int .u32 ((x1 : Nat) : Int)] := by
    have := rd_word (i := off + (k + 1)) hS (rfl : us.length = us.length) (by omega)
    rw [(List.getElem?_eq_some_iff.1 hx1).2] at this; exact this
  have e1 : IntKind.i64.wrap ((k : Int) + 2 - 1) = (k : Int) + 1 := by rw [wrap_i64 (by omega) (by omega)]; omega
  have e1' : IntKind.i64.wrap ((k : Int) + 1) = (k : Int) + 1 := wrap_i64 (by omega) (by omega)
  have e2 : ((k : Int) + 2).toNat = k + 2 := by omega
  have e3 : ((k : Int) + 1).toNat = k + 1 := by omega
  have e4 : (k : Int) + 2 < (k : Int) + 2 + 1 := by omega
  have e5 : (0 : Int) ≤ (k : Int) + 2 := by omega
  have e6 : (0 : Int) ≤ (k : Int) + 1 := by omega
  have e7 : (k : Int) + 1 < (k : Int) + 2 := by omega
  have e8 : (k : Int) + 1 < (k : Int) + 2 + 1 := by omega
  have hvt' : vs[k + 1] = vt := (List.getElem?_eq_some_iff.1 hvt).2
  refine wpF_of tab_101 rfl ?_
  by_cases c : xn < vt
  · have hdiv := run_Div32 (h := xn) (l := x1) (d := vt) c hx1B hvtB
    obtain ⟨q, hq⟩ : ∃ q, q = (xn * B + x1) / vt := ⟨_, rfl⟩
    obtain ⟨r, hr⟩ : ∃ r, r = (xn * B + x1) % vt := ⟨_, rfl⟩
    rw [← hq, ← hr] at hdiv
    have hqr : q * vt + r = xn * B + x1 := by
      have := Nat.mod_add_div (xn * B + x1) vt
      rw [← hq, ← hr, Nat.mul_comm] at this
      omega
    have hqB : q < B := by
      rw [hq]
      refine Nat.div_lt_of_lt_mul ?_
      have : (xn + 1) * B ≤ vt * B := Nat.mul_le_mul_right _ c
      rw [Nat.succ_mul] at this
      omega
    have hrv : r < vt := by rw [hr]; exact Nat.mod_lt _ hvt0
    have hge : X / val vs ≤ q := by rw [hq]; exact hge1 c
    have f1 : (r : Int) % 18446744073709551616 = r := by omega
    have f2 : (q : Int) % 18446744073709551616 = q := by omega
    have key := fun (Q' : FQ) hQ' => red_est (n := k + 2) (X := X) (xt := xn * B + x1) (vt := vt) (v2 := v2) (x2 := x2) hS hvs hn hn2 hoff hlen hvt hv2 hx2 hvt0 hvtB hv2B hx2B (by simpa using hVest) (by simpa using hXest) (Q := Q') hQ' q q r (Nat.le_refl _) hqB hqr hge (by omega)
    rw [f101_parts]
    have c' : (xn : Int) < (vt : Int) := by omega
    have hT : f101T = f101T := rfl
    generalize f101T = T at *
    simp [enter, hn, e1, e1', e2, e3, e4, e5, e6, e7, e8, r0, r1, hvt', c, hdiv, after_nr, wrap_u64, f1, f2]
    simp [head, f101_0m, mask, trunc_len]
    simp [List.replicate] at key
    refine key _ ?_
    intro tm hl g h0 h1 h6 hgg hgB
    simp
    exact ht _ hgg hgB tm hl h0 h1 h6
  · have c' : ¬ (xn : Int) < (vt : Int) := by omega
    rw [f101_parts]
    generalize f101T = T at *
    simp [enter, hn, e1, e1', e2, e3, e4, e5, e6, e7, e8, r0, r1, hvt', c, after_nr, wrap_u64]
    refine ht _ hgeM (by decide) _ ?_ ?_ ?_ ?_ <;> rfl
theorem val_take_all {l : List Nat} (hl : Wd l) {n : Nat} (h : val l < B ^ n) : val (l.take n) = val l := by
  by_cases hn : l.length ≤ n
  · rw [List.take_of_length_le hn]
  · have hs : val l = val (l.take n) + B ^ n * val (l.drop n) := by
      conv => lhs; rw [← List.take_append_drop n l, val_append, List.length_take, Nat.min_eq_left (by omega)]
    have h0 : val (l.drop n) = 0 := by
      refine Classical.byContradiction fun hne => ?_
      have : B ^ n * 1 ≤ B ^ n * val (l.drop n) := Nat.mul_le_mul_left _ (by omega)
      omega
    rw [hs, h0]; simp
theorem val_drop_zero {l : List Nat} (hl : Wd l) {n : Nat} (h : val l < B ^ n) : val (l.drop n) = 0 := by
  by_cases hn : l.length ≤ n
  · rw [List.drop_of_length_le hn]; rfl
  · have hs : val l = val (l.take n) + B ^ n * val (l.drop n) := by
      conv => lhs; rw [← List.take_append_drop n l, val_append, List.length_take, Nat.min_eq_left (by omega)]
    refine Classical.byContradiction fun hne => ?_
    have : B ^ n * 1 ≤ B ^ n * val (l.drop n) := Nat.mul_le_mul_left _ (by omega)
    omega
theorem val_drop_step {l : List Nat} {k : Nat} (h : k < l.length) : val (l.drop k) = l[k] + B * val (l.drop (k + 1)) := by
  rw [List.drop_eq_getElem_cons h]; rfl
set_option maxHeartbeats 2000000 in
set_option maxRecDepth 20000 in
theorem div_loop {u0 vs : List Nat} {m n L vt V : Nat} (hu0 : Wd u0) (hvs : Wd vs) (hn : vs.length = n) (hn2 : 2 ≤ n) (hL0 : u0.length = L) (hm : m + n = L) (hLl : L ≤ 2 * Lim) (hvt : vs[n - 1]? = some vt) (hvt0 : 0 < vt) (hVv : val vs = V) (hVn : V < B ^ n) (hV : 0 < V) {x8 : AV} {Q : FQ}
    (hQ : ∀ (tm : List AV) (hl : tm.length = 84) (us qs : List Nat), tm[8] = x8 → tm[9] = .msl 0 0 L 1 L none → tm[11] = .msl 1 0 m 1 m none → us.length = L → Wd us → qs.length = m → Wd qs → val us = val u0 % V → val qs = val u0 / V → Q (.ex 0) ⟨tm, [.mu (wds us) true, .mu (wds qs) true]⟩) :
    ∀ (k : Nat), k ≤ m → ∀ (us ds : List Nat), us.length = L → Wd us → us.take k = u0.take k → val (us.drop k) = val (u0.drop k) % V → ds.length = m - k → Wd ds → val ds = val (u0.drop k) / V →
    wpL RT f94_0m 2 f94_0 ⟨[.any, .any, .any, .any, .any, .any, .any, .any, x8, .msl 0 0 L 1 L none, .sl (wds vs) 1 false, .msl 1 0 m 1 m none] ++ List.replicate 43 .any ++ [.int .i64 (m : Int), .int .i64 ((m : Int) - (k : Int))] ++ List.replicate 27 .any,
      [.mu (wds us) true, .mu (wds (List.replicate k 0 ++ ds)) true]⟩ Q := by
  have hLim : Lim = 1099511627776 := rfl
  have hB : B = 4294967296 := rfl
  intro k
  induction k with
  | zero =>
    intro hk us ds hus hwus htk hdk hdl hwd hdv
    simp only [List.drop_zero] at hdk hdv
    have hfin := fun tm hl h8 h9 h11 => hQ tm hl us (List.replicate 0 0 ++ ds) h8 h9 h11 hus hwus (by simp [hdl]) (Wd.app (Wd.rep (by decide)) hwd) hdk (by simpa using hdv)
    generalize List.replicate 0 0 ++ ds = qs at *
    have e : (m : Int) - ((0 : Nat) : Int) = (m : Int) := by omega
    rw [e]
    rw [wpL_step]
    generalize hK : loopQ RT f94_0m 2 f94_0 Q = K
    simp [f94_0, List.replicate]
    subst hK
    exact hfin _ rfl rfl rfl rfl
  | succ k ih =>
    intro hk us ds hus hwus htk hdk hdl hwd hdv
    have hkL : k < us.length := by omega
    have hkL0 : k < u0.length := by omega
    have huk : us[k] = u0[k] := by
      have h1 : (us.take (k + 1))[k]? = (u0.take (k + 1))[k]? := by rw [htk]
      rw [List.getElem?_take_of_lt (by omega), List.getElem?_take_of_lt (by omega), List.getElem?_eq_getElem hkL, List.getElem?_eq_getElem hkL0] at h1
      exact Option.some.inj h1
    have htk' : us.take k = u0.take k := by
      have := congrArg (List.take k) htk
      rwa [List.take_take, List.take_take, Nat.min_eq_left (by omega)] at this
    have hwB : us[k] < B := hwus us[k] (List.getElem_mem hkL)
    have hsu := val_drop_step hkL
    have hsu0 := val_drop_step hkL0
    rw [← huk] at hsu0
    have hrV : val (u0.drop (k + 1)) % V < V := Nat.mod_lt _ hV
    generalize hA : val (u0.drop (k + 1)) = A at *
    rw [hdk] at hsu
    have hX : val ((us.drop k).take (n + 1)) = us[k] + B * (A % V) := by
      rw [val_take_all (hwus.drop k) ?_, hsu]
      rw [hsu, Nat.pow_succ']
      have : B * (A % V + 1) ≤ B * B ^ n := Nat.mul_le_mul_left _ (by omega)
      rw [Nat.mul_add] at this
      omega
    have hXV : us[k] + B * (A % V) < B * val vs := by
      rw [hVv]
      have : B * (A % V + 1) ≤ B * V := Nat.mul_le_mul_left _ (by omega)
      rw [Nat.mul_add] at this
      omega
    have hrest0 : val (us.drop (k + (n + 1))) = 0 := by
      have h1 : val (us.drop (k + 1)) < B ^ n := by rw [hdk]; omega
      have := val_drop_zero (hwus.drop (k + 1)) h1
      rwa [List.drop_drop, show k + 1 + n = k + (n + 1) by omega] at this
    have hred := run_reduce (S := [.mu (wds us) true, .mu (wds (List.replicate (k + 1) 0 ++ ds)) true]) (b := 0) (us := us) (vs := vs) (off := k) (n := n) rfl hwus hvs hn hn2 (by omega) (by omega) hvt hvt0 hX hXV
    rw [hus] at hred
    have hdm : (us[k] + B * A) % V = (us[k] + B * (A % V)) % V := by
      rw [Nat.add_mod, Nat.mul_mod, Nat.add_mod us[k] (B * (A % V)), Nat.mul_mod B (A % V), Nat.mod_mod]
    have hdd : (us[k] + B * A) / V = B * (A / V) + (us[k] + B * (A % V)) / V := by
      have e : us[k] + B * A = (us[k] + B * (A % V)) + V * (B * (A / V)) := by
        have h1 : B * A = B * (A % V + V * (A / V)) := by rw [Nat.mod_add_div]
        rw [h1, Nat.mul_add, Nat.add_assoc, ← Nat.mul_assoc, ← Nat.mul_assoc, Nat.mul_comm B V]
      rw [e, Nat.add_mul_div_left _ _ hV, Nat.add_comm]
    generalize hXX : us[k] + B * (A % V) = X at *
    have hqB : X / V < B := by
      rw [hVv] at hXV
      exact (Nat.div_lt_iff_lt_mul hV).2 hXV
    rw [← hsu0] at hdm hdd
    have e1 : (m : Int) - ((k + 1 : Nat) : Int) < (m : Int) := by omega
    have e2 : IntKind.i64.wrap (IntKind.i64.wrap ((m : Int) - 1) - ((m : Int) - ((k + 1 : Nat) : Int))) = (k : Int) := by
      rw [wrap_i64 (n := (m : Int) - 1) (by omega) (by omega), wrap_i64 (by omega) (by omega)]; omega
    have e3 : IntKind.i64.wrap (IntKind.i64.wrap ((k : Int) + (n : Int)) + 1) = (k : Int) + (n : Int) + 1 := by
      rw [wrap_i64 (n := (k : Int) + (n : Int)) (by omega) (by omega), wrap_i64 (by omega) (by omega)]
    have e4 : IntKind.i64.wrap ((m : Int) - ((k + 1 : Nat) : Int) + 1) = (m : Int) - (k : Int) := by rw [wrap_i64 (by omega) (by omega)]; omega
    have hsl : sliceA 1 true true false (.msl 0 0 L 1 L none) [.int .i64 (k : Int), .int .i64 ((k : Int) + (n : Int) + 1)] = some (.msl 0 k (n + 1) 1 L none) := by
      have b1 : bound L (.int .i64 ((k : Int) + (n : Int) + 1)) = some (k + n + 1) := by
        simp only [bound]
        rw [chk_pos (by omega)]; congr 1
      have b2 : bound (k + n + 1) (.int .i64 (k : Int)) = some k := by
        simp only [bound]
        rw [chk_pos (by omega)]; rfl
      have e5 : k + n + 1 - k = n + 1 := by omega
      have e6 : k + n + 1 ≤ L := by omega
      simp [sliceA, bounds, chk, b1, b2, capAt, e5, e6]
    have hqg : (List.replicate (k + 1) 0 ++ ds).set k (X / V) = List.replicate k 0 ++ (X / V :: ds) := by
      rw [List.replicate_succ', List.append_assoc, List.set_append_right _ _ (by simp), List.length_replicate, Nat.sub_self]; rfl
    have hqs : ((List.replicate (k + 1) 0 ++ ds)).length = m := by simp [hdl]; omega
    generalize hq0 : List.replicate (k + 1) 0 ++ ds = qs at *
    rw [wpL_step]
    generalize hK : loopQ RT f94_0m 2 f94_0 Q = K
    have hkm : k < m := by omega
    have hkmI : (k : Int) < (m : Int) := by omega
    have hne : ¬ (m : Int) - ((k : Int) + 1) = (m : Int) := by omega
    push_cast at e1 e2 e4
    simp [f94_0, List.replicate, e1, e2, hn]
    simp [e3, hsl]
    refine contQ_sh (wpF_mono hred ?_)
    rintro r S' ⟨rfl, ds2, hds2, hwd2, hval2, rfl⟩
    rw [hVv] at hval2
    rw [hVv]
    have hl1 : (us.take k).length = k := by rw [List.length_take]; omega
    have hus2 : (us.take k ++ ds2 ++ us.drop (k + (n + 1))).length = L := by simp [hds2]; omega
    have hwus2 : Wd (us.take k ++ ds2 ++ us.drop (k + (n + 1))) := Wd.app (Wd.app (hwus.take k) hwd2) (hwus.drop _)
    have hd2 : (us.take k ++ ds2 ++ us.drop (k + (n + 1))).drop k = ds2 ++ us.drop (k + (n + 1)) := by
      rw [List.append_assoc, List.drop_append, List.drop_of_length_le (by omega), List.nil_append, hl1, Nat.sub_self, List.drop_zero]
    have ht2 : (us.take k ++ ds2 ++ us.drop (k + (n + 1))).take k = u0.take k := by
      rw [List.append_assoc, List.take_append, hl1, Nat.sub_self, List.take_zero, List.append_nil, List.take_of_length_le (by omega), htk']
    have hih := ih (by omega) (us.take k ++ ds2 ++ us.drop (k + (n + 1))) (X / V :: ds) hus2 hwus2 ht2 (by
      rw [hd2, val_append, hrest0, Nat.mul_zero, Nat.add_zero, hval2, hdm]) (by simp [hdl]; omega) (Wd.mk hqB hwd) (by
      rw [hdd, ← hdv]
      show X / V + B * val ds = B * val ds + X / V
      omega)
    rw [← hqg] at hih
    generalize us.take k ++ ds2 ++ us.drop (k + (n + 1)) = us2 at *
    generalize X / V = q at *
    have hwr := wr_word (S := [.mu (wds us2) true, .mu (wds qs) true]) (b := 1) (i := k) (vl := m) (w := q) rfl hqs.symm (by omega)
    simp at hwr
    simp [trunc_len, hkmI, hwr, e4]
    subst hK
    simp [head, f94_0m, mask, trunc_len]
    simpa [f94_0m, List.replicate] using hih
theorem size_shift {y s n w : Nat} (hn : (dig y).length = n) (hn1 : 1 ≤ n) (hw : (dig y)[n - 1]? = some w) (hws : w * 2 ^ s < B) (hw0 : 0 < w) (hs : s < 32) : (dig (y * 2 ^ s)).length = n := by
  obtain ⟨k, rfl⟩ : ∃ k, n = k + 1 := ⟨n - 1, by omega⟩
  have e : k + 1 - 1 = k := by omega
  rw [e] at hw
  have hps : 0 < 2 ^ s := Nat.two_pow_pos s
  have hy0 : y ≠ 0 := fun h => by rw [h] at hn; simp at hn
  have hsp := val_split hw
  rw [val_dig, List.drop_of_length_le (by omega)] at hsp
  have hlt : val ((dig y).take k) < B ^ k := val_take_lt (dig_wd y) (by omega)
  have hsB : B = 2 ^ s * 2 ^ (32 - s) := by rw [← Nat.pow_add, show s + (32 - s) = 32 by omega]
  have hup : (w + 1) * 2 ^ s ≤ B := by
    rw [hsB, Nat.mul_comm (2 ^ s)] at hws ⊢
    exact Nat.mul_le_mul_right _ (Nat.lt_of_mul_lt_mul_right hws)
  have hvn : val ([] : List Nat) = 0 := rfl
  rw [hvn, Nat.mul_zero, Nat.add_zero] at hsp
  have hyu : y < (w + 1) * B ^ k := by
    rw [Nat.succ_mul, Nat.mul_comm w]
    generalize B ^ k = P at *
    omega
  have h1 : y * 2 ^ s < B ^ (k + 1) := by
    have h2 : y * 2 ^ s < (w + 1) * B ^ k * 2 ^ s := Nat.mul_lt_mul_of_pos_right hyu hps
    have h3 : (w + 1) * B ^ k * 2 ^ s = (w + 1) * 2 ^ s * B ^ k := by rw [Nat.mul_assoc, Nat.mul_comm (B ^ k), ← Nat.mul_assoc]
    rw [h3] at h2
    refine Nat.lt_of_lt_of_le h2 ?_
    rw [Nat.pow_succ, Nat.mul_comm (B ^ k)]
    exact Nat.mul_le_mul_right _ hup
  have h4 : size (y * 2 ^ s) ≤ k + 1 := size_le h1
  have h5 : size y ≤ size (y * 2 ^ s) := size_mono (Nat.le_mul_of_pos_right _ hps)
  unfold size at h4 h5
  omega
set_option maxHeartbeats 2000000 in
set_option maxRecDepth 20000 in
theorem run_div {x y : Nat} (hx : size x < Lim) (hy : size y < Lim) (hy0 : y ≠ 0) : callPure RT 94 [N x, N y] = some (.tup [N (x / y), N (x % y)]) := by
  have hL : Lim = 1099511627776 := rfl
  have hB : B = 4294967296 := rfl
  have hcmp := run_ncmp (x := x) (y := y) (by omega)
  unfold size at hx hy
  by_cases c1 : x < y
  · have hc : cmpI x y = -1 := by unfold cmpI; rw [if_pos (by omega)]
    rw [hc] at hcmp
    rw [Nat.div_eq_of_lt c1, Nat.mod_eq_of_lt c1]
    have hN0 : N 0 = .sl [] 1 false := by simp [N, W]
    rw [hN0]
    refine callPure_of (wpF_of tab_94 rfl ?_)
    simp [f94, enter, hcmp, after_nr]
  · have hc : ¬ cmpI x y < 0 := by
      unfold cmpI
      rw [if_neg (by omega)]
      split <;> decide
    have hn1 : 1 ≤ (dig y).length := by
      refine Classical.byContradiction fun h => hy0 ?_
      exact dig_nil.1 (List.eq_nil_of_length_eq_zero (by omega))
    by_cases c2 : (dig y).length = 1
    · obtain ⟨d, hd⟩ : ∃ d, dig y = [d] := by
        match h : dig y, c2 with
        | [d], _ => exact ⟨d, rfl⟩
      have hdy : y = d := by
        have := val_dig y
        rw [hd] at this
        simpa [val] using this.symm
      have hdB : d < B := dig_wd y d (by rw [hd]; simp)
      have hd0 : 0 < d := by omega
      have hw := run_word (x := x) (d := d) (by unfold size; omega) hdB hd0
      have hr : x % d < B := Nat.lt_trans (Nat.mod_lt _ hd0) hdB
      have hn := run_norm (ws := [x % d]) (t := false) (Wd.mk hr Wd.nil) (by simp)
      have hv : val [x % d] = x % d := by simp [val]
      rw [hv] at hn
      rw [hdy] at hcmp hc ⊢
      have hd' : dig d = [d] := by rw [← hd, hdy]
      obtain ⟨xd, hxd⟩ : ∃ q, x / d = q := ⟨_, rfl⟩
      obtain ⟨xm, hxm⟩ : ∃ q, x % d = q := ⟨_, rfl⟩
      rw [hxd, hxm] at hw
      rw [hxm] at hn
      rw [hxd, hxm]
      have hNd : N d = .sl [.int .u32 (d : Int)] 1 false := by simp [N, W, hd']
      rw [hNd] at hcmp ⊢
      refine callPure_of (wpF_of tab_94 rfl ?_)
      simp [f94, enter, hcmp, hc, after_nr, hw, opA_litn, fillE, elt]
      rw [wds_one] at hn
      simp [hn, after_nr]
    · have hn2 : 2 ≤ (dig y).length := by omega
      obtain ⟨w, hw⟩ : ∃ w, (dig y)[(dig y).length - 1]? = some w := ⟨(dig y)[(dig y).length - 1], List.getElem?_eq_getElem (by omega)⟩
      have hwB := (dig_wd y).get hw
      have hw0 : 0 < w := by
        have := dig_top y w (by rw [List.getLast?_eq_getElem?]; exact hw)
        omega
      obtain ⟨s, hs, hlz, hws, _⟩ := run_LeadingZeros32 hwB hw0
      obtain ⟨out, ho1, ho2, ho3, _, hown⟩ := run_shlP (x := x) (s := s) (by unfold size; omega) hs
      obtain ⟨out2, ho4, ho5, ho6, hpure, _⟩ := run_shlP (x := y) (s := s) (by unfold size; omega) hs
      have hVl := size_shift rfl hn1 hw hws hw0 hs
      unfold size at ho1 ho4
      have hnorm := run_norm (ws := out2) (t := false) ho5 (by omega)
      rw [ho6] at hnorm
      have hps : 0 < 2 ^ s := Nat.two_pow_pos s
      have hVpos : 0 < y * 2 ^ s := Nat.mul_pos (by omega) hps
      have hVlt : y * 2 ^ s < B ^ (dig y).length := by
        have := lt_size (y * 2 ^ s)
        unfold size at this
        rwa [hVl] at this
      obtain ⟨vt, hvt⟩ : ∃ vt, (dig (y * 2 ^ s))[(dig y).length - 1]? = some vt := ⟨(dig (y * 2 ^ s))[(dig y).length - 1]'(by omega), List.getElem?_eq_getElem (by omega)⟩
      have hvt0 : 0 < vt := by
        have := dig_top (y * 2 ^ s) vt (by rw [List.getLast?_eq_getElem?, hVl]; exact hvt)
        omega
      have hdiv2 : x * 2 ^ s / (y * 2 ^ s) = x / y := Nat.mul_div_mul_right _ _ hps
      have hmod2 : x * 2 ^ s % (y * 2 ^ s) / 2 ^ s = x % y := by rw [Nat.mul_mod_mul_right, Nat.mul_div_cancel _ hps]
      have hshr := run_shr (x := x * 2 ^ s % (y * 2 ^ s)) (s := s) (by
        have h1 : x * 2 ^ s % (y * 2 ^ s) < B ^ (dig y).length := Nat.lt_trans (Nat.mod_lt _ hVpos) hVlt
        have := size_le h1
        omega) hs
      rw [hmod2] at hshr
      have hxy : (dig y).length ≤ (dig x).length := size_mono (by omega)
      have htop : val (out.drop (out.length - (dig y).length)) < y * 2 ^ s := by
        have hsp : val out = val (out.take (out.length - (dig y).length)) + B ^ (out.length - (dig y).length) * val (out.drop (out.length - (dig y).length)) := by
          conv => lhs; rw [← List.take_append_drop (out.length - (dig y).length) out, val_append, List.length_take, Nat.min_eq_left (by omega)]
        have hxl : x < B ^ (dig x).length := lt_size x
        have hyl : B ^ ((dig y).length - 1) ≤ y := le_of_size hy0
        have hpw : B ^ (dig x).length = B ^ ((dig y).length - 1) * B ^ (out.length - (dig y).length) := by
          rw [← Nat.pow_add]; congr 1; omega
        have h1 : x < y * B ^ (out.length - (dig y).length) := by
          rw [hpw] at hxl
          exact Nat.lt_of_lt_of_le hxl (Nat.mul_le_mul_right _ hyl)
        have h2 : val out < y * 2 ^ s * B ^ (out.length - (dig y).length) := by
          rw [ho3, Nat.mul_assoc, Nat.mul_comm (2 ^ s), ← Nat.mul_assoc]
          exact Nat.mul_lt_mul_of_pos_right h1 hps
        have h3 : B ^ (out.length - (dig y).length) * val (out.drop (out.length - (dig y).length)) < y * 2 ^ s * B ^ (out.length - (dig y).length) := Nat.lt_of_le_of_lt (by rw [hsp]; exact Nat.le_add_left _ _) h2
        rw [Nat.mul_comm] at h3
        exact Nat.lt_of_mul_lt_mul_right h3
      obtain ⟨m, hm⟩ : ∃ m, m = out.length - (dig y).length := ⟨_, rfl⟩
      rw [← hm] at htop
      have key := fun (Q' : FQ) hQ' => div_loop (u0 := out) (vs := dig (y * 2 ^ s)) (m := m) (n := (dig y).length) (L := out.length) (vt := vt) (V := y * 2 ^ s) (x8 := .int .i64 (s : Int)) ho2 (dig_wd _) hVl hn2 rfl (by omega) (by omega) hvt hvt0 (val_dig _) hVlt hVpos (Q := Q') hQ' m (Nat.le_refl _) out [] rfl ho2 rfl (Nat.mod_eq_of_lt htop).symm (by simp) Wd.nil (by rw [Nat.div_eq_of_lt htop]; rfl)
      rw [ho3, hdiv2] at key
      generalize hU : x * 2 ^ s % (y * 2 ^ s) = R at *
      generalize hVV : y * 2 ^ s = V at *
      generalize x / y = xd at *
      generalize x % y = xm at *
      have hOl : (out.length : Int) ≤ 281474976710656 := by omega
      have hyl2 : (dig y).length - 1 < (dig y).length := by omega
      have hwy : (dig y)[(dig y).length - 1] = w := (List.getElem?_eq_some_iff.1 hw).2
      have e1 : IntKind.i64.wrap (((dig y).length : Int) - 1) = (((dig y).length - 1 : Nat) : Int) := by rw [wrap_i64 (by omega) (by omega)]; omega
      have e2 : (((dig y).length - 1 : Nat) : Int) < ((dig y).length : Int) := by omega
      have e3 : IntKind.i64.wrap ((out.length : Int) - ((dig y).length : Int)) = (m : Int) := by rw [wrap_i64 (by omega) (by omega)]; omega
      have hroom : room m 4 := by unfold room; omega
      have hm2 : (m : Int) ≤ 281474976710656 := by omega
      have c2' : ¬ ((dig y).length : Int) = 1 := by omega
      generalize (dig y).length - 1 = j at *
      refine callPure_of (wpF_of tab_94 rfl ?_)
      have hml : 0 ≤ (m : Int) := by omega
      simp [f94, enter, hcmp, hc, after_nr, c2', c2, e1, e2, hw, hwy, hlz, hown, land, land1, hpure, hnorm, hVl, e3, hroom, hm2]
      simp only [head]
      rw [mask_G (n := 84) (by simp)]
      simp [f94_0m, maskG_t, maskG_f, maskG_nil, trunc_len]
      have hrep : List.replicate m (AV.int .u32 0) = wds (List.replicate m 0 ++ []) := by rw [List.append_nil]; exact wds_rep m 0
      rw [hrep]
      generalize hC : wds (List.replicate m 0 ++ []) = C at *
      simp [List.replicate] at key
      refine key _ ?_
      intro tm hl us qs h8 h9 h11 hus hwus hqs hwqs hvu hvq
      have hn1 := run_norm (ws := qs) (t := false) hwqs (by omega)
      have hn2 := run_norm (ws := us) (t := false) hwus (by omega)
      rw [hvq] at hn1
      rw [hvu] at hn2
      have hf1 : fzc [.mu (wds us) true, .mu (wds qs) true] (5 + 1) (.msl 1 0 m 1 m none) = some (W qs) := by
        have := fzc_mslv (S := [.mu (wds us) true, .mu (wds qs) true]) (b := 1) (n := m) (vl := m) (cap := none) (fuel := 5) rfl hqs.symm (by omega)
        rwa [List.take_of_length_le (by omega)] at this
      have hf2 : fzc [.mu (wds us) true, .fz (wds qs)] (5 + 1) (.msl 0 0 out.length 1 out.length none) = some (W us) := by
        have := fzc_mslv (S := [.mu (wds us) true, .fz (wds qs)]) (b := 0) (n := out.length) (vl := out.length) (cap := none) (fuel := 5) rfl hus.symm (by omega)
        rwa [List.take_of_length_le (by omega)] at this
      have ha1 := fun r hr => after_row (S := [.mu (wds us) true, .mu (wds qs) true]) (b := 1) (off := 0) (n := m) (vl := m) (cap := none) (r := r) rfl hr
      have ha2 := fun r hr => after_row (S := [.mu (wds us) true, .fz (wds qs)]) (b := 0) (off := 0) (n := out.length) (vl := out.length) (cap := none) (r := r) rfl hr
      have ha1' := ha1 (N xd) rfl
      have ha2' := ha2 (N R) rfl
      simp [hl, h8, h9, h11, hf1, hn1, ha1']
      simp [hl, h8, h9, h11, hf2, hn2, ha2', hshr, after_nr]
theorem size_le_of {a b : Nat} (h : a ≤ b) {k : Nat} (hk : size b < k) : size a < k := Nat.lt_of_le_of_lt (size_mono h) hk
theorem ediv_of {i j r q : Int} (hj : j ≠ 0) (h : i = r + j * q) (h0 : 0 ≤ r) (h1 : r < (j.natAbs : Int)) : i % j = r ∧ i / j = q := by
  have h2 : i % j = r := by
    rcases Int.lt_trichotomy j 0 with hn | hz | hp
    · rw [h, Int.add_mul_emod_self_left]
      have : j = -(j.natAbs : Int) := by omega
      rw [this, Int.emod_neg, Int.emod_eq_of_lt h0 h1]
    · exact absurd hz hj
    · rw [h, Int.add_mul_emod_self_left, Int.emod_eq_of_lt h0 (by omega)]
  refine ⟨h2, ?_⟩
  have h4 := Int.emod_add_mul_ediv i j
  rw [h2] at h4
  have h5 : j * (i / j) = j * q := by omega
  exact Int.eq_of_mul_eq_mul_left hj h5
set_option maxHeartbeats 1000000 in
theorem run_DivMod {i j : Int} (hi : zsize i < Lim) (hj : zsize j < Lim) (hj0 : j ≠ 0) : callPure RT 88 [Z i, Z j] = some (.tup [Z (i / j), Z (i % j), .int .i64 0]) := by
  have hL : Lim = 1099511627776 := rfl
  obtain ⟨x, hx⟩ : ∃ x, x = i.natAbs := ⟨_, rfl⟩
  obtain ⟨y, hy⟩ : ∃ y, y = j.natAbs := ⟨_, rfl⟩
  have hxs : size x < Lim := by rw [hx]; exact hi
  have hys : size y < Lim := by rw [hy]; exact hj
  have hy0 : y ≠ 0 := by omega
  have hd := run_div hxs hys hy0
  have hylen : ¬ (dig y).length = 0 := fun h => hy0 (dig_nil.1 (List.eq_nil_of_length_eq_zero h))
  have hyne : dig y ≠ [] := fun h => hylen (by rw [h]; rfl)
  have hq : size (x / y) < Lim := size_le_of (Nat.div_le_self x y) hxs
  have hrlt : x % y < y := Nat.mod_lt _ (by omega)
  have hr : size (x % y) < Lim := size_le_of (Nat.le_of_lt hrlt) hys
  have hdm := Nat.mod_add_div x y
  obtain ⟨q, hqe⟩ : ∃ q, q = x / y := ⟨_, rfl⟩
  obtain ⟨r, hre⟩ : ∃ r, r = x % y := ⟨_, rfl⟩
  rw [← hqe, ← hre] at hd hdm
  rw [← hqe] at hq
  rw [← hre] at hr hrlt
  have hI : i = if i < 0 then -(x : Int) else (x : Int) := by split <;> omega
  have hJ : j = if j < 0 then -(y : Int) else (y : Int) := by split <;> omega
  have hxI : (x : Int) = (r : Int) + (y : Int) * (q : Int) := by rw [← hdm]; push_cast; rfl
  have hsz1 : size 1 ≤ 1 := size_le (by decide)
  have hrl : (dig r).length = 0 ↔ r = 0 := ⟨fun h => dig_nil.1 (List.eq_nil_of_length_eq_zero h), fun h => by rw [h]; simp⟩
  have hb : AV.agg [.bool (decide (i < 0)), N x] = Z i := by rw [hx]; rfl
  have hb2 : AV.agg [.bool (decide (j < 0)), N y] = Z j := by rw [hy]; rfl
  by_cases c : i < 0 ∧ r ≠ 0
  · obtain ⟨ci, cr⟩ := c
    have hs1 := run_signedN (n := q + 1) (t := false) (neg := (decide (i < 0) != decide (j < 0))) (by
      have := size_add_le (x := q) (y := 1) (k := Lim - 1) (by omega) (by omega)
      omega)
    have hs2 := run_signedN (n := y - r) (t := false) (neg := false) (Nat.le_of_lt (size_le_of (Nat.sub_le y r) hys))
    have hadd := run_nadd (x := q) (y := 1) (by omega) (by omega)
    have hsub := run_nsub (x := y) (y := r) (by omega) (by omega)
    have h1 : callPure RT 83 [.int .u64 1] = some (N 1) := run_natural (n := 1) (by decide)
    have hir : i = -(x : Int) := by rw [if_pos ci] at hI; exact hI
    have hyr : ((y - r : Nat) : Int) = (y : Int) - (r : Int) := by omega
    have hem := ediv_of (i := i) (j := j) (r := ((y - r : Nat) : Int)) (q := if (decide (i < 0) != decide (j < 0)) = true then -((q + 1 : Nat) : Int) else ((q + 1 : Nat) : Int)) hj0 (by
      by_cases cj : j < 0
      · have hjr : j = -(y : Int) := by rw [if_pos cj] at hJ; exact hJ
        have e : (decide (i < 0) != decide (j < 0)) = false := by simp [ci, cj]
        rw [e, hyr, if_neg (by decide), hir, hxI, hjr]
        push_cast
        rw [Int.neg_mul, Int.mul_add]
        omega
      · have hjr : j = (y : Int) := by rw [if_neg cj] at hJ; exact hJ
        have e : (decide (i < 0) != decide (j < 0)) = true := by simp [ci, cj]
        rw [e, hyr, if_pos rfl, hir, hxI, hjr]
        push_cast
        rw [Int.mul_neg, Int.mul_add]
        omega) (by omega) (by omega)
    rw [hem.1, hem.2]
    simp only [Bool.false_eq_true, if_false] at hs2
    have hr0 : 0 < (dig r).length := by
      refine Nat.pos_of_ne_zero fun h => cr (hrl.1 h)
    have dci : decide (i < 0) = true := by simp [ci]
    rw [← hb, ← hb2]
    rw [dci] at hs1 ⊢
    generalize (if (true != decide (j < 0)) = true then -((q + 1 : Nat) : Int) else ((q + 1 : Nat) : Int)) = zq at *
    generalize ((y - r : Nat) : Int) = zr at *
    have z1 := Z_cells zq
    have z2 := Z_cells zr
    rw [show (true != decide (j < 0)) = !decide (j < 0) from by cases decide (j < 0) <;> rfl] at hs1
    refine callPure_of (wpF_of tab_88 rfl ?_)
    simp [f88, enter, rd, chk, hylen, hyne, hd, after_nr, hr0, h1, hadd, hsub, hs1, hs2, wr, splice, z1, z2]
  · have hs1 := run_signedN (n := q) (t := false) (neg := (decide (i < 0) != decide (j < 0))) (by omega)
    have hs2 := run_signedN (n := r) (t := false) (neg := false) (by omega)
    have hem := ediv_of (i := i) (j := j) (r := (r : Int)) (q := if (decide (i < 0) != decide (j < 0)) = true then -(q : Int) else (q : Int)) hj0 (by
      by_cases ci : i < 0
      · have hir : i = -(x : Int) := by rw [if_pos ci] at hI; exact hI
        have hr0 : r = 0 := Classical.byContradiction fun h => c ⟨ci, h⟩
        by_cases cj : j < 0
        · have hjr : j = -(y : Int) := by rw [if_pos cj] at hJ; exact hJ
          have e : (decide (i < 0) != decide (j < 0)) = false := by simp [ci, cj]
          rw [e, if_neg (by decide), hir, hxI, hjr, hr0, Int.neg_mul]; simp
        · have hjr : j = (y : Int) := by rw [if_neg cj] at hJ; exact hJ
          have e : (decide (i < 0) != decide (j < 0)) = true := by simp [ci, cj]
          rw [e, if_pos rfl, hir, hxI, hjr, hr0, Int.mul_neg]; simp
      · have hir : i = (x : Int) := by rw [if_neg ci] at hI; exact hI
        by_cases cj : j < 0
        · have hjr : j = -(y : Int) := by rw [if_pos cj] at hJ; exact hJ
          have e : (decide (i < 0) != decide (j < 0)) = true := by simp [ci, cj]
          rw [e, if_pos rfl, hir, hxI, hjr, Int.neg_mul_neg]
        · have hjr : j = (y : Int) := by rw [if_neg cj] at hJ; exact hJ
          have e : (decide (i < 0) != decide (j < 0)) = false := by simp [ci, cj]
          rw [e, if_neg (by decide), hir, hxI, hjr]) (by omega) (by omega)
    rw [hem.1, hem.2]
    simp only [Bool.false_eq_true, if_false] at hs2
    have hrz : i < 0 → (dig r).length = 0 := fun h => hrl.2 (Classical.byContradiction fun h' => c ⟨h, h'⟩)
    rw [← hb, ← hb2]
    generalize (if (decide (i < 0) != decide (j < 0)) = true then -(q : Int) else (q : Int)) = zq at *
    generalize (r : Int) = zr at *
    have z1 := Z_cells zq
    have z2 := Z_cells zr
    refine callPure_of (wpF_of tab_88 rfl ?_)
    by_cases ci : i < 0
    · have hrz' := hrz ci
      simp [ci] at hs1
      simp [f88, enter, rd, chk, hylen, hyne, hd, after_nr, hrz', ci, hs1, hs2, wr, splice, z1, z2]
    · simp [ci] at hs1
      simp [f88, enter, rd, chk, hylen, hyne, hd, after_nr, ci, hs1, hs2, wr, splice, z1, z2]
theorem gcd_loop {S : Store} {Q : FQ} {x0 y0 : Nat} (hQ : ∀ (tm : List AV) (hl : tm.length = 26), tm[4] = .mptr 2 0 2 → tm[5] = N (Nat.gcd x0 y0) → Q (.ex 0) ⟨tm, S⟩) :
    ∀ (y x : Nat), size x < Lim → size y < Lim → Nat.gcd x y = Nat.gcd x0 y0 →
    wpL RT f86_0m S.length f86_0 ⟨[.any, .any, .any, .any, .mptr 2 0 2, N x, N y] ++ List.replicate 19 .any, S⟩ Q := by
  intro y
  induction y using Nat.strongRecOn with
  | _ y ih =>
    intro x hx hy hg
    by_cases h0 : y = 0
    · subst h0
      rw [Nat.gcd_zero_right] at hg
      rw [wpL_step]
      generalize hK : loopQ RT f86_0m S.length f86_0 Q = K
      simp [f86_0, List.replicate]
      subst hK
      exact hQ _ rfl rfl (by simp [hg])
    · have hlt : x % y < y := Nat.mod_lt _ (by omega)
      have hd := run_div hx hy h0
      have hih := ih (x % y) hlt y hy (size_le_of (Nat.le_of_lt hlt) hy) (by rw [← hg, Nat.gcd_comm x y, Nat.gcd_rec y x, Nat.gcd_comm])
      have hl : 0 < (dig y).length := Nat.pos_of_ne_zero fun h => h0 (dig_nil.1 (List.eq_nil_of_length_eq_zero h))
      generalize x % y = r at *
      rw [wpL_step]
      generalize hK : loopQ RT f86_0m S.length f86_0 Q = K
      simp [f86_0, List.replicate, hl, hd, after_nr]
      subst hK
      simp [head, f86_0m, mask, trunc_len]
      simpa [f86_0m, List.replicate] using hih
theorem run_Gcd {i j : Int} (hi : zsize i < Lim) (hj : zsize j < Lim) : callPure RT 86 [Z i, Z j] = some (Z (Int.gcd i j : Int)) := by
  have hgs : size (Nat.gcd i.natAbs j.natAbs) < Lim := by
    by_cases h : i.natAbs = 0
    · rw [h, Nat.gcd_zero_left]; exact hj
    · exact size_le_of (Nat.gcd_le_left _ (by omega)) hi
  have hs := run_signedN (n := Nat.gcd i.natAbs j.natAbs) (t := false) (neg := false) (Nat.le_of_lt hgs)
  simp only [Bool.false_eq_true, if_false] at hs
  have hz : Z (Int.gcd i j : Int) = Z ((Nat.gcd i.natAbs j.natAbs : Nat) : Int) := rfl
  rw [hz, Z_cells i, Z_cells j]
  have z1 := Z_cells ((Nat.gcd i.natAbs j.natAbs : Nat) : Int)
  refine callPure_of (wpF_of tab_86 rfl ?_)
  simp [f86, enter, rd, chk]
  simp [head, f86_0m, mask, trunc_len]
  refine gcd_loop (S := [_, _, _]) (x0 := i.natAbs) (y0 := j.natAbs) ?_ j.natAbs i.natAbs hi hj rfl
  intro tm hl h4 h5
  simp [hl, h4, h5, hs, after_nr, wr, splice, chk, rd, z1]
def Zc (i : Int) : List AV := [.bool (decide (i < 0)), N i.natAbs]
@[simp] theorem Zc_len (i : Int) : (Zc i).length = 2 := rfl
@[simp] theorem Zc_fzc (S : Store) (fuel : Nat) (i : Int) : (Zc i).mapM (fzc S fuel) = some (Zc i) := by simp [Zc]
@[simp] theorem Zc_nrc (i : Int) : (Zc i).all nrc = true := by simp [Zc]
def QR (q : Rat) : AV := .agg (Zc q.num ++ Zc (q.den : Int))
theorem QR_eq (q : Rat) : QR q = .agg [.bool (decide (q.num < 0)), N q.num.natAbs, .bool false, N q.den] := by
  have h : ¬ ((q.den : Int) < 0) := by omega
  simp [QR, Zc, h]
def RB (q : Rat) (k : Nat) : Prop := zsize q.num ≤ k ∧ size q.den ≤ k
theorem RB.mono {q : Rat} {k l : Nat} (h : RB q k) (hk : k ≤ l) : RB q l := ⟨Nat.le_trans h.1 hk, Nat.le_trans h.2 hk⟩
theorem zsize_le {a b : Int} (h : a.natAbs ≤ b.natAbs) : zsize a ≤ zsize b := size_mono h
theorem zsize_mul (a b : Int) : zsize (a * b) ≤ zsize a + zsize b := by
  unfold zsize
  rw [Int.natAbs_mul]
  exact size_mul_le
theorem RB_divInt {n d : Int} {k : Nat} (hn : zsize n ≤ k) (hd : zsize d ≤ k) (hk : 1 ≤ k) : RB (Rat.divInt n d) k := by
  constructor
  · rw [Rat.num_divInt]
    refine Nat.le_trans (zsize_le ?_) hn
    have h1 : (d.sign * n / (d.gcd n : Int)).natAbs ≤ (d.sign * n).natAbs := by
      by_cases h0 : d.gcd n = 0
      · rw [h0]; simp
      · have hd := Int.natAbs_ediv_le_natAbs (d.sign * n) (d.gcd n : Int)
        exact hd
    have h2 : (d.sign * n).natAbs ≤ n.natAbs := by
      rw [Int.natAbs_mul]
      have : d.sign.natAbs ≤ 1 := by
        rcases Int.lt_trichotomy d 0 with h | h | h
        · rw [Int.sign_eq_neg_one_of_neg h]; decide
        · rw [h]; decide
        · rw [Int.sign_eq_one_of_pos h]; decide
      exact Nat.le_trans (Nat.mul_le_mul_right _ this) (by omega)
    exact Nat.le_trans h1 h2
  · rw [Rat.den_divInt]
    split
    · exact Nat.le_trans (size_le (k := 1) (by decide)) hk
    · exact Nat.le_trans (size_mono (Nat.div_le_self _ _)) hd
theorem run_product2 {i j : Int} (hi : 4 * zsize i ≤ Lim) (hj : 4 * zsize j ≤ Lim) : callPure RT 75 [.sl [Z i, Z j] 2 false] = some (Z (i * j)) := by
  have hL : Lim = 1099511627776 := rfl
  have h1 : callPure RT 72 [.int .i64 1] = some (Z 1) := run_Of (n := 1) (by decide) (by decide)
  have hz1 : zsize 1 ≤ 1 := size_le (by decide)
  have m1 := run_Mul (i := 1) (j := i) (by omega) (by omega)
  have m2 := run_Mul (i := i) (j := j) (by omega) (by omega)
  rw [Int.one_mul] at m1
  simp only [Z_cells] at h1 m1 m2 ⊢
  refine callPure_of (wpF_of tab_75 rfl ?_)
  simp [f75, enter, h1, after_nr, wr, chk, splice]
  simp at m1
  simp [wpL_step, head, f75_0m, f75_0, mask, rd, wr, chk, trunc, lt1, ltc, Blk.lt, splice, m1, m2, after_nr]
theorem sign_gcd {n d : Int} (hd : d ≠ 0) : (d < 0 → n / -(Int.gcd n d : Int) = (Rat.divInt n d).num ∧ d / -(Int.gcd n d : Int) = ((Rat.divInt n d).den : Int)) ∧ (¬ d < 0 → n / (Int.gcd n d : Int) = (Rat.divInt n d).num ∧ d / (Int.gcd n d : Int) = ((Rat.divInt n d).den : Int)) := by
  have hg : Int.gcd d n = Int.gcd n d := Int.gcd_comm d n
  have hn : (Int.gcd n d : Int) ∣ n := Int.gcd_dvd_left ..
  have hdd : (Int.gcd n d : Int) ∣ d := Int.gcd_dvd_right ..
  constructor
  · intro h
    rw [Rat.num_divInt, Rat.den_divInt, if_neg hd, hg, Int.sign_eq_neg_one_of_neg h]
    refine ⟨?_, ?_⟩
    · rw [Int.ediv_neg, Int.neg_mul, Int.one_mul, Int.neg_ediv_of_dvd hn]
    · rw [Int.ediv_neg, ← Int.neg_ediv_of_dvd hdd]
      have : -d = (d.natAbs : Int) := by omega
      rw [this]; push_cast; rfl
  · intro h
    rw [Rat.num_divInt, Rat.den_divInt, if_neg hd, hg, Int.sign_eq_one_of_pos (by omega), Int.one_mul]
    refine ⟨rfl, ?_⟩
    have : d = (d.natAbs : Int) := by omega
    conv => lhs; rw [this]
    push_cast; rfl
set_option maxHeartbeats 1000000 in
theorem run_lowest {n d : Int} (hn : zsize n < Lim) (hd : zsize d < Lim) (hd0 : d ≠ 0) : callPure RT 76 [Z n, Z d] = some (QR (Rat.divInt n d)) := by
  have hg0 : Int.gcd n d ≠ 0 := fun h => hd0 (Int.gcd_eq_zero_iff.1 h).2
  have hgs : zsize (Int.gcd n d : Int) < Lim := by
    refine Nat.lt_of_le_of_lt (zsize_le ?_) hd
    have : Int.gcd n d ≤ d.natAbs := Nat.gcd_le_right _ (by omega)
    simpa using this
  have hgn : zsize (-(Int.gcd n d : Int)) < Lim := by unfold zsize at *; rwa [Int.natAbs_neg]
  have hgcd := run_Gcd hn hd
  have hsg := run_Sign d
  have hneg := run_Neg (i := (Int.gcd n d : Int)) (Nat.le_of_lt hgs)
  have d1 := run_DivMod (i := n) (j := (Int.gcd n d : Int)) hn hgs (by omega)
  have d2 := run_DivMod (i := d) (j := (Int.gcd n d : Int)) hd hgs (by omega)
  have d3 := run_DivMod (i := n) (j := -(Int.gcd n d : Int)) hn hgn (by omega)
  have d4 := run_DivMod (i := d) (j := -(Int.gcd n d : Int)) hd hgn (by omega)
  have hs := sign_gcd (n := n) hd0
  rw [QR_eq]
  have zden := Z_cells ((Rat.divInt n d).den : Int)
  have hdn : ¬ (((Rat.divInt n d).den : Int) < 0) := by omega
  simp only [hdn, decide_false, Int.natAbs_natCast] at zden
  have znum := Z_cells (Rat.divInt n d).num
  generalize (Rat.divInt n d).num = qn at *
  generalize hqd : (Rat.divInt n d).den = qd at *
  refine callPure_of (wpF_of tab_76 rfl ?_)
  by_cases c : d < 0
  · obtain ⟨e1, e2⟩ := hs.1 c
    rw [e1] at d3
    rw [e2] at d4
    have hsn : d.sign = -1 := Int.sign_eq_neg_one_of_neg c
    rw [hsn] at hsg
    rw [zden] at d4
    simp only [Z_cells] at hgcd hsg hneg d3 d4 ⊢
    generalize (n % -(Int.gcd n d : Int)) = r3 at *
    generalize (d % -(Int.gcd n d : Int)) = r4 at *
    generalize -(Int.gcd n d : Int) = h at *
    generalize (Int.gcd n d : Int) = g at *
    simp [f76, enter, rd, wr, chk, splice, hgcd, hsg, hneg, d3, d4, after_nr, fillA]
  · obtain ⟨e1, e2⟩ := hs.2 c
    rw [e1] at d1
    rw [e2] at d2
    have hsn : d.sign = 1 := Int.sign_eq_one_of_pos (by omega)
    rw [hsn] at hsg
    rw [zden] at d2
    simp only [Z_cells] at hgcd hsg d1 d2 ⊢
    generalize (n % (Int.gcd n d : Int)) = r3 at *
    generalize (d % (Int.gcd n d : Int)) = r4 at *
    generalize (Int.gcd n d : Int) = g at *
    simp [f76, enter, rd, wr, chk, splice, hgcd, hsg, d1, d2, after_nr, fillA]
theorem cells_QR (q : Rat) : QR q = .agg [.bool (decide (q.num < 0)), N q.num.natAbs, .bool false, N q.den] := QR_eq q
theorem Zden (q : Rat) : Z (q.den : Int) = .agg [.bool false, N q.den] := by
  have h : ¬ ((q.den : Int) < 0) := by omega
  rw [Z_cells]; simp [h]
theorem zsize_den (q : Rat) : zsize (q.den : Int) = size q.den := rfl
theorem size_pos {n : Nat} (h : n ≠ 0) : 1 ≤ size n := by
  refine Nat.pos_of_ne_zero fun h0 => h ?_
  exact dig_nil.1 (List.eq_nil_of_length_eq_zero h0)
theorem RB.pos {q : Rat} {k : Nat} (h : RB q k) : 1 ≤ k := Nat.le_trans (size_pos q.den_nz) h.2
theorem RB.mul {a b : Rat} {k : Nat} (ha : RB a k) (hb : RB b k) : RB (a * b) (2 * k) := by
  rw [Rat.mul_def', ← Rat.divInt_ofNat]
  refine RB_divInt ?_ ?_ (by have := ha.pos; omega)
  · have := zsize_mul a.num b.num
    have h1 := ha.1; have h2 := hb.1; omega
  · have := size_mul_le (x := a.den) (y := b.den)
    have h1 := ha.2; have h2 := hb.2
    show size (a.den * b.den) ≤ _
    omega
theorem zsize_sub {a b : Int} {k : Nat} (ha : zsize a ≤ k) (hb : zsize b ≤ k) : zsize (a - b) ≤ k + 1 := by
  have h : (a - b).natAbs ≤ a.natAbs + b.natAbs := by omega
  exact Nat.le_trans (size_mono h) (size_add_le ha hb)
theorem RB.sub {a b : Rat} {k : Nat} (ha : RB a k) (hb : RB b k) : RB (a - b) (2 * k + 1) := by
  rw [Rat.sub_def', ← Rat.divInt_ofNat]
  have h1 := ha.1; have h2 := hb.1; have h3 := ha.2; have h4 := hb.2
  refine RB_divInt (zsize_sub ?_ ?_) ?_ (by omega)
  · have := zsize_mul a.num (b.den : Int)
    rw [zsize_den] at this; omega
  · have := zsize_mul b.num (a.den : Int)
    rw [zsize_den] at this; omega
  · have := size_mul_le (x := a.den) (y := b.den)
    show size (a.den * b.den) ≤ _
    omega
theorem RB.div {a b : Rat} {k : Nat} (ha : RB a k) (hb : RB b k) : RB (a / b) (2 * k) := by
  have e : a / b = Rat.divInt (a.num * b.den) (a.den * b.num) := by
    conv => lhs; rw [← Rat.num_divInt_den a, ← Rat.num_divInt_den b]
    rw [Rat.div_def, Rat.inv_divInt, Rat.divInt_mul_divInt]
  rw [e]
  have h1 := ha.1; have h2 := hb.1; have h3 := ha.2; have h4 := hb.2
  refine RB_divInt ?_ ?_ (by have := ha.pos; omega)
  · have := zsize_mul a.num (b.den : Int)
    rw [zsize_den] at this; omega
  · have := zsize_mul (a.den : Int) b.num
    rw [zsize_den] at this; omega
theorem run_rMul {a b : Rat} {k : Nat} (ha : RB a k) (hb : RB b k) (hk : 8 * k ≤ Lim) : callPure RT 59 [QR a, QR b] = some (QR (a * b)) := by
  have hL : Lim = 1099511627776 := rfl
  have h1 := ha.1; have h2 := hb.1; have h3 := ha.2; have h4 := hb.2
  have p1 := run_product2 (i := a.num) (j := b.num) (by omega) (by omega)
  have p2 := run_product2 (i := (a.den : Int)) (j := (b.den : Int)) (by rw [zsize_den]; omega) (by rw [zsize_den]; omega)
  have m1 := zsize_mul a.num b.num
  have m2 := zsize_mul (a.den : Int) (b.den : Int)
  rw [zsize_den, zsize_den] at m2
  have hd0 : (a.den : Int) * (b.den : Int) ≠ 0 := Int.mul_ne_zero (by have := a.den_nz; omega) (by have := b.den_nz; omega)
  have lo := run_lowest (n := a.num * b.num) (d := (a.den : Int) * (b.den : Int)) (by omega) (by omega) hd0
  have e : Rat.divInt (a.num * b.num) ((a.den : Int) * (b.den : Int)) = a * b := by
    rw [Rat.mul_def', ← Rat.divInt_ofNat]; push_cast; rfl
  rw [e] at lo
  rw [Zden, Zden] at p2
  rw [cells_QR (a * b)] at lo ⊢
  rw [cells_QR a, cells_QR b]
  simp only [Z_cells] at p1 p2 lo
  generalize a.num * b.num = nn at *
  generalize (a.den : Int) * (b.den : Int) = dd at *
  generalize (a * b).num = rn at *
  generalize (a * b).den = rd' at *
  refine callPure_of (wpF_of tab_59 rfl ?_)
  simp [f59, enter, rd, wr, chk, splice, opA_litn, fillE, elt, p1, p2, lo, after_nr]
theorem run_rSub {a b : Rat} {k : Nat} (ha : RB a k) (hb : RB b k) (hk : 8 * k + 8 ≤ Lim) : callPure RT 58 [QR a, QR b] = some (QR (a - b)) := by
  have hL : Lim = 1099511627776 := rfl
  have h1 := ha.1; have h2 := hb.1; have h3 := ha.2; have h4 := hb.2
  have p1 := run_product2 (i := a.num) (j := (b.den : Int)) (by omega) (by rw [zsize_den]; omega)
  have p2 := run_product2 (i := b.num) (j := (a.den : Int)) (by omega) (by rw [zsize_den]; omega)
  have p3 := run_product2 (i := (a.den : Int)) (j := (b.den : Int)) (by rw [zsize_den]; omega) (by rw [zsize_den]; omega)
  have m1 := zsize_mul a.num (b.den : Int)
  have m2 := zsize_mul b.num (a.den : Int)
  have m3 := zsize_mul (a.den : Int) (b.den : Int)
  rw [zsize_den] at m1 m2
  rw [zsize_den, zsize_den] at m3
  have sb := run_Sub (i := a.num * (b.den : Int)) (j := b.num * (a.den : Int)) (by omega) (by omega)
  have ms := zsize_sub (a := a.num * (b.den : Int)) (b := b.num * (a.den : Int)) (k := 2 * k) (by omega) (by omega)
  have hd0 : (a.den : Int) * (b.den : Int) ≠ 0 := Int.mul_ne_zero (by have := a.den_nz; omega) (by have := b.den_nz; omega)
  have lo := run_lowest (n := a.num * (b.den : Int) - b.num * (a.den : Int)) (d := (a.den : Int) * (b.den : Int)) (by omega) (by omega) hd0
  have e : Rat.divInt (a.num * (b.den : Int) - b.num * (a.den : Int)) ((a.den : Int) * (b.den : Int)) = a - b := by
    rw [Rat.sub_def', ← Rat.divInt_ofNat]; push_cast; rfl
  rw [e] at lo
  rw [Zden] at p1 p2
  rw [Zden, Zden] at p3
  rw [cells_QR (a - b)] at lo ⊢
  rw [cells_QR a, cells_QR b]
  simp only [Z_cells] at p1 p2 p3 sb lo
  generalize a.num * (b.den : Int) - b.num * (a.den : Int) = nn at *
  generalize a.num * (b.den : Int) = n1 at *
  generalize b.num * (a.den : Int) = n2 at *
  generalize (a.den : Int) * (b.den : Int) = dd at *
  generalize (a - b).num = rn at *
  generalize (a - b).den = rd' at *
  refine callPure_of (wpF_of tab_58 rfl ?_)
  simp [f58, enter, rd, wr, chk, splice, opA_litn, fillE, elt, p1, p2, p3, sb, lo, after_nr]
theorem run_rDiv {a b : Rat} {k : Nat} (ha : RB a k) (hb : RB b k) (hk : 8 * k + 8 ≤ Lim) (hb0 : b ≠ 0) : callPure RT 57 [QR a, QR b] = some (.tup [QR (a / b), .int .i64 0]) := by
  have hL : Lim = 1099511627776 := rfl
  have h1 := ha.1; have h2 := hb.1; have h3 := ha.2; have h4 := hb.2
  have hn0 : b.num ≠ 0 := fun h => hb0 (Rat.num_eq_zero.1 h)
  have p1 := run_product2 (i := a.num) (j := (b.den : Int)) (by omega) (by rw [zsize_den]; omega)
  have p2 := run_product2 (i := (a.den : Int)) (j := b.num) (by rw [zsize_den]; omega) (by omega)
  have m1 := zsize_mul a.num (b.den : Int)
  have m2 := zsize_mul (a.den : Int) b.num
  rw [zsize_den] at m1 m2
  have hd0 : (a.den : Int) * b.num ≠ 0 := Int.mul_ne_zero (by have := a.den_nz; omega) hn0
  have lo := run_lowest (n := a.num * (b.den : Int)) (d := (a.den : Int) * b.num) (by omega) (by omega) hd0
  have e : Rat.divInt (a.num * (b.den : Int)) ((a.den : Int) * b.num) = a / b := by
    conv => rhs; rw [← Rat.num_divInt_den a, ← Rat.num_divInt_den b]
    rw [Rat.div_def, Rat.inv_divInt, Rat.divInt_mul_divInt]
  rw [e] at lo
  have hsg := run_Sign ((a.den : Int) * b.num)
  have hs0 : ((a.den : Int) * b.num).sign ≠ 0 := fun h => hd0 (Int.sign_eq_zero_iff_zero.1 h)
  rw [Zden] at p1 p2
  rw [cells_QR (a / b)] at lo ⊢
  rw [cells_QR a, cells_QR b]
  simp only [Z_cells] at p1 p2 lo hsg
  generalize a.num * (b.den : Int) = nn at *
  generalize (a.den : Int) * b.num = dd at *
  generalize (a / b).num = rn at *
  generalize (a / b).den = rd' at *
  generalize dd.sign = sg at *
  have hnew : callPure RT 74 [.agg [.bool (decide (nn < 0)), N nn.natAbs], .agg [.bool (decide (dd < 0)), N dd.natAbs]] = some (.tup [.agg [.bool (decide (rn < 0)), N rn.natAbs, .bool false, N rd'], .int .i64 0]) := by
    refine callPure_of (wpF_of tab_74 rfl ?_)
    simp [f74, enter, rd, wr, chk, splice, hsg, hs0, lo, after_nr]
  refine callPure_of (wpF_of tab_57 rfl ?_)
  simp [f57, enter, rd, wr, chk, splice, opA_litn, fillE, elt, p1, p2, hnew, after_nr]
theorem run_rSign (q : Rat) : callPure RT 55 [QR q] = some (.int .i64 q.num.sign) := by
  have hsg := run_Sign q.num
  rw [cells_QR q]
  simp only [Z_cells] at hsg
  refine callPure_of (wpF_of tab_55 rfl ?_)
  simp [f55, enter, rd, chk, hsg, after_nr]
theorem run_Whole {n : Int} (h1 : -9223372036854775808 ≤ n) (h2 : n < 9223372036854775808) : callPure RT 52 [.int .i64 n] = some (QR (n : Rat)) := by
  have ho := run_Of h1 h2
  have h1 : callPure RT 72 [.int .i64 1] = some (Z 1) := run_Of (n := 1) (by decide) (by decide)
  rw [cells_QR]
  simp only [Rat.num_intCast, Rat.den_intCast]
  simp only [Z_cells] at ho h1
  have hof : callPure RT 71 [.agg [.bool (decide (n < 0)), N n.natAbs]] = some (.agg [.bool (decide (n < 0)), N n.natAbs, .bool false, N 1]) := by
    refine callPure_of (wpF_of tab_71 rfl ?_)
    simp at h1
    simp [f71, enter, rd, wr, chk, splice, h1, after_nr, fillA]
  refine callPure_of (wpF_of tab_52 rfl ?_)
  simp [f52, enter, rd, wr, chk, splice, ho, hof, after_nr]
  exact decide_eq_decide.2 Iff.rfl
def QRow (l : List Rat) : AV := .sl (l.map QR) 4 false
def QRows (ls : List (List Rat)) : AV := .sl (ls.map QRow) 1 false
def qnz (k : Nat) (l : List Rat) : Bool := decide (l.getD k 0 ≠ 0)
theorem sign_ne (q : Rat) : (q.num.sign ≠ 0) ↔ q ≠ 0 := by
  rw [Ne, Int.sign_eq_zero_iff_zero, Rat.num_eq_zero]
theorem run_nz {l : List Rat} {k : Nat} (hk : k < l.length) (hl : l.length < 1000000) : callPure RT 54 [QRow l, .fptr [.int .i64 (k : Int)]] = some (.bool (qnz k l)) := by
  have hget : l[k]? = some l[k] := List.getElem?_eq_getElem hk
  have hlt : (k : Int) < (l.length : Int) := by omega
  have hs := run_rSign l[k]
  have e : qnz k l = decide (l[k].num.sign ≠ 0) := by
    unfold qnz
    rw [List.getD_eq_getElem?_getD, hget]
    exact decide_eq_decide.2 (sign_ne _).symm
  rw [e]
  generalize l[k] = q at *
  unfold QRow
  rw [cells_QR] at hs
  refine callPure_of (wpF_of tab_54 rfl ?_)
  generalize q.num.sign = sg at *
  by_cases c : sg = 0
  · simp [f54, enter, hlt, hget, chk, cells_QR, hs, c]
  · simp [f54, enter, hlt, hget, chk, cells_QR, hs, c]
def idxG {α : Type} (p : α → Bool) : List α → Nat → Int
  | [], _ => -1
  | w :: o, n => if p w then (n : Int) else idxG p o (n + 1)
theorem pivot_loop {o : List (List Rat)} {k : Nat} (ho : ∀ w ∈ o, w.length = 8) (hol : o.length < 1000000) (hk : k < 8) {Q : FQ}
    (h1 : ∀ (tm : List AV) (hl : tm.length = 19), idxG (qnz k) o 0 = -1 → Q (.ex 0) ⟨tm, []⟩)
    (h2 : ∀ (tm : List AV) (hl : tm.length = 19), tm[4] = .int .i64 (idxG (qnz k) o 0) → Q .ret ⟨tm, []⟩) :
    ∀ (m n : Nat), n + m = o.length → idxG (qnz k) (o.drop n) n = idxG (qnz k) o 0 →
    wpL RT f53_0m 0 f53_0 ⟨[QRows o, .fn 54 [.fptr [.int .i64 (k : Int)]], .any, .any, .any, .any, .any, .int .i64 (o.length : Int), .int .i64 (n : Int)] ++ List.replicate 10 .any, []⟩ Q := by
  intro m
  unfold QRows
  induction m with
  | zero =>
    intro n hn he
    have hn' : n = o.length := by omega
    subst hn'
    rw [wpL_step]
    generalize hK : loopQ RT f53_0m 0 f53_0 Q = K
    simp [f53_0, List.replicate]
    subst hK
    refine h1 _ rfl ?_
    rw [← he, List.drop_of_length_le (Nat.le_refl _)]; rfl
  | succ m ih =>
    intro n hn he
    have hn1 : n < o.length := by omega
    rw [List.drop_eq_getElem_cons hn1] at he
    have hwl := ho o[n] (List.getElem_mem hn1)
    have hget : o[n]? = some o[n] := List.getElem?_eq_getElem hn1
    generalize o[n] = w at *
    have hw : IntKind.i64.wrap ((n : Int) + 1) = ((n + 1 : Nat) : Int) := wrap_i64 (by omega) (by omega)
    have hlt : (n : Int) < (o.length : Int) := by omega
    have hocc := run_nz (l := w) (k := k) (by omega) (by omega)
    unfold QRow at hocc
    rw [wpL_step]
    generalize hK : loopQ RT f53_0m 0 f53_0 Q = K
    simp only [idxG] at he
    cases c : qnz k w with
    | true =>
      rw [c] at he hocc
      simp at he
      simp [f53_0, List.replicate, hlt, hget, QRow, chk, hocc, after_nr, opA_vpure]
      subst hK
      refine h2 _ rfl ?_
      simp [he]
    | false =>
      rw [c] at he hocc
      simp at he
      simp [f53_0, List.replicate, hlt, hget, QRow, chk, hocc, after_nr, opA_vpure, hw]
      subst hK
      have := ih (n + 1) (by omega) he
      simp [head, f53_0m, mask, trunc_len]
      simpa [f53_0m, List.replicate] using this
theorem run_pivot {o : List (List Rat)} {k : Nat} (ho : ∀ w ∈ o, w.length = 8) (hol : o.length < 1000000) (hk : k < 8) :
    callPure RT 53 [QRows o, .fn 54 [.fptr [.int .i64 (k : Int)]]] = some (.int .i64 (idxG (qnz k) o 0)) := by
  refine callPure_of (wpF_of tab_53 rfl ?_)
  simp [f53, enter, QRows]
  simp [head, f53_0m, mask, trunc_len]
  refine pivot_loop ho hol hk ?_ ?_ o.length 0 (by simp) rfl
  · intro tm hl h
    simp [hl, h]
  · intro tm hl h
    simp [hl, h]
end Go.AVM
