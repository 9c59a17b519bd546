/- Integers: subtracting, comparing. -/
import Derived.Test.YtlpbjbgfgfjnlaaAvInt2
set_option linter.unusedVariables false
set_option linter.unusedSimpArgs false
set_option linter.unusedSectionVars false
namespace Go.AVM
theorem borrow_eq {a c b : Nat} (ha : a < B) (hc : c < B) (hb : b ≤ 1) : (a + 2 * B - c - b) % B + c + b = a + B * (if a < c + b then 1 else 0) := by
  have ha' : a < 4294967296 := ha
  have hc' : c < 4294967296 := hc
  show (a + 2 * 4294967296 - c - b) % 4294967296 + c + b = a + 4294967296 * _
  split <;> omega
theorem sub_loop {xs ys : List Nat} (hx : Wd xs) (hy : Wd ys) (hlx : xs.length ≤ Lim) (hly : ys.length ≤ Lim) {n : Nat} (hn : n = xs.length) {Q : FQ}
    (hQ : ∀ (tm : List AV) (hl : tm.length = 34) (ds : List Nat) (b : Nat), tm[5] = .msl 0 0 n 1 n none → ds.length = n → Wd ds → b ≤ 1 → val ds + val (ys.take n) = val xs + B ^ n * b → Q (.ex 0) ⟨tm, [.mu (wds ds) true]⟩) :
    ∀ (m i : Nat), i + m = n → ∀ (ds : List Nat) (b : Nat), ds.length = i → Wd ds → b ≤ 1 → val ds + val (ys.take i) = val (xs.take i) + B ^ i * b →
    wpL RT f96_0m 1 f96_0 ⟨[.sl (wds xs) 1 false, .sl (wds ys) 1 false, .any, .any, .any, .msl 0 0 n 1 n none, .int .u32 (b : Int), .any, .any, .any, .any, .any, .int .i64 (n : Int), .int .i64 (i : Int), .any, .any, .any, .any, .any, .any, .any, .any, .any, .any, .any, .any, .any, .any, .any, .any, .any, .any, .any, .any],
      [.mu (wds (ds ++ List.replicate m 0)) true]⟩ Q := by
  have hL : Lim = 1099511627776 := rfl
  intro m
  induction m with
  | zero =>
    intro i hi ds b hds hwd hb he
    have hi' : i = n := by omega
    subst hi'
    rw [wpL_eq]
    generalize hK : (fun s' => wpL RT f96_0m 1 f96_0 (head f96_0m 1 s') Q) = K
    simp [f96_0]
    rw [List.take_of_length_le (l := xs) (by omega)] at he
    exact hQ _ rfl ds b rfl hds hwd hb he
  | succ m ih =>
    intro i hi ds b hds hwd hb he
    rw [wpL_eq]
    generalize hK : (fun s' => wpL RT f96_0m 1 f96_0 (head f96_0m 1 s') Q) = K
    have hlt : (i : Int) < (n : Int) := by omega
    have hix : i < xs.length := by omega
    have hixz : (i : Int) < (xs.length : Int) := by omega
    obtain ⟨a, hget⟩ : ∃ a, xs[i]? = some a := ⟨xs[i], List.getElem?_eq_getElem hix⟩
    have haB : a < B := hx.get hget
    have ha2 := run_at (ws := ys) (t := false) (i := i) (by omega)
    have hby : ys.getD i 0 < B := by
      rw [List.getD_eq_getElem?_getD]
      cases h : ys[i]? with
      | none => decide
      | some w => exact hy.get h
    have hsu := run_Sub32 haB hby hb
    have e1 := val_take_succ xs i
    have e2 := val_take_succ ys i
    have hga : xs.getD i 0 = a := by rw [List.getD_eq_getElem?_getD, hget]; rfl
    rw [hga] at e1
    generalize ys.getD i 0 = c at *
    obtain ⟨d, hd⟩ : ∃ d, d = (a + 2 * B - c - b) % B := ⟨_, rfl⟩
    obtain ⟨b', hb'⟩ : ∃ b', b' = if a < c + b then 1 else 0 := ⟨_, rfl⟩
    rw [← hd, ← hb'] at hsu
    have hdB : d < B := by rw [hd]; exact Nat.mod_lt _ (by decide)
    have hb1 : b' ≤ 1 := by rw [hb']; split <;> omega
    have heq : d + c + b = a + B * b' := by rw [hd, hb']; exact borrow_eq haB hby hb
    have hwr := wr_word (S := [.mu (wds (ds ++ List.replicate (m + 1) 0)) true]) (b := 0) (i := i) (vl := n) (w := d) rfl (by simp; omega) (by simp; omega)
    have hset : (ds ++ List.replicate (m + 1) 0).set i d = (ds ++ [d]) ++ List.replicate m 0 := by
      rw [List.set_append_right _ _ (by omega), hds, Nat.sub_self, List.replicate_succ, List.set_cons_zero]
      simp
    rw [hset] at hwr
    have hwi : IntKind.i64.wrap ((i : Int) + 1) = ((i + 1 : Nat) : Int) := wrap_i64 (by omega) (by omega)
    simp [f96_0, hlt, hget, ha2, hsu, after_nr]
    refine ⟨by omega, ?_⟩
    rw [hwr]
    simp [hwi]
    subst hK
    simp [head, f96_0m, mask]
    have := ih (i + 1) (by omega) (ds ++ [d]) b' (by simp [hds]) (Wd.app hwd (Wd.mk hdB Wd.nil)) hb1 (by
      rw [val_append, hds, e1, e2]
      simp only [val, Nat.pow_succ, Nat.mul_zero, Nat.add_zero]
      have e3 : B ^ i * (d + c + b) = B ^ i * (a + B * b') := by rw [heq]
      simp only [Nat.mul_add, ← Nat.mul_assoc] at e3
      omega)
    simpa [f96_0m] using this
theorem run_nsub {x y : Nat} (hx : size x ≤ Lim) (hyx : y ≤ x) : callPure RT 96 [N x, N y] = some (N (x - y)) := by
  refine callPure_of (wpF_of tab_96 rfl ?_)
  have hL : Lim = 1099511627776 := rfl
  have hy : size y ≤ size x := size_mono hyx
  unfold size at hx hy
  obtain ⟨n, hn⟩ : ∃ n, n = (dig x).length := ⟨_, rfl⟩
  have hroom : room n 4 := by unfold room; omega
  have hln : (n : Int) ≤ 281474976710656 := by omega
  simp only [f96, enter_eq]
  simp [← hn, hroom]
  refine ⟨by omega, ?_⟩
  simp [head, mask, f96_0m]
  have hst : List.replicate n (AV.int .u32 0) = wds ([] ++ List.replicate n 0) := wds_rep n 0
  rw [hst]
  refine sub_loop (dig_wd x) (dig_wd y) hx (by omega) hn ?_ n 0 (by omega) [] 0 rfl Wd.nil (by omega) (by simp [val])
  intro tm hl ds b h5 hds hwd hb he
  rw [List.take_of_length_le (by omega), val_dig, val_dig] at he
  have hlt := val_lt hwd
  rw [hds] at hlt
  have hb0 : b = 0 := by
    rcases Nat.lt_or_ge b 1 with h | h
    · omega
    · have : b = 1 := by omega
      subst this
      simp only [Nat.mul_one] at he
      omega
  subst hb0
  have hv : val ds = x - y := by simp only [Nat.mul_zero, Nat.add_zero] at he; omega
  have hnorm := run_norm (t := false) hwd (by omega)
  rw [hv] at hnorm
  have hfz : fzc [.mu (wds ds) true] (5 + 1) (.msl 0 0 n 1 n none) = some (W ds) := by
    have := fzc_mslv (S := [.mu (wds ds) true]) (b := 0) (n := n) (vl := n) (cap := none) (fuel := 5) rfl (by simp [hds]) (by simp [hds])
    rwa [List.take_of_length_le (by simp [hds])] at this
  simp [hl, h5, hfz, hnorm, after_row (S := [.mu (wds ds) true]) (b := 0) rfl (show (N (x - y)).bare = false from rfl)]

/-! ### Comparing -/
theorem val_split {xs : List Nat} {k a : Nat} (h : xs[k]? = some a) : val xs = val (xs.take k) + B ^ k * (a + B * val (xs.drop (k + 1))) := by
  have hk := (List.getElem?_eq_some_iff.1 h).1
  conv => lhs; rw [← List.take_append_drop k xs, val_append, List.length_take, Nat.min_eq_left (by omega), List.drop_eq_getElem_cons hk]
  have : xs[k] = a := (List.getElem?_eq_some_iff.1 h).2
  rw [this]; rfl
theorem val_take_lt {xs : List Nat} (hx : Wd xs) {k : Nat} (hk : k ≤ xs.length) : val (xs.take k) < B ^ k := by
  have := val_lt (hx.take k)
  rwa [List.length_take, Nat.min_eq_left hk] at this
theorem cmp_at {xs ys : List Nat} (hx : Wd xs) {k a b : Nat} (ha : xs[k]? = some a) (hb : ys[k]? = some b) (hd : xs.drop (k + 1) = ys.drop (k + 1)) (hab : a < b) : val xs < val ys := by
  rw [val_split ha, val_split hb, hd]
  have hk := (List.getElem?_eq_some_iff.1 ha).1
  have h1 := val_take_lt hx (k := k) (by omega)
  have h2 : B ^ k * (a + 1 + B * val (ys.drop (k + 1))) ≤ B ^ k * (b + B * val (ys.drop (k + 1))) := Nat.mul_le_mul_left _ (by omega)
  have h3 : B ^ k * (a + 1 + B * val (ys.drop (k + 1))) = B ^ k * (a + B * val (ys.drop (k + 1))) + B ^ k := by
    rw [show a + 1 + B * val (ys.drop (k + 1)) = (a + B * val (ys.drop (k + 1))) + 1 by omega, Nat.mul_succ]
  omega
theorem size_lt {x y : Nat} (h : size x < size y) : x < y := by
  have hy : y ≠ 0 := by rintro rfl; simp [size] at h
  have h1 := lt_size x
  have h2 := le_of_size hy
  have h3 : B ^ size x ≤ B ^ (size y - 1) := Nat.pow_le_pow_right (by decide) (by omega)
  omega
theorem cmp_loop {xs ys : List Nat} (hx : Wd xs) (hy : Wd ys) (hlx : xs.length ≤ Lim) {n : Nat} (hnx : xs.length = n) (hny : ys.length = n) {Q : FQ}
    (hQe : ∀ (tm : List AV) (hl : tm.length = 46), xs = ys → Q (.ex 0) ⟨tm, []⟩) (hQr : ∀ (tm : List AV) (hl : tm.length = 46), tm[4] = .int .i64 (cmpI (val xs) (val ys)) → Q .ret ⟨tm, []⟩) :
    ∀ (m i : Nat), i + m = n → xs.drop m = ys.drop m →
    wpL RT f97_0m 0 f97_0 ⟨[.sl (wds xs) 1 false, .sl (wds ys) 1 false, .any, .any, .any, .any, .any, .any, .any, .any, .any, .any, .any, .any, .any, .any, .any, .any, .int .i64 (n : Int), .int .i64 (i : Int), .any, .any, .any, .any, .any, .any, .any, .any, .any, .any, .any, .any, .any, .any, .any, .any, .any, .any, .any, .any, .any, .any, .any, .any, .any, .any], []⟩ Q := by
  have hL : Lim = 1099511627776 := rfl
  intro m
  induction m with
  | zero =>
    intro i hi hd
    have hi' : i = n := by omega
    subst hi'
    rw [wpL_eq]
    generalize hK : (fun s' => wpL RT f97_0m 0 f97_0 (head f97_0m 0 s') Q) = K
    simp [f97_0]
    exact hQe _ rfl (by simpa using hd)
  | succ m ih =>
    intro i hi hd
    rw [wpL_eq]
    generalize hK : (fun s' => wpL RT f97_0m 0 f97_0 (head f97_0m 0 s') Q) = K
    have hlt : (i : Int) < (n : Int) := by omega
    obtain ⟨a, ha⟩ : ∃ a, xs[m]? = some a := ⟨xs[m], List.getElem?_eq_getElem (by omega)⟩
    obtain ⟨b, hb⟩ : ∃ b, ys[m]? = some b := ⟨ys[m], List.getElem?_eq_getElem (by omega)⟩
    have hw1 : IntKind.i64.wrap ((xs.length : Int) - 1) = (xs.length : Int) - 1 := wrap_i64 (by omega) (by omega)
    have hw2 : IntKind.i64.wrap ((xs.length : Int) - 1 - (i : Int)) = (m : Int) := by
      have : (xs.length : Int) - 1 - (i : Int) = m := by omega
      rw [this]; exact wrap_i64 (by omega) (by omega)
    have hwi : IntKind.i64.wrap ((i : Int) + 1) = ((i + 1 : Nat) : Int) := wrap_i64 (by omega) (by omega)
    have hmx : (m : Int) < (xs.length : Int) := by omega
    have hmy : (m : Int) < (ys.length : Int) := by omega
    by_cases hab : a = b
    · subst hab
      simp [f97_0, hlt, hw1, hw2, ha, hb, hwi]
      refine ⟨by omega, by omega, ?_⟩
      subst hK
      simp [head, f97_0m, mask]
      have := ih (i + 1) (by omega) (by
        rw [List.drop_eq_getElem_cons (by omega : m < xs.length), List.drop_eq_getElem_cons (by omega : m < ys.length), hd]
        have e1 : xs[m] = a := (List.getElem?_eq_some_iff.1 ha).2
        have e2 : ys[m] = a := (List.getElem?_eq_some_iff.1 hb).2
        rw [e1, e2])
      simpa [f97_0m] using this
    · have hc := run_cmp32 (a : Int) (b : Int)
      have habz : ¬ (a : Int) = (b : Int) := by omega
      simp [f97_0, hlt, hw1, hw2, ha, hb, habz, hc, after_nr]
      refine ⟨by omega, by omega, by omega, by omega, hQr _ rfl ?_⟩
      show AV.int .i64 (cmpI a b) = _
      congr 1
      unfold cmpI
      rcases Nat.lt_or_gt_of_ne hab with h | h
      · have := cmp_at hx ha hb hd h
        rw [if_pos (by omega), if_pos (by omega)]
      · have := cmp_at hy hb ha hd.symm h
        rw [if_neg (by omega), if_pos (by omega), if_neg (by omega), if_pos (by omega)]
theorem run_ncmp {x y : Nat} (hx : size x ≤ Lim) : callPure RT 97 [N x, N y] = some (.int .i64 (cmpI x y)) := by
  refine callPure_of (wpF_of tab_97 rfl ?_)
  have hL : Lim = 1099511627776 := rfl
  by_cases hs : (dig x).length = (dig y).length
  · simp [f97, enter_eq, hs]
    simp [head, mask, f97_0m]
    refine cmp_loop (dig_wd x) (dig_wd y) hx hs rfl ?_ ?_ (dig y).length 0 (by omega) ?_
    · intro tm hl he
      have hxy : x = y := by rw [← val_dig x, he, val_dig]
      subst hxy
      simp [cmpI, hl]
    · intro tm hl h4
      simp [hl, h4]
    · rw [List.drop_of_length_le (by omega), List.drop_of_length_le (by omega)]
  · have hc := run_cmpI ((dig x).length : Int) ((dig y).length : Int)
    have hsz : ¬ ((dig x).length : Int) = ((dig y).length : Int) := by omega
    simp [f97, enter_eq, hsz, hc, after_nr]
    unfold cmpI
    rcases Nat.lt_or_gt_of_ne hs with h | h
    · have := size_lt (x := x) (y := y) h
      rw [if_pos (by omega), if_pos (by omega)]
    · have := size_lt (x := y) (y := x) h
      rw [if_neg (by omega), if_pos (by omega), if_neg (by omega), if_pos (by omega)]
end Go.AVM
