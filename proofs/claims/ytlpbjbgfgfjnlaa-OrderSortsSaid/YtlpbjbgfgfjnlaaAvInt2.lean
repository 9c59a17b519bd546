/- Integers: what the functions on rows of words compute (second part). -/
import Derived.Test.YtlpbjbgfgfjnlaaAvInt1
set_option linter.unusedVariables false
set_option linter.unusedSimpArgs false
set_option linter.unusedSectionVars false
namespace Go.AVM
/-- So many words and no more. -/
abbrev Lim : Nat := 1099511627776
theorem wds_chunk {ws : List Nat} {n : Nat} (h : ws.length = n) : chunk 1 n (wds ws) = wds ws := by
  subst h
  induction ws with
  | nil => rfl
  | cons w ws ih =>
    have : wds (w :: ws) = AV.int .u32 (w : Int) :: wds ws := rfl
    rw [this]
    simp only [List.length_cons, chunk, if_true, List.headD_cons, List.drop_one, List.tail_cons]
    rw [ih]
@[simp] theorem wds_nil : wds [] = [] := rfl
@[simp] theorem wds_one (w : Nat) : wds [w] = [.int .u32 (w : Int)] := rfl
theorem wds_cons (w : Nat) (ws : List Nat) : wds (w :: ws) = .int .u32 (w : Int) :: wds ws := rfl
/-- A row in the store, frozen. -/
theorem fzc_msl {S : Store} {b n : Nat} {ex : Bool} {ws : List Nat} {cap : Option Nat} {fuel : Nat} (h : S[b]? = some (.mu (wds ws) ex)) (hn : n ≤ ws.length) :
    fzc S (fuel + 1) (.msl b 0 n 1 ws.length cap) = some (W (ws.take n)) := by
  have hr : rd S b 0 ws.length (n * 1) = some (wds (ws.take n)) := by
    unfold rd
    rw [h, Nat.mul_one]
    simp only [wds_length, List.drop_zero, wds_take]
    exact chk_pos ⟨trivial, by omega⟩
  simp only [fzc, hr, Option.bind_some, wds_fzc]
  rw [wds_chunk (by simp; omega)]
theorem fzc_mslv {S : Store} {b n vl : Nat} {ex : Bool} {ws : List Nat} {cap : Option Nat} {fuel : Nat} (h : S[b]? = some (.mu (wds ws) ex)) (hv : vl = ws.length) (hn : n ≤ ws.length) :
    fzc S (fuel + 1) (.msl b 0 n 1 vl cap) = some (W (ws.take n)) := by subst hv; exact fzc_msl h hn
theorem dig_len_le {ws : List Nat} (hw : Wd ws) : (dig (val ws)).length ≤ ws.length := (norm_take hw).2
theorem run_signed {ws : List Nat} {t neg : Bool} (hw : Wd ws) (hlen : ws.length ≤ Lim) : callPure RT 84 [.sl (wds ws) 1 t, .bool neg] = some (.agg [.bool (neg && decide (val ws ≠ 0)), N (val ws)]) := by
  refine callPure_of (wpF_of tab_84 rfl ?_)
  have hL : Lim = 1099511627776 := rfl
  have hn := run_norm (t := false) hw (by omega)
  have hd := dig_len_le hw
  by_cases h0 : val ws = 0
  · cases neg
    · simp [f84, enter, hn, h0, after_nr, appA, held, chk, fillA, splice, wr, rd]
    · simp [f84, enter, hn, h0, after_nr, appA, held, chk, fillA, splice, wr, rd]
  · have h1 : (dig (val ws)).length ≠ 0 := fun h => h0 (dig_nil.1 (List.eq_nil_of_length_eq_zero h))
    have h2 : 0 < (dig (val ws)).length := by omega
    have hroom : room (dig (val ws)).length 4 := by unfold room; omega
    have hf : ∀ x : Blk, fzc [x, .mu (wds (dig (val ws))) false] 5 (.msl 1 0 (dig (val ws)).length 1 (dig (val ws)).length none) = some (N (val ws)) := fun x => by
      rw [fzc_msl (ex := false) rfl (Nat.le_refl _), List.take_length]
    cases neg
    · simp [f84, enter, hn, h0, h1, h2, after_nr, appA, held, chk, hroom, fillA, splice, wr, rd, hf]
    · simp [f84, enter, hn, h0, h1, h2, after_nr, appA, held, chk, hroom, fillA, splice, wr, rd, hf]
theorem run_natural {n : Nat} (h : n < 18446744073709551616) : callPure RT 83 [.int .u64 (n : Int)] = some (N n) := by
  refine callPure_of (wpF_of tab_83 rfl ?_)
  obtain ⟨lo, hlo⟩ : ∃ lo, lo = n % 4294967296 := ⟨_, rfl⟩
  obtain ⟨hi, hhi⟩ : ∃ hi, hi = n / 4294967296 := ⟨_, rfl⟩
  have e1 : (n : Int) % 4294967296 = (lo : Int) := by omega
  have e2 : (n : Int) / 4294967296 % 4294967296 = (hi : Int) := by omega
  have hw : Wd [lo, hi] := Wd.mk (show lo < 4294967296 by omega) (Wd.mk (show hi < 4294967296 by omega) Wd.nil)
  have hn := run_norm (t := false) hw (by simp)
  have hv : val [lo, hi] = n := by
    simp only [val]
    have : B = 4294967296 := rfl
    rw [this]; omega
  rw [hv, wds_cons, wds_one] at hn
  simp [f83, enter, wrap_u32, fdiv_word, IntKind.bits, opA_litn, fillE, elt, e1, e2, hn, after_nr]

/-! ### One word of a row in the store -/
theorem rd_word {S : Store} {b i vl : Nat} {ws : List Nat} {ex : Bool} (h : S[b]? = some (.mu (wds ws) ex)) (hv : vl = ws.length) (hi : i < ws.length) : rd S b i vl 1 = some [.int .u32 ((ws[i] : Nat) : Int)] := by
  subst hv
  unfold rd
  rw [h]
  simp only [wds_length]
  rw [chk_pos ⟨trivial, by omega⟩, wds_drop, wds_take]
  have : (ws.drop i).take 1 = [ws[i]] := by
    rw [List.drop_eq_getElem_cons hi]; rfl
  rw [this, wds_one]
theorem wr_word {S : Store} {b i vl w : Nat} {ws : List Nat} {ex : Bool} (h : S[b]? = some (.mu (wds ws) ex)) (hv : vl = ws.length) (hi : i < ws.length) : wr S b i vl [.int .u32 (w : Int)] = some (S.set b (.mu (wds (ws.set i w)) ex)) := by
  subst hv
  unfold wr
  rw [h]
  simp only [wds_length, List.length_singleton]
  rw [chk_pos ⟨trivial, by omega⟩]
  congr 4
  unfold splice
  rw [← wds_set, List.set_eq_take_append_cons_drop]
  simp [hi]

theorem wds_ids (S : Store) (fuel : Nat) (ws : List Nat) : (wds ws).flatMap (ids S fuel) = [] := by
  rw [List.flatMap_eq_nil_iff]
  intro x hx
  unfold wds at hx
  obtain ⟨w, _, rfl⟩ := List.mem_map.1 hx
  cases fuel <;> rfl
/-- A row handed to a call that gives back a part of it is written no more. -/
theorem after_row {S : Store} {b off n vl : Nat} {cap : Option Nat} {ws : List Nat} {ex : Bool} {r : AV} (h : S[b]? = some (.mu (wds ws) ex)) (hr : r.bare = false) :
    after false S [.msl b off n 1 vl cap] r = some (S.set b (.fz (wds ws))) := by
  have hi : ids S fzDepth (.msl b off n 1 vl cap) = [b] := by
    show ids S (5 + 1) _ = _
    simp only [ids, h, wds_ids]
  unfold after
  have h1 : ([AV.msl b off n 1 vl cap].all nr1 || r.bare) = false := by rw [hr]; rfl
  rw [h1]
  simp only [Bool.false_eq_true, if_false, List.flatMap_cons, List.flatMap_nil, List.append_nil, hi, settle, h, wds_ids, List.all_nil, wds_fzc]
  rfl

/-! ### Adding -/
def rep (n : Nat) (v : AV) : List AV := List.replicate n v
theorem add_loop {xs ys : List Nat} (hx : Wd xs) (hy : Wd ys) (hlx : xs.length ≤ Lim) (hly : ys.length ≤ Lim) {n : Nat} (hn : n = max xs.length ys.length) {Q : FQ}
    (hQ : ∀ (tm : List AV) (hl : tm.length = 42) (ds : List Nat) (c : Nat), tm[5] = .int .i64 (n : Int) → tm[6] = .msl 0 0 (n + 1) 1 (n + 1) none → tm[7] = .int .u32 (c : Int) → ds.length = n → Wd ds → c ≤ 1 → val ds + B ^ n * c = val xs + val ys → Q (.ex 0) ⟨tm, [.mu (wds (ds ++ [0])) true]⟩) :
    ∀ (m i : Nat), i + m = n → ∀ (ds : List Nat) (c : Nat), ds.length = i → Wd ds → c ≤ 1 → val ds + B ^ i * c = val (xs.take i) + val (ys.take i) →
    wpL RT f95_0m 1 f95_0 ⟨[.sl (wds xs) 1 false, .sl (wds ys) 1 false, .any, .any, .any, .int .i64 (n : Int), .msl 0 0 (n + 1) 1 (n + 1) none, .int .u32 (c : Int), .any, .any, .any, .any, .any, .any, .any, .any, .any, .int .i64 (n : Int), .int .i64 (i : Int), .any, .any, .any, .any, .any, .any, .any, .any, .any, .any, .any, .any, .any, .any, .any, .any, .any, .any, .any, .any, .any, .any, .any],
      [.mu (wds (ds ++ List.replicate (m + 1) 0)) true]⟩ Q := by
  have hL : Lim = 1099511627776 := rfl
  intro m
  induction m with
  | zero =>
    intro i hi ds c hds hwd hc he
    have hi' : i = n := by omega
    subst hi'
    rw [wpL_eq]
    generalize hK : (fun s' => wpL RT f95_0m 1 f95_0 (head f95_0m 1 s') Q) = K
    simp [f95_0]
    rw [List.take_of_length_le (by omega), List.take_of_length_le (by omega)] at he
    exact hQ _ rfl ds c rfl rfl rfl hds hwd hc he
  | succ m ih =>
    intro i hi ds c hds hwd hc he
    rw [wpL_eq]
    generalize hK : (fun s' => wpL RT f95_0m 1 f95_0 (head f95_0m 1 s') Q) = K
    have hlt : (i : Int) < (n : Int) := by omega
    have ha1 := run_at (ws := xs) (t := false) (i := i) (by omega)
    have ha2 := run_at (ws := ys) (t := false) (i := i) (by omega)
    have hbx : xs.getD i 0 < B := by
      rw [List.getD_eq_getElem?_getD]
      cases h : xs[i]? with
      | none => decide
      | some w => exact hx.get h
    have hby : ys.getD i 0 < B := by
      rw [List.getD_eq_getElem?_getD]
      cases h : ys[i]? with
      | none => decide
      | some w => exact hy.get h
    have had := run_Add32 hbx hby (show c < B from Nat.lt_of_le_of_lt hc (by decide))
    have e1 := val_take_succ xs i
    have e2 := val_take_succ ys i
    generalize xs.getD i 0 = a at *
    generalize ys.getD i 0 = b at *
    obtain ⟨s, hs⟩ : ∃ s, s = (a + b + c) % B := ⟨_, rfl⟩
    obtain ⟨d, hd⟩ : ∃ d, d = (a + b + c) / B := ⟨_, rfl⟩
    rw [← hs, ← hd] at had
    have hsB : s < B := by rw [hs]; exact Nat.mod_lt _ (by decide)
    have hwr := wr_word (S := [.mu (wds (ds ++ List.replicate (m + 1 + 1) 0)) true]) (b := 0) (i := i) (vl := n + 1) (w := s) rfl (by simp; omega) (by simp; omega)
    have hset : (ds ++ List.replicate (m + 1 + 1) 0).set i s = (ds ++ [s]) ++ List.replicate (m + 1) 0 := by
      rw [List.set_append_right _ _ (by omega), hds, Nat.sub_self, List.replicate_succ, List.set_cons_zero]
      simp
    rw [hset] at hwr
    have hwi : IntKind.i64.wrap ((i : Int) + 1) = ((i + 1 : Nat) : Int) := wrap_i64 (by omega) (by omega)
    simp [f95_0, hlt, ha1, ha2, had, after_nr]
    refine ⟨by omega, ?_⟩
    rw [hwr]
    simp [hwi]
    subst hK
    simp [head, f95_0m, mask]
    have := ih (i + 1) (by omega) (ds ++ [s]) d (by simp [hds]) (Wd.app hwd (Wd.mk hsB Wd.nil)) (by
      rw [hd]
      exact Nat.lt_succ_iff.1 (Nat.div_lt_of_lt_mul (by omega))) (by
      rw [val_append, hds, e1, e2]
      have hdm := Nat.mod_add_div (a + b + c) B
      rw [← hs, ← hd] at hdm
      simp only [val, Nat.pow_succ]
      have e3 : B ^ i * (s + B * 0) + B ^ i * B * d = B ^ i * (a + b + c) := by
        rw [← hdm, Nat.mul_assoc, ← Nat.mul_add]; simp
      simp only [Nat.mul_zero, Nat.add_zero, Nat.mul_add] at e3 ⊢
      omega)
    simpa [f95_0m] using this
theorem wds_rep (n w : Nat) : List.replicate n (AV.int .u32 (w : Int)) = wds (List.replicate n w) := by simp [wds]
theorem run_nadd {x y : Nat} (hx : size x ≤ Lim) (hy : size y ≤ Lim) : callPure RT 95 [N x, N y] = some (N (x + y)) := by
  refine callPure_of (wpF_of tab_95 rfl ?_)
  have hL : Lim = 1099511627776 := rfl
  unfold size at hx hy
  obtain ⟨n, hn⟩ : ∃ n, n = max (dig x).length (dig y).length := ⟨_, rfl⟩
  have hmax : (if (dig x).length < (dig y).length then ((dig y).length : Int) else ((dig x).length : Int)) = (n : Int) := by
    split <;> omega
  have hwn : IntKind.i64.wrap ((n : Int) + 1) = ((n + 1 : Nat) : Int) := wrap_i64 (by omega) (by omega)
  have hroom : room (n + 1) 4 := by unfold room; omega
  have hln : (n : Int) + 1 ≤ 281474976710656 := by omega
  have htn : ((n : Int) + 1).toNat = n + 1 := by omega
  have hnn : (0 : Int) ≤ (n : Int) + 1 := by omega
  simp only [f95, enter_eq]
  simp [hmax, hwn, htn, hln, hnn, hroom]
  simp [head, mask, f95_0m]
  have hst : List.replicate (n + 1) (AV.int .u32 0) = wds ([] ++ List.replicate (n + 1) 0) := wds_rep (n + 1) 0
  rw [hst]
  refine add_loop (dig_wd x) (dig_wd y) hx hy hn ?_ n 0 (by omega) [] 0 rfl Wd.nil (by omega) (by simp [val])
  intro tm hl ds c h5 h6 h7 hds hwd hc he
  have hwr := wr_word (S := [.mu (wds (ds ++ [0])) true]) (b := 0) (i := n) (vl := n + 1) (w := c) rfl (by simp [hds]) (by simp [hds])
  have hset : (ds ++ [0]).set n c = ds ++ [c] := by
    rw [List.set_append_right _ _ (by omega), hds, Nat.sub_self]; rfl
  rw [hset] at hwr
  have hcB : c < B := Nat.lt_of_le_of_lt hc (by decide)
  have hwd2 : Wd (ds ++ [c]) := Wd.app hwd (Wd.mk hcB Wd.nil)
  have hv : val (ds ++ [c]) = x + y := by
    rw [val_append, hds]; simp only [val, Nat.mul_zero, Nat.add_zero, val_dig] at he ⊢; exact he
  have hnorm := run_norm (t := false) hwd2 (by simp [hds]; omega)
  rw [hv] at hnorm
  have hfz : fzc [.mu (wds (ds ++ [c])) true] (5 + 1) (.msl 0 0 (n + 1) 1 (n + 1) none) = some (W (ds ++ [c])) := by
    have := fzc_mslv (S := [.mu (wds (ds ++ [c])) true]) (b := 0) (n := n + 1) (vl := n + 1) (cap := none) (fuel := 5) rfl (by simp [hds]) (by simp [hds])
    rwa [List.take_of_length_le (by simp [hds])] at this
  simp [hl, h5, h6, h7]
  rw [hwr]
  simp [hl, h5, h6, h7, hfz, hnorm, after_row (S := [.mu (wds (ds ++ [c])) true]) (b := 0) rfl (show (N (x + y)).bare = false from rfl)]
  omega
end Go.AVM
