/- Texts joined: AvRef10, AvRef11, AvRef12, AvRank1, AvRank2, AvRank3, AvRank4, AvRank5, AvPerm2, AvPerm3, AvPerm4, AvPerm5, AvPerm6, AvShuf, AvShuf2, AvShuf3, AvPlain1, AvRo4, AvRo5, AvRo6, AvRo7, AvOrd6. -/
import Derived.Test.YtlpbjbgfgfjnlaaGreatAvMatch8
import Derived.Test.YtlpbjbgfgfjnlaaGreatAvMatch7
set_option linter.unusedVariables false
set_option linter.unusedSimpArgs false
set_option linter.unusedSectionVars false
namespace Go.AVM
theorem opA_cpy {R : RunF} {S : Store} {b off n sz sz' vl : Nat} {cap : Option Nat} {x : AV} : opA R (.cpy sz) [.msl b off n sz' vl cap, x] S = chk (sz = sz') ((held S sz x).bind fun (m, xs) => (wr S b off vl (xs.take (min m n * sz))).bind fun S' => some (.int .i64 ((min m n : Nat) : Int), S')) := rfl
def fillZ (x n : Nat) : List Nat := dig x ++ List.replicate (n - (dig x).length) 0
theorem fillZ_val (x n : Nat) : val (fillZ x n) = x := by
  unfold fillZ; rw [val_append, val_rep0, val_dig]; simp
theorem fillZ_len {x n : Nat} (h : size x ≤ n) : (fillZ x n).length = n := by
  unfold fillZ; unfold size at h; simp; omega
theorem fillZ_wd (x n : Nat) : Wd (fillZ x n) := Wd.app (dig_wd x) (Wd.rep (by decide))
theorem fillZ_cpy {x n : Nat} (h : size x ≤ n) : splice (wds (List.replicate n 0)) 0 (wds (dig x)) = wds (fillZ x n) := by
  unfold splice fillZ
  unfold size at h
  simp only [List.take_zero, List.nil_append, wds_length, Nat.zero_add, wds_drop, List.drop_replicate, wds_app]
theorem scale_lt {y w d Bv P : Nat} (h0 : 0 < d) (hd : d = Bv / (w + 1)) (hy : y < (w + 1) * P) : y * d < Bv * P := by
  have h1 : d * (w + 1) ≤ Bv := by rw [hd]; exact Nat.div_mul_le_self _ _
  have h2 : y * d < (w + 1) * P * d := Nat.mul_lt_mul_of_pos_right hy h0
  have h3 : (w + 1) * P * d = d * (w + 1) * P := by
    simp only [Nat.mul_comm, Nat.mul_left_comm, Nat.mul_assoc]
  have h4 : d * (w + 1) * P ≤ Bv * P := Nat.mul_le_mul_right _ h1
  omega
theorem scale_size {y n w d : Nat} (hn : (dig y).length = n) (hn1 : 1 ≤ n) (hw : (dig y)[n - 1]? = some w) (h0 : 0 < d) (hd : d = B / (w + 1)) : (dig (y * d)).length = n := by
  obtain ⟨k, rfl⟩ : ∃ k, n = k + 1 := ⟨n - 1, by omega⟩
  rw [show k + 1 - 1 = k by omega] at hw
  have hsp := val_split hw
  rw [val_dig, List.drop_of_length_le (by omega)] at hsp
  have hlt : val ((dig y).take k) < B ^ k := val_take_lt (dig_wd y) (by omega)
  have hvn : val ([] : List Nat) = 0 := rfl
  rw [hvn, Nat.mul_zero, Nat.add_zero] at hsp
  have hyu : y < (w + 1) * B ^ k := by
    rw [Nat.succ_mul, Nat.mul_comm w]
    generalize B ^ k = P at *
    omega
  have h1 : y * d < B ^ (k + 1) := by
    rw [Nat.pow_succ']; exact scale_lt h0 hd hyu
  have h4 : size (y * d) ≤ k + 1 := size_le h1
  have h5 : size y ≤ size (y * d) := size_mono (Nat.le_mul_of_pos_right _ h0)
  unfold size at h4 h5
  omega
theorem word_quo {w d : Nat} (h : d = 4294967296 / (w + 1)) : (4294967296 : Int) / ((w : Int) + 1) = (d : Int) ∧ Int.tdiv 4294967296 ((w : Int) + 1) = (d : Int) := by
  have h1 : (4294967296 : Int) / ((w : Int) + 1) = (d : Int) := by
    rw [h]
    exact (Int.natCast_ediv 4294967296 (w + 1)).symm
  exact ⟨h1, by rw [Int.tdiv_eq_ediv_of_nonneg (by omega)]; exact h1⟩
set_option maxHeartbeats 4000000 in
set_option maxRecDepth 20000 in
theorem run_divided {x y : Nat} (hx : size x < Lim) (hy : size y < Lim) (hy0 : y ≠ 0) : callPure RT 172 [N x, N y] = some (.tup [N (x / y), N (x % y)]) := by
  have hL : Lim = 1099511627776 := rfl
  have hB : B = 4294967296 := rfl
  have hcmp := run_compared (x := x) (y := y) (by omega)
  unfold size at hx hy
  by_cases c1 : x < y
  · have hc : cmpI x y = -1 := by unfold cmpI; rw [if_pos (by omega)]
    rw [hc] at hcmp
    rw [Nat.div_eq_of_lt c1, Nat.mod_eq_of_lt c1]
    have hN0 : N 0 = .sl [] 1 false := by simp [N, W]
    rw [hN0]
    refine callPure_of (wpF_of tab_172 rfl ?_)
    simp [f172, enter, hcmp, after_nr]
  · have hc : ¬ cmpI x y < 0 := by
      unfold cmpI
      rw [if_neg (by omega)]
      split <;> decide
    have hn1 : 1 ≤ (dig y).length := by
      refine Classical.byContradiction fun h => hy0 ?_
      exact dig_nil.1 (List.eq_nil_of_length_eq_zero (by omega))
    by_cases c2 : (dig y).length = 1
    · obtain ⟨d, hd⟩ : ∃ d, dig y = [d] := by
        match h : dig y, c2 with
        | [d], _ => exact ⟨d, rfl⟩
      have hdy : y = d := by
        have := val_dig y
        rw [hd] at this
        simpa [val] using this.symm
      have hdB : d < B := dig_wd y d (by rw [hd]; simp)
      have hd0 : 0 < d := by omega
      have hw := run_shortly (x := x) (d := d) (by unfold size; omega) (Nat.le_of_lt hdB) hd0
      have hr : x % d < B := Nat.lt_trans (Nat.mod_lt _ hd0) hdB
      have hn := run_words (n := x % d) (by rw [hB] at hr; omega)
      rw [hdy] at hcmp hc ⊢
      have hd' : dig d = [d] := by rw [← hd, hdy]
      obtain ⟨xd, hxd⟩ : ∃ q, x / d = q := ⟨_, rfl⟩
      obtain ⟨xm, hxm⟩ : ∃ q, x % d = q := ⟨_, rfl⟩
      rw [hxd, hxm] at hw
      rw [hxm] at hn
      rw [hxd, hxm]
      have hNd : N d = .sl [.int .u32 (d : Int)] 1 false := by simp [N, W, hd']
      have f1 : (d : Int) % 18446744073709551616 = (d : Int) := by rw [hB] at hdB; omega
      rw [hNd] at hcmp ⊢
      refine callPure_of (wpF_of tab_172 rfl ?_)
      simp [f172, enter, hcmp, hc, after_nr, wrap_u64, f1, hw, hn]
    · have hn2 : 2 ≤ (dig y).length := by omega
      obtain ⟨w, hw⟩ : ∃ w, (dig y)[(dig y).length - 1]? = some w := ⟨(dig y)[(dig y).length - 1], List.getElem?_eq_getElem (by omega)⟩
      have hwB := (dig_wd y).get hw
      have hw0 : 0 < w := by
        have := dig_top y w (by rw [List.getLast?_eq_getElem?]; exact hw)
        omega
      obtain ⟨d, hd⟩ : ∃ d, d = B / (w + 1) := ⟨_, rfl⟩
      have hd0 : 0 < d := by rw [hd]; exact Nat.div_pos (by omega) (by omega)
      have hdB : d < B := by
        rw [hd]; exact Nat.div_lt_self (by decide) (by omega)
      have hVl := scale_size rfl hn1 hw hd0 hd
      have hwd := run_words (n := d) (by rw [hB] at hdB; omega)
      have hds : size d ≤ 1 := size_le (by simpa using hdB)
      have htb := run_times (x := y) (y := d) (by unfold size; omega) (by omega)
      have hta := run_times (x := x) (y := d) (by unfold size; omega) (by omega)
      have hVpos : 0 < y * d := Nat.mul_pos (by omega) hd0
      have hVlt : y * d < B ^ (dig y).length := by
        have := lt_size (y * d)
        unfold size at this
        rwa [hVl] at this
      obtain ⟨vt, hvt⟩ : ∃ vt, (dig (y * d))[(dig y).length - 1]? = some vt := ⟨(dig (y * d))[(dig y).length - 1]'(by omega), List.getElem?_eq_getElem (by omega)⟩
      have hvt0 : 0 < vt := by
        have := dig_top (y * d) vt (by rw [List.getLast?_eq_getElem?, hVl]; exact hvt)
        omega
      have hdiv2 : x * d / (y * d) = x / y := Nat.mul_div_mul_right _ _ hd0
      have hmod2 : x * d % (y * d) / d = x % y := by rw [Nat.mul_mod_mul_right, Nat.mul_div_cancel _ hd0]
      have hsh := run_shortly (x := x * d % (y * d)) (d := d) (by
        have h1 : x * d % (y * d) < B ^ (dig y).length := Nat.lt_trans (Nat.mod_lt _ hVpos) hVlt
        have := size_le h1
        omega) (Nat.le_of_lt hdB) hd0
      rw [hmod2] at hsh
      have hxy : (dig y).length ≤ (dig x).length := size_mono (by omega)
      have hxds : size (x * d) ≤ (dig x).length + 1 := by
        have := size_mul_le (x := x) (y := d)
        unfold size at this hds ⊢
        omega
      have hU := fillZ_val (x * d) ((dig x).length + 1)
      have hUl := fillZ_len hxds
      have hUw := fillZ_wd (x * d) ((dig x).length + 1)
      have hUc := fillZ_cpy hxds
      obtain ⟨m, hm⟩ : ∃ m, m = (dig x).length + 1 - (dig y).length := ⟨_, rfl⟩
      have htop : val ((fillZ (x * d) ((dig x).length + 1)).drop m) < y * d := by
        have hsp : x * d = val ((fillZ (x * d) ((dig x).length + 1)).take m) + B ^ m * val ((fillZ (x * d) ((dig x).length + 1)).drop m) := by
          conv => lhs; rw [← hU, ← List.take_append_drop m (fillZ (x * d) ((dig x).length + 1)), val_append, List.length_take, Nat.min_eq_left (by omega)]
        have hxl : x < B ^ (dig x).length := lt_size x
        have hyl : B ^ ((dig y).length - 1) ≤ y := le_of_size hy0
        have hpw : B ^ (dig x).length = B ^ ((dig y).length - 1) * B ^ m := by
          rw [← Nat.pow_add]; congr 1; omega
        have h1 : x < y * B ^ m := by
          rw [hpw] at hxl
          exact Nat.lt_of_lt_of_le hxl (Nat.mul_le_mul_right _ hyl)
        have h2 : x * d < y * d * B ^ m := by
          rw [Nat.mul_assoc, Nat.mul_comm d, ← Nat.mul_assoc]
          exact Nat.mul_lt_mul_of_pos_right h1 hd0
        have h3 : B ^ m * val ((fillZ (x * d) ((dig x).length + 1)).drop m) < y * d * B ^ m := Nat.lt_of_le_of_lt (Nat.le_trans (Nat.le_add_left _ _) (Nat.le_of_eq hsp.symm)) h2
        rw [Nat.mul_comm] at h3
        exact Nat.lt_of_mul_lt_mul_right h3
      have key := fun (Q' : FQ) hQ' => digits_loop (u0 := fillZ (x * d) ((dig x).length + 1)) (vs := dig (y * d)) (m := m) (n := (dig y).length) (L := (dig x).length + 1) (vt := vt) (V := y * d) (x9 := .int .u64 (d : Int)) hUw (dig_wd _) hVl hn2 hUl (by omega) (by omega) hvt hvt0 (val_dig _) hVlt hVpos (Q := Q') hQ' m (Nat.le_refl _) (fillZ (x * d) ((dig x).length + 1)) [] hUl hUw rfl (Nat.mod_eq_of_lt htop).symm (by simp) Wd.nil (by rw [Nat.div_eq_of_lt htop]; rfl)
      rw [hU, hdiv2] at key
      generalize fillZ (x * d) ((dig x).length + 1) = u0 at *
      generalize hRR : x * d % (y * d) = R at *
      generalize hVV : y * d = V at *
      generalize hXD : x * d = XD at *
      generalize x / y = xd at *
      generalize x % y = xm at *
      have hyl2 : (dig y).length - 1 < (dig y).length := by omega
      have hwy : (dig y)[(dig y).length - 1] = w := (List.getElem?_eq_some_iff.1 hw).2
      have e1 : IntKind.i64.wrap (((dig y).length : Int) - 1) = (((dig y).length - 1 : Nat) : Int) := by rw [wrap_i64 (by omega) (by omega)]; omega
      have e2 : (((dig y).length - 1 : Nat) : Int) < ((dig y).length : Int) := by omega
      have e3 : IntKind.i64.wrap (((dig x).length : Int) - ((dig y).length : Int)) = (m : Int) - 1 := by rw [wrap_i64 (by omega) (by omega)]; omega
      have e3b : IntKind.i64.wrap ((m : Int) - 1 + 1) = (m : Int) := by rw [wrap_i64 (by omega) (by omega)]; omega
      have e3c : IntKind.i64.wrap (m : Int) = (m : Int) := wrap_i64 (by omega) (by omega)
      have e4 : IntKind.i64.wrap (((dig x).length : Int) + 1) = ((dig x).length : Int) + 1 := wrap_i64 (by omega) (by omega)
      have e4t : (((dig x).length : Int) + 1).toNat = (dig x).length + 1 := by omega
      have e4n : (0 : Int) ≤ ((dig x).length : Int) + 1 := by omega
      have e4m : ((dig x).length : Int) + 1 ≤ 281474976710656 := by omega
      have hroom : room m 4 := by unfold room; omega
      have hroom2 : room ((dig x).length + 1) 4 := by unfold room; omega
      have hm2 : (m : Int) ≤ 281474976710656 := by omega
      have c2' : ¬ ((dig y).length : Int) = 1 := by omega
      have g1 : (w : Int) % 18446744073709551616 = (w : Int) := by rw [hB] at hwB; omega
      have g2 : ((w : Int) + 1) % 18446744073709551616 = (w : Int) + 1 := by rw [hB] at hwB; omega
      obtain ⟨g3', g3⟩ := word_quo (w := w) (d := d) (by rw [hd])
      have g4 : (d : Int) % 18446744073709551616 = (d : Int) := by rw [hB] at hdB; omega
      have g5 : ¬ (w : Int) + 1 = 0 := by omega
      have hmin : min (dig XD).length ((dig x).length + 1) = (dig XD).length := Nat.min_eq_left hxds
      have hcw : wr [.mu (wds (List.replicate ((dig x).length + 1) 0)) true] 0 0 ((dig x).length + 1) (wds (dig XD)) = some [.mu (wds u0) true] := by
        rw [wr_mu (S := [.mu (wds (List.replicate ((dig x).length + 1) 0)) true]) (b := 0) rfl (by simp) (by simp; exact hxds), hUc]; rfl
      have hrep0 : List.replicate ((dig x).length + 1) (AV.int .u32 0) = wds (List.replicate ((dig x).length + 1) 0) := wds_rep _ 0
      have htk : (wds (dig XD)).take (dig XD).length = wds (dig XD) := List.take_of_length_le (by simp)
      generalize (dig y).length - 1 = j at *
      refine callPure_of (wpF_of tab_172 rfl ?_)
      simp [f172, enter, hcmp, hc, after_nr, c2', c2, e1, e2, hw, hwy, wrap_u64, g1, g2, g3, g3', g4, g5, hwd, htb, hta, e4, e4t, e4n, e4m, hroom2]
      rw [hrep0]
      generalize hC0 : wds (List.replicate ((dig x).length + 1) 0) = C0 at *
      simp [opA_cpy, held, chk, hmin, htk, hcw, hta, after_nr, e3, e3b, e3c, hroom, hm2, hwd]
      simp only [head]
      rw [mask_G (n := 110) (by simp)]
      simp [f172_0m, maskG_t, maskG_f, maskG_nil, trunc_len]
      have hrep : List.replicate m (AV.int .u32 0) = wds (List.replicate m 0 ++ []) := by rw [List.append_nil]; exact wds_rep m 0
      rw [hrep]
      generalize hC : wds (List.replicate m 0 ++ []) = C at *
      simp [List.replicate] at key
      refine key _ ?_
      intro tm hl us qs h9 h11 h12 hus hwus hqs hwqs hvu hvq
      have hn1 := run_trim (ws := qs) (t := false) hwqs (by omega)
      have hn2 := run_trim (ws := us) (t := false) hwus (by omega)
      rw [hvq] at hn1
      rw [hvu] at hn2
      have hf1 : fzc [.mu (wds us) true, .mu (wds qs) true] (5 + 1) (.msl 0 0 ((dig x).length + 1) 1 ((dig x).length + 1) none) = some (W us) := by
        have := fzc_mslv (S := [.mu (wds us) true, .mu (wds qs) true]) (b := 0) (n := (dig x).length + 1) (vl := (dig x).length + 1) (cap := none) (fuel := 5) rfl hus.symm (by omega)
        rwa [List.take_of_length_le (by omega)] at this
      have hf2 : fzc [.fz (wds us), .mu (wds qs) true] (5 + 1) (.msl 1 0 m 1 m none) = some (W qs) := by
        have := fzc_mslv (S := [.fz (wds us), .mu (wds qs) true]) (b := 1) (n := m) (vl := m) (cap := none) (fuel := 5) rfl hqs.symm (by omega)
        rwa [List.take_of_length_le (by omega)] at this
      have ha1 := fun r hr => after_row (S := [.mu (wds us) true, .mu (wds qs) true]) (b := 0) (off := 0) (n := (dig x).length + 1) (vl := (dig x).length + 1) (cap := none) (r := r) rfl hr
      have ha2 := fun r hr => after_row (S := [.fz (wds us), .mu (wds qs) true]) (b := 1) (off := 0) (n := m) (vl := m) (cap := none) (r := r) rfl hr
      have ha1' := ha1 (N R) rfl
      have ha2' := ha2 (N xd) rfl
      simp [hl, h9, h11, h12, hf1, hn2, ha1', hsh, after_nr]
      simp [hl, h9, h11, h12, hf2, hn1, ha2', after_nr]
theorem lt_of_size2 {x : Nat} (h : (dig x).length ≤ 2) : x < 18446744073709551616 := by
  have h1 := lt_size x
  have h2 : B ^ size x ≤ B ^ 2 := Nat.pow_le_pow_right (by decide) h
  have h3 : B ^ 2 = 18446744073709551616 := by decide
  omega
theorem common_loop {Q : FQ} {x0 y0 : Nat} (hQ : ∀ (tm : List AV) (hl : tm.length = 33), tm[0] = N (Nat.gcd x0 y0) → Q (.ex 0) ⟨tm, []⟩) (hQr : ∀ (tm : List AV) (hl : tm.length = 33), tm[4] = N (Nat.gcd x0 y0) → Q .ret ⟨tm, []⟩) :
    ∀ (y x : Nat), size x < Lim → size y < Lim → Nat.gcd x y = Nat.gcd x0 y0 →
    wpL RT f165_0m 0 f165_0 ⟨[N x, N y] ++ List.replicate 31 .any, []⟩ Q := by
  intro y
  induction y using Nat.strongRecOn with
  | _ y ih =>
    intro x hx hy hg
    by_cases h0 : y = 0
    · subst h0
      rw [Nat.gcd_zero_right] at hg
      rw [wpL_step]
      generalize hK : loopQ RT f165_0m 0 f165_0 Q = K
      simp [f165_0, List.replicate]
      subst hK
      exact hQ _ rfl (by simp [hg])
    · have hl : 0 < (dig y).length := Nat.pos_of_ne_zero fun h => h0 (dig_nil.1 (List.eq_nil_of_length_eq_zero h))
      by_cases c : (dig x).length ≤ 2 ∧ (dig y).length ≤ 2
      · have hn1 := run_number (lt_of_size2 c.1)
        have hn2 := run_number (lt_of_size2 c.2)
        have he := run_euclid x y
        have hgb : Nat.gcd x y < 18446744073709551616 := Nat.lt_of_le_of_lt (Nat.gcd_le_right _ (by omega)) (lt_of_size2 c.2)
        have hw := run_words hgb
        rw [hg] at he hw
        have c1 : ((dig x).length : Int) ≤ 2 := by omega
        have c2 : ((dig y).length : Int) ≤ 2 := by omega
        rw [wpL_step]
        generalize hK : loopQ RT f165_0m 0 f165_0 Q = K
        simp [f165_0, List.replicate, hl, c1, c2, hn1, hn2, he, hw, after_nr]
        subst hK
        exact hQr _ rfl rfl
      · have hlt : x % y < y := Nat.mod_lt _ (by omega)
        have hd := run_divided hx hy h0
        have hih := ih (x % y) hlt y hy (size_le_of (Nat.le_of_lt hlt) hy) (by rw [← hg, Nat.gcd_comm x y, Nat.gcd_rec y x, Nat.gcd_comm])
        generalize x % y = r at *
        rw [wpL_step]
        generalize hK : loopQ RT f165_0m 0 f165_0 Q = K
        by_cases c1 : ((dig x).length : Int) ≤ 2
        · have c2 : ¬ ((dig y).length : Int) ≤ 2 := by omega
          simp [f165_0, List.replicate, hl, c1, c2, hd, after_nr]
          subst hK
          simp [head, f165_0m, mask, trunc_len]
          simpa [f165_0m, List.replicate] using hih
        · simp [f165_0, List.replicate, hl, c1, hd, after_nr]
          subst hK
          simp [head, f165_0m, mask, trunc_len]
          simpa [f165_0m, List.replicate] using hih
theorem run_common {x y : Nat} (hx : size x < Lim) (hy : size y < Lim) : callPure RT 165 [N x, N y] = some (N (Nat.gcd x y)) := by
  refine callPure_of (wpF_of tab_165 rfl ?_)
  simp [f165, enter]
  simp [head, f165_0m, mask]
  refine common_loop (x0 := x) (y0 := y) ?_ ?_ y x hx hy rfl
  · intro tm hl h0
    simp [hl, h0]
  · intro tm hl h4
    simp [hl, h4]
theorem run_Gcd1 {i j : Int} (hi : zsize i < Lim) (hj : zsize j < Lim) : callPure RT 159 [Z i, Z j] = some (Z (Int.gcd i j : Int)) := by
  have hgs : size (Nat.gcd i.natAbs j.natAbs) < Lim := by
    by_cases h : i.natAbs = 0
    · rw [h, Nat.gcd_zero_left]; exact hj
    · exact size_le_of (Nat.gcd_le_left _ (by omega)) hi
  have hc := run_common hi hj
  have hs := run_madeN (n := Nat.gcd i.natAbs j.natAbs) (t := false) (neg := false) (Nat.le_of_lt hgs)
  simp only [Bool.false_eq_true, if_false] at hs
  have hz : Z (Int.gcd i j : Int) = Z ((Nat.gcd i.natAbs j.natAbs : Nat) : Int) := rfl
  rw [hz, Z_cells i, Z_cells j]
  have z1 := Z_cells ((Nat.gcd i.natAbs j.natAbs : Nat) : Int)
  refine callPure_of (wpF_of tab_159 rfl ?_)
  simp [f159, enter, rd, chk, hc, hs, after_nr, wr, splice, z1]
set_option maxHeartbeats 1000000 in
theorem run_DivMod1 {i j : Int} (hi : zsize i < Lim) (hj : zsize j < Lim) (hj0 : j ≠ 0) : callPure RT 166 [Z i, Z j] = some (.tup [Z (i / j), Z (i % j), .int .i64 0]) := by
  have hL : Lim = 1099511627776 := rfl
  obtain ⟨x, hx⟩ : ∃ x, x = i.natAbs := ⟨_, rfl⟩
  obtain ⟨y, hy⟩ : ∃ y, y = j.natAbs := ⟨_, rfl⟩
  have hxs : size x < Lim := by rw [hx]; exact hi
  have hys : size y < Lim := by rw [hy]; exact hj
  have hy0 : y ≠ 0 := by omega
  have hd := run_divided hxs hys hy0
  have hylen : ¬ (dig y).length = 0 := fun h => hy0 (dig_nil.1 (List.eq_nil_of_length_eq_zero h))
  have hyne : dig y ≠ [] := fun h => hylen (by rw [h]; rfl)
  have hq : size (x / y) < Lim := size_le_of (Nat.div_le_self x y) hxs
  have hrlt : x % y < y := Nat.mod_lt _ (by omega)
  have hr : size (x % y) < Lim := size_le_of (Nat.le_of_lt hrlt) hys
  have hdm := Nat.mod_add_div x y
  obtain ⟨q, hqe⟩ : ∃ q, q = x / y := ⟨_, rfl⟩
  obtain ⟨r, hre⟩ : ∃ r, r = x % y := ⟨_, rfl⟩
  rw [← hqe, ← hre] at hd hdm
  rw [← hqe] at hq
  rw [← hre] at hr hrlt
  have hI : i = if i < 0 then -(x : Int) else (x : Int) := by split <;> omega
  have hJ : j = if j < 0 then -(y : Int) else (y : Int) := by split <;> omega
  have hxI : (x : Int) = (r : Int) + (y : Int) * (q : Int) := by rw [← hdm]; push_cast; rfl
  have hsz1 : size 1 ≤ 1 := size_le (by decide)
  have hrl : (dig r).length = 0 ↔ r = 0 := ⟨fun h => dig_nil.1 (List.eq_nil_of_length_eq_zero h), fun h => by rw [h]; simp⟩
  have hb : AV.agg [.bool (decide (i < 0)), N x] = Z i := by rw [hx]; rfl
  have hb2 : AV.agg [.bool (decide (j < 0)), N y] = Z j := by rw [hy]; rfl
  by_cases c : i < 0 ∧ r ≠ 0
  · obtain ⟨ci, cr⟩ := c
    have hs1 := run_madeN (n := q + 1) (t := false) (neg := (decide (i < 0) != decide (j < 0))) (by
      have := size_add_le (x := q) (y := 1) (k := Lim - 1) (by omega) (by omega)
      omega)
    have hs2 := run_madeN (n := y - r) (t := false) (neg := false) (Nat.le_of_lt (size_le_of (Nat.sub_le y r) hys))
    have hadd := run_added (x := q) (y := 1) (by omega) (by omega)
    have hsub := run_taken (x := y) (y := r) (by omega) (by omega)
    have hN1 : N 1 = .sl [.int .u32 1] 1 false := by
      have : dig 1 = [1] := by rw [dig_pos (by decide), show 1 / B = 0 from rfl, dig_zero]; rfl
      simp [N, W, this]
    rw [hN1] at hadd
    have hir : i = -(x : Int) := by rw [if_pos ci] at hI; exact hI
    have hyr : ((y - r : Nat) : Int) = (y : Int) - (r : Int) := by omega
    have hem := ediv_of (i := i) (j := j) (r := ((y - r : Nat) : Int)) (q := if (decide (i < 0) != decide (j < 0)) = true then -((q + 1 : Nat) : Int) else ((q + 1 : Nat) : Int)) hj0 (by
      by_cases cj : j < 0
      · have hjr : j = -(y : Int) := by rw [if_pos cj] at hJ; exact hJ
        have e : (decide (i < 0) != decide (j < 0)) = false := by simp [ci, cj]
        rw [e, hyr, if_neg (by decide), hir, hxI, hjr]
        push_cast
        rw [Int.neg_mul, Int.mul_add]
        omega
      · have hjr : j = (y : Int) := by rw [if_neg cj] at hJ; exact hJ
        have e : (decide (i < 0) != decide (j < 0)) = true := by simp [ci, cj]
        rw [e, hyr, if_pos rfl, hir, hxI, hjr]
        push_cast
        rw [Int.mul_neg, Int.mul_add]
        omega) (by omega) (by omega)
    rw [hem.1, hem.2]
    simp only [Bool.false_eq_true, if_false] at hs2
    have hr0 : 0 < (dig r).length := by
      refine Nat.pos_of_ne_zero fun h => cr (hrl.1 h)
    have dci : decide (i < 0) = true := by simp [ci]
    rw [← hb, ← hb2]
    rw [dci] at hs1 ⊢
    generalize (if (true != decide (j < 0)) = true then -((q + 1 : Nat) : Int) else ((q + 1 : Nat) : Int)) = zq at *
    generalize ((y - r : Nat) : Int) = zr at *
    have z1 := Z_cells zq
    have z2 := Z_cells zr
    rw [show (true != decide (j < 0)) = !decide (j < 0) from by cases decide (j < 0) <;> rfl] at hs1
    refine callPure_of (wpF_of tab_166 rfl ?_)
    simp [f166, enter, rd, chk, hylen, hyne, hd, after_nr, hr0, opA_litn, fillE, elt, hadd, hsub, hs1, hs2, wr, splice, z1, z2]
  · have hs1 := run_madeN (n := q) (t := false) (neg := (decide (i < 0) != decide (j < 0))) (by omega)
    have hs2 := run_madeN (n := r) (t := false) (neg := false) (by omega)
    have hem := ediv_of (i := i) (j := j) (r := (r : Int)) (q := if (decide (i < 0) != decide (j < 0)) = true then -(q : Int) else (q : Int)) hj0 (by
      by_cases ci : i < 0
      · have hir : i = -(x : Int) := by rw [if_pos ci] at hI; exact hI
        have hr0 : r = 0 := Classical.byContradiction fun h => c ⟨ci, h⟩
        by_cases cj : j < 0
        · have hjr : j = -(y : Int) := by rw [if_pos cj] at hJ; exact hJ
          have e : (decide (i < 0) != decide (j < 0)) = false := by simp [ci, cj]
          rw [e, if_neg (by decide), hir, hxI, hjr, hr0, Int.neg_mul]; simp
        · have hjr : j = (y : Int) := by rw [if_neg cj] at hJ; exact hJ
          have e : (decide (i < 0) != decide (j < 0)) = true := by simp [ci, cj]
          rw [e, if_pos rfl, hir, hxI, hjr, hr0, Int.mul_neg]; simp
      · have hir : i = (x : Int) := by rw [if_neg ci] at hI; exact hI
        by_cases cj : j < 0
        · have hjr : j = -(y : Int) := by rw [if_pos cj] at hJ; exact hJ
          have e : (decide (i < 0) != decide (j < 0)) = true := by simp [ci, cj]
          rw [e, if_pos rfl, hir, hxI, hjr, Int.neg_mul_neg]
        · have hjr : j = (y : Int) := by rw [if_neg cj] at hJ; exact hJ
          have e : (decide (i < 0) != decide (j < 0)) = false := by simp [ci, cj]
          rw [e, if_neg (by decide), hir, hxI, hjr]) (by omega) (by omega)
    rw [hem.1, hem.2]
    simp only [Bool.false_eq_true, if_false] at hs2
    have hrz : i < 0 → (dig r).length = 0 := fun h => hrl.2 (Classical.byContradiction fun h' => c ⟨h, h'⟩)
    rw [← hb, ← hb2]
    generalize (if (decide (i < 0) != decide (j < 0)) = true then -(q : Int) else (q : Int)) = zq at *
    generalize (r : Int) = zr at *
    have z1 := Z_cells zq
    have z2 := Z_cells zr
    refine callPure_of (wpF_of tab_166 rfl ?_)
    by_cases ci : i < 0
    · have hrz' := hrz ci
      simp [ci] at hs1
      simp [f166, enter, rd, chk, hylen, hyne, hd, after_nr, hrz', ci, hs1, hs2, wr, splice, z1, z2]
    · simp [ci] at hs1
      simp [f166, enter, rd, chk, hylen, hyne, hd, after_nr, ci, hs1, hs2, wr, splice, z1, z2]
theorem run_exact {n g : Int} (hn : zsize n < Lim) (hg : zsize g < Lim) (hg0 : g ≠ 0) : callPure RT 161 [Z n, Z g] = some (Z (n / g)) := by
  have d := run_DivMod1 hn hg hg0
  refine callPure_of (wpF_of tab_161 rfl ?_)
  generalize n / g = q at *
  generalize n % g = r at *
  simp only [Z_cells] at d ⊢
  simp [f161, enter, rd, wr, chk, splice, d, after_nr]
set_option maxHeartbeats 1000000 in
theorem run_lowest1 {n d : Int} (hn : zsize n < Lim) (hd : zsize d < Lim) (hd0 : d ≠ 0) : callPure RT 153 [Z n, Z d] = some (QR (Rat.divInt n d)) := by
  have hg0 : Int.gcd n d ≠ 0 := fun h => hd0 (Int.gcd_eq_zero_iff.1 h).2
  have hgs : zsize (Int.gcd n d : Int) < Lim := by
    refine Nat.lt_of_le_of_lt (zsize_le ?_) hd
    have : Int.gcd n d ≤ d.natAbs := Nat.gcd_le_right _ (by omega)
    simpa using this
  have hgn : zsize (-(Int.gcd n d : Int)) < Lim := by unfold zsize at *; rwa [Int.natAbs_neg]
  have hgcd := run_Gcd1 hn hd
  have hsg := run_Sign1 d
  have hneg := run_Neg1 (i := (Int.gcd n d : Int)) (Nat.le_of_lt hgs)
  have d1 := run_exact (n := n) (g := (Int.gcd n d : Int)) hn hgs (by omega)
  have d2 := run_exact (n := d) (g := (Int.gcd n d : Int)) hd hgs (by omega)
  have d3 := run_exact (n := n) (g := -(Int.gcd n d : Int)) hn hgn (by omega)
  have d4 := run_exact (n := d) (g := -(Int.gcd n d : Int)) hd hgn (by omega)
  have hs := sign_gcd (n := n) hd0
  rw [QR_eq]
  have zden := Z_cells ((Rat.divInt n d).den : Int)
  have hdn : ¬ (((Rat.divInt n d).den : Int) < 0) := by omega
  simp only [hdn, decide_false, Int.natAbs_natCast] at zden
  have znum := Z_cells (Rat.divInt n d).num
  generalize (Rat.divInt n d).num = qn at *
  generalize hqd : (Rat.divInt n d).den = qd at *
  refine callPure_of (wpF_of tab_153 rfl ?_)
  by_cases c : d < 0
  · obtain ⟨e1, e2⟩ := hs.1 c
    rw [e1] at d3
    rw [e2] at d4
    have hsn : d.sign = -1 := Int.sign_eq_neg_one_of_neg c
    rw [hsn] at hsg
    rw [zden] at d4
    simp only [Z_cells] at hgcd hsg hneg d3 d4 ⊢
    generalize -(Int.gcd n d : Int) = h at *
    generalize (Int.gcd n d : Int) = g at *
    simp [f153, enter, rd, wr, chk, splice, hgcd, hsg, hneg, d3, d4, after_nr, fillA]
  · obtain ⟨e1, e2⟩ := hs.2 c
    rw [e1] at d1
    rw [e2] at d2
    have hsn : d.sign = 1 := Int.sign_eq_one_of_pos (by omega)
    rw [hsn] at hsg
    rw [zden] at d2
    simp only [Z_cells] at hgcd hsg d1 d2 ⊢
    generalize (Int.gcd n d : Int) = g at *
    simp [f153, enter, rd, wr, chk, splice, hgcd, hsg, d1, d2, after_nr, fillA]
theorem RB.mul2 {a b : Rat} {k l : Nat} (ha : RB a k) (hb : RB b l) : RB (a * b) (k + l) := by
  rw [Rat.mul_def', ← Rat.divInt_ofNat]
  refine RB_divInt ?_ ?_ (by have := ha.pos; omega)
  · have := zsize_mul a.num b.num
    have h1 := ha.1; have h2 := hb.1; omega
  · have := size_mul_le (x := a.den) (y := b.den)
    have h1 := ha.2; have h2 := hb.2
    show size (a.den * b.den) ≤ _
    omega
theorem zsize_add {a b : Int} {k : Nat} (ha : zsize a ≤ k) (hb : zsize b ≤ k) : zsize (a + b) ≤ k + 1 := by
  have h : (a + b).natAbs ≤ a.natAbs + b.natAbs := by omega
  exact Nat.le_trans (size_mono h) (size_add_le ha hb)
theorem RB.add2 {a b : Rat} {k l : Nat} (ha : RB a k) (hb : RB b l) : RB (a + b) (k + l + 1) := by
  rw [Rat.add_def', ← Rat.divInt_ofNat]
  have h1 := ha.1; have h2 := hb.1; have h3 := ha.2; have h4 := hb.2
  refine RB_divInt (zsize_add ?_ ?_) ?_ (by omega)
  · have := zsize_mul a.num (b.den : Int)
    rw [zsize_den] at this; omega
  · have := zsize_mul b.num (a.den : Int)
    rw [zsize_den] at this; omega
  · have := size_mul_le (x := a.den) (y := b.den)
    show size (a.den * b.den) ≤ _
    omega
theorem rat_neg_num (a : Rat) : (-a).num = -a.num := rfl
theorem rat_neg_den (a : Rat) : (-a).den = a.den := rfl
theorem RB.neg {a : Rat} {k : Nat} (ha : RB a k) : RB (-a) k := by
  refine ⟨?_, ?_⟩
  · rw [rat_neg_num]; unfold zsize; rw [Int.natAbs_neg]; exact ha.1
  · rw [rat_neg_den]; exact ha.2
theorem RB.sub2 {a b : Rat} {k l : Nat} (ha : RB a k) (hb : RB b l) : RB (a - b) (k + l + 1) := by
  rw [Rat.sub_eq_add_neg]; exact ha.add2 hb.neg
theorem inv_divInt' (a : Rat) : a⁻¹ = Rat.divInt (a.den : Int) a.num := by
  conv => lhs; rw [← Rat.num_divInt_den a]
  rw [Rat.inv_divInt]
theorem RB.inv {a : Rat} {k : Nat} (ha : RB a k) : RB a⁻¹ k := by
  rw [inv_divInt']
  exact RB_divInt (by rw [zsize_den]; exact ha.2) ha.1 ha.pos
theorem run_qMul {a b : Rat} {k l : Nat} (ha : RB a k) (hb : RB b l) (hk : 4 * (k + l) ≤ Lim) : callPure RT 148 [QR a, QR b] = some (QR (a * b)) := by
  have hL : Lim = 1099511627776 := rfl
  have h1 := ha.1; have h2 := hb.1; have h3 := ha.2; have h4 := hb.2
  have hp := ha.pos
  have p1 := run_Mul1 (i := a.num) (j := b.num) (by omega) (by omega)
  have p2 := run_Mul1 (i := (a.den : Int)) (j := (b.den : Int)) (by rw [zsize_den]; omega) (by rw [zsize_den]; omega)
  have m1 := zsize_mul a.num b.num
  have m2 := zsize_mul (a.den : Int) (b.den : Int)
  rw [zsize_den, zsize_den] at m2
  have hd0 : (a.den : Int) * (b.den : Int) ≠ 0 := Int.mul_ne_zero (by have := a.den_nz; omega) (by have := b.den_nz; omega)
  have lo := run_lowest1 (n := a.num * b.num) (d := (a.den : Int) * (b.den : Int)) (by omega) (by omega) hd0
  have e : Rat.divInt (a.num * b.num) ((a.den : Int) * (b.den : Int)) = a * b := by
    rw [Rat.mul_def', ← Rat.divInt_ofNat]; push_cast; rfl
  rw [e] at lo
  rw [Zden, Zden] at p2
  rw [cells_QR (a * b)] at lo ⊢
  rw [cells_QR a, cells_QR b]
  simp only [Z_cells] at p1 p2 lo
  generalize a.num * b.num = nn at *
  generalize (a.den : Int) * (b.den : Int) = dd at *
  generalize (a * b).num = rn at *
  generalize (a * b).den = rd' at *
  refine callPure_of (wpF_of tab_148 rfl ?_)
  simp [f148, enter, rd, wr, chk, splice, p1, p2, lo, after_nr]
theorem run_qAdd {a b : Rat} {k l : Nat} (ha : RB a k) (hb : RB b l) (hk : 4 * (k + l) + 8 ≤ Lim) : callPure RT 157 [QR a, QR b] = some (QR (a + b)) := by
  have hL : Lim = 1099511627776 := rfl
  have h1 := ha.1; have h2 := hb.1; have h3 := ha.2; have h4 := hb.2
  have p1 := run_Mul1 (i := a.num) (j := (b.den : Int)) (by omega) (by rw [zsize_den]; omega)
  have p2 := run_Mul1 (i := b.num) (j := (a.den : Int)) (by omega) (by rw [zsize_den]; omega)
  have p3 := run_Mul1 (i := (a.den : Int)) (j := (b.den : Int)) (by rw [zsize_den]; omega) (by rw [zsize_den]; omega)
  have m1 := zsize_mul a.num (b.den : Int)
  have m2 := zsize_mul b.num (a.den : Int)
  have m3 := zsize_mul (a.den : Int) (b.den : Int)
  rw [zsize_den] at m1 m2
  rw [zsize_den, zsize_den] at m3
  have sb := run_Add1 (i := a.num * (b.den : Int)) (j := b.num * (a.den : Int)) (by omega) (by omega)
  have ms := zsize_add (a := a.num * (b.den : Int)) (b := b.num * (a.den : Int)) (k := k + l) (by omega) (by omega)
  have hd0 : (a.den : Int) * (b.den : Int) ≠ 0 := Int.mul_ne_zero (by have := a.den_nz; omega) (by have := b.den_nz; omega)
  have lo := run_lowest1 (n := a.num * (b.den : Int) + b.num * (a.den : Int)) (d := (a.den : Int) * (b.den : Int)) (by omega) (by omega) hd0
  have e : Rat.divInt (a.num * (b.den : Int) + b.num * (a.den : Int)) ((a.den : Int) * (b.den : Int)) = a + b := by
    rw [Rat.add_def', ← Rat.divInt_ofNat]; push_cast; rfl
  rw [e] at lo
  rw [Zden] at p1 p2
  rw [Zden, Zden] at p3
  rw [cells_QR (a + b)] at lo ⊢
  rw [cells_QR a, cells_QR b]
  simp only [Z_cells] at p1 p2 p3 sb lo
  generalize a.num * (b.den : Int) + b.num * (a.den : Int) = nn at *
  generalize a.num * (b.den : Int) = n1 at *
  generalize b.num * (a.den : Int) = n2 at *
  generalize (a.den : Int) * (b.den : Int) = dd at *
  generalize (a + b).num = rn at *
  generalize (a + b).den = rd' at *
  refine callPure_of (wpF_of tab_157 rfl ?_)
  simp [f157, enter, rd, wr, chk, splice, p1, p2, p3, sb, lo, after_nr]
theorem run_qNeg {a : Rat} {k : Nat} (ha : RB a k) (hk : k ≤ Lim) : callPure RT 158 [QR a] = some (QR (-a)) := by
  have h1 := ha.1
  have p1 := run_Neg1 (i := a.num) (by omega)
  rw [cells_QR a, cells_QR (-a), rat_neg_num, rat_neg_den]
  simp only [Z_cells] at p1
  generalize -a.num = nn at *
  refine callPure_of (wpF_of tab_158 rfl ?_)
  simp [f158, enter, rd, wr, chk, splice, p1, after_nr, fillA]
theorem run_qSub {a b : Rat} {k l : Nat} (ha : RB a k) (hb : RB b l) (hk : 4 * (k + l) + 8 ≤ Lim) : callPure RT 150 [QR a, QR b] = some (QR (a - b)) := by
  have hL : Lim = 1099511627776 := rfl
  have p1 := run_qNeg hb (by omega)
  have p2 := run_qAdd ha hb.neg hk
  rw [← Rat.sub_eq_add_neg] at p2
  rw [cells_QR (a - b)] at p2 ⊢
  rw [cells_QR a, cells_QR (-b)] at p2
  rw [cells_QR b, cells_QR (-b)] at p1
  rw [cells_QR a, cells_QR b]
  generalize (-b).num = n1 at *
  generalize (-b).den = n2 at *
  generalize (a - b).num = rn at *
  generalize (a - b).den = rd' at *
  refine callPure_of (wpF_of tab_150 rfl ?_)
  simp [f150, enter, rd, wr, chk, splice, p1, p2, after_nr]
theorem run_qSign (q : Rat) : callPure RT 146 [QR q] = some (.int .i64 q.num.sign) := by
  have hsg := run_Sign1 q.num
  rw [cells_QR q]
  simp only [Z_cells] at hsg
  refine callPure_of (wpF_of tab_146 rfl ?_)
  simp [f146, enter, rd, chk, hsg, after_nr]
theorem run_qNew {n d : Int} (hn : zsize n < Lim) (hd : zsize d < Lim) (hd0 : d ≠ 0) : callPure RT 152 [Z n, Z d] = some (.tup [QR (Rat.divInt n d), .int .i64 0]) := by
  have lo := run_lowest1 hn hd hd0
  have hsg := run_Sign1 d
  have hs0 : d.sign ≠ 0 := fun h => hd0 (Int.sign_eq_zero_iff_zero.1 h)
  rw [cells_QR] at lo ⊢
  generalize (Rat.divInt n d).num = rn at *
  generalize (Rat.divInt n d).den = rd' at *
  simp only [Z_cells] at lo hsg ⊢
  generalize d.sign = sg at *
  refine callPure_of (wpF_of tab_152 rfl ?_)
  simp [f152, enter, rd, wr, chk, splice, hsg, hs0, lo, after_nr]
theorem run_qInv {a : Rat} {k : Nat} (ha : RB a k) (hk : k < Lim) (h0 : a ≠ 0) : callPure RT 147 [QR a] = some (.tup [QR a⁻¹, .int .i64 0]) := by
  have h1 := ha.1; have h2 := ha.2
  have hn0 : a.num ≠ 0 := fun h => h0 (Rat.num_eq_zero.1 h)
  have p := run_qNew (n := (a.den : Int)) (d := a.num) (by rw [zsize_den]; omega) (by omega) hn0
  rw [← inv_divInt', Zden] at p
  rw [cells_QR a⁻¹] at p ⊢
  rw [cells_QR a]
  generalize a⁻¹.num = rn at *
  generalize a⁻¹.den = rd' at *
  simp only [Z_cells] at p
  refine callPure_of (wpF_of tab_147 rfl ?_)
  simp [f147, enter, rd, wr, chk, splice, p, after_nr]
theorem run_qWhole {n : Int} (h1 : -9223372036854775808 ≤ n) (h2 : n < 9223372036854775808) : callPure RT 144 [.int .i64 n] = some (QR (n : Rat)) := by
  have ho := run_Of1 h1 h2
  have h1 : callPure RT 149 [.int .i64 1] = some (Z 1) := run_Of1 (n := 1) (by decide) (by decide)
  rw [cells_QR]
  simp only [Rat.num_intCast, Rat.den_intCast]
  simp only [Z_cells] at ho h1
  simp at h1
  refine callPure_of (wpF_of tab_144 rfl ?_)
  simp [f144, enter, rd, wr, chk, splice, ho, h1, after_nr, fillA]
  exact decide_eq_decide.2 Iff.rfl
theorem qcells_fzc (S : Store) (f : Nat) : ∀ l : List Rat, (qcells l).mapM (fzc S f) = some (qcells l)
  | [] => rfl
  | q :: l => by
    have ih := qcells_fzc S f l
    rw [qcells_cons]
    have : qc q = [.bool (decide (q.num < 0)), N q.num.natAbs, .bool (decide ((q.den : Int) < 0)), N q.den] := rfl
    rw [this]
    simp [ih]
theorem qcells_nrc : ∀ l : List Rat, (qcells l).all nrc = true
  | [] => rfl
  | q :: l => by
    rw [qcells_cons, List.all_append, qc_nr, qcells_nrc l]; rfl
theorem RB_lessRow {c : Rat} {p l : List Rat} {a b : Nat} (hl : ∀ q ∈ l, RB q a) (hp : ∀ q ∈ p, RB q b) (hc : RB c a) : ∀ q ∈ lessRow c p l, RB q (2 * a + b + 1) := fun q hq => by
  unfold lessRow at hq
  obtain ⟨n, hn⟩ := List.mem_iff_getElem?.1 hq
  rw [List.getElem?_zipWith] at hn
  cases h1 : l[n]? with
  | none => rw [h1] at hn; simp at hn
  | some x =>
    cases h2 : p[n]? with
    | none => rw [h1, h2] at hn; simp at hn
    | some y =>
      rw [h1, h2] at hn
      simp at hn
      subst hn
      exact ((hl x (List.mem_of_getElem? h1)).sub2 (hc.mul2 (hp y (List.mem_of_getElem? h2)))).mono (by omega)
set_option maxRecDepth 20000 in
theorem reduced_loop {l p : List Rat} {c : Rat} (hl : l.length = 8) (hp : p.length = 8) {a b : Nat} (hRl : ∀ q ∈ l, RB q a) (hRp : ∀ q ∈ p, RB q b) (hRc : RB c a) (hK : 8 * a + 4 * b + 8 ≤ Lim) {Z : Blk} {Q : FQ}
    (hQ : ∀ (tm : List AV) (ht : tm.length = 28), tm[3] = .mptr 0 0 32 → tm[6] = .mptr 2 0 32 → Q (.ex 0) ⟨tm, [.mu (qcells (lessRow c p l)) true, .mu (qcells p) true, Z, .mu (qc c) true]⟩) :
    ∀ (m n : Nat), n + m = 8 →
    wpL RT f145_0m 4 f145_0 ⟨[.any, .any, .any, .mptr 0 0 32, .mptr 1 0 32, .any, .mptr 2 0 32, .mptr 3 0 4, .int .i64 (n : Int)] ++ List.replicate 19 .any, [.mu (qcells (partRow c p l n)) true, .mu (qcells p) true, Z, .mu (qc c) true]⟩ Q := by
  intro m
  induction m with
  | zero =>
    intro n hn
    have hn' : n = 8 := by omega
    subst hn'
    rw [partRow_full hl hp]
    rw [wpL_step]
    generalize hK' : loopQ RT f145_0m 4 f145_0 Q = KK
    simp [f145_0, List.replicate]
    subst hK'
    exact hQ _ rfl rfl rfl
  | succ m ih =>
    intro n hn
    have hn8 : n < 8 := by omega
    have hlt : (n : Int) < 8 := by omega
    have hw : IntKind.i64.wrap ((n : Int) + 1) = ((n + 1 : Nat) : Int) := wrap_i64 (by omega) (by omega)
    have hpl := partRow_len (c := c) hl hp (n := n) (by omega)
    have hnn : (n : Int) * 4 = ((n * 4 : Nat) : Int) := by push_cast; rfl
    have r1 : rd [.mu (qcells (partRow c p l n)) true, .mu (qcells p) true, Z, .mu (qc c) true] 0 (n * 4) 32 4 = some (qc l[n]) := by
      have := rd_q (S := [.mu (qcells (partRow c p l n)) true, .mu (qcells p) true, Z, .mu (qc c) true]) (b := 0) (n := n) (vl := 32) rfl (by omega) (by omega)
      rwa [partRow_get hl hp hn8] at this
    have r2 : rd [.mu (qcells (partRow c p l n)) true, .mu (qcells p) true, Z, .mu (qc c) true] 1 (n * 4) 32 4 = some (qc p[n]) := rd_q (b := 1) rfl (by omega) (by omega)
    have r3 : rd [.mu (qcells (partRow c p l n)) true, .mu (qcells p) true, Z, .mu (qc c) true] 3 0 4 4 = some (qc c) := rfl
    have hRpn := hRp p[n] (List.getElem_mem (by omega))
    have hRln := hRl l[n] (List.getElem_mem (by omega))
    have m1 := run_qMul hRc hRpn (by omega)
    have m2 := run_qSub hRln (hRc.mul2 hRpn) (by omega)
    have w1 : wr [.mu (qcells (partRow c p l n)) true, .mu (qcells p) true, Z, .mu (qc c) true] 0 (n * 4) 32 (qc (l[n] - c * p[n])) = some [.mu (qcells (partRow c p l (n + 1))) true, .mu (qcells p) true, Z, .mu (qc c) true] := by
      have := wr_q (S := [.mu (qcells (partRow c p l n)) true, .mu (qcells p) true, Z, .mu (qc c) true]) (b := 0) (n := n) (vl := 32) (q := l[n] - c * p[n]) rfl (by omega) (by omega)
      rw [partRow_set hl hp hn8] at this
      simpa using this
    have hih := ih (n + 1) (by omega)
    rw [QR_qc, QR_qc] at m1 m2
    rw [QR_qc] at m1 m2
    have g1 := qc_nr c
    have g2 := qc_nr p[n]
    have g3 := qc_nr l[n]
    have g4 := qc_nr (c * p[n])
    have f1 := fun S => qc_fz c S
    have f2 := fun S => qc_fz p[n] S
    have f3 := fun S => qc_fz l[n] S
    have f4 := fun S => qc_fz (c * p[n]) S
    have q1 := qc_len c
    have q2 := qc_len p[n]
    have q3 := qc_len l[n]
    have q4 := qc_len (l[n] - c * p[n])
    generalize qcells (partRow c p l n) = X at *
    generalize qcells (partRow c p l (n + 1)) = X' at *
    generalize qcells p = Y at *
    generalize qc (l[n] - c * p[n]) = z at *
    generalize qc (c * p[n]) = y at *
    generalize qc l[n] = x1 at *
    generalize qc p[n] = x2 at *
    generalize qc c = x3 at *
    rw [wpL_step]
    generalize hK' : loopQ RT f145_0m 4 f145_0 Q = KK
    simp [f145_0, List.replicate, hlt, r1, r2, r3, m1, m2, w1, hw, f1, f2, f3, f4, after_nr, nr1, g1, g2, g3, g4, q1, q2, q3, q4]
    subst hK'
    simp [head, f145_0m, mask, trunc_len]
    simpa [f145_0m, List.replicate] using hih
set_option maxRecDepth 20000 in
theorem run_reduced {l p : List Rat} {k : Nat} (hl : l.length = 8) (hp : p.length = 8) (hk : k < 8) {a b : Nat} (hRl : ∀ q ∈ l, RB q a) (hRp : ∀ q ∈ p, RB q b) (hK : 8 * a + 4 * b + 8 ≤ Lim) :
    callPure RT 145 [.agg (qcells l), .agg (qcells p), .int .i64 (k : Int)] = some (.agg (qcells (lessRow (l.getD k 0) p l))) := by
  have hg : l.getD k 0 = l[k] := by rw [List.getD_eq_getElem?_getD, List.getElem?_eq_getElem (by omega)]; rfl
  rw [hg]
  have hkl' : k < l.length := by omega
  have hRc := hRl l[k] (List.getElem_mem hkl')
  have rk : ∀ A B : Blk, rd [.mu (qcells l) true, A, B] 0 (k * 4) 32 4 = some (qc l[k]) := fun A B => rd_q (b := 0) rfl (by omega) hkl'
  have rk2 : ∀ A B C : Blk, rd [.mu (qcells l) true, A, B, C] 0 (k * 4) 32 4 = some (qc l[k]) := fun A B C => rd_q (b := 0) rfl (by omega) hkl'
  generalize l[k] = cc at *
  have key := fun (Z : Blk) (Q : FQ) hQ => reduced_loop (c := cc) hl hp hRl hRp hRc hK (Z := Z) (Q := Q) hQ 8 0 rfl
  have h0 : partRow cc p l 0 = l := by simp [partRow]
  simp only [h0] at key
  have hln := qcells_len l
  have hpn := qcells_len p
  have hrn := qcells_len (lessRow cc p l)
  rw [lessRow_len hl hp] at hrn
  rw [hl] at hln
  rw [hp] at hpn
  have hrt : (qcells (lessRow cc p l)).take 32 = qcells (lessRow cc p l) := List.take_of_length_le (by omega)
  have hkl : (k : Int) < 8 := by omega
  have q1 := qc_len cc
  have hfz := fun S f => qcells_fzc S f (lessRow cc p l)
  have hlk : ∀ S : Store, S.length = S.length := fun _ => rfl
  refine callPure_of (wpF_of tab_145 rfl ?_)
  generalize qcells (lessRow cc p l) = R at *
  generalize qcells l = X at *
  generalize qcells p = Y at *
  generalize qc cc = c at *
  have hspl : splice [AV.bool false, .sl [] 1 true, .bool false, .sl [] 1 true] 0 c = c := by
    unfold splice; rw [q1]; simp
  have hsplR : ∀ z : List AV, z.length = 32 → splice z 0 R = R := fun z hz => by
    unfold splice; rw [hrn]; simp [hz]
  simp [f145, enter, hln, hpn, hkl, rk, rk2, q1, wr, chk, hspl]
  simp only [head]
  rw [mask_of (n := 28) (by simp)]
  simp [f145_0m, List.range_succ, trunc_len]
  simp [List.replicate, f145_0m] at key
  refine key _ _ ?_
  intro tm ht t3 t6
  simp [ht, t3, t6, rd, wr, chk, hrn, hrt, hsplR, hfz]
theorem get_other {S : Store} {b c : Nat} {X : Blk} (h : c ≠ b) : (S.set b X)[c]? = S[c]? := List.getElem?_set_ne (by omega)
def Z32 : List AV := [.bool false, .sl [] 1 true, .bool false, .sl [] 1 true, .bool false, .sl [] 1 true, .bool false, .sl [] 1 true, .bool false, .sl [] 1 true, .bool false, .sl [] 1 true, .bool false, .sl [] 1 true, .bool false, .sl [] 1 true, .bool false, .sl [] 1 true, .bool false, .sl [] 1 true, .bool false, .sl [] 1 true, .bool false, .sl [] 1 true, .bool false, .sl [] 1 true, .bool false, .sl [] 1 true, .bool false, .sl [] 1 true, .bool false, .sl [] 1 true]
def fillC (w : List Int) (k : Nat) : List AV := qcells ((toQ w).take k) ++ Z32.drop (4 * k)
theorem fillC_len {w : List Int} {k : Nat} (hw : w.length = 8) (hk : k ≤ 8) : (fillC w k).length = 32 := by
  unfold fillC
  rw [List.length_append, qcells_len, List.length_take, toQ_len, List.length_drop]
  have : Z32.length = 32 := rfl
  omega
theorem fillC_next {w : List Int} {k : Nat} {x : Int} (hw : w.length = 8) (hk : k < 8) (hx : w[k]? = some x) : splice (fillC w k) (k * 4) (qc (x : Rat)) = fillC w (k + 1) := by
  have h1 : (qcells ((toQ w).take k)).length = k * 4 := by rw [qcells_len, List.length_take, toQ_len]; omega
  have h2 : (toQ w).take (k + 1) = (toQ w).take k ++ [(x : Rat)] := by
    rw [List.take_add_one]
    have : (toQ w)[k]? = some (x : Rat) := by unfold toQ; rw [List.getElem?_map, hx]; rfl
    rw [this]; rfl
  unfold splice fillC
  rw [h2, qcells_append, qc_len, List.take_append_of_le_length (by omega), List.take_of_length_le (by omega)]
  rw [List.drop_append, List.drop_of_length_le (by omega), List.nil_append, h1, List.drop_drop]
  have e1 : 4 * k + (k * 4 + 4 - k * 4) = 4 * (k + 1) := by omega
  rw [e1, List.append_assoc]
  congr 1
theorem fillC_full {w : List Int} (hw : w.length = 8) : fillC w 8 = qcells (toQ w) := by
  unfold fillC
  rw [List.take_of_length_le (by rw [toQ_len]; omega), List.drop_of_length_le (by decide), List.append_nil]
set_option maxRecDepth 20000 in
theorem fill_loop {S : Store} {br i : Nat} {o : List (List Int)} {w : List Int} (hbr : br < S.length) (hi : o[i]? = some w) (hw : w.length = 8) (hwB : Bd 1000000 w) {v3 v4 : AV} {Q : FQ}
    (hQ : ∀ (tm : List AV) (ht : tm.length = 90), tm[0] = OR o → tm[3] = v3 → tm[4] = v4 → tm[5] = .int .i64 (i : Int) → tm[6] = .mptr br 0 32 → Q (.ex 2) ⟨tm, S.set br (.mu (qcells (toQ w)) true)⟩) :
    ∀ (m k : Nat), k + m = 8 →
    wpL RT f141_0m S.length f141_0 ⟨[OR o, .any, .any, v3, v4, .int .i64 (i : Int), .mptr br 0 32, .int .i64 (k : Int)] ++ List.replicate 82 .any, S.set br (.mu (fillC w k) true)⟩ Q := by
  have hil := (List.getElem?_eq_some_iff.1 hi).1
  have hilt : (i : Int) < (o.length : Int) := by omega
  intro m
  induction m with
  | zero =>
    intro k hk
    have hk' : k = 8 := by omega
    subst hk'
    rw [fillC_full hw]
    rw [wpL_step]
    generalize hK' : loopQ RT f141_0m S.length f141_0 Q = KK
    simp [f141_0, List.replicate]
    subst hK'
    exact hQ _ rfl rfl rfl rfl rfl rfl
  | succ m ih =>
    intro k hk
    have hk8 : k < 8 := by omega
    have hlt : (k : Int) < 8 := by omega
    have hw1 : IntKind.i64.wrap ((k : Int) + 1) = ((k + 1 : Nat) : Int) := wrap_i64 (by omega) (by omega)
    obtain ⟨x, hx⟩ : ∃ x, w[k]? = some x := ⟨w[k], List.getElem?_eq_getElem (by omega)⟩
    have hxb := hwB x (List.mem_of_getElem? hx)
    have hwh := run_qWhole (n := x) (by omega) (by omega)
    have hln : 1 ≤ 8 - k := by omega
    have hwr : wr (S.set br (.mu (fillC w k) true)) br (k * 4) 32 (qc (x : Rat)) = some (S.set br (.mu (fillC w (k + 1)) true)) := by
      rw [wr_mu (set_get hbr) (fillC_len hw (by omega)) (by rw [qc_len]; omega), fillC_next hw hk8 hx, List.set_set]
    have hih := ih (k + 1) (by omega)
    rw [QR_qc] at hwh
    have q1 := qc_len (x : Rat)
    generalize qc (x : Rat) = z at *
    generalize fillC w k = X at *
    generalize fillC w (k + 1) = X' at *
    rw [wpL_step]
    generalize hK' : loopQ RT f141_0m S.length f141_0 Q = KK
    simp [f141_0, List.replicate, hlt, hilt, hi, hw, hln, hx, hwh, after_nr, q1, hwr, hw1]
    subst hK'
    simp [head, f141_0m, mask, trunc_len]
    simpa [f141_0m, List.replicate] using hih
abbrev Dn := List (List Rat × Nat)
def dcells (D : Dn) : List AV := D.flatMap fun p => qcells p.1
def dats (D : Dn) : List Int := D.map fun p => (p.2 : Int)
def D8 (D : Dn) : Prop := ∀ p ∈ D, p.1.length = 8
theorem dcells_len : ∀ {D : Dn}, D8 D → (dcells D).length = 32 * D.length
  | [], _ => rfl
  | p :: D, h => by
    have := dcells_len (D := D) fun x hx => h x (by simp [hx])
    have h8 := h p (by simp)
    unfold dcells at this ⊢
    rw [List.flatMap_cons, List.length_append, this, qcells_len, List.length_cons]; omega
theorem dcells_get : ∀ {D : Dn} {n : Nat} {p : List Rat × Nat}, D8 D → D[n]? = some p → ((dcells D).drop (n * 32)).take 32 = qcells p.1
  | [], n, p, _, h => by simp at h
  | p :: D, 0, q, h8, h => by
    simp at h; subst h
    have hl := qcells_len p.1
    rw [h8 p (by simp)] at hl
    unfold dcells
    rw [List.flatMap_cons, Nat.zero_mul, List.drop_zero, List.take_append_of_le_length (by omega), List.take_of_length_le (by omega)]
  | p :: D, n + 1, q, h8, h => by
    have hl := qcells_len p.1
    rw [h8 p (by simp)] at hl
    have ih := dcells_get (D := D) (n := n) (p := q) (fun x hx => h8 x (by simp [hx])) (by simpa using h)
    unfold dcells at ih ⊢
    rw [List.flatMap_cons, List.drop_append, List.drop_of_length_le (by omega), List.nil_append, hl]
    have e : (n + 1) * 32 - 4 * 8 = n * 32 := by omega
    rw [e, ih]
def DoneR (S : Store) (v3 v4 : AV) (D : Dn) : Prop := D8 D ∧ ((D = [] ∧ v3 = .sl [] 32 true ∧ v4 = .sl [] 1 true) ∨
  (D ≠ [] ∧ ∃ bd ba, bd ≠ ba ∧ v3 = .msl bd 0 D.length 32 (D.length * 32) none ∧ v4 = .msl ba 0 D.length 1 D.length none ∧ S[bd]? = some (.mu (dcells D) false) ∧ S[ba]? = some (.mu (nums .i64 (dats D)) false)))
def redAll (D : Dn) (r : List Rat) : List Rat := D.foldl (fun r p => lessRow (r.getD p.2 0) p.1 r) r
theorem redAll_snoc (D : Dn) (p : List Rat × Nat) (r : List Rat) : redAll (D ++ [p]) r = lessRow ((redAll D r).getD p.2 0) p.1 (redAll D r) := by
  unfold redAll; rw [List.foldl_append]; rfl
theorem redAll_len : ∀ {D : Dn} {r : List Rat}, D8 D → r.length = 8 → (redAll D r).length = 8
  | [], r, _, h => h
  | p :: D, r, h8, h => by
    show (redAll D (lessRow (r.getD p.2 0) p.1 r)).length = 8
    exact redAll_len (fun x hx => h8 x (by simp [hx])) (lessRow_len h (h8 p (by simp)))
def Rk : Nat → Nat
  | 0 => 1
  | n + 1 => 4 * Rk n + 1
theorem Rk_le : ∀ {n : Nat}, n ≤ 8 → Rk n ≤ 100000 := by
  intro n hn
  have h : n = 0 ∨ n = 1 ∨ n = 2 ∨ n = 3 ∨ n = 4 ∨ n = 5 ∨ n = 6 ∨ n = 7 ∨ n = 8 := by omega
  rcases h with rfl | rfl | rfl | rfl | rfl | rfl | rfl | rfl | rfl <;> decide
def DB (D : Dn) : Prop := ∀ n p, D[n]? = some p → p.2 < 8 ∧ ∀ q ∈ p.1, RB q (2 * Rk n)
set_option maxRecDepth 20000 in
theorem less_loop {S : Store} {br i : Nat} {v0 v3 v4 : AV} {D : Dn} {r0 : List Rat} (hbr : br < S.length) (hr0 : ∃ X, S[br]? = some (.mu X true)) (hD : DoneR S v3 v4 D) (hDB : DB D) (hDl : D.length ≤ 8) (h8 : r0.length = 8) (hR0 : ∀ q ∈ r0, RB q 1) {Q : FQ}
    (hQ : ∀ (tm : List AV) (ht : tm.length = 90), tm[0] = v0 → tm[3] = v3 → tm[4] = v4 → tm[5] = .int .i64 (i : Int) → tm[6] = .mptr br 0 32 → (∀ q ∈ redAll D r0, RB q (Rk D.length)) → Q (.ex 4) ⟨tm, S.set br (.mu (qcells (redAll D r0)) true)⟩) :
    ∀ (m n : Nat), n + m = D.length → (∀ q ∈ redAll (D.take n) r0, RB q (Rk n)) →
    wpL RT f141_1m S.length f141_1 ⟨[v0, .any, .any, v3, v4, .int .i64 (i : Int), .mptr br 0 32, .any, .int .i64 (n : Int)] ++ List.replicate 81 .any, S.set br (.mu (qcells (redAll (D.take n) r0)) true)⟩ Q := by
  intro m
  induction m with
  | zero =>
    intro n hn hR
    have hn' : n = D.length := by omega
    subst hn'
    rw [List.take_of_length_le (Nat.le_refl _)] at hR ⊢
    rw [wpL_step]
    generalize hK' : loopQ RT f141_1m S.length f141_1 Q = KK
    rcases hD.2 with ⟨rfl, rfl, rfl⟩ | ⟨hne, bd, ba, hnb, rfl, rfl, hg1, hg2⟩
    · simp [f141_1, List.replicate]
      subst hK'
      exact hQ _ rfl rfl rfl rfl rfl rfl hR
    · simp [f141_1, List.replicate]
      subst hK'
      exact hQ _ rfl rfl rfl rfl rfl rfl hR
  | succ m ih =>
    intro n hn hR
    have hnl : n < D.length := by omega
    have hlt : (n : Int) < (D.length : Int) := by omega
    have hw1 : IntKind.i64.wrap ((n : Int) + 1) = ((n + 1 : Nat) : Int) := wrap_i64 (by omega) (by omega)
    obtain ⟨X0, hX0⟩ := hr0
    rcases hD.2 with ⟨rfl, _, _⟩ | ⟨hne, bd, ba, hnb, rfl, rfl, hg1, hg2⟩
    · simp at hnl
    obtain ⟨p, hp⟩ : ∃ p, D[n]? = some p := ⟨D[n], List.getElem?_eq_getElem hnl⟩
    obtain ⟨hpk, hpB⟩ := hDB n p hp
    have hp8 := hD.1 p (List.mem_of_getElem? hp)
    have hb1 : bd ≠ br := fun e => by rw [e, hX0] at hg1; cases hg1
    have hb2 : ba ≠ br := fun e => by rw [e, hX0] at hg2; cases hg2
    have htk : D.take (n + 1) = D.take n ++ [p] := by rw [List.take_add_one, hp]; rfl
    have hrl : (redAll (D.take n) r0).length = 8 := redAll_len (fun x hx => hD.1 x (List.mem_of_mem_take hx)) h8
    have hRn : Rk n ≤ 100000 := Rk_le (by omega)
    have hrun := run_reduced (k := p.2) hrl hp8 hpk hR hpB (by have : Lim = 1099511627776 := rfl; omega)
    have hih := ih (n + 1) (by omega)
    rw [htk, redAll_snoc] at hih
    have hih2 := hih (fun q hq => by
      have := RB_lessRow hR hpB (hR _ (by
        rw [List.getD_eq_getElem?_getD, List.getElem?_eq_getElem (by omega)]
        exact List.getElem_mem (by omega))) q hq
      exact this.mono (by simp only [Rk]; omega))
    have hr1 : ∀ X, X.length = 32 → rd (S.set br (.mu X true)) br 0 32 32 = some X := fun X hX => by
      rw [rd_mu (set_get hbr) hX (by omega), List.drop_zero, List.take_of_length_le (by omega)]
    have hr2 : ∀ X, rd (S.set br (.mu X true)) bd (n * 32) (D.length * 32) 32 = some (qcells p.1) := fun X => by
      rw [rd_mu (by rw [get_other hb1]; exact hg1) (by rw [dcells_len hD.1]; omega) (by omega), dcells_get hD.1 hp]
    have hr3 : ∀ X, rd (S.set br (.mu X true)) ba n D.length 1 = some [.int .i64 (p.2 : Int)] := fun X =>
      rd_num (by rw [get_other hb2]; exact hg2) (by simp [dats]) (by unfold dats; rw [List.getElem?_map, hp]; rfl)
    have hl1 := qcells_len (redAll (D.take n) r0)
    rw [hrl] at hl1
    have hl2 := qcells_len (lessRow ((redAll (D.take n) r0).getD p.2 0) p.1 (redAll (D.take n) r0))
    rw [lessRow_len hrl hp8] at hl2
    have hwr : ∀ X Y : List AV, X.length = 32 → Y.length = 32 → wr (S.set br (.mu X true)) br 0 32 Y = some (S.set br (.mu Y true)) := fun X Y hX hY => by
      rw [wr_mu (set_get hbr) hX (by omega), List.set_set]
      congr 3
      unfold splice
      simp [hX, hY]
    have f1 := fun S f => qcells_fzc S f (redAll (D.take n) r0)
    have f2 := fun S f => qcells_fzc S f p.1
    have g1 := qcells_nrc (redAll (D.take n) r0)
    have g2 := qcells_nrc p.1
    have hr1' := hr1 _ hl1
    have hwr' := hwr _ _ hl1 hl2
    generalize qcells (lessRow ((redAll (D.take n) r0).getD p.2 0) p.1 (redAll (D.take n) r0)) = Y at *
    generalize qcells (redAll (D.take n) r0) = X at *
    have hr2' := hr2 X
    have hr3' := hr3 X
    generalize qcells p.1 = P at *
    have hl2' : Y.length = 32 := by omega
    rw [wpL_step]
    generalize hK' : loopQ RT f141_1m S.length f141_1 Q = KK
    simp [f141_1, List.replicate, hlt, hr1', hr2', hr3', f1, f2, hrun, after_nr, g1, g2, hl2', hwr', hw1]
    subst hK'
    simp [head, f141_1m, mask, trunc_len]
    simpa [f141_1m, List.replicate] using hih2
def FirstNZ (r : List Rat) (k : Nat) : Prop := k ≤ 8 ∧ (∀ j, j < k → r.getD j 0 = 0) ∧ (k < 8 → r.getD k 0 ≠ 0)
theorem getD_of {α : Type} {l : List α} {n : Nat} {d : α} (h : n < l.length) : l.getD n d = l[n] := by
  rw [List.getD_eq_getElem?_getD, List.getElem?_eq_getElem h]; rfl
set_option maxRecDepth 20000 in
theorem pivf_loop {S : Store} {br i : Nat} {v0 v3 v4 : AV} {r : List Rat} (hbr : br < S.length) (hr8 : r.length = 8) {Q : FQ}
    (hQ : ∀ (tm : List AV) (ht : tm.length = 90) (k : Nat), FirstNZ r k → tm[0] = v0 → tm[3] = v3 → tm[4] = v4 → tm[5] = .int .i64 (i : Int) → tm[6] = .mptr br 0 32 → tm[9] = .int .i64 (k : Int) → Q (.ex 6) ⟨tm, S.set br (.mu (qcells r) true)⟩) :
    ∀ (m k : Nat), k + m = 8 → (∀ j, j < k → r.getD j 0 = 0) →
    wpL RT f141_2m S.length f141_2 ⟨[v0, .any, .any, v3, v4, .int .i64 (i : Int), .mptr br 0 32, .any, .any, .int .i64 (k : Int)] ++ List.replicate 80 .any, S.set br (.mu (qcells r) true)⟩ Q := by
  intro m
  induction m with
  | zero =>
    intro k hk hz
    have hk' : k = 8 := by omega
    subst hk'
    generalize qcells r = X at *
    rw [wpL_step]
    generalize hK' : loopQ RT f141_2m S.length f141_2 Q = KK
    simp [f141_2, List.replicate]
    subst hK'
    exact hQ _ rfl 8 ⟨by omega, hz, by omega⟩ rfl rfl rfl rfl rfl rfl
  | succ m ih =>
    intro k hk hz
    have hk8 : k < 8 := by omega
    have hlt : (k : Int) < 8 := by omega
    have hw1 : IntKind.i64.wrap ((k : Int) + 1) = ((k + 1 : Nat) : Int) := wrap_i64 (by omega) (by omega)
    have hrd : rd (S.set br (.mu (qcells r) true)) br (k * 4) 32 4 = some (qc r[k]) := rd_q (set_get hbr) (by omega) (by omega)
    have hs := run_qSign r[k]
    rw [QR_qc] at hs
    have hgk : r.getD k 0 = r[k] := getD_of (by omega)
    have hih := ih (k + 1) (by omega)
    have hsz : r[k].num.sign = 0 ↔ r[k] = 0 := by
      have := sign_ne r[k]
      exact Decidable.not_iff_not.1 this
    have f1 := fun S => qc_fz r[k] S
    have g1 := qc_nr r[k]
    have q1 := qc_len r[k]
    have hfin := fun h0 tm hl => hQ tm hl k ⟨by omega, hz, fun _ => h0⟩
    rw [hgk] at hfin
    have hnext : r[k] = 0 → ∀ j, j < k + 1 → r.getD j 0 = 0 := fun h0 j hj => by
      by_cases e : j = k
      · rw [e, hgk, h0]
      · exact hz j (by omega)
    generalize qcells r = X at *
    generalize qc r[k] = c at *
    generalize r[k].num.sign = sg at *
    rw [wpL_step]
    generalize hK' : loopQ RT f141_2m S.length f141_2 Q = KK
    by_cases c0 : sg = 0
    · have := hih (hnext (hsz.1 c0))
      subst c0
      simp [f141_2, List.replicate, hlt, hrd, f1, hs, after_nr, g1, hw1]
      subst hK'
      simp [head, f141_2m, mask, trunc_len]
      simpa [f141_2m, List.replicate] using this
    · simp [f141_2, List.replicate, hlt, hrd, f1, hs, after_nr, g1, c0]
      subst hK'
      exact hfin (fun e => c0 (hsz.2 e)) _ rfl rfl rfl rfl rfl rfl rfl
def scaleR (c : Rat) (r : List Rat) : List Rat := r.map fun x => x * c
def partS (c : Rat) (r : List Rat) (n : Nat) : List Rat := (scaleR c r).take n ++ r.drop n
theorem scaleR_len (c : Rat) (r : List Rat) : (scaleR c r).length = r.length := by simp [scaleR]
theorem partS_len {c : Rat} {r : List Rat} {n : Nat} (h : n ≤ r.length) : (partS c r n).length = r.length := by
  simp [partS, scaleR_len]; omega
theorem partS_get {c : Rat} {r : List Rat} {n : Nat} (h : n < r.length) : (partS c r n)[n]'(by rw [partS_len (by omega)]; exact h) = r[n] := by
  unfold partS
  rw [List.getElem_append_right (by simp [scaleR_len]; omega)]
  simp [scaleR_len]
  congr 1; omega
theorem partS_set {c : Rat} {r : List Rat} {n : Nat} (h : n < r.length) : (partS c r n).set n (r[n] * c) = partS c r (n + 1) := by
  have hL := scaleR_len c r
  unfold partS
  have e : ((scaleR c r).take n).length = n := by rw [List.length_take, hL]; omega
  rw [List.set_append_right _ _ (by omega), e, Nat.sub_self, List.drop_eq_getElem_cons (by omega : n < r.length), List.set_cons_zero]
  rw [List.take_succ_eq_append_getElem (by omega), List.append_assoc]
  simp [scaleR]
theorem partS_full {c : Rat} {r : List Rat} {n : Nat} (h : r.length = n) : partS c r n = scaleR c r := by
  unfold partS
  rw [List.take_of_length_le (by rw [scaleR_len]; omega), List.drop_of_length_le (by omega), List.append_nil]
set_option maxRecDepth 20000 in
theorem scale_loop {S : Store} {br bi i k : Nat} {v0 v3 v4 : AV} {r : List Rat} {c : Rat} {a : Nat} (hbr : br < S.length) (hne : bi ≠ br) (hbi : S[bi]? = some (.mu (qc c) true)) (hr8 : r.length = 8) (hR : ∀ q ∈ r, RB q a) (hRc : RB c a) (ha : 8 * a ≤ Lim) {Q : FQ}
    (hQ : ∀ (tm : List AV) (ht : tm.length = 90), tm[0] = v0 → tm[3] = v3 → tm[4] = v4 → tm[5] = .int .i64 (i : Int) → tm[6] = .mptr br 0 32 → tm[9] = .int .i64 (k : Int) → Q (.ex 8) ⟨tm, S.set br (.mu (qcells (scaleR c r)) true)⟩) :
    ∀ (m n : Nat), n + m = 8 →
    wpL RT f141_3m S.length f141_3 ⟨[v0, .any, .any, v3, v4, .int .i64 (i : Int), .mptr br 0 32, .any, .any, .int .i64 (k : Int), .mptr bi 0 4, .any, .int .i64 (n : Int)] ++ List.replicate 77 .any, S.set br (.mu (qcells (partS c r n)) true)⟩ Q := by
  intro m
  induction m with
  | zero =>
    intro n hn
    have hn' : n = 8 := by omega
    subst hn'
    rw [partS_full hr8]
    generalize qcells (scaleR c r) = X at *
    rw [wpL_step]
    generalize hK' : loopQ RT f141_3m S.length f141_3 Q = KK
    simp [f141_3, List.replicate]
    subst hK'
    exact hQ _ rfl rfl rfl rfl rfl rfl rfl
  | succ m ih =>
    intro n hn
    have hn8 : n < 8 := by omega
    have hlt : (n : Int) < 8 := by omega
    have hw1 : IntKind.i64.wrap ((n : Int) + 1) = ((n + 1 : Nat) : Int) := wrap_i64 (by omega) (by omega)
    have hpl := partS_len (c := c) (r := r) (n := n) (by omega)
    have hrd : rd (S.set br (.mu (qcells (partS c r n)) true)) br (n * 4) 32 4 = some (qc r[n]) := by
      have := rd_q (S := S.set br (.mu (qcells (partS c r n)) true)) (b := br) (n := n) (vl := 32) (set_get hbr) (by omega) (by omega)
      rwa [partS_get (by omega)] at this
    have hrc : ∀ X, rd (S.set br X) bi 0 4 4 = some (qc c) := fun X => by
      rw [rd_mu (by rw [get_other hne]; exact hbi) (qc_len c) (by omega), List.drop_zero, List.take_of_length_le (by rw [qc_len]; omega)]
    have hwr : wr (S.set br (.mu (qcells (partS c r n)) true)) br (n * 4) 32 (qc (r[n] * c)) = some (S.set br (.mu (qcells (partS c r (n + 1))) true)) := by
      have := wr_q (S := S.set br (.mu (qcells (partS c r n)) true)) (b := br) (n := n) (vl := 32) (q := r[n] * c) (set_get hbr) (by omega) (by omega)
      rw [partS_set (by omega), List.set_set] at this
      exact this
    have hmul := run_qMul (hR r[n] (List.getElem_mem (by omega))) hRc (by omega)
    have hih := ih (n + 1) (by omega)
    rw [QR_qc, QR_qc, QR_qc] at hmul
    have f1 := fun S => qc_fz r[n] S
    have f2 := fun S => qc_fz c S
    have g1 := qc_nr r[n]
    have g2 := qc_nr c
    have q1 := qc_len r[n]
    have q2 := qc_len c
    have q3 := qc_len (r[n] * c)
    generalize qcells (partS c r n) = X at *
    generalize qcells (partS c r (n + 1)) = X' at *
    generalize qc (r[n] * c) = z at *
    generalize qc r[n] = x at *
    generalize qc c = y at *
    rw [wpL_step]
    generalize hK' : loopQ RT f141_3m S.length f141_3 Q = KK
    simp [f141_3, List.replicate, hlt, hrd, hrc, f1, f2, hmul, after_nr, g1, g2, q3, hwr, hw1]
    subst hK'
    simp [head, f141_3m, mask, trunc_len]
    simpa [f141_3m, List.replicate] using hih
theorem RB_scale {r : List Rat} {c : Rat} {a : Nat} (hR : ∀ q ∈ r, RB q a) (hRc : RB c a) : ∀ q ∈ scaleR c r, RB q (2 * a) := fun q hq => by
  unfold scaleR at hq
  obtain ⟨x, hx, rfl⟩ := List.mem_map.1 hq
  exact ((hR x hx).mul2 hRc).mono (by omega)
def Tri (D : Dn) : Prop := ∀ (i : Nat) (p : List Rat × Nat), D[i]? = some p → p.2 < 8 ∧ p.1.getD p.2 0 = 1 ∧ ∀ (j : Nat) (q : List Rat × Nat), j < i → D[j]? = some q → p.1.getD q.2 0 = 0
structure RkInv (D : Dn) (P : List (List Rat)) : Prop where
  d8 : D8 D
  db : DB D
  tri : Tri D
  ker : ∀ x : List Rat, x.length = 8 → ((∀ p ∈ D, qdot p.1 x = 0) ↔ ∀ w ∈ P, qdot w x = 0)
theorem lessRow_get {c : Rat} {p l : List Rat} {k : Nat} (hl : l.length = 8) (hp : p.length = 8) (hk : k < 8) : (lessRow c p l).getD k 0 = l.getD k 0 - c * p.getD k 0 := by
  rw [getD_of (by rw [lessRow_len hl hp]; exact hk), getD_of (by omega), getD_of (by omega)]
  simp [lessRow]
theorem redAll_zero {D : Dn} {r : List Rat} (h8 : D8 D) (hT : Tri D) (hr : r.length = 8) : ∀ n, n ≤ D.length → ∀ j q, j < n → D[j]? = some q → (redAll (D.take n) r).getD q.2 0 = 0 := by
  intro n
  induction n with
  | zero => intro _ j q hj; omega
  | succ n ih =>
    intro hn j q hj hq
    have hnl : n < D.length := by omega
    obtain ⟨p, hp⟩ : ∃ p, D[n]? = some p := ⟨D[n], List.getElem?_eq_getElem hnl⟩
    obtain ⟨hpk, hp1, hp0⟩ := hT n p hp
    obtain ⟨hqk, _, _⟩ := hT j q hq
    have hp8 := h8 p (List.mem_of_getElem? hp)
    have hrl : (redAll (D.take n) r).length = 8 := redAll_len (fun x hx => h8 x (List.mem_of_mem_take hx)) hr
    have htk : D.take (n + 1) = D.take n ++ [p] := by rw [List.take_add_one, hp]; rfl
    rw [htk, redAll_snoc, lessRow_get hrl hp8 hqk]
    by_cases e : j = n
    · subst e
      rw [hp] at hq
      cases hq
      rw [hp1, Rat.mul_one, Rat.sub_self]
    · rw [ih (by omega) j q (by omega) hq, hp0 j q (by omega) hq, Rat.mul_zero, Rat.sub_self]
theorem redAll_dot {x : List Rat} (hx : x.length = 8) : ∀ {D : Dn} {r : List Rat}, D8 D → r.length = 8 → (∀ p ∈ D, qdot p.1 x = 0) → qdot (redAll D r) x = qdot r x
  | [], r, _, _, _ => rfl
  | p :: D, r, h8, hr, h => by
    show qdot (redAll D (lessRow (r.getD p.2 0) p.1 r)) x = _
    have hp8 := h8 p (by simp)
    rw [redAll_dot hx (fun y hy => h8 y (by simp [hy])) (lessRow_len hr hp8) (fun q hq => h q (by simp [hq])), qdot_less hr hp8 hx, h p (by simp), Rat.mul_zero, Rat.sub_eq_add_neg, Rat.neg_zero, Rat.add_zero]
theorem scale_dot {c : Rat} : ∀ {r x : List Rat} {n : Nat}, r.length = n → x.length = n → qdot (scaleR c r) x = c * qdot r x
  | [], [], _, _, _ => by simp [scaleR, qdot]
  | y :: r, z :: x, n + 1, h1, h2 => by
    have ih := scale_dot (c := c) (r := r) (x := x) (n := n) (by simpa using h1) (by simpa using h2)
    unfold scaleR at ih ⊢
    simp only [List.map_cons, qdot, ih, Rat.mul_add, Rat.mul_assoc]
    congr 1
    rw [← Rat.mul_assoc, Rat.mul_comm y c, Rat.mul_assoc]
  | [], _ :: _, _, h1, h2 => by simp at h1 h2; omega
  | _ :: _, [], _, h1, h2 => by simp at h1 h2; omega
theorem qdot_zero_left : ∀ {l x : List Rat}, (∀ j, l.getD j 0 = 0) → qdot l x = 0
  | [], _, _ => by simp [qdot]
  | _ :: _, [], _ => by simp [qdot]
  | a :: l, y :: x, h => by
    have h0 := h 0
    have := qdot_zero_left (l := l) (x := x) fun j => by have := h (j + 1); simpa using this
    simp only [List.getD_cons_zero] at h0
    simp only [qdot, this, h0]; grind
theorem scaleR_get {c : Rat} {r : List Rat} {k : Nat} (hr : r.length = 8) (hk : k < 8) : (scaleR c r).getD k 0 = r.getD k 0 * c := by
  rw [getD_of (by rw [scaleR_len]; omega), getD_of (by omega)]
  simp [scaleR]
theorem RkInv.nil : RkInv [] [] where
  d8 := fun p hp => by cases hp
  db := fun n p h => by simp at h
  tri := fun i p h => by simp at h
  ker := fun x _ => by simp
theorem RkInv.skip {D : Dn} {P : List (List Rat)} {w : List Rat} (h : RkInv D P) (hw : w.length = 8) (hz : FirstNZ (redAll D w) 8) : RkInv D (P ++ [w]) where
  d8 := h.d8
  db := h.db
  tri := h.tri
  ker := fun x hx => by
    have hl := redAll_len h.d8 hw
    constructor
    · intro hD v hv
      rcases List.mem_append.1 hv with hv | hv
      · exact (h.ker x hx).1 hD v hv
      · have : v = w := by simpa using hv
        subst this
        rw [← redAll_dot hx h.d8 hw hD]
        have : ∀ j, (redAll D v).getD j 0 = 0 := fun j => by
          by_cases hj : j < 8
          · exact hz.2.1 j hj
          · rw [List.getD_eq_getElem?_getD, List.getElem?_eq_none (by omega)]; rfl
        exact qdot_zero_left this
    · intro hP
      exact (h.ker x hx).2 fun v hv => hP v (by simp [hv])
theorem RkInv.add {D : Dn} {P : List (List Rat)} {w : List Rat} {k : Nat} (h : RkInv D P) (hw : w.length = 8) (hk : k < 8) (hz : FirstNZ (redAll D w) k) (hR : ∀ q ∈ redAll D w, RB q (Rk D.length)) :
    RkInv (D ++ [(scaleR ((redAll D w).getD k 0)⁻¹ (redAll D w), k)]) (P ++ [w]) where
  d8 := fun p hp => by
    rcases List.mem_append.1 hp with hp | hp
    · exact h.d8 p hp
    · have : p = (scaleR ((redAll D w).getD k 0)⁻¹ (redAll D w), k) := by simpa using hp
      rw [this]
      show (scaleR _ _).length = 8
      rw [scaleR_len]; exact redAll_len h.d8 hw
  db := fun n p hp => by
    have hl := redAll_len h.d8 hw
    by_cases hn : n < D.length
    · rw [List.getElem?_append_left hn] at hp
      exact h.db n p hp
    · rw [List.getElem?_append_right (by omega)] at hp
      have hn' : n - D.length = 0 := by
        have := (List.getElem?_eq_some_iff.1 hp).1
        simp at this; omega
      rw [hn'] at hp
      have hp' : (scaleR ((redAll D w).getD k 0)⁻¹ (redAll D w), k) = p := Option.some.inj hp
      subst hp'
      have hne : n = D.length := by omega
      rw [hne]
      refine ⟨hk, RB_scale hR (RB.inv (hR _ ?_))⟩
      rw [getD_of (by omega)]
      exact List.getElem_mem _
  tri := fun i p hp => by
    have hl := redAll_len h.d8 hw
    by_cases hn : i < D.length
    · rw [List.getElem?_append_left hn] at hp
      obtain ⟨h1, h2, h3⟩ := h.tri i p hp
      refine ⟨h1, h2, fun j q hj hq => h3 j q hj ?_⟩
      rwa [List.getElem?_append_left (by omega)] at hq
    · rw [List.getElem?_append_right (by omega)] at hp
      have hn' : i - D.length = 0 := by
        have := (List.getElem?_eq_some_iff.1 hp).1
        simp at this; omega
      rw [hn'] at hp
      have hp' : (scaleR ((redAll D w).getD k 0)⁻¹ (redAll D w), k) = p := Option.some.inj hp
      subst hp'
      refine ⟨hk, ?_, fun j q hj hq => ?_⟩
      · show (scaleR _ _).getD k 0 = 1
        rw [scaleR_get hl hk]
        exact Rat.mul_inv_cancel _ (hz.2.2 hk)
      · rw [List.getElem?_append_left (by omega)] at hq
        show (scaleR _ _).getD q.2 0 = 0
        have hz0 := redAll_zero (r := w) h.d8 h.tri hw D.length (Nat.le_refl _) j q (by omega) hq
        rw [List.take_of_length_le (Nat.le_refl _)] at hz0
        rw [scaleR_get hl (h.tri j q hq).1, hz0, Rat.zero_mul]
  ker := fun x hx => by
    have hl := redAll_len h.d8 hw
    have hne := hz.2.2 hk
    have hinv : ((redAll D w).getD k 0)⁻¹ ≠ 0 := fun e => by
      have := Rat.mul_inv_cancel _ hne
      rw [e, Rat.mul_zero] at this
      exact absurd this (by decide)
    constructor
    · intro hD v hv
      have hD0 : ∀ p ∈ D, qdot p.1 x = 0 := fun p hp => hD p (by simp [hp])
      rcases List.mem_append.1 hv with hv | hv
      · exact (h.ker x hx).1 hD0 v hv
      · have : v = w := by simpa using hv
        subst this
        have h1 := hD _ (List.mem_append_right _ (List.mem_singleton.2 rfl))
        have h2 : qdot (scaleR ((redAll D v).getD k 0)⁻¹ (redAll D v)) x = 0 := h1
        rw [scale_dot hl hx, redAll_dot hx h.d8 hw hD0] at h2
        exact (Rat.mul_eq_zero.1 h2).resolve_left hinv
    · intro hP p hp
      have hD0 := (h.ker x hx).2 fun v hv => hP v (by simp [hv])
      rcases List.mem_append.1 hp with hp | hp
      · exact hD0 p hp
      · have : p = (scaleR ((redAll D w).getD k 0)⁻¹ (redAll D w), k) := by simpa using hp
        rw [this]
        show qdot (scaleR _ _) x = 0
        rw [scale_dot hl hx, redAll_dot hx h.d8 hw hD0, hP w (by simp), Rat.mul_zero]
theorem Tri.nodup {D : Dn} (h : Tri D) : (D.map (·.2)).Nodup := by
  rw [List.Nodup, List.pairwise_iff_getElem]
  intro i j hi hj hij
  simp only [List.length_map] at hi hj
  simp only [List.getElem_map]
  intro e
  obtain ⟨_, h1, h2⟩ := h j D[j] (List.getElem?_eq_getElem hj)
  have := h2 i D[i] hij (List.getElem?_eq_getElem hi)
  rw [e, h1] at this
  exact absurd this (by decide)
theorem Tri.lt {D : Dn} (h : Tri D) : ∀ k ∈ D.map (·.2), k < 8 := fun k hk => by
  obtain ⟨p, hp, rfl⟩ := List.mem_map.1 hk
  obtain ⟨n, hn⟩ := List.mem_iff_getElem?.1 hp
  exact (h n p hn).1
theorem nodup_lt {l : List Nat} (h : l.Nodup) (hl : ∀ k ∈ l, k < 8) : l.length ≤ 8 := by
  have := nodup_len h (m := List.range 8) fun d hd => List.mem_range.2 (hl d hd)
  simpa using this
theorem Tri.len {D : Dn} (h : Tri D) : D.length ≤ 8 := by
  have := nodup_lt h.nodup h.lt
  simpa using this
theorem qdot_single {l x : List Rat} {k : Nat} (hl : l.length = 8) (hx : x.length = 8) (hk : k < 8) (h : ∀ c, c < 8 → c ≠ k → l.getD c 0 * x.getD c 0 = 0) : qdot l x = l.getD k 0 * x.getD k 0 := by
  obtain ⟨a0, a1, a2, a3, a4, a5, a6, a7, rfl⟩ := len8 hl
  obtain ⟨b0, b1, b2, b3, b4, b5, b6, b7, rfl⟩ := len8 hx
  have h0 := h 0 (by omega)
  have h1 := h 1 (by omega)
  have h2 := h 2 (by omega)
  have h3 := h 3 (by omega)
  have h4 := h 4 (by omega)
  have h5 := h 5 (by omega)
  have h6 := h 6 (by omega)
  have h7 := h 7 (by omega)
  have hk' : k = 0 ∨ k = 1 ∨ k = 2 ∨ k = 3 ∨ k = 4 ∨ k = 5 ∨ k = 6 ∨ k = 7 := by omega
  rcases hk' with rfl | rfl | rfl | rfl | rfl | rfl | rfl | rfl <;> simp [qdot] at * <;> grind
theorem Tri.full {D : Dn} (h : Tri D) (h8 : D8 D) (hD : D.length = 8) {x : List Rat} (hx : x.length = 8) (hz : ∀ p ∈ D, qdot p.1 x = 0) : ∀ j, x.getD j 0 = 0 := by
  have key : ∀ n, n ≤ 8 → ∀ i p, 8 - n ≤ i → D[i]? = some p → x.getD p.2 0 = 0 := by
    intro n
    induction n with
    | zero =>
      intro _ i p hi hp
      have := (List.getElem?_eq_some_iff.1 hp).1
      omega
    | succ n ih =>
      intro hn i p hi hp
      by_cases e : 8 - n ≤ i
      · exact ih (by omega) i p e hp
      · obtain ⟨hk, h1, h0⟩ := h i p hp
        have hpm := List.mem_of_getElem? hp
        have hd := hz p hpm
        rw [qdot_single (h8 p hpm) hx hk ?_, h1, Rat.one_mul] at hd
        · exact hd
        · intro c hc hck
          have hcm : c ∈ D.map (·.2) := by
            refine Classical.byContradiction fun hc' => ?_
            have := nodup_lt (l := c :: D.map (·.2)) (List.nodup_cons.2 ⟨hc', h.nodup⟩) (fun k hk => by
              rcases List.mem_cons.1 hk with rfl | hk
              · exact hc
              · exact h.lt k hk)
            simp [hD] at this
          obtain ⟨q, hq, rfl⟩ := List.mem_map.1 hcm
          obtain ⟨j, hj⟩ := List.mem_iff_getElem?.1 hq
          by_cases e1 : j < i
          · rw [h0 j q e1 hj, Rat.zero_mul]
          · by_cases e2 : j = i
            · subst e2
              rw [hp] at hj
              cases hj
              exact absurd rfl hck
            · rw [ih (by omega) j q (by omega) hj, Rat.mul_zero]
  intro j
  by_cases hj : j < 8
  · have hcm : j ∈ D.map (·.2) := by
      refine Classical.byContradiction fun hc' => ?_
      have := nodup_lt (l := j :: D.map (·.2)) (List.nodup_cons.2 ⟨hc', h.nodup⟩) (fun k hk => by
        rcases List.mem_cons.1 hk with rfl | hk
        · exact hj
        · exact h.lt k hk)
      simp [hD] at this
    obtain ⟨q, hq, rfl⟩ := List.mem_map.1 hcm
    obtain ⟨i, hi⟩ := List.mem_iff_getElem?.1 hq
    exact key 8 (Nat.le_refl _) i q (by omega) hi
  · rw [List.getD_eq_getElem?_getD, List.getElem?_eq_none (by omega)]; rfl
theorem rank_ind {D : Dn} {P : List (List Rat)} (h : RkInv D P) (hP : ∀ w ∈ P, w.length = 8) : D.length = 8 ↔ indR 8 0 P = true := by
  rw [ker_ind 8 0 rfl P hP]
  constructor
  · intro hD x hx _ hz
    exact h.tri.full h.d8 hD hx ((h.ker x hx).2 hz)
  · intro hk
    refine Classical.byContradiction fun hn => ?_
    have hlt : D.length < 8 := by have := h.tri.len; omega
    have hf := few_ind 8 0 (D.map (·.1)) (by simpa using hlt)
    have h8 : ∀ l ∈ D.map (·.1), l.length = 8 := fun l hl => by
      obtain ⟨p, hp, rfl⟩ := List.mem_map.1 hl
      exact h.d8 p hp
    have : KerT 0 (D.map (·.1)) := fun x hx h0 hz => hk x hx h0 ((h.ker x hx).1 fun p hp => hz p.1 (List.mem_map.2 ⟨p, hp, rfl⟩))
    rw [← ker_ind 8 0 rfl _ h8, hf] at this
    cases this
theorem DoneR.app {S : Store} {v3 v4 : AV} {D : Dn} {p : List Rat × Nat} (h : DoneR S v3 v4 D) (hp : p.1.length = 8) (hn : D.length < 1000) :
    ∃ v3' S' v4' S'', appA 32 512 S v3 (.sl [.agg (qcells p.1)] 32 true) = some (v3', S') ∧ appA 1 8 S' v4 (.sl [.int .i64 (p.2 : Int)] 1 true) = some (v4', S'') ∧ DoneR S'' v3' v4' (D ++ [p]) := by
  have hpl := qcells_len p.1
  rw [hp] at hpl
  have h8' : D8 (D ++ [p]) := fun q hq => by
    rcases List.mem_append.1 hq with hq | hq
    · exact h.1 q hq
    · have : q = p := by simpa using hq
      rw [this]; exact hp
  have hc : dcells (D ++ [p]) = dcells D ++ qcells p.1 := by unfold dcells; rw [List.flatMap_append]; simp
  have ha : dats (D ++ [p]) = dats D ++ [(p.2 : Int)] := by unfold dats; rw [List.map_append]; rfl
  obtain ⟨h8, ⟨rfl, rfl, rfl⟩ | ⟨hne, bd, ba, hnb, rfl, rfl, hg1, hg2⟩⟩ := h
  · have r1 : room 1 512 := by decide
    have r2 : room 1 8 := by decide
    refine ⟨.msl S.length 0 1 32 32 none, S ++ [.mu (qcells p.1) false], .msl (S.length + 1) 0 1 1 1 none, S ++ [.mu (qcells p.1) false] ++ [.mu [.int .i64 (p.2 : Int)] false], ?_, ?_, h8', .inr ⟨by simp, S.length, S.length + 1, by omega, rfl, rfl, ?_, ?_⟩⟩
    · simp [appA, held, chk, r1]
    · simp [appA, held, chk, r2]
    · rw [hc]
      rw [List.getElem?_append_left (by simp)]
      simp [dcells]
    · rw [ha]
      rw [List.getElem?_append_right (by simp)]
      simp [dats]
  · have hl1 := dcells_len h8
    have hlt1 := lt_of_get hg1
    have hlt2 := lt_of_get hg2
    have r1 : room (D.length + 1) 512 := by unfold room; omega
    have r2 : room (D.length + 1) 8 := by unfold room; omega
    have e1 : ¬ (D.length + 1) * 32 ≤ D.length * 32 := by omega
    have e2 : ¬ (D.length + 1) ≤ D.length := by omega
    have t1 : (dcells D).take (D.length * 32) = dcells D := List.take_of_length_le (by omega)
    have hdl : (dats D).length = D.length := by simp [dats]
    have t2 : (nums .i64 (dats D)).take D.length = nums .i64 (dats D) := List.take_of_length_le (by simp [hdl])
    have hl1' : (dcells D).length = D.length * 32 := by omega
    refine ⟨.msl bd 0 (D.length + 1) 32 ((D.length + 1) * 32) none, S.set bd (.mu (dcells D ++ qcells p.1) false), .msl ba 0 (D.length + 1) 1 (D.length + 1) none, (S.set bd (.mu (dcells D ++ qcells p.1) false)).set ba (.mu (nums .i64 (dats D ++ [(p.2 : Int)])) false), ?_, ?_, h8', .inr ⟨by simp, bd, ba, hnb, by simp, by simp, ?_, ?_⟩⟩
    · generalize dcells D = X at *
      simp [appA, held, chk, r1, e1, hg1, hl1', t1]
    · have hg2' : (S.set bd (.mu (dcells D ++ qcells p.1) false))[ba]? = some (.mu (nums .i64 (dats D)) false) := by rw [get_other (by omega)]; exact hg2
      generalize S.set bd (.mu (dcells D ++ qcells p.1) false) = S1 at *
      have hna : nums .i64 (dats D ++ [(p.2 : Int)]) = nums .i64 (dats D) ++ [.int .i64 (p.2 : Int)] := by rw [← nums_append]; rfl
      rw [hna]
      have hnl : (nums .i64 (dats D)).length = D.length := by simp [hdl]
      generalize nums .i64 (dats D) = Y at *
      simp [appA, held, chk, r2, hg2', hnl, t2]
      intro h; omega
    · rw [get_other hnb, set_get hlt1, hc]
    · rw [set_get (by simp; exact hlt2), ha]
theorem DoneR.keep {S : Store} {v3 v4 : AV} {D : Dn} {vs : List AV} {k : Nat} (h : DoneR S v3 v4 D) (h3 : v3 ∈ vs) (h4 : v4 ∈ vs) : DoneR (trunc k vs S) v3 v4 D := by
  obtain ⟨h8, h | ⟨hne, bd, ba, hnb, rfl, rfl, hg1, hg2⟩⟩ := h
  · exact ⟨h8, .inl h⟩
  · refine ⟨h8, .inr ⟨hne, bd, ba, hnb, rfl, rfl, ?_, ?_⟩⟩
    · by_cases hb : bd < k
      · rw [trunc_get (.inl hb), hg1]
      · rw [trunc_get (.inr ⟨_, h3, by simp [lt1, ltc]; omega⟩), hg1]
    · by_cases hb : ba < k
      · rw [trunc_get (.inl hb), hg2]
      · rw [trunc_get (.inr ⟨_, h4, by simp [lt1, ltc]; omega⟩), hg2]
theorem DoneR.more {S : Store} {v3 v4 : AV} {D : Dn} (h : DoneR S v3 v4 D) (X : Store) : DoneR (S ++ X) v3 v4 D := by
  obtain ⟨h8, h | ⟨hne, bd, ba, hnb, rfl, rfl, hg1, hg2⟩⟩ := h
  · exact ⟨h8, .inl h⟩
  · exact ⟨h8, .inr ⟨hne, bd, ba, hnb, rfl, rfl, by rw [List.getElem?_append_left (lt_of_get hg1), hg1], by rw [List.getElem?_append_left (lt_of_get hg2), hg2]⟩⟩
theorem DoneR.other {S : Store} {v3 v4 : AV} {D : Dn} {b : Nat} {X Y : List AV} (h : DoneR S v3 v4 D) (hb : S[b]? = some (.mu X true)) : DoneR (S.set b (.mu Y true)) v3 v4 D := by
  obtain ⟨h8, h | ⟨hne, bd, ba, hnb, rfl, rfl, hg1, hg2⟩⟩ := h
  · exact ⟨h8, .inl h⟩
  · have h1 : bd ≠ b := fun e => by rw [e, hb] at hg1; cases hg1
    have h2 : ba ≠ b := fun e => by rw [e, hb] at hg2; cases hg2
    exact ⟨h8, .inr ⟨hne, bd, ba, hnb, rfl, rfl, by rw [get_other h1, hg1], by rw [get_other h2, hg2]⟩⟩
set_option maxHeartbeats 4000000 in
set_option maxRecDepth 40000 in
theorem rank_loop {o : List (List Int)} (ho : ∀ w ∈ o, w.length = 8 ∧ Bd 1000000 w) (hol : o.length < 1000000) {Q : FQ}
    (hQ : ∀ (tm : List AV) (ht : tm.length = 90) (S : Store) (v4 : AV) (D : Dn), DoneR S tm[3] v4 D → RkInv D (o.map toQ) → Q (.ex 0) ⟨tm, S⟩) :
    ∀ (m i : Nat), i + m = o.length → ∀ (S : Store) (v3 v4 : AV) (D : Dn), DoneR S v3 v4 D → RkInv D ((o.take i).map toQ) →
    wpL RT f141_4m 0 f141_4 ⟨[OR o, .any, .any, v3, v4, .int .i64 (i : Int)] ++ List.replicate 84 .any, S⟩ Q := by
  intro m
  induction m with
  | zero =>
    intro i hi S v3 v4 D hD hR
    have hi' : i = o.length := by omega
    subst hi'
    rw [List.take_of_length_le (Nat.le_refl _)] at hR
    rw [wpL_step]
    generalize hK' : loopQ RT f141_4m 0 f141_4 Q = KK
    simp [f141_4, List.replicate]
    subst hK'
    exact hQ _ rfl S v4 D hD hR
  | succ m ih =>
    intro i hi S v3 v4 D hD hR
    have hi1 : i < o.length := by omega
    have hlt : (i : Int) < (o.length : Int) := by omega
    obtain ⟨hw8, hwB⟩ := ho o[i] (List.getElem_mem hi1)
    have hget : o[i]? = some o[i] := List.getElem?_eq_getElem hi1
    have htk : (o.take (i + 1)).map toQ = (o.take i).map toQ ++ [toQ o[i]] := by rw [List.take_add_one, hget, List.map_append]; rfl
    have hih := ih (i + 1) (by omega)
    rw [htk] at hih
    generalize o[i] = w at *
    have hq8 : (toQ w).length = 8 := by rw [toQ_len]; exact hw8
    have hw1 : IntKind.i64.wrap ((i : Int) + 1) = ((i + 1 : Nat) : Int) := wrap_i64 (by omega) (by omega)
    have hDl := hR.tri.len
    have hRq : ∀ q ∈ toQ w, RB q 1 := fun q hq => by
      unfold toQ at hq
      obtain ⟨x, hx, rfl⟩ := List.mem_map.1 hq
      exact RB_int (hwB x hx)
    -- the store with the new row
    obtain ⟨S1, hS1⟩ : ∃ S1 : Store, S1 = S ++ [.mu Z32 true] := ⟨_, rfl⟩
    have hS1l : S1.length = S.length + 1 := by rw [hS1]; simp
    have hbr : S.length < S1.length := by omega
    have hg : S1[S.length]? = some (.mu Z32 true) := by rw [hS1, get_last]
    have hset0 : S1.set S.length (.mu (fillC w 0) true) = S1 := by
      have : fillC w 0 = Z32 := by simp [fillC, qcells]
      rw [this, hS1]; simp
    have hD1 : DoneR S1 v3 v4 D := by rw [hS1]; exact hD.more _
    have L0 := fun (Q' : FQ) hQ' => fill_loop (S := S1) (br := S.length) (o := o) (i := i) (w := w) (v3 := v3) (v4 := v4) (Q := Q') hbr hget hw8 hwB hQ' 8 0 rfl
    have L1 := fun (v0 : AV) (Q' : FQ) hQ' => less_loop (S := S1) (br := S.length) (i := i) (v0 := v0) (r0 := toQ w) (Q := Q') hbr ⟨_, hg⟩ hD1 hR.db hDl hq8 hRq hQ' D.length 0 (by omega) (by
      intro q hq
      exact hRq q (by simpa [redAll] using hq))
    have hr8 := redAll_len hR.d8 hq8
    have L2 := fun (v0 : AV) (Q' : FQ) hQ' => pivf_loop (S := S1) (br := S.length) (i := i) (v0 := v0) (v3 := v3) (v4 := v4) (r := redAll D (toQ w)) (Q := Q') hbr hr8 hQ' 8 0 rfl (fun j hj => by omega)
    rw [hset0] at L0
    have ht0 : redAll (D.take 0) (toQ w) = toQ w := rfl
    rw [ht0] at L1
    have hsz : S1.length = S.length + 1 := hS1l
    have hspl : splice Z32 0 Z32 = Z32 := rfl
    have hskip := fun h => hR.skip (w := toQ w) hq8 h
    have hadd := fun k hk hz hB => hR.add (w := toQ w) (k := k) hq8 hk hz hB
    have hlr := qcells_len (redAll D (toQ w))
    rw [hr8] at hlr
    have hD2 : ∀ Y, DoneR (S1.set S.length (.mu Y true)) v3 v4 D := fun Y => hD1.other hg
    have hgr : ∀ k, k < 8 → rd (S1.set S.length (.mu (qcells (redAll D (toQ w))) true)) S.length (k * 4) 32 4 = some (qc ((redAll D (toQ w)).getD k 0)) := fun k hk => by
      rw [getD_of (by omega)]
      exact rd_q (set_get hbr) (by omega) (by omega)
    generalize hrr : redAll D (toQ w) = r at *
    generalize hqw : qcells (toQ w) = QW at *
    have hZ32 : Z32.length = 32 := rfl
    have happ := fun (D' : Dn) => @DoneR.app
    rw [wpL_step]
    generalize hK' : loopQ RT f141_4m 0 f141_4 Q = KK
    have hb1 : (AV.agg [.bool false, .sl [] 1 true, .bool false, .sl [] 1 true, .bool false, .sl [] 1 true, .bool false, .sl [] 1 true, .bool false, .sl [] 1 true, .bool false, .sl [] 1 true, .bool false, .sl [] 1 true, .bool false, .sl [] 1 true, .bool false, .sl [] 1 true, .bool false, .sl [] 1 true, .bool false, .sl [] 1 true, .bool false, .sl [] 1 true, .bool false, .sl [] 1 true, .bool false, .sl [] 1 true, .bool false, .sl [] 1 true, .bool false, .sl [] 1 true]) = .agg Z32 := rfl
    have hb2 : ([.bool false, .sl [] 1 true, .bool false, .sl [] 1 true, .bool false, .sl [] 1 true, .bool false, .sl [] 1 true, .bool false, .sl [] 1 true, .bool false, .sl [] 1 true, .bool false, .sl [] 1 true, .bool false, .sl [] 1 true, .bool false, .sl [] 1 true, .bool false, .sl [] 1 true, .bool false, .sl [] 1 true, .bool false, .sl [] 1 true, .bool false, .sl [] 1 true, .bool false, .sl [] 1 true, .bool false, .sl [] 1 true, .bool false, .sl [] 1 true] : List AV) = Z32 := rfl
    simp only [f141_4, hb1, hb2]
    generalize Z32 = ZZ at *
    simp [List.replicate, hlt, fillA, hZ32, hspl]
    rw [← hS1]
    simp only [hS1l] at L0 L1 L2
    simp only [head]
    rw [mask_of (n := 90) (by simp)]
    simp [f141_0m, List.range_succ, trunc_len, hS1l]
    simp [List.replicate, f141_0m] at L0
    refine L0 _ ?_
    intro tm ht t0 t3 t4 t5 t6
    simp [ht, t0, t3, t4, t5, t6]
    simp only [head]
    rw [mask_of (n := 90) (by simp [ht])]
    simp [f141_1m, ht, t0, t3, t4, t5, t6, List.range_succ, trunc_len, hS1l]
    simp [List.replicate, f141_1m] at L1
    refine L1 _ _ ?_
    intro tm ht t0 t3 t4 t5 t6 hRr
    simp [ht, t0, t3, t4, t5, t6]
    simp only [head]
    rw [mask_of (n := 90) (by simp [ht])]
    simp [f141_2m, ht, t0, t3, t4, t5, t6, List.range_succ, trunc_len, hS1l]
    simp [List.replicate, f141_2m] at L2
    refine L2 _ _ ?_
    intro tm ht k hk t0 t3 t4 t5 t6 t9
    by_cases c8 : k = 8
    · subst c8
      have hx := hskip hk
      have hDx := hD2 (qcells r)
      generalize S1.set S.length (.mu (qcells r) true) = S2 at *
      simp [ht, t0, t3, t4, t5, t6, t9, hw1]
      subst hK'
      simp only [loopQ_nrm, head]
      rw [mask_of (n := 90) (by simp [ht])]
      simp [f141_4m, ht, t0, t3, t4, t5, List.range_succ]
      have := hih (trunc 0 ([OR o, .any, .any, v3, v4, .int .i64 ((i + 1 : Nat) : Int)] ++ List.replicate 84 .any) S2) v3 v4 D (hDx.keep (by simp) (by simp)) hx
      simpa [f141_4m, List.replicate] using this
    · have hk8 : k < 8 := by have := hk.1; omega
      have hkl : (k : Int) < 8 := by omega
      have hk8i : ¬ (k : Int) = 8 := by omega
      have hx := hadd k hk8 hk hRr
      have hne := hk.2.2 hk8
      have hRk : RB (r.getD k 0) (Rk D.length) := hRr _ (by rw [getD_of (by omega)]; exact List.getElem_mem _)
      have hRl : Rk D.length ≤ 100000 := Rk_le hDl
      have hinv := run_qInv hRk (by have : Lim = 1099511627776 := rfl; omega) hne
      have hrd := hgr k hk8
      have g1 := qc_nr (r.getD k 0)
      have f1 := fun S => qc_fz (r.getD k 0) S
      generalize hcc : (r.getD k 0)⁻¹ = c at *
      have hRc : RB c (Rk D.length) := by rw [← hcc]; exact hRk.inv
      rw [QR_qc, QR_qc] at hinv
      have q1 := qc_len c
      have hspc : splice [AV.bool false, .sl [] 1 true, .bool false, .sl [] 1 true] 0 (qc c) = qc c := by
        unfold splice; rw [q1]; simp
      have hX : ∀ Y, (S1 ++ [Blk.mu (qc c) true]).set S.length Y = S1.set S.length Y ++ [Blk.mu (qc c) true] := fun Y => List.set_append_left _ _ hbr
      have hg2 : (S1 ++ [Blk.mu (qc c) true])[S.length]? = some (.mu ZZ true) := by rw [List.getElem?_append_left hbr]; exact hg
      have hl2 : (S1 ++ [Blk.mu (qc c) true]).length = S.length + 2 := by simp [hS1l]
      have L3 := fun (v0 : AV) (Q' : FQ) hQ' => scale_loop (S := S1 ++ [Blk.mu (qc c) true]) (br := S.length) (bi := S1.length) (i := i) (k := k) (v0 := v0) (v3 := v3) (v4 := v4) (r := r) (c := c) (Q := Q') (by omega) (by omega) get_last hr8 hRr hRc (by have : Lim = 1099511627776 := rfl; omega) hQ' 8 0 rfl
      have hp0 : partS c r 0 = r := by simp [partS]
      rw [hp0] at L3
      simp only [hX, hl2, hS1l] at L3
      have hs8 : (scaleR c r).length = 8 := by rw [scaleR_len]; exact hr8
      have hD3 : DoneR (S1.set S.length (.mu (qcells (scaleR c r)) true) ++ [Blk.mu (qc c) true]) v3 v4 D := by
        rw [← hX]; exact (hD1.more _).other hg2
      obtain ⟨v3', S4, v4', S5, ha1, ha2, hD4⟩ := hD3.app (p := (scaleR c r, k)) hs8 (by omega)
      have hls := qcells_len (scaleR c r)
      rw [hs8] at hls
      have hrs : rd (S1.set S.length (.mu (qcells (scaleR c r)) true) ++ [Blk.mu (qc c) true]) S.length 0 32 32 = some (qcells (scaleR c r)) := by
        rw [rd_mu (by rw [List.getElem?_append_left (by simp; omega), set_get hbr]) hls (by omega), List.drop_zero, List.take_of_length_le (by omega)]
      have g2 := qcells_nrc (scaleR c r)
      have f2 := fun S f => qcells_fzc S f (scaleR c r)
      have hls' : (qcells (scaleR c r)).length = 32 := by omega
      simp only at ha1 ha2
      have hS2l : (S1.set S.length (.mu (qcells r) true)).length = S.length + 1 := by simp [hS1l]
      generalize qcells (scaleR c r) = Y at *
      generalize S1.set S.length (.mu (qcells r) true) = S2 at *
      generalize S1.set S.length (.mu Y true) ++ [Blk.mu (qc c) true] = S3 at *
      generalize qc (r.getD k 0) = x at *
      generalize qc c = y at *
      simp [ht, t0, t3, t4, t5, t6, t9, hk8i, hkl, hrd, f1, hinv, after_nr, g1, q1, hspc]
      simp only [head]
      rw [mask_of (n := 90) (by simp [ht])]
      simp [f141_3m, ht, t0, t3, t4, t5, t6, t9, List.range_succ, trunc_len, hS2l]
      simp [List.replicate, f141_3m] at L3
      refine L3 _ _ ?_
      intro tm ht t0 t3 t4 t5 t6 t9
      simp [ht, t0, t3, t4, t5, t6, t9, hrs, opA_litn, g2, f2, fillE, elt, hls', ha1, ha2, hw1]
      subst hK'
      simp only [loopQ_nrm, head]
      rw [mask_of (n := 90) (by simp [ht])]
      simp [f141_4m, ht, t0, t3, t4, t5, List.range_succ]
      have := hih (trunc 0 ([OR o, .any, .any, v3', v4', .int .i64 ((i + 1 : Nat) : Int)] ++ List.replicate 84 .any) S5) v3' v4' _ (hD4.keep (by simp) (by simp)) hx
      simpa [f141_4m, List.replicate] using this
set_option maxRecDepth 40000 in
theorem run_rank {o : List (List Int)} (ho : ∀ w ∈ o, w.length = 8 ∧ Bd 1000000 w) (hol : o.length < 1000000) : ∃ D : Dn, callPure RT 141 [OR o] = some (.int .i64 (D.length : Int)) ∧ RkInv D (o.map toQ) := by
  refine (callPure_ex (R := RT) (f := 141) (args := [OR o]) (P := fun r => ∃ D : Dn, r = .int .i64 (D.length : Int) ∧ RkInv D (o.map toQ)) ?_).elim fun r h => h.2.elim fun D hD => ⟨D, by rw [h.1, hD.1], hD.2⟩
  refine wpF_of tab_141 rfl ?_
  have key := fun (Q' : FQ) hQ' => rank_loop ho hol (Q := Q') hQ' o.length 0 (by simp) [] (.sl [] 32 true) (.sl [] 1 true) [] ⟨fun p hp => (by cases hp), .inl ⟨rfl, rfl, rfl⟩⟩ RkInv.nil
  simp [List.replicate, f141_4m] at key
  simp [f141, enter]
  simp only [head]
  rw [mask_of (n := 90) (by simp)]
  simp [f141_4m, List.range_succ, trunc_len]
  refine key _ ?_
  intro tm ht S v4 D hD hR
  rcases hD.2 with ⟨hd, h3, h4⟩ | ⟨hne, bd, ba, hnb, h3, h4, _, _⟩
  · simp [ht, h3]
    exact ⟨D, by rw [hd]; rfl, hR⟩
  · simp [ht, h3]
    exact ⟨D, rfl, hR⟩
def scatter : List Int → List Int → List Int → List Int
  | k :: ks, w :: ws, r => scatter ks ws (r.set k.toNat w)
  | _, _, r => r
theorem scatter_len : ∀ (p w r : List Int), (scatter p w r).length = r.length
  | k :: ks, w :: ws, r => by rw [scatter, scatter_len]; simp
  | [], _, r => by simp [scatter]
  | _ :: _, [], r => by simp [scatter]
theorem flat_put : ∀ (F : List (List Int)) (i q : Nat) (v : Int), All8 F → (hi : i < F.length) → q < 8 → F.flatten.set (i * 8 + q) v = (F.set i (F[i].set q v)).flatten
  | r :: F, 0, q, v, h, _, hq => by
    have h8 : r.length = 8 := h r (by simp)
    simp only [List.flatten_cons, List.set_cons_zero, Nat.zero_mul, Nat.zero_add, List.getElem_cons_zero]
    rw [List.set_append_left _ _ (by omega)]
  | r :: F, i + 1, q, v, h, hi, hq => by
    have h8 : r.length = 8 := h r (by simp)
    have := flat_put F i q v (fun x hx => h x (by simp [hx])) (by simpa using hi) hq
    simp only [List.flatten_cons, List.set_cons_succ, List.getElem_cons_succ]
    rw [List.set_append_right _ _ (by omega), ← this]
    congr 2; omega
theorem all8_set {F : List (List Int)} {i : Nat} {r : List Int} (h : All8 F) (hr : r.length = 8) : All8 (F.set i r) := fun x hx => by
  rcases List.mem_or_eq_of_mem_set hx with h1 | h1
  · exact h x h1
  · rw [h1]; exact hr
set_option maxRecDepth 20000 in
theorem scat_loop {p row : List Int} (hp : p.length = 8) (hr : row.length = 8) (hpr : ∀ x ∈ p, 0 ≤ x ∧ x < 8) {F : List (List Int)} (hF : All8 F) {i : Nat} (hi : i < F.length) (hFl : F.length < 100) {Bb C : Blk} {ex : Bool} {v10 : AV} {Q : FQ}
    (h1 : ∀ (tm : List AV) (ht : tm.length = 65), tm[3] = .mptr 0 0 8 → tm[9] = .msl 2 0 F.length 8 (F.length * 8) none → tm[10] = v10 → tm[41] = .msl 2 0 F.length 8 (F.length * 8) none → tm[42] = .int .i64 (F.length : Int) → tm[43] = .int .i64 (i : Int) →
      Q (.ex 4) ⟨tm, [.mu (nums .i64 p) true, Bb, .mu (nums .i64 (F.set i (scatter p row row)).flatten) ex, C]⟩) :
    ∀ (m j : Nat), j + m = 8 → ∀ r : List Int, r.length = 8 → scatter (p.drop j) (row.drop j) r = scatter p row row →
    wpL RT f29_1m 4 f29_1 ⟨[.any, .any, .any, .mptr 0 0 8, .any, .any, .any, .any, .any, .msl 2 0 F.length 8 (F.length * 8) none, v10, .int .i64 (i : Int)] ++ List.replicate 29 .any ++ [.msl 2 0 F.length 8 (F.length * 8) none, .int .i64 (F.length : Int), .int .i64 (i : Int), .any, .any, .any, .any, R8 row, .int .i64 (j : Int)] ++ List.replicate 15 .any, [.mu (nums .i64 p) true, Bb, .mu (nums .i64 (F.set i r).flatten) ex, C]⟩ Q := by
  intro m
  induction m with
  | zero =>
    intro j hj r hrl he
    have hj' : j = 8 := by omega
    subst hj'
    rw [List.drop_of_length_le (by omega)] at he
    simp only [scatter] at he
    rw [he]
    rw [wpL_step]
    generalize hK' : loopQ RT f29_1m 4 f29_1 Q = KK
    simp [f29_1, List.replicate]
    subst hK'
    exact h1 _ rfl rfl rfl rfl rfl rfl rfl
  | succ m ih =>
    intro j hj r hrl he
    have hj8 : j < 8 := by omega
    have hlt : (j : Int) < 8 := by omega
    have hil : (i : Int) < (F.length : Int) := by omega
    have hw : IntKind.i64.wrap ((j : Int) + 1) = ((j + 1 : Nat) : Int) := wrap_i64 (by omega) (by omega)
    have hgr : (nums .i64 row)[j]? = some (.int .i64 (row[j]'(by omega))) := by
      rw [List.getElem?_eq_getElem (by simpa [hr] using hj8), nums_getElem]
    have hgp : p[j]? = some (p[j]'(by omega)) := List.getElem?_eq_getElem (by omega)
    rw [List.drop_eq_getElem_cons (l := p) (by omega), List.drop_eq_getElem_cons (l := row) (by omega)] at he
    simp only [scatter] at he
    obtain ⟨hx0, hx8⟩ := hpr p[j] (List.getElem_mem _)
    have r1 : ∀ Y, rd [.mu (nums .i64 p) true, Bb, Y, C] 0 j 8 1 = some [.int .i64 (p[j]'(by omega))] := fun Y => rd_num rfl hp hgp
    have hih := ih (j + 1) (by omega) (r.set (p[j]'(by omega)).toNat (row[j]'(by omega))) (by simpa using hrl) he
    obtain ⟨q, hq⟩ : ∃ q : Nat, p[j]'(by omega) = (q : Int) := ⟨(p[j]'(by omega)).toNat, by omega⟩
    have hfl : (F.set i r).flatten.length = F.length * 8 := by
      rw [flat_len (all8_set hF hrl), List.length_set]; omega
    have hq8 : q < 8 := by omega
    have hgs : (F.set i r)[i]'(by simpa using hi) = r := by simp
    have w1 : ∀ v, wr [.mu (nums .i64 p) true, Bb, .mu (nums .i64 (F.set i r).flatten) ex, C] 2 (i * 8 + q) (F.length * 8) [.int .i64 v] = some [.mu (nums .i64 p) true, Bb, .mu (nums .i64 (F.set i (r.set q v)).flatten) ex, C] := fun v => by
      rw [wr_num (ex := ex) rfl hfl (by omega), flat_put _ i q v (all8_set hF hrl) (by simpa using hi) hq8, hgs, List.set_set]
      rfl
    rw [hq, Int.toNat_natCast] at hih
    rw [hq] at r1
    clear he ih hgp
    generalize row[j] = x at *
    have hql : (q : Int) < 8 := by omega
    rw [wpL_step]
    generalize hK' : loopQ RT f29_1m 4 f29_1 Q = KK
    simp [f29_1, List.replicate, hlt, hgr, hr, hil, r1, hql, w1, hw]
    subst hK'
    simp [head, f29_1m, mask, trunc_len]
    simpa [f29_1m, List.replicate] using hih
def movL (p r : List Int) : List Int := scatter p r r
def partM (p : List Int) (F : List (List Int)) (i : Nat) : List (List Int) := (F.map (movL p)).take i ++ F.drop i
theorem partM_len {p : List Int} {F : List (List Int)} {i : Nat} (h : i ≤ F.length) : (partM p F i).length = F.length := by simp [partM]; omega
theorem partM_all8 {p : List Int} {F : List (List Int)} {i : Nat} (h : All8 F) : All8 (partM p F i) := fun x hx => by
  rcases List.mem_append.1 hx with h1 | h1
  · obtain ⟨r, hr, rfl⟩ := List.mem_map.1 (List.mem_of_mem_take h1)
    unfold movL; rw [scatter_len]; exact h r hr
  · exact h x (List.mem_of_mem_drop h1)
theorem partM_get {p : List Int} {F : List (List Int)} {i : Nat} (h : i < F.length) : (partM p F i)[i]? = some F[i] := by
  unfold partM
  rw [List.getElem?_append_right (by simp; omega)]
  simp
  have : i - min i F.length = 0 := by omega
  rw [this]; simp [h]
theorem partM_set {p : List Int} {F : List (List Int)} {i : Nat} (h : i < F.length) : (partM p F i).set i (movL p F[i]) = partM p F (i + 1) := by
  unfold partM
  have e : ((F.map (movL p)).take i).length = i := by simp; omega
  rw [List.set_append_right _ _ (by omega), e, Nat.sub_self, List.drop_eq_getElem_cons h, List.set_cons_zero]
  rw [List.take_succ_eq_append_getElem (by simpa using h), List.append_assoc]
  simp
set_option maxRecDepth 20000 in
theorem move_loop {p : List Int} (hp : p.length = 8) (hpr : ∀ x ∈ p, 0 ≤ x ∧ x < 8) {F : List (List Int)} (hF : All8 F) (hFl : F.length < 100) {Bb : Blk} (hBb : Blk.lt 3 Bb = true) {ex : Bool} {Q : FQ}
    (h1 : ∀ (tm : List AV) (ht : tm.length = 65), tm[9] = .msl 2 0 F.length 8 (F.length * 8) none → tm[10] = .int .i64 0 →
      Q (.ex 2) ⟨tm, [.mu (nums .i64 p) true, Bb, .mu (nums .i64 (F.map (movL p)).flatten) ex]⟩) :
    ∀ (m i : Nat), i + m = F.length →
    wpL RT f29_2m 3 f29_2 ⟨[.any, .any, .any, .mptr 0 0 8, .any, .any, .any, .any, .any, .msl 2 0 F.length 8 (F.length * 8) none, .int .i64 0] ++ List.replicate 30 .any ++ [.msl 2 0 F.length 8 (F.length * 8) none, .int .i64 (F.length : Int), .int .i64 (i : Int)] ++ List.replicate 21 .any, [.mu (nums .i64 p) true, Bb, .mu (nums .i64 (partM p F i).flatten) ex]⟩ Q := by
  intro m
  induction m with
  | zero =>
    intro i hi
    have hi' : i = F.length := by omega
    subst hi'
    have e : partM p F F.length = F.map (movL p) := by
      unfold partM
      rw [List.take_of_length_le (by simp), List.drop_of_length_le (Nat.le_refl _), List.append_nil]
    rw [e]
    rw [wpL_step]
    generalize hK' : loopQ RT f29_2m 3 f29_2 Q = KK
    simp [f29_2, List.replicate]
    subst hK'
    exact h1 _ rfl rfl rfl
  | succ m ih =>
    intro i hi
    have hi1 : i < F.length := by omega
    have hil : (i : Int) < (F.length : Int) := by omega
    have hw : IntKind.i64.wrap ((i : Int) + 1) = ((i + 1 : Nat) : Int) := wrap_i64 (by omega) (by omega)
    have hr8 : F[i].length = 8 := hF _ (List.getElem_mem _)
    have hpl := partM_len (p := p) (F := F) (i := i) (by omega)
    have rd1 : rd [.mu (nums .i64 p) true, Bb, .mu (nums .i64 (partM p F i).flatten) ex] 2 (i * 8) (F.length * 8) 8 = some (nums .i64 F[i]) := by
      rw [Nat.mul_comm F.length 8]
      exact rd_row (ex := ex) rfl (partM_all8 hF) hpl (partM_get hi1)
    have hip : i < (partM p F i).length := by omega
    have hip2 : (partM p F i).length < 100 := by omega
    have hps := partM_set (p := p) hi1
    have hih := ih (i + 1) (by omega)
    have hset0 : (partM p F i).set i F[i] = partM p F i := by
      apply List.ext_getElem?
      intro j
      by_cases hj : j = i
      · subst hj; rw [List.getElem?_set_self (by omega), partM_get hi1]
      · rw [List.getElem?_set_ne (by omega)]
    generalize F[i] = row at *
    have sc := fun (Q : FQ) h => scat_loop (Q := Q) (Bb := Bb) (C := .mu (nums .i64 row) true) (ex := ex) (v10 := .int .i64 0) hp hr8 hpr (partM_all8 (p := p) (i := i) hF) (i := i) hip hip2 h 8 0 rfl row hr8 rfl
    rw [hset0, hpl] at sc
    unfold movL at hps
    rw [hps] at sc
    simp only [List.replicate, List.cons_append, List.nil_append, Int.natCast_zero] at sc
    have hrs := row_splice (z := List.replicate 8 (.int .i64 0)) hr8 (by simp)
    simp only [List.replicate] at hrs
    have ht8 : (nums .i64 row).take 8 = nums .i64 row := List.take_of_length_le (by simp [hr8])
    clear ih hset0 hps hip hip2
    rw [wpL_step]
    generalize hK' : loopQ RT f29_2m 3 f29_2 Q = KK
    have hrd3 : ∀ A B C D, rd [A, B, C, Blk.mu (nums .i64 row) D] 3 0 8 8 = some (nums .i64 row) := fun A B C D => by
      rw [rd_mu (cs := nums .i64 row) (ex := D) rfl (by simp [hr8]) (by omega), List.drop_zero, ht8]
    have hwr3 : ∀ A B C D, wr [A, B, C, Blk.mu [.int .i64 0, .int .i64 0, .int .i64 0, .int .i64 0, .int .i64 0, .int .i64 0, .int .i64 0, .int .i64 0] D] 3 0 8 (nums .i64 row) = some [A, B, C, .mu (nums .i64 row) D] := fun A B C D => by
      rw [wr_mu (S := [A, B, C, .mu [.int .i64 0, .int .i64 0, .int .i64 0, .int .i64 0, .int .i64 0, .int .i64 0, .int .i64 0, .int .i64 0] D]) (b := 3) (vl := 8) (off := 0) (cs := [.int .i64 0, .int .i64 0, .int .i64 0, .int .i64 0, .int .i64 0, .int .i64 0, .int .i64 0, .int .i64 0]) (ex := D) rfl rfl (by simp [hr8]), hrs]; rfl
    simp [f29_2, List.replicate, hil, rd1, hr8, hrd3, hwr3]
    simp [head, f29_1m, mask, trunc_len]
    refine sc _ ?_
    intro tm ht t3 t9 t10 t41 t42 t43
    simp [ht, t3, t9, t10, t41, t42, t43, hw]
    subst hK'
    simp only [loopQ_nrm, head]
    rw [mask_of (n := 65) (by simp [ht])]
    simp [f29_2m, ht, t3, t9, t10, t41, t42, t43, List.range_succ]
    have htr : ∀ vs, vs.all (lt1 3) = true → trunc 3 vs [.mu (nums .i64 p) true, Bb, .mu (nums .i64 (partM p F (i + 1)).flatten) ex, .mu (nums .i64 row) true] = [.mu (nums .i64 p) true, Bb, .mu (nums .i64 (partM p F (i + 1)).flatten) ex] := fun vs h => by
      unfold trunc
      have n1 : ∀ xs : List Int, Blk.lt 3 (.mu (nums .i64 xs) true) = true := fun xs => by simp [Blk.lt, nums, lt1, ltc]
      have n2 : ∀ xs : List Int, Blk.lt 3 (.mu (nums .i64 xs) ex) = true := fun xs => by simp [Blk.lt, nums, lt1, ltc]
      rw [h]
      simp [n1, n2, hBb]
    rw [htr _ (by simp [lt1, ltc])]
    simpa [f29_2m, List.replicate] using hih
theorem nums_fz (S : Store) (f : Nat) : ∀ xs : List Int, (nums .i64 xs).mapM (fzc S f) = some (nums .i64 xs)
  | [] => rfl
  | x :: xs => by
    have : nums .i64 (x :: xs) = .int .i64 x :: nums .i64 xs := rfl
    have h1 : fzc S f (.int .i64 x) = some (.int .i64 x) := by cases f <;> rfl
    rw [this, List.mapM_cons, h1, nums_fz S f xs]; rfl
theorem rowsOf {S : Store} {b n f : Nat} {F : List (List Int)} {ex : Bool} (hg : S[b]? = some (.mu (nums .i64 F.flatten) ex)) (h8 : All8 F) (hn : F.length = n) : fzc S (f + 1) (.msl b 0 n 8 (8 * n) none) = some (OR F) := by
  have hl := flat_len h8
  rw [fzc, rd_mu hg (by simp [hl, hn]) (by omega), List.drop_zero, List.take_of_length_le (by simp [hl, hn]; omega)]
  simp only [Option.bind_some, nums_fz]
  rw [chunk_cut n _ (by rw [hl, hn])]
  congr 3
  have : ∀ (n : Nat) (F : List (List Int)), All8 F → F.length = n → cut8 n F.flatten = F := by
    intro n
    induction n with
    | zero => intro F _ h; rw [List.length_eq_zero_iff.1 h]; rfl
    | succ n ih =>
      intro F h8 h
      match F, h with
      | r :: F, h =>
        have h8r : r.length = 8 := h8 r (by simp)
        rw [cut8, List.flatten_cons, List.take_left' h8r, List.drop_left' h8r, ih F (fun x hx => h8 x (by simp [hx])) (by simpa using h)]
  exact this n F h8 hn
theorem own_full {o : List (List Int)} (ho : ∀ w ∈ o, w.length = 8) (hb : ∀ w ∈ o, Bd 1000000 w) (hol : o.length < 1000000) (hv : validB o = true) (hl : (fullL o).length ≤ 24) (hne : fullL o ≠ []) :
    callOwn RT 0 28 [OR o] = some (.tup [.osl (nums .i64 (fullL o).flatten) (fullL o).length 8 false, .int .i64 0]) := by
  obtain ⟨r, S, hr, hF⟩ := run_full ho (fun _ => hb) hol
  unfold FullR at hF
  rw [if_pos hv, if_pos hl] at hF
  obtain ⟨v, rfl, h8, ⟨_, h0⟩ | ⟨b, _, rfl, hg⟩⟩ := hF
  · exact absurd h0 hne
  · refine callOwn_of ⟨_, _, hr, ?_⟩
    have hfl := flat_len h8
    have ht : (nums .i64 (fullL o).flatten).take ((fullL o).length * 8) = nums .i64 (fullL o).flatten := List.take_of_length_le (by simp [hfl]; omega)
    have hz := nums_fz (S.set b .dead) 6 (fullL o).flatten
    have hlen : (nums .i64 (fullL o).flatten).length = 8 * (fullL o).length := by simp [hfl]
    simp only [ownRes, List.getElem?_cons_zero, takeOwn, hg]
    rw [chk_pos ⟨trivial, hlen, by omega⟩, ht]
    simp only [fzDepth, hz, Option.bind_some, Bool.false_and, List.eraseIdx_cons_zero]
    rfl
theorem land_own (S : Store) (cs : List AV) (n sz : Nat) (ex : Bool) (k : IntKind) (e : Int) : land S (.tup [.osl cs n sz ex, .int k e]) = (.tup [.msl S.length 0 n sz cs.length none, .int k e], S ++ [.mu cs ex]) := rfl
theorem after_OR (st : Bool) (S : Store) (o : List (List Int)) (r : AV) : after st S [OR o] r = some S := after_nr rfl
set_option maxRecDepth 20000 in
theorem run_permute {o : List (List Int)} {p : List Int} (ho : ∀ w ∈ o, w.length = 8) (hb : ∀ w ∈ o, Bd 1000000 w) (hol : o.length < 1000000) (hv : validB o = true) (hl : (fullL o).length ≤ 24) (hne : fullL o ≠ []) (h8 : All8 (fullL o))
    (hp : p.length = 8) (hpr : ∀ x ∈ p, 0 ≤ x ∧ x < 8) (hpg : permGo (List.replicate 8 false) p = true) :
    callPure RT 29 [OR o, R8 p] = some (.tup [OR ((fullL o).map (movL p)), .int .i64 0]) := by
  have hvv := run_valid ho hol
  rw [hv] at hvv
  have hown := own_full ho hb hol hv hl hne
  have pl := fun (Q : FQ) h1 h2 => perm_loop (Q := Q) (vo := OR o) hp (fun x hx => by have := hpr x hx; omega) h1 h2 8 0 rfl (List.replicate 8 false) (by simp) rfl
  have ml := fun (Q : FQ) (Bb : Blk) hBb h => move_loop (Q := Q) (Bb := Bb) hp hpr h8 (by omega) hBb (ex := false) h (fullL o).length 0 (by omega)
  have hp0 : partM p (fullL o) 0 = fullL o := by simp [partM]
  simp only [hp0] at ml
  have ht8 : (nums .i64 p).take 8 = nums .i64 p := List.take_of_length_le (by simp [hp])
  have hfl := flat_len h8
  have h8m : All8 ((fullL o).map (movL p)) := fun x hx => by
    obtain ⟨r, hr, rfl⟩ := List.mem_map.1 hx
    unfold movL; rw [scatter_len]; exact h8 r hr
  simp only [List.replicate, List.cons_append, List.nil_append, Int.natCast_zero, bools, List.map_cons, List.map_nil] at pl ml
  refine callPure_of (wpF_of tab_29 rfl ?_)
  simp [f29, enter, hvv, hp, rd, chk, ht8]
  simp [head, f29_0m, mask, trunc_len]
  refine pl _ ?_ ?_
  · intro tm ht bs t0 t3 _
    have hfl2 : (fullL o).flatten.length = (fullL o).length * 8 := by omega
    have hBb : Blk.lt 3 (.mu (List.map AV.bool bs) true) = true := by simp [Blk.lt, lt1, ltc]
    have rf := rowsOf (S := [Blk.mu (nums .i64 p) true, .mu (List.map AV.bool bs) true, .mu (nums .i64 ((fullL o).map (movL p)).flatten) false]) (b := 2) (n := (fullL o).length) (f := 5) rfl h8m (by simp)
    rw [Nat.mul_comm] at rf
    have ml2 := fun (Q : FQ) => ml Q _ hBb
    simp [ht, t0, t3, hown, land_own, after_OR, hfl2]
    simp only [head]
    rw [mask_of (n := 65) (by simp [ht])]
    simp [f29_2m, ht, t3, List.range_succ, trunc_len]
    refine ml2 _ ?_
    intro tm2 ht2 t9 t10
    simp [ht2, t9, t10]
    rw [rf]; rfl
  · intro tm ht S t4 t5 hf
    have hf' : permGo (List.replicate 8 false) p = false := hf
    rw [hpg] at hf'; cases hf'
theorem same_loop {s : List (List Int)} (hs : All8 s) (hsl : s.length < 1000000) {Q : FQ}
    (h1 : ∀ (tm : List AV) (hl : tm.length = 26), Q (.ex 0) ⟨tm, []⟩) :
    ∀ (m i : Nat), i + m = s.length →
    wpL RT f32_0m 0 f32_0 ⟨[OR s, OR s, .any, .any, .any, .int .i64 (i : Int)] ++ List.replicate 20 .any, []⟩ Q := by
  intro m
  induction m with
  | zero =>
    intro i hi
    have hi' : i = s.length := by omega
    subst hi'
    rw [wpL_step]
    generalize hK : loopQ RT f32_0m 0 f32_0 Q = K
    simp [f32_0, List.replicate]
    subst hK
    exact h1 _ rfl
  | succ m ih =>
    intro i hi
    have hi1 : i < s.length := by omega
    have hget : s[i]? = some s[i] := List.getElem?_eq_getElem hi1
    have hr8 := hs s[i] (List.getElem_mem hi1)
    generalize s[i] = r at *
    have hlt : (i : Int) < (s.length : Int) := by omega
    have hw : IntKind.i64.wrap ((i : Int) + 1) = ((i + 1 : Nat) : Int) := wrap_i64 (by omega) (by omega)
    have htr : (nums .i64 r).take 8 = nums .i64 r := List.take_of_length_le (by simp [hr8])
    have he := eqcs_nums .i64 (a := r) (b := r) rfl
    simp only [decide_true] at he
    have hih := ih (i + 1) (by omega)
    rw [wpL_step]
    generalize hK : loopQ RT f32_0m 0 f32_0 Q = K
    simp [f32_0, List.replicate, hlt, hget, hr8, htr, chk, he, hw]
    subst hK
    simp [head, f32_0m, mask, trunc_len]
    simpa [f32_0m, List.replicate] using hih
theorem run_same {s : List (List Int)} (hs : All8 s) (hsl : s.length < 1000000) : callPure RT 32 [OR s, OR s] = some (.bool true) := by
  refine callPure_of (wpF_of tab_32 rfl ?_)
  simp [f32, enter]
  simp [head, f32_0m, mask, trunc_len]
  refine same_loop hs hsl ?_ s.length 0 (by simp)
  intro tm hl
  simp [hl]
def movedL (p a : List Int) : List Int := scatter p a (List.replicate 8 0)
end Go.AVM
namespace Go.AVM
end Go.AVM
namespace Go.AVM
def IntSl (S : Store) (v : AV) (L : List Int) : Prop :=
  (∃ t, v = .sl (nums .i64 L) 1 t) ∨ ∃ b, v = .msl b 0 L.length 1 L.length none ∧ S[b]? = some (.mu (nums .i64 L) false)
theorem nums_flatC (L : List Int) : (nums .i64 L).flatMap AV.cells = nums .i64 L := by
  induction L with
  | nil => rfl
  | cons x L ih =>
    have : nums .i64 (x :: L) = .int .i64 x :: nums .i64 L := rfl
    rw [this, List.flatMap_cons, ih]; rfl
theorem IntSl.front {S : Store} {v : AV} {L : List Int} (h : IntSl S v L) (hL : L.length < 1000) {i : Nat} (hi : i ≤ L.length) :
    ∃ s v' S', sliceA 1 false true false v [.int .i64 (i : Int)] = some s ∧ appA 1 8 S (.sl [] 1 true) s = some (v', S') ∧
      ((i = 0 ∧ v' = .sl [] 1 true ∧ S' = S) ∨ (0 < i ∧ v' = .msl S.length 0 i 1 i none ∧ S' = S ++ [.mu (nums .i64 (L.take i)) false])) := by
  rcases h with ⟨t, rfl⟩ | ⟨b, rfl, hb⟩
  · refine ⟨.sl (nums .i64 (L.take i)) 1 (t && i == L.length), ?_⟩
    have hs : sliceA 1 false true false (.sl (nums .i64 L) 1 t) [.int .i64 (i : Int)] = some (.sl (nums .i64 (L.take i)) 1 (t && i == L.length)) := by
      have hbd : bound (nums .i64 L).length (.int .i64 (i : Int)) = some i := bound_ok (by simpa using hi)
      simp only [sliceA, bounds, hbd, Option.bind_some]
      rw [chk_pos trivial]
      simp [tightAt, nums_take]
    have hh : held S 1 (.sl (nums .i64 (L.take i)) 1 (t && i == L.length)) = some (i, nums .i64 (L.take i)) := by
      simp only [held]
      rw [chk_pos trivial, nums_flatC]; simp; omega
    by_cases h0 : i = 0
    · subst h0
      refine ⟨.sl [] 1 true, S, hs, ?_, .inl ⟨rfl, rfl, rfl⟩⟩
      unfold appA; rw [hh]
      simp only [Option.bind_some]
      rw [chk_pos trivial, if_pos trivial]
    · refine ⟨.msl S.length 0 i 1 i none, S ++ [.mu (nums .i64 (L.take i)) false], hs, ?_, .inr ⟨by omega, rfl, rfl⟩⟩
      unfold appA; rw [hh]
      simp only [Option.bind_some]
      rw [chk_pos trivial, if_neg h0, chk_pos ⟨trivial, by unfold room; simp; omega⟩]
      simp
  · refine ⟨.msl b 0 i 1 L.length none, ?_⟩
    have hs := slc_hi (bl := b) (n := L.length) (vl := L.length) (Nat.le_refl _) hi
    have hh : held S 1 (.msl b 0 i 1 L.length none) = some (i, nums .i64 (L.take i)) := by
      simp only [held]
      rw [chk_pos trivial, rd_mu hb (by simp) (by omega)]; simp [nums_take]
    by_cases h0 : i = 0
    · subst h0
      refine ⟨.sl [] 1 true, S, hs, ?_, .inl ⟨rfl, rfl, rfl⟩⟩
      unfold appA; rw [hh]
      simp only [Option.bind_some]
      rw [chk_pos trivial, if_pos trivial]
    · refine ⟨.msl S.length 0 i 1 i none, S ++ [.mu (nums .i64 (L.take i)) false], hs, ?_, .inr ⟨by omega, rfl, rfl⟩⟩
      unfold appA; rw [hh]
      simp only [Option.bind_some]
      rw [chk_pos trivial, if_neg h0, chk_pos ⟨trivial, by unfold room; simp; omega⟩]
      simp
theorem get_set_last {S : Store} {x y : Blk} : (S ++ [x]).set S.length y = S ++ [y] := by
  rw [List.set_append_right _ _ (Nat.le_refl _)]; simp
theorem IntSl.cut {S : Store} {v : AV} {L : List Int} (h : IntSl S v L) (hL : L.length < 1000) {i : Nat} (hi : i < L.length) :
    ∃ s1 v1 S1 s2 v2 S2, sliceA 1 false true false v [.int .i64 (i : Int)] = some s1 ∧ appA 1 8 S (.sl [] 1 true) s1 = some (v1, S1) ∧
      sliceA 1 true false false v [.int .i64 ((i + 1 : Nat) : Int)] = some s2 ∧ appA 1 8 S1 v1 s2 = some (v2, S2) ∧ IntSl S2 v2 (L.eraseIdx i) ∧ (∀ b, b < S.length → S2[b]? = S[b]?) ∧ (nrc v2 = true ∨ lt1 S.length v2 = false) := by
  obtain ⟨s1, v1, S1, h1, h2, h3⟩ := h.front hL (Nat.le_of_lt hi)
  have he : L.eraseIdx i = L.take i ++ L.drop (i + 1) := List.eraseIdx_eq_take_drop_succ ..
  -- what the second slice holds
  obtain ⟨s2, h4, h5⟩ : ∃ s2, sliceA 1 true false false v [.int .i64 ((i + 1 : Nat) : Int)] = some s2 ∧ ∀ S', (∀ b, b < S.length → S'[b]? = S[b]?) → held S' 1 s2 = some (L.length - (i + 1), nums .i64 (L.drop (i + 1))) := by
    rcases h with ⟨t, rfl⟩ | ⟨b, rfl, hb⟩
    · refine ⟨.sl (nums .i64 (L.drop (i + 1))) 1 t, ?_, fun S' _ => ?_⟩
      · have hbd : bound (nums .i64 L).length (.int .i64 ((i + 1 : Nat) : Int)) = some (i + 1) := bound_ok (by simp; omega)
        simp only [sliceA, bounds, hbd, Option.bind_some]
        rw [chk_pos trivial, nums_drop, nums_take]
        simp [tightAt]
        rw [List.take_of_length_le (by simp)]
      · simp only [held]
        rw [chk_pos trivial, nums_flatC]; simp
    · refine ⟨.msl b (i + 1) (L.length - (i + 1)) 1 L.length none, slc_lo (Nat.le_refl _) (by omega), fun S' hk => ?_⟩
      have hb' : S'[b]? = some (.mu (nums .i64 L) false) := by rw [hk b (lt_of_get hb)]; exact hb
      simp only [held]
      rw [chk_pos trivial, rd_mu hb' (by simp) (by omega), nums_drop, nums_take, List.take_of_length_le (by simp)]
      rfl
  rcases h3 with ⟨rfl, rfl, rfl⟩ | ⟨h0, rfl, rfl⟩
  · have hh := h5 S1 (fun _ _ => rfl)
    by_cases hm : L.length - (0 + 1) = 0
    · have hd : L.drop 1 = [] := List.drop_of_length_le (by omega)
      refine ⟨s1, .sl [] 1 true, S1, s2, .sl [] 1 true, S1, h1, h2, h4, ?_, .inl ⟨true, ?_⟩, fun _ _ => rfl, .inl rfl⟩
      · unfold appA; rw [hh]
        simp only [Option.bind_some]
        rw [chk_pos trivial, if_pos hm]
      · rw [he]; simp [hd]
    · refine ⟨s1, .sl [] 1 true, S1, s2, .msl S1.length 0 (L.length - (0 + 1)) 1 (L.length - (0 + 1)) none, S1 ++ [.mu (nums .i64 (L.drop 1)) false], h1, h2, h4, ?_, .inr ⟨S1.length, ?_, ?_⟩, fun b hb => get_app hb, .inr (by simp [lt1, ltc])⟩
      · unfold appA; rw [hh]
        simp only [Option.bind_some]
        rw [chk_pos trivial, if_neg hm, chk_pos ⟨trivial, by unfold room; simp; omega⟩]
        simp
      · rw [he]; simp
      · rw [he, get_last]; simp
  · have hh := h5 (S ++ [.mu (nums .i64 (L.take i)) false]) (fun b hb => get_app hb)
    have hlt : (L.take i).length = i := by rw [List.length_take]; omega
    by_cases hm : L.length - (i + 1) = 0
    · have hd : L.drop (i + 1) = [] := List.drop_of_length_le (by omega)
      refine ⟨s1, _, _, s2, .msl S.length 0 i 1 i none, S ++ [.mu (nums .i64 (L.take i)) false], h1, h2, h4, ?_, .inr ⟨S.length, ?_, ?_⟩, fun b hb => get_app hb, .inr (by simp [lt1, ltc])⟩
      · unfold appA; rw [hh]
        simp only [Option.bind_some]
        rw [chk_pos trivial, if_pos hm]
      · rw [he, hd, List.append_nil, hlt]
      · rw [he, hd, List.append_nil, get_last]
    · refine ⟨s1, _, _, s2, .msl S.length 0 (i + (L.length - (i + 1))) 1 (i + (L.length - (i + 1))) none, S ++ [.mu (nums .i64 (L.take i ++ L.drop (i + 1))) false], h1, h2, h4, ?_, .inr ⟨S.length, ?_, ?_⟩, fun b hb => get_app hb, .inr (by simp [lt1, ltc])⟩
      · unfold appA; rw [hh]
        simp only [Option.bind_some]
        have hn : ¬ 0 + (i + (L.length - (i + 1))) * 1 ≤ i := by omega
        rw [chk_pos trivial, if_neg hm, if_neg hn, chk_pos (show room _ _ by unfold room; omega), get_last]
        simp only
        rw [chk_pos ⟨by simp; omega, trivial, by omega⟩, get_set_last, List.take_of_length_le (by simp; omega), ← nums_append]
        simp
      · rw [he, List.length_append, hlt, List.length_drop]
      · rw [he, get_last]
theorem IntSl.keep {S : Store} {v : AV} {L : List Int} {m n : Nat} {vs : List AV} (h : IntSl S v L) (hv : v ∈ vs) (hn : nrc v = true ∨ lt1 n v = false) (hm : m ≤ n) : IntSl (trunc m vs S) v L := by
  rcases h with ⟨t, rfl⟩ | ⟨b, rfl, hb⟩
  · exact .inl ⟨t, rfl⟩
  · refine .inr ⟨b, rfl, ?_⟩
    rcases hn with h | h
    · simp [nrc] at h
    · have hbn : n ≤ b := by simpa [lt1, ltc] using h
      rw [trunc_get (.inr ⟨_, hv, by simp [lt1, ltc]; omega⟩)]; exact hb
theorem perm_cut {L : List Int} {i : Nat} (h : i < L.length) : (L[i] :: L.eraseIdx i).Perm L := by
  rw [List.eraseIdx_eq_take_drop_succ]
  have e : L = L.take i ++ L[i] :: L.drop (i + 1) := by
    conv => lhs; rw [← List.take_append_drop i L, List.drop_eq_getElem_cons h]
  conv => rhs; rw [e]
  exact List.perm_middle.symm
def Perm8 : List Int := [0, 1, 2, 3, 4, 5, 6, 7]
theorem rem_nat (k n : Nat) : ((k : Int).tmod (n : Int)) = ((k % n : Nat) : Int) := rfl
theorem quo_nat (k n : Nat) : ((k : Int).tdiv (n : Int)) = ((k / n : Nat) : Int) := rfl
set_option maxRecDepth 20000 in
theorem shuf_loop {Z : List AV} (hZ : Z.length = 8) {Q : FQ}
    (h1 : ∀ (tm : List AV) (ht : tm.length = 41) (S : Store) (out : List Int), tm[2] = .mptr 0 0 8 → tm[4] = .mptr 1 0 8 → S[0]? = some (.mu Z true) → S[1]? = some (.mu (nums .i64 out) true) → out.length = 8 → out.Perm Perm8 → Q (.ex 0) ⟨tm, S⟩) :
    ∀ (m i : Nat), i + m = 8 → ∀ (S : Store) (v : AV) (L out : List Int) (k : Nat), k ≤ 65535 → S[0]? = some (.mu Z true) → S[1]? = some (.mu (nums .i64 out) true) → out.length = 8 → IntSl S v L → (nrc v = true ∨ lt1 2 v = false) → L.length = m → (out.take i ++ L).Perm Perm8 →
    wpL RT f27_0m 2 f27_0 ⟨[.any, .any, .mptr 0 0 8, v, .mptr 1 0 8, .int .i64 (k : Int), .int .i64 (i : Int)] ++ List.replicate 34 .any, S⟩ Q := by
  intro m
  induction m with
  | zero =>
    intro i hi S v L out k hk h0 h1' ho hIS hv hL hP
    have hi' : i = 8 := by omega
    subst hi'
    have hLn := List.length_eq_zero_iff.1 hL
    subst hLn
    rw [List.append_nil, List.take_of_length_le (by omega)] at hP
    rw [wpL_step]
    generalize hK' : loopQ RT f27_0m 2 f27_0 Q = KK
    simp [f27_0, List.replicate]
    subst hK'
    exact h1 _ rfl S out rfl rfl h0 h1' ho hP
  | succ m ih =>
    intro i hi S v L out k hk h0 h1' ho hIS hv hL hP
    have hi8 : i < 8 := by omega
    have hlt : (i : Int) < 8 := by omega
    have hw : IntKind.i64.wrap ((i : Int) + 1) = ((i + 1 : Nat) : Int) := wrap_i64 (by omega) (by omega)
    have hq : k % L.length < L.length := Nat.mod_lt _ (by omega)
    have hkd : k / L.length ≤ 65535 := Nat.le_trans (Nat.div_le_self _ _) hk
    have hS2l : 2 ≤ S.length := lt_of_get h1'
    have hLne : ¬ L = [] := fun h => by rw [h] at hL; simp at hL
    have hIS' : IntSl (S.set 1 (.mu (nums .i64 (out.set i (L[k % L.length]'hq))) true)) v L := by
      rcases hIS with ⟨t, rfl⟩ | ⟨b, rfl, hb⟩
      · exact .inl ⟨t, rfl⟩
      · refine .inr ⟨b, rfl, ?_⟩
        have hb2 : 2 ≤ b := by
          rcases hv with h | h
          · simp [nrc] at h
          · simpa [lt1, ltc] using h
        rw [List.getElem?_set_ne (by omega)]; exact hb
    obtain ⟨s1, v1, S1, s2, v2, S2, c1, c2, c3, c4, hIS2, hk2, hv2⟩ := hIS'.cut (by omega) hq
    have hkp0 : S2[0]? = some (.mu Z true) := by rw [hk2 0 (by simp; omega), List.getElem?_set_ne (by omega)]; exact h0
    have hkp1 : S2[1]? = some (.mu (nums .i64 (out.set i (L[k % L.length]'hq))) true) := by rw [hk2 1 (by simp; omega), set_get (by omega)]
    have hx : L[k % L.length]? = some (L[k % L.length]'hq) := List.getElem?_eq_getElem hq
    have hLl : (L.eraseIdx (k % L.length)).length = m := by rw [List.length_eraseIdx, if_pos hq]; omega
    have hP2 : ((out.set i (L[k % L.length]'hq)).take (i + 1) ++ L.eraseIdx (k % L.length)).Perm Perm8 := by
      rw [List.take_succ_eq_append_getElem (by simpa [ho] using hi8), List.take_set_of_le (Nat.le_refl _), List.getElem_set_self, List.append_assoc]
      exact (List.Perm.append_left _ (perm_cut hq)).trans hP
    have w1 := wr_num (v := L[k % L.length]'hq) h1' ho hi8
    have hrem := rem_nat k L.length
    have hquo := quo_nat k L.length
    have hLn0 : (L.length : Int) ≠ 0 := by omega
    have hwq : IntKind.i64.wrap ((k : Int) / (L.length : Int)) = ((k / L.length : Nat) : Int) := by
      rw [← Int.natCast_ediv]
      generalize k / L.length = kq at *
      exact wrap_i64 (by omega) (by omega)
    have hwq1 : IntKind.i64.wrap (((k % L.length : Nat) : Int) + 1) = ((k % L.length + 1 : Nat) : Int) := wrap_i64 (by omega) (by omega)
    rw [List.length_set] at hv2
    have hfin := fun vs (hvs : v2 ∈ vs) => ih (i + 1) (by omega) (trunc 2 vs S2) v2 (L.eraseIdx (k % L.length)) (out.set i (L[k % L.length]'hq)) (k / L.length) hkd (by rw [trunc_get (.inl (by omega))]; exact hkp0) (by rw [trunc_get (.inl (by omega))]; exact hkp1) (by simpa using ho)
      (hIS2.keep (n := S.length) hvs hv2 hS2l) (by
        rcases hv2 with h | h
        · exact .inl h
        · rcases hIS2 with ⟨t, rfl⟩ | ⟨b, rfl, hb⟩
          · exact .inl rfl
          · right; have : S.length ≤ b := by simpa [lt1, ltc] using h
            simp [lt1, ltc]; omega) hLl hP2
    generalize L[k % L.length]'hq = x at *
    generalize hat : k % L.length = at' at *
    have hatl : (at' : Int) < (L.length : Int) := by omega
    rw [wpL_step]
    generalize hK' : loopQ RT f27_0m 2 f27_0 Q = KK
    rcases hIS with ⟨t, rfl⟩ | ⟨b, rfl, hb⟩
    · have hgx : (nums .i64 L)[at']? = some (.int .i64 x) := by
        unfold nums; rw [List.getElem?_map, hx]; rfl
      simp only [Int.natCast_add, Int.natCast_one] at c3 hwq1
      simp [f27_0, List.replicate, hlt, hLne, hrem, hquo, hLn0, hwq, hatl, hgx, w1, hw, hwq1, chk, c1, c2, c3, c4]
      subst hK'
      simp [head, f27_0m, mask]
      simp only [List.replicate, List.cons_append, List.nil_append, Int.natCast_add, Int.natCast_one] at hfin
      refine hfin _ (by simp)
    · have r1 := rd_num hb rfl hx
      simp only [Int.natCast_add, Int.natCast_one] at c3 hwq1
      simp [f27_0, List.replicate, hlt, hLne, hrem, hquo, hLn0, hwq, hatl, r1, w1, hw, hwq1, chk, c1, c2, c3, c4]
      subst hK'
      simp [head, f27_0m, mask]
      simp only [List.replicate, List.cons_append, List.nil_append, Int.natCast_add, Int.natCast_one] at hfin
      refine hfin _ (by simp)
theorem run_shuffle {n : Nat} (hn : n ≤ 65535) : ∃ p : List Int, callPure RT 27 [.int .u16 (n : Int)] = some (R8 p) ∧ p.length = 8 ∧ p.Perm Perm8 := by
  suffices h : ∃ r, callPure RT 27 [.int .u16 (n : Int)] = some r ∧ ∃ p : List Int, r = R8 p ∧ p.length = 8 ∧ p.Perm Perm8 by
    obtain ⟨_, hr, p, rfl, h1, h2⟩ := h
    exact ⟨p, hr, h1, h2⟩
  have hz0 : nums .i64 (List.replicate 8 0) = [.int .i64 0, .int .i64 0, .int .i64 0, .int .i64 0, .int .i64 0, .int .i64 0, .int .i64 0, .int .i64 0] := rfl
  have lp := fun (Q : FQ) h => shuf_loop (Q := Q) (Z := nums .i64 (List.replicate 8 0)) rfl h 8 0 rfl [.mu (nums .i64 (List.replicate 8 0)) true, .mu (nums .i64 (List.replicate 8 0)) true] (.sl (nums .i64 Perm8) 1 true) Perm8 (List.replicate 8 0) n hn rfl rfl rfl (.inl ⟨true, rfl⟩) (.inl rfl) rfl (List.Perm.refl _)
  rw [hz0] at lp
  have hp0 : nums .i64 Perm8 = [.int .i64 0, .int .i64 1, .int .i64 2, .int .i64 3, .int .i64 4, .int .i64 5, .int .i64 6, .int .i64 7] := rfl
  rw [hp0] at lp
  simp only [List.replicate, List.cons_append, List.nil_append, Int.natCast_zero] at lp
  have hw : IntKind.i64.wrap (n : Int) = (n : Int) := wrap_i64 (by omega) (by omega)
  refine callPure_ex (wpF_of tab_27 rfl ?_)
  simp [f27, enter, wr, chk, splice, fillA, opA_litn, fillE, elt, nr1, nrc, fzc, hw]
  simp [head, f27_0m, mask, trunc_len]
  refine lp _ ?_
  intro tm ht S out t2 t4 h0 h1 ho hP
  have hr1 : rd S 1 0 8 8 = some (nums .i64 out) := by
    rw [rd_mu (vl := 8) (off := 0) (n := 8) h1 (by simp [ho]) (by omega), List.drop_zero, List.take_of_length_le (by simp [ho])]
  have hw0 : wr S 0 0 8 (nums .i64 out) = some (S.set 0 (.mu (nums .i64 out) true)) := by
    rw [wr_mu (vl := 8) (off := 0) h0 rfl (by simp [ho])]
    congr 3
    unfold splice
    rw [List.drop_of_length_le (by simp [ho])]; simp
  have hr2 : rd (S.set 0 (.mu (nums .i64 out) true)) 0 0 8 8 = some (nums .i64 out) := by
    rw [rd_mu (vl := 8) (off := 0) (n := 8) (set_get (lt_of_get h0)) (by simp [ho]) (by omega), List.drop_zero, List.take_of_length_le (by simp [ho])]
  simp [ht, t2, t4, hr1, hw0, ho, hr2]
  exact ⟨out, rfl, ho, hP⟩
theorem scat_other : ∀ (p w r : List Int) (q : Nat), (∀ x ∈ p, x.toNat ≠ q) → (scatter p w r)[q]? = r[q]?
  | k :: ks, w :: ws, r, q, h => by
    rw [scatter, scat_other ks ws _ q fun x hx => h x (by simp [hx]), List.getElem?_set_ne (h k (by simp))]
  | [], _, r, q, _ => by simp [scatter]
  | _ :: _, [], r, q, _ => by simp [scatter]
def Perm0 (p : List Int) : Prop := p.length = 8 ∧ (∀ x ∈ p, 0 ≤ x ∧ x < 8) ∧ p.Nodup
theorem perm8_ok {p : List Int} (h : p.Perm Perm8) : Perm0 p := by
  refine ⟨h.length_eq, fun x hx => ?_, h.nodup_iff.2 (by decide)⟩
  have := h.mem_iff.1 hx
  simp [Perm8] at this; omega
theorem scat_get : ∀ (p w r : List Int), p.Nodup → (∀ x ∈ p, 0 ≤ x ∧ x.toNat < r.length) → ∀ (j : Nat) (x v : Int), p[j]? = some x → w[j]? = some v → (scatter p w r)[x.toNat]? = some v
  | k :: ks, u :: ws, r, hn, hr, 0, x, v, hx, hv => by
    simp at hx hv
    subst hx; subst hv
    obtain ⟨h1, h2⟩ := List.nodup_cons.1 hn
    have hk := hr k (by simp)
    rw [scatter, scat_other ks ws _ _ fun y hy h => h1 (by
      have := hr y (by simp [hy])
      have : y = k := by omega
      rw [← this]; exact hy)]
    rw [List.getElem?_set_self hk.2]
  | k :: ks, u :: ws, r, hn, hr, j + 1, x, v, hx, hv => by
    obtain ⟨h1, h2⟩ := List.nodup_cons.1 hn
    rw [scatter]
    exact scat_get ks ws _ h2 (fun y hy => by have := hr y (by simp [hy]); simpa using this) j x v (by simpa using hx) (by simpa using hv)
theorem valid_rows {o : List (List Int)} (ho : ∀ w ∈ o, w.length = 8) (hv : validB o = true) : Rows o := fun w hw => by
  have h8 := ho w hw
  refine ⟨h8, fun x hx => ?_⟩
  obtain ⟨k, hk⟩ := List.mem_iff_getElem?.1 hx
  have hkl := (List.getElem?_eq_some_iff.1 hk).1
  have := (((validB_iff ho).1 hv).2 k (by omega)).1 w hw
  rw [List.getD_eq_getElem?_getD, hk] at this
  exact this
theorem Rows.big {o : List (List Int)} (h : Rows o) : ∀ w ∈ o, Bd 1000000 w := fun w hw => (h w hw).2.mono (by decide)
theorem Grow0.fz {S : Store} {v : AV} {F : List (List Int)} (h : Grow0 S v F) : fz1 S v = some (OR F) := by
  obtain ⟨h8, ⟨rfl, rfl⟩ | ⟨b, _, rfl, hg⟩⟩ := h
  · rfl
  · exact rowsOf hg h8 rfl
theorem fullL_8 {o : List (List Int)} (ho : ∀ w ∈ o, w.length = 8) : All8 (fullL o) := by
  unfold fullL
  split
  · exact ho
  · intro x hx
    rcases List.mem_append.1 hx with hx | hx
    · exact ho x hx
    · unfold unitsL at hx
      obtain ⟨k, _, rfl⟩ := List.mem_map.1 hx
      exact unitL_len k
theorem few_nil : indR 8 0 [] = false := few_ind 8 0 [] (by decide)
theorem fullL_ne (o : List (List Int)) : fullL o ≠ [] := by
  unfold fullL
  split
  · rename_i h
    intro e
    subst e
    rw [List.map_nil, few_nil] at h; cases h
  · intro e
    have := congrArg List.length e
    simp [unitsL] at this
def fullRes (o : List (List Int)) : AV := if validB o then (if (fullL o).length ≤ 24 then .tup [OR (fullL o), .int .i64 0] else .tup [OR [], .int .i64 2]) else .tup [OR [], .int .i64 50]
theorem run_full_p {o : List (List Int)} (ho : ∀ w ∈ o, w.length = 8) (hol : o.length < 1000000) : callPure RT 28 [OR o] = some (fullRes o) := by
  have h := run_full ho (fun hv => (valid_rows ho hv).big) hol
  refine callPure_of (wpF_mono h fun r S hF => ?_)
  unfold FullR at hF
  unfold fullRes
  split at hF
  · rename_i hv
    rw [if_pos hv]
    split at hF
    · rename_i hl
      rw [if_pos hl]
      obtain ⟨v, rfl, hG⟩ := hF
      simp [hG.fz]
    · rename_i hl
      rw [if_neg hl, hF]; simp
  · rename_i hv
    rw [if_neg hv, hF]; simp
set_option maxRecDepth 20000 in
theorem full5_loop {base : Nat} {o : List (List Int)} (ho : All8 o) (hol : o.length < 900) {Q : FQ}
    (h1 : ∀ (tm : List AV) (ht : tm.length = 29) (S' : Store) (v : AV), tm[4] = v → Grow0 S' v (o ++ unitsL 8) → Q (.ex 0) ⟨tm, S'⟩) :
    ∀ (m j : Nat), j + m = 8 → ∀ (S : Store) (v : AV), Grow0 S v (o ++ unitsL j) →
    wpL RT f130_0m base f130_0 ⟨[.any, .any, .any, .any, v, .int .i64 (j : Int)] ++ List.replicate 23 .any, S⟩ Q := by
  intro m
  induction m with
  | zero =>
    intro j hj S v hG
    have hj' : j = 8 := by omega
    subst hj'
    rw [wpL_step]
    generalize hK' : loopQ RT f130_0m base f130_0 Q = KK
    simp [f130_0, List.replicate]
    subst hK'
    exact h1 _ rfl S v rfl hG
  | succ m ih =>
    intro j hj S v hG
    have hj8 : j < 8 := by omega
    have hlt : (j : Int) < 8 := by omega
    have hw : IntKind.i64.wrap ((j : Int) + 1) = ((j + 1 : Nat) : Int) := wrap_i64 (by omega) (by omega)
    have hu := run_unit5 hj8
    obtain ⟨v', S', ha, hG'⟩ := hG.app (unitL_len j) (by simp [unitsL]; omega)
    have hul : o ++ unitsL j ++ [unitL j] = o ++ unitsL (j + 1) := by
      unfold unitsL
      rw [List.append_assoc, List.range_succ, List.map_append]; rfl
    rw [hul] at hG'
    have hlen := unitL_len j
    have hih := fun S v h => ih (j + 1) (by omega) S v h
    clear hul hG
    generalize unitL j = u at *
    rw [wpL_step]
    generalize hK' : loopQ RT f130_0m base f130_0 Q = KK
    simp [f130_0, List.replicate, hlt, hu, after_nr, opA_litn, fillE, elt, hlen, ha, hw]
    subst hK'
    simp [head, f130_0m, mask]
    have := hih (trunc base _ S') v' (hG'.keepn (vs := [.any, .any, .any, .any, v', .int .i64 ((j : Int) + 1)] ++ List.replicate 23 .any) (by simp))
    simpa [f130_0m, List.replicate] using this
set_option maxRecDepth 20000 in
theorem run_full5 {o : List (List Int)} (ho : ∀ w ∈ o, w.length = 8) (hol : o.length < 1000000) : callPure RT 130 [OR o] = some (fullRes o) := by
  have hv := run_valid5 ho hol
  refine callPure_of (wpF_of tab_130 rfl ?_)
  unfold fullRes
  cases hvb : validB o with
  | false =>
    rw [hvb] at hv
    simp [f130, enter, hv]
  | true =>
    rw [hvb] at hv
    have hl24 := valid_bd hvb
    obtain ⟨D, hr, hR⟩ := run_rank (fun w hw => ⟨ho w hw, (valid_rows ho hvb).big w hw⟩) hol
    have hiff := rank_ind hR (fun w hw => by
      obtain ⟨v, hv', rfl⟩ := List.mem_map.1 hw
      rw [toQ_len]; exact ho v hv')
    obtain ⟨v, S, hcl, hG⟩ := Grow0.clone (S := []) ho (by omega)
    cases hib : indR 8 0 (o.map toQ) with
    | true =>
      have h8 : D.length = 8 := hiff.2 hib
      have hf : fullL o = o := by unfold fullL; rw [if_pos hib]
      rw [h8] at hr
      simp [f130, enter, hv, hcl, hr, hf, hl24, hG.fz, after_OR]
    | false =>
      have h8 : ¬ D.length = 8 := fun e => by rw [hiff.1 e] at hib; cases hib
      have h8' : ¬ (D.length : Int) = 8 := by omega
      have hf : fullL o = o ++ unitsL 8 := by unfold fullL; rw [if_neg (by simp [hib])]
      have lp := fun (Q : FQ) h => full5_loop (Q := Q) (base := S.length) ho (by omega) h 8 0 rfl S v (by simpa [unitsL] using hG)
      simp only [List.replicate, List.cons_append, List.nil_append, Int.natCast_zero] at lp
      have hT : ∀ vs, trunc S.length vs S = S := fun vs => trunc_len (Nat.le_refl _)
      have hlen : (o ++ unitsL 8).length = o.length + 8 := by simp [unitsL]
      by_cases hc : o.length ≤ 16
      · have hc' : ¬ (16 : Int) < (o.length : Int) := by omega
        have hc2 : (o ++ unitsL 8).length ≤ 24 := by omega
        rw [hf]
        simp only [hc2, if_true]
        generalize o ++ unitsL 8 = F at *
        simp [f130, enter, hv, hcl, hr, h8', hc', after_OR]
        simp [head, f130_0m, mask, hT]
        refine lp _ ?_
        intro tm ht S' v' t4 hG'
        simp [ht, t4, hG'.fz]
      · have hc' : (16 : Int) < (o.length : Int) := by omega
        have hc2 : ¬ (o ++ unitsL 8).length ≤ 24 := by omega
        rw [hf]
        simp only [hc2, if_false]
        generalize o ++ unitsL 8 = F at *
        simp [f130, enter, hv, hcl, hr, h8', hc', after_OR]
theorem permGo_conv : ∀ (p : List Int) (bs : List Bool), bs.length = 8 → permGo bs p = true → p.Nodup ∧ ∀ x ∈ p, 0 ≤ x ∧ x < 8 ∧ bs.getD x.toNat false = false
  | [], _, _, _ => ⟨List.nodup_nil, fun x hx => by cases hx⟩
  | k :: ks, bs, hb, h => by
    rw [permGo] at h
    split at h
    · rename_i hk
      obtain ⟨h1, h2⟩ := permGo_conv ks _ (by simpa using hb) h
      have key : ∀ x ∈ ks, x ≠ k ∧ bs.getD x.toNat false = false := fun x hx => by
        obtain ⟨a, b, c⟩ := h2 x hx
        rw [List.getD_eq_getElem?_getD, List.getElem?_set] at c
        by_cases e : k.toNat = x.toNat
        · rw [if_pos e, if_pos (by omega)] at c
          cases c
        · rw [if_neg e] at c
          exact ⟨fun e3 => e (by rw [e3]), by rw [List.getD_eq_getElem?_getD]; exact c⟩
      refine ⟨List.nodup_cons.2 ⟨fun hm => (key k hm).1 rfl, h1⟩, fun x hx => ?_⟩
      rcases List.mem_cons.1 hx with rfl | hx
      · exact hk
      · exact ⟨(h2 x hx).1, (h2 x hx).2.1, (key x hx).2⟩
    · cases h
theorem perm_of_go {p : List Int} (hp : p.length = 8) (h : permGo (List.replicate 8 false) p = true) : Perm0 p := by
  obtain ⟨h1, h2⟩ := permGo_conv p _ (by simp) h
  exact ⟨hp, fun x hx => ⟨(h2 x hx).1, (h2 x hx).2.1⟩, h1⟩
theorem perm0_surj {p : List Int} (h : Perm0 p) {q : Nat} (hq : q < 8) : ∃ j : Nat, p[j]? = some (q : Int) := by
  have hm : (q : Int) ∈ p := by
    refine Classical.byContradiction fun hc => ?_
    have hb := h.2.1
    have hn : (p.map Int.toNat).Nodup := by
      rw [List.Nodup, List.pairwise_map]
      refine List.Pairwise.imp_of_mem ?_ h.2.2
      intro a b ha hb' hab e
      have h1 := hb a ha
      have h2 := hb b hb'
      exact hab (by omega)
    have hq2 : q ∉ p.map Int.toNat := by
      intro hx
      obtain ⟨y, hy, e⟩ := List.mem_map.1 hx
      have h1 := hb y hy
      have h2 : y = (q : Int) := by omega
      rw [h2] at hy
      exact hc hy
    have hlt : ∀ k ∈ q :: p.map Int.toNat, k < 8 := by
      intro k hk
      rcases List.mem_cons.1 hk with h1 | h1
      · rw [h1]; exact hq
      · obtain ⟨y, hy, e⟩ := List.mem_map.1 h1
        have h2 := hb y hy
        omega
    have hfin := nodup_lt (List.nodup_cons.2 ⟨hq2, hn⟩) hlt
    simp [h.1] at hfin
  exact List.mem_iff_getElem?.1 hm
theorem movL_moved {p r : List Int} (h : Perm0 p) (hr : r.length = 8) : movedL p r = movL p r := by
  apply List.ext_getElem?
  intro q
  by_cases hq : q < 8
  · obtain ⟨j, hj⟩ := perm0_surj h hq
    have hjl := (List.getElem?_eq_some_iff.1 hj).1
    have hp8 := h.1
    have hv : r[j]? = some (r[j]'(by omega)) := List.getElem?_eq_getElem (by omega)
    have h1 := scat_get p r (List.replicate 8 0) h.2.2 (fun y hy => by have := h.2.1 y hy; simp; omega) j _ _ hj hv
    have h2 := scat_get p r r h.2.2 (fun y hy => by have := h.2.1 y hy; omega) j _ _ hj hv
    unfold movedL movL
    simp only [Int.toNat_natCast] at h1 h2
    rw [h1, h2]
  · rw [List.getElem?_eq_none (by unfold movedL; rw [scatter_len]; simp; omega), List.getElem?_eq_none (by unfold movL; rw [scatter_len]; omega)]
theorem Grow0.more {S : Store} {v : AV} {F : List (List Int)} (h : Grow0 S v F) (X : Store) : Grow0 (S ++ X) v F := by
  obtain ⟨h8, h | ⟨b, hne, rfl, hg⟩⟩ := h
  · exact ⟨h8, .inl h⟩
  · exact ⟨h8, .inr ⟨b, hne, rfl, by rw [List.getElem?_append_left (lt_of_get hg), hg]⟩⟩
theorem Grow0.other {S : Store} {v : AV} {F : List (List Int)} {b : Nat} {X Y : List AV} (h : Grow0 S v F) (hb : S[b]? = some (.mu X true)) : Grow0 (S.set b (.mu Y true)) v F := by
  obtain ⟨h8, h | ⟨c, hne, rfl, hg⟩⟩ := h
  · exact ⟨h8, .inl h⟩
  · have h1 : c ≠ b := fun e => by rw [e, hb] at hg; cases hg
    exact ⟨h8, .inr ⟨c, hne, rfl, by rw [get_other h1, hg]⟩⟩
def permRes (o : List (List Int)) (p : List Int) : AV :=
  if validB o then (if permGo (List.replicate 8 false) p then (if (fullL o).length ≤ 24 then .tup [OR ((fullL o).map (movL p)), .int .i64 0] else .tup [OR [], .int .i64 2]) else .tup [OR [], .int .i64 1]) else .tup [OR [], .int .i64 50]
theorem own_big {o : List (List Int)} (ho : ∀ w ∈ o, w.length = 8) (hol : o.length < 1000000) (hv : validB o = true) (hl : ¬ (fullL o).length ≤ 24) : callOwn RT 0 28 [OR o] = some (.tup [.sl [] 8 true, .int .i64 2]) := by
  have h := run_full ho (fun hv => (valid_rows ho hv).big) hol
  refine callOwn_of (wpF_mono h fun r S hF => ?_)
  unfold FullR at hF
  rw [if_pos hv, if_neg hl] at hF
  subst hF
  simp [ownRes, takeOwn]
set_option maxRecDepth 20000 in
theorem run_perm_p {o : List (List Int)} {p : List Int} (ho : ∀ w ∈ o, w.length = 8) (hol : o.length < 1000000) (hp : p.length = 8) (hpb : ∀ x ∈ p, -9223372036854775808 ≤ x ∧ x < 9223372036854775808) : callPure RT 29 [OR o, R8 p] = some (permRes o p) := by
  have hvv := run_valid ho hol
  have ht8 : (nums .i64 p).take 8 = nums .i64 p := List.take_of_length_le (by simp [hp])
  have pl := fun (Q : FQ) h1 h2 => perm_loop (Q := Q) (vo := OR o) hp hpb h1 h2 8 0 rfl (List.replicate 8 false) (by simp) rfl
  simp only [List.replicate, List.cons_append, List.nil_append, Int.natCast_zero, bools, List.map_cons, List.map_nil] at pl
  unfold permRes
  cases hv : validB o with
  | false =>
    rw [hv] at hvv
    refine callPure_of (wpF_of tab_29 rfl ?_)
    simp [f29, enter, hvv, hp]
  | true =>
    cases hg : permGo (List.replicate 8 false) p with
    | false =>
      rw [hv] at hvv
      refine callPure_of (wpF_of tab_29 rfl ?_)
      simp [f29, enter, hvv, hp, rd, chk, ht8]
      simp [head, f29_0m, mask, trunc_len]
      refine pl _ ?_ ?_
      · intro tm ht bs t0 t3 hf
        have hf' : permGo (List.replicate 8 false) p = true := hf
        rw [hg] at hf'; cases hf'
      · intro tm ht S t4 t5 _
        simp [ht, t4, t5]
    | true =>
      by_cases hl : (fullL o).length ≤ 24
      · have h0 := perm_of_go hp hg
        simp only [hl, if_true]
        exact run_permute ho (valid_rows ho hv).big hol hv hl (fullL_ne o) (fullL_8 ho) hp h0.2.1 hg
      · rw [hv] at hvv
        have hown := own_big ho hol hv hl
        simp only [hl, if_false, if_true]
        refine callPure_of (wpF_of tab_29 rfl ?_)
        simp [f29, enter, hvv, hp, rd, chk, ht8]
        simp [head, f29_0m, mask, trunc_len]
        refine pl _ ?_ ?_
        · intro tm ht bs t0 t3 _
          have hla : ∀ S : Store, land S (.tup [.sl [] 8 true, .int .i64 2]) = (.tup [.sl [] 8 true, .int .i64 2], S) := fun _ => rfl
          have ha : ∀ (S : Store) r, after false S [OR o] r = some S := fun S r => after_OR _ _ _ _
          simp [ht, t0, t3, hown, hla, ha]
          simp only [head]
          rw [mask_of (n := 65) (by simp [ht])]
          simp [f29_2m, ht, t3, List.range_succ, trunc_len]
          rw [wpL_step]
          simp [f29_2]
        · intro tm ht S t4 t5 hf
          have hf' : permGo (List.replicate 8 false) p = false := hf
          rw [hg] at hf'; cases hf'
theorem appA_keeps {S S' : Store} {v v' : AV} {F : List (List Int)} {r : List Int} {b : Nat} {X : List AV} (h : appA 8 64 S v (.sl [R8 r] 8 true) = some (v', S')) (hG : Grow0 S v F) (hb : S[b]? = some (.mu X true)) : S'[b]? = some (.mu X true) := by
  obtain ⟨h8, ⟨rfl, rfl⟩ | ⟨c, hne, rfl, hg⟩⟩ := hG
  · have hroom : room 1 64 := by decide
    simp [appA, held, chk, hroom] at h
    rw [← h.2, List.getElem?_append_left (lt_of_get hb), hb]
  · have hcb : b ≠ c := fun e => by rw [e, hg] at hb; cases hb
    have hl := flat_len h8
    have h1 : ¬ (F.length + 1) * 8 ≤ 8 * F.length := by omega
    have hGl : (nums .i64 F.flatten).length = 8 * F.length := by rw [nums_length, hl]
    have h2 : F.length * 8 ≤ 8 * F.length := by omega
    generalize nums .i64 F.flatten = G at *
    simp [appA, held, h1, hg, chk_some, hGl] at h
    obtain ⟨_, h⟩ := h
    obtain ⟨_, h⟩ := h
    rw [← h.2, get_other hcb, hb]
set_option maxRecDepth 20000 in
theorem pmove_loop {S : Store} {br i : Nat} {F : List (List Int)} {w p : List Int} {v8 : AV} (hbr : br < S.length) (hb0 : br ≠ 0) (h0 : S[0]? = some (.mu (nums .i64 p) true)) (hi : F[i]? = some w) (hw : w.length = 8) (hp : p.length = 8) (hpr : ∀ x ∈ p, 0 ≤ x ∧ x < 8) {Q : FQ}
    (hQ : ∀ (tm : List AV) (ht : tm.length = 53), tm[3] = .mptr 0 0 8 → tm[6] = OR F → tm[8] = v8 → tm[9] = .int .i64 (i : Int) → tm[10] = .mptr br 0 8 → Q (.ex 2) ⟨tm, S.set br (.mu (nums .i64 (movedL p w)) true)⟩) :
    ∀ (m k : Nat), k + m = 8 → ∀ r : List Int, r.length = 8 → scatter (p.drop k) (w.drop k) r = movedL p w →
    wpL RT f131_0m S.length f131_0 ⟨[.any, .any, .any, .mptr 0 0 8, .any, .any, OR F, .any, v8, .int .i64 (i : Int), .mptr br 0 8, .int .i64 (k : Int)] ++ List.replicate 41 .any, S.set br (.mu (nums .i64 r) true)⟩ Q := by
  have hil := (List.getElem?_eq_some_iff.1 hi).1
  have hilt : (i : Int) < (F.length : Int) := by omega
  intro m
  induction m with
  | zero =>
    intro k hk r hr he
    have hk' : k = 8 := by omega
    subst hk'
    rw [List.drop_of_length_le (by omega)] at he
    simp only [scatter] at he
    rw [he]
    generalize movedL p w = M at *
    rw [wpL_step]
    generalize hK' : loopQ RT f131_0m S.length f131_0 Q = KK
    simp [f131_0, List.replicate]
    subst hK'
    exact hQ _ rfl rfl rfl rfl rfl rfl
  | succ m ih =>
    intro k hk r hr he
    have hk8 : k < 8 := by omega
    have hlt : (k : Int) < 8 := by omega
    have hw1 : IntKind.i64.wrap ((k : Int) + 1) = ((k + 1 : Nat) : Int) := wrap_i64 (by omega) (by omega)
    have hpk : p[k]? = some (p[k]'(by omega)) := List.getElem?_eq_getElem (by omega)
    have hwk : w[k]? = some (w[k]'(by omega)) := List.getElem?_eq_getElem (by omega)
    rw [List.drop_eq_getElem_cons (by omega : k < p.length), List.drop_eq_getElem_cons (by omega : k < w.length)] at he
    simp only [scatter] at he
    have hx := hpr p[k] (List.getElem_mem _)
    generalize p[k] = x at *
    generalize w[k] = y at *
    obtain ⟨q, rfl⟩ : ∃ q : Nat, x = (q : Int) := ⟨x.toNat, by omega⟩
    have hq : q < 8 := by omega
    have hql : (q : Int) < 8 := by omega
    simp only [Int.toNat_natCast] at he
    have r0 : rd (S.set br (.mu (nums .i64 r) true)) 0 k 8 1 = some [.int .i64 (q : Int)] := rd_num (by rw [get_other (by omega)]; exact h0) hp hpk
    have w1 : wr (S.set br (.mu (nums .i64 r) true)) br q 8 [.int .i64 y] = some (S.set br (.mu (nums .i64 (r.set q y)) true)) := by
      rw [wr_num (set_get hbr) hr hq, List.set_set]
    have hln : 1 ≤ 8 - k := by omega
    have hih := ih (k + 1) (by omega) (r.set q y) (by simpa using hr) he
    generalize nums .i64 r = R at *
    generalize nums .i64 (r.set q y) = R' at *
    rw [wpL_step]
    generalize hK' : loopQ RT f131_0m S.length f131_0 Q = KK
    simp [f131_0, List.replicate, hlt, hilt, hi, hw, r0, hln, hwk, hql, w1, hw1]
    subst hK'
    simp [head, f131_0m, mask, trunc_len]
    simpa [f131_0m, List.replicate] using hih
set_option maxRecDepth 20000 in
theorem prows_loop {F : List (List Int)} {p : List Int} (hF : All8 F) (hFl : F.length < 900) (hp : p.length = 8) (hpr : ∀ x ∈ p, 0 ≤ x ∧ x < 8) {Q : FQ}
    (hQ : ∀ (tm : List AV) (ht : tm.length = 53) (S : Store) (v : AV), tm[8] = v → Grow0 S v (F.map (movedL p)) → Q (.ex 0) ⟨tm, S⟩) :
    ∀ (m i : Nat), i + m = F.length → ∀ (S : Store) (v : AV), S[0]? = some (.mu (nums .i64 p) true) → Grow0 S v ((F.take i).map (movedL p)) →
    wpL RT f131_1m 1 f131_1 ⟨[.any, .any, .any, .mptr 0 0 8, .any, .any, OR F, .any, v, .int .i64 (i : Int)] ++ List.replicate 43 .any, S⟩ Q := by
  intro m
  induction m with
  | zero =>
    intro i hi S v h0 hG
    have hi' : i = F.length := by omega
    subst hi'
    rw [List.take_of_length_le (Nat.le_refl _)] at hG
    rw [wpL_step]
    generalize hK' : loopQ RT f131_1m 1 f131_1 Q = KK
    simp [f131_1, List.replicate]
    subst hK'
    exact hQ _ rfl S v rfl hG
  | succ m ih =>
    intro i hi S v h0 hG
    have hi1 : i < F.length := by omega
    have hlt : (i : Int) < (F.length : Int) := by omega
    have hw1 : IntKind.i64.wrap ((i : Int) + 1) = ((i + 1 : Nat) : Int) := wrap_i64 (by omega) (by omega)
    have hget : F[i]? = some F[i] := List.getElem?_eq_getElem hi1
    have hw8 := hF F[i] (List.getElem_mem hi1)
    have htk : (F.take (i + 1)).map (movedL p) = (F.take i).map (movedL p) ++ [movedL p F[i]] := by rw [List.take_add_one, hget, List.map_append]; rfl
    have hih := ih (i + 1) (by omega)
    rw [htk] at hih
    generalize F[i] = w at *
    have hm8 : (movedL p w).length = 8 := by unfold movedL; rw [scatter_len]; simp
    obtain ⟨S1, hS1⟩ : ∃ S1 : Store, S1 = S ++ [.mu (nums .i64 (List.replicate 8 0)) true] := ⟨_, rfl⟩
    have hS1l : S1.length = S.length + 1 := by rw [hS1]; simp
    have hSl : 0 < S.length := lt_of_get h0
    have hg : S1[S.length]? = some (.mu (nums .i64 (List.replicate 8 0)) true) := by rw [hS1, get_last]
    have h01 : S1[0]? = some (.mu (nums .i64 p) true) := by rw [hS1, List.getElem?_append_left hSl]; exact h0
    have hset0 : S1.set S.length (.mu (nums .i64 (List.replicate 8 0)) true) = S1 := by rw [hS1]; simp
    have hG1 : Grow0 (S1.set S.length (.mu (nums .i64 (movedL p w)) true)) v ((F.take i).map (movedL p)) := by
      have : Grow0 S1 v ((F.take i).map (movedL p)) := by rw [hS1]; exact hG.more _
      exact this.other hg
    obtain ⟨v', S', ha, hG'⟩ := hG1.app hm8 (by rw [List.length_map, List.length_take]; omega)
    have h02 : S'[0]? = some (.mu (nums .i64 p) true) := by
      have h03 : (S1.set S.length (.mu (nums .i64 (movedL p w)) true))[0]? = some (.mu (nums .i64 p) true) := by rw [get_other (by omega)]; exact h01
      exact appA_keeps ha hG1 h03
    have L0 := fun (Q' : FQ) hQ' => pmove_loop (S := S1) (br := S.length) (i := i) (F := F) (w := w) (p := p) (v8 := v) (Q := Q') (by omega) (by omega) h01 hget hw8 hp hpr hQ' 8 0 rfl (List.replicate 8 0) (by simp) rfl
    rw [hset0] at L0
    simp only [hS1l] at L0
    have hrm : rd (S1.set S.length (.mu (nums .i64 (movedL p w)) true)) S.length 0 8 8 = some (nums .i64 (movedL p w)) := by
      rw [rd_mu (set_get (by omega)) (by simp [hm8]) (by omega), List.drop_zero, List.take_of_length_le (by simp [hm8])]
    have hz : nums .i64 (List.replicate 8 0) = [.int .i64 0, .int .i64 0, .int .i64 0, .int .i64 0, .int .i64 0, .int .i64 0, .int .i64 0, .int .i64 0] := rfl
    rw [hz] at hS1
    generalize S1.set S.length (.mu (nums .i64 (movedL p w)) true) = S2 at *
    generalize movedL p w = M at *
    rw [wpL_step]
    generalize hK' : loopQ RT f131_1m 1 f131_1 Q = KK
    simp [f131_1, List.replicate, hlt, fillA, splice]
    rw [← hS1]
    simp only [head]
    rw [mask_of (n := 53) (by simp)]
    simp [f131_0m, List.range_succ, trunc_len, hS1l]
    simp [List.replicate, f131_0m] at L0
    refine L0 _ ?_
    intro tm ht t3 t6 t8 t9 t10
    simp [ht, t3, t6, t8, t9, t10, hrm, opA_litn, fillE, elt, hm8, ha, hw1]
    subst hK'
    simp only [loopQ_nrm, head]
    rw [mask_of (n := 53) (by simp [ht])]
    simp [f131_1m, ht, t3, t6, List.range_succ]
    have := hih (trunc 1 ([.any, .any, .any, .mptr 0 0 8, .any, .any, OR F, .any, v', .int .i64 ((i + 1 : Nat) : Int)] ++ List.replicate 43 .any) S') v' (by rw [trunc_get (.inl (by omega))]; exact h02) (hG'.keepn (by simp))
    simpa [f131_1m, List.replicate] using this
set_option maxRecDepth 20000 in
theorem run_perm5 {o : List (List Int)} {p : List Int} (ho : ∀ w ∈ o, w.length = 8) (hol : o.length < 1000000) (hp : p.length = 8) : callPure RT 131 [OR o, R8 p] = some (permRes o p) := by
  have hvv := run_valid5 ho hol
  have hpn := run_permn hp
  have hf := run_full5 ho hol
  have ht8 : (nums .i64 p).take 8 = nums .i64 p := List.take_of_length_le (by simp [hp])
  unfold permRes
  unfold fullRes at hf
  cases hv : validB o with
  | false =>
    rw [hv] at hvv
    refine callPure_of (wpF_of tab_131 rfl ?_)
    simp [f131, enter, hvv, hp]
  | true =>
    rw [hv] at hvv hf
    cases hg : permGo (List.replicate 8 false) p with
    | false =>
      rw [hg] at hpn
      refine callPure_of (wpF_of tab_131 rfl ?_)
      simp [f131, enter, hvv, hp, rd, chk, ht8, hpn, after_nr]
    | true =>
      have h0 := perm_of_go hp hg
      rw [hg] at hpn
      by_cases hl : (fullL o).length ≤ 24
      · have h8 := fullL_8 ho
        simp only [hl, if_true] at hf ⊢
        have hmm : (fullL o).map (movL p) = (fullL o).map (movedL p) := List.map_congr_left fun r hr => (movL_moved h0 (h8 r hr)).symm
        rw [hmm]
        have lp := fun (Q : FQ) h => prows_loop (F := fullL o) h8 (by omega) hp h0.2.1 (Q := Q) h (fullL o).length 0 (by omega) [.mu (nums .i64 p) true] (.sl [] 8 true) rfl ⟨fun x hx => (by simp at hx), .inl ⟨rfl, by simp⟩⟩
        generalize (fullL o).map (movedL p) = M at *
        generalize fullL o = F at *
        refine callPure_of (wpF_of tab_131 rfl ?_)
        simp [f131, enter, hvv, hp, rd, chk, ht8, hpn, hf, after_nr]
        simp only [head]
        rw [mask_of (n := 53) (by simp)]
        simp [f131_1m, List.range_succ, trunc_len]
        simp [List.replicate, f131_1m] at lp
        refine lp _ ?_
        intro tm ht S hG
        have hfz := hG.fz
        simp [ht, hfz]
      · simp only [hl, if_false, if_true] at hf ⊢
        refine callPure_of (wpF_of tab_131 rfl ?_)
        simp [f131, enter, hvv, hp, rd, chk, ht8, hpn, hf, after_nr]
theorem ordCmp_pos {o : List (List Int)} {a b : List Int} : 0 < ordCmp o a b ↔ ordCmp o a b = 1 := by
  rcases ordCmp_vals o a b with h | h | h <;> omega
theorem sdec_insert {o L : List (List Int)} {x : List Int} {n : Nat} (h8 : All8 L) (hx : x.length = 8) (hL : SDec o L) (hn : n ≤ L.length) (hlt : ∀ j y, j < n → L[j]? = some y → 0 < ordCmp o y x) (hge : ∀ y, L[n]? = some y → ¬ 0 < ordCmp o y x ∧ y ≠ x) :
    SDec o (L.take n ++ x :: L.drop n) := by
  have hbef : ∀ y ∈ L.take n, ordCmp o y x = 1 := fun y hy => by
    obtain ⟨j, hj⟩ := List.mem_iff_getElem?.1 hy
    have hjl := (List.getElem?_eq_some_iff.1 hj).1
    have hjn : j < n := by rw [List.length_take] at hjl; omega
    rw [List.getElem?_take_of_lt hjn] at hj
    exact ordCmp_pos.1 (hlt j y hjn hj)
  have haft : ∀ y ∈ L.drop n, ordCmp o x y = 1 := by
    by_cases hnl : n < L.length
    · have hz := hge L[n] (List.getElem?_eq_getElem hnl)
      have hz8 := h8 L[n] (List.getElem_mem hnl)
      have hd : L.drop n = L[n] :: L.drop (n + 1) := List.drop_eq_getElem_cons hnl
      have hp : (L.drop n).Pairwise fun a b => ordCmp o a b = 1 := List.Pairwise.sublist (List.drop_sublist n L) hL
      have hmem : ∀ y ∈ L.drop (n + 1), y.length = 8 := fun y hy => h8 y (List.mem_of_mem_drop hy)
      rw [hd] at hp
      intro y hy
      rw [hd] at hy
      generalize L[n] = z at *
      have hzx : ordCmp o x z = 1 := by
        have h1 : ordCmp o z x ≠ 0 := fun e => hz.2 (ordCmp_eq0 o (by omega) e)
        have h2 := ordCmp_anti o x z
        rcases ordCmp_vals o z x with h | h | h
        · rw [h] at h2
          have := ordCmp_anti o z x
          omega
        · exact absurd h h1
        · exact absurd (by omega) hz.1
      rcases List.mem_cons.1 hy with rfl | hy
      · exact hzx
      · have h1 := (List.pairwise_cons.1 hp).1 y hy
        have hy8 := hmem y hy
        have h2 := ordCmp_trans o (a := x) (b := z) (c := y) (by omega) (by omega) (by omega) (by omega)
        rcases ordCmp_vals o x y with h | h | h
        · omega
        · have := ordCmp_eq0 o (by omega) h
          subst this
          have := ordCmp_anti o x z
          omega
        · exact h
    · rw [List.drop_of_length_le (by omega)]
      intro y hy; cases hy
  refine List.pairwise_append.2 ⟨List.Pairwise.sublist (List.take_sublist n L) hL, List.pairwise_cons.2 ⟨haft, List.Pairwise.sublist (List.drop_sublist n L) hL⟩, fun a ha b hb => ?_⟩
  rcases List.mem_cons.1 hb with rfl | hb
  · exact hbef a ha
  · rw [← List.take_append_drop n L] at hL
    exact (List.pairwise_append.1 hL).2.2 a ha b hb
theorem mem_insert {α : Type} {L : List α} {x d : α} {n : Nat} : d ∈ L.take n ++ x :: L.drop n ↔ d ∈ L ∨ d = x := by
  conv => rhs; rw [← List.take_append_drop n L]
  simp only [List.mem_append, List.mem_cons]
  constructor
  · rintro (h | h | h)
    · exact .inl (.inl h)
    · exact .inr h
    · exact .inl (.inr h)
  · rintro ((h | h) | h)
    · exact .inl h
    · exact .inr (.inr h)
    · exact .inr (.inl h)
theorem flatT {L : List (List Int)} (h8 : All8 L) (n : Nat) (hn : n ≤ L.length) : L.flatten.take (n * 8) = (L.take n).flatten := by
  have h1 := flat_len (t := L.take n) fun r hr => h8 r (List.mem_of_mem_take hr)
  rw [List.length_take, Nat.min_eq_left hn] at h1
  conv => lhs; rw [← List.take_append_drop n L, List.flatten_append]
  rw [List.take_append_of_le_length (by omega), List.take_of_length_le (by omega)]
theorem flatD {L : List (List Int)} (h8 : All8 L) (n : Nat) (hn : n ≤ L.length) : L.flatten.drop (n * 8) = (L.drop n).flatten := by
  have h1 := flat_len (t := L.take n) fun r hr => h8 r (List.mem_of_mem_take hr)
  rw [List.length_take, Nat.min_eq_left hn] at h1
  conv => lhs; rw [← List.take_append_drop n L, List.flatten_append]
  rw [List.drop_append, List.drop_of_length_le (by omega), List.nil_append, h1]
  have : n * 8 - 8 * n = 0 := by omega
  rw [this, List.drop_zero]
theorem slc_from {b n k : Nat} (hk : k ≤ n) : sliceA 8 true false false (.msl b 0 n 8 (8 * n) none) [.int .i64 (k : Int)] = some (.msl b (k * 8) (n - k) 8 (8 * n) none) := by
  simp only [sliceA, bounds, bound_ok hk, Option.bind_some]
  rw [chk_pos (by simp), chk_pos (by omega)]
  simp [capAt]
theorem slc_upto {b n k : Nat} (hk : k ≤ n) : sliceA 8 false true true (.msl b 0 n 8 (8 * n) none) [.int .i64 (k : Int), .int .i64 (k : Int)] = some (.msl b 0 k 8 (8 * n) (some k)) := by
  have h1 : k ≤ (Option.none.getD ((8 * n - 0) / 8) : Nat) := by simp; omega
  simp only [sliceA, bounds, bound_ok h1, bound_ok (Nat.le_refl k), Option.bind_some]
  rw [chk_pos (by simp), chk_pos (by omega)]
  simp [capAt]
theorem ins_app {S : Store} {b n : Nat} {L : List (List Int)} {x : List Int} (hg : S[b]? = some (.mu (nums .i64 L.flatten) false)) (h8 : All8 L) (hx : x.length = 8) (hn : n ≤ L.length) (hl : L.length < 1000) :
    ∃ rest S1 out S2, appA 8 64 S (.sl [R8 x] 8 true) (.msl b (n * 8) (L.length - n) 8 (8 * L.length) none) = some (rest, S1) ∧ appA 8 64 S1 (.msl b 0 n 8 (8 * L.length) (some n)) rest = some (out, S2) ∧ Grow0 S2 out (L.take n ++ x :: L.drop n) := by
  have hlt := lt_of_get hg
  have hfl := flat_len h8
  have hG8 : All8 (L.take n ++ x :: L.drop n) := fun r hr => by
    rcases mem_insert.1 hr with h | h
    · exact h8 r h
    · rw [h]; exact hx
  have hne : L.take n ++ x :: L.drop n ≠ [] := by simp
  have hnl : (L.take n ++ x :: L.drop n).length = L.length + 1 := by simp; omega
  have hcat : nums .i64 (L.take n ++ x :: L.drop n).flatten = nums .i64 (L.take n).flatten ++ (nums .i64 x ++ nums .i64 (L.drop n).flatten) := by
    rw [List.flatten_append, List.flatten_cons, nums_append, nums_append]
  have rd1 : ∀ S' : Store, S'[b]? = S[b]? → rd S' b 0 (8 * L.length) (n * 8) = some (nums .i64 (L.take n).flatten) := fun S' h => by
    rw [rd_mu (by rw [h]; exact hg) (by simp [hfl]) (by omega), List.drop_zero, nums_take, flatT h8 n hn]
  by_cases hc : n = L.length
  · subst hc
    have hh : held S 8 (.msl b (L.length * 8) (L.length - L.length) 8 (8 * L.length) none) = some (0, []) := by
      rw [Nat.sub_self]
      simp only [held, Nat.zero_mul]
      rw [chk_pos trivial, rd_mu hg (by simp [hfl]) (by omega)]
      simp
    have ha1 : appA 8 64 S (.sl [R8 x] 8 true) (.msl b (L.length * 8) (L.length - L.length) 8 (8 * L.length) none) = some (.sl [R8 x] 8 true, S) := by
      unfold appA; rw [hh]; rfl
    have hroom : room (L.length + 1) 64 := by unfold room; omega
    have hgt : ¬ L.length + 1 ≤ L.length := by omega
    have ha2 : appA 8 64 S (.msl b 0 L.length 8 (8 * L.length) (some L.length)) (.sl [R8 x] 8 true) = some (.msl S.length 0 (L.length + 1) 8 ((L.length + 1) * 8) none, S ++ [.mu (nums .i64 L.flatten ++ nums .i64 x) false]) := by
      have h1 := rd1 S rfl
      rw [List.take_of_length_le (Nat.le_refl _)] at h1
      have h2 : held S 8 (.sl [R8 x] 8 true) = some (1, nums .i64 x) := by simp [held, chk]
      unfold appA
      rw [h2]
      simp only [Option.bind_some]
      rw [chk_pos trivial, if_neg (by omega), if_neg hgt, chk_pos hroom, h1]; rfl
    refine ⟨_, _, _, _, ha1, ha2, hG8, .inr ⟨S.length, hne, ?_, ?_⟩⟩
    · rw [hnl, Nat.mul_comm]
    · rw [get_last, hcat, List.take_of_length_le (Nat.le_refl _), List.drop_of_length_le (Nat.le_refl _)]; simp
  · have hlt2 : n < L.length := by omega
    have hdl : ((L.drop n).flatten).length = (L.length - n) * 8 := by
      have := flat_len (t := L.drop n) fun r hr => h8 r (List.mem_of_mem_drop hr)
      rw [List.length_drop] at this; omega
    have hh : held S 8 (.msl b (n * 8) (L.length - n) 8 (8 * L.length) none) = some (L.length - n, nums .i64 (L.drop n).flatten) := by
      simp only [held]
      rw [chk_pos trivial, rd_mu hg (by simp [hfl]) (by omega), nums_drop, flatD h8 n hn, nums_take, List.take_of_length_le (by omega)]; rfl
    have hroom1 : room (1 + (L.length - n)) 64 := by unfold room; omega
    have ha1 : appA 8 64 S (.sl [R8 x] 8 true) (.msl b (n * 8) (L.length - n) 8 (8 * L.length) none) = some (.msl S.length 0 (1 + (L.length - n)) 8 ((1 + (L.length - n)) * 8) none, S ++ [.mu (nums .i64 x ++ nums .i64 (L.drop n).flatten) false]) := by
      unfold appA
      rw [hh]
      simp only [Option.bind_some]
      rw [chk_pos trivial, if_neg (by omega), chk_pos ⟨trivial, hroom1⟩]; simp
    have hroom2 : room (n + (1 + (L.length - n))) 64 := by unfold room; omega
    have hgt : ¬ n + (1 + (L.length - n)) ≤ n := by omega
    have ha2 : appA 8 64 (S ++ [.mu (nums .i64 x ++ nums .i64 (L.drop n).flatten) false]) (.msl b 0 n 8 (8 * L.length) (some n)) (.msl S.length 0 (1 + (L.length - n)) 8 ((1 + (L.length - n)) * 8) none) = some (.msl (S.length + 1) 0 (n + (1 + (L.length - n))) 8 ((n + (1 + (L.length - n))) * 8) none, S ++ [.mu (nums .i64 x ++ nums .i64 (L.drop n).flatten) false] ++ [.mu (nums .i64 (L.take n).flatten ++ (nums .i64 x ++ nums .i64 (L.drop n).flatten)) false]) := by
      have hl3 : (nums .i64 x ++ nums .i64 (L.drop n).flatten).length = (1 + (L.length - n)) * 8 := by simp [hx, hdl]; omega
      have h1 := rd1 (S ++ [.mu (nums .i64 x ++ nums .i64 (L.drop n).flatten) false]) (List.getElem?_append_left hlt)
      generalize nums .i64 x ++ nums .i64 (L.drop n).flatten = X at *
      have h2 : held (S ++ [.mu X false]) 8 (.msl S.length 0 (1 + (L.length - n)) 8 ((1 + (L.length - n)) * 8) none) = some (1 + (L.length - n), X) := by
        simp only [held]
        rw [chk_pos trivial, rd_mu get_last hl3 (by omega), List.drop_zero, List.take_of_length_le (by omega)]; rfl
      unfold appA
      rw [h2]
      simp only [Option.bind_some]
      rw [chk_pos trivial, if_neg (by omega), if_neg hgt, chk_pos hroom2, h1]
      simp
    refine ⟨_, _, _, _, ha1, ha2, hG8, .inr ⟨S.length + 1, hne, ?_, ?_⟩⟩
    · have e : n + (1 + (L.length - n)) = L.length + 1 := by omega
      rw [hnl, e, Nat.mul_comm]
    · rw [hcat, List.getElem?_append_right (by simp)]; simp
theorem ins_nil {S : Store} {x : List Int} (hx : x.length = 8) :
    ∃ out S2, appA 8 64 S (.sl [R8 x] 8 true) (.sl [] 8 true) = some (.sl [R8 x] 8 true, S) ∧ appA 8 64 S (.sl [] 8 true) (.sl [R8 x] 8 true) = some (out, S2) ∧ Grow0 S2 out [x] := by
  have hroom : room 1 64 := by decide
  refine ⟨.msl S.length 0 1 8 8 none, S ++ [.mu (nums .i64 x) false], rfl, ?_, fun r hr => ?_, .inr ⟨S.length, by simp, rfl, ?_⟩⟩
  · simp [appA, held, chk, hroom]
  · have : r = x := by simpa using hr
    rw [this]; exact hx
  · rw [get_last]; simp
theorem Grow0.fzv {S : Store} {v : AV} {F : List (List Int)} (h : Grow0 S v F) : Go.AVM.fzv S v = some (OR F) := by
  have h1 := h.fz
  obtain ⟨h8, ⟨rfl, rfl⟩ | ⟨b, _, rfl, hg⟩⟩ := h
  · exact h1
  · exact h1
set_option maxRecDepth 20000 in
theorem place_loop {S : Store} {b i : Nat} {L o m : List (List Int)} {x : List Int} (ho : Rows o) (hol : o.length < 1000000) (hg : S[b]? = some (.mu (nums .i64 L.flatten) false)) (h8 : All8 L) (hLb : ∀ r ∈ L, Bd 200000 r) (hLl : L.length < 1000) (hx : x.length = 8) (hxb : Bd 200000 x) (hi : m[i]? = some x) {Q : FQ}
    (hQ : ∀ (tm : List AV) (ht : tm.length = 66) (n : Nat), n ≤ L.length → (∀ j y, j < n → L[j]? = some y → 0 < ordCmp o y x) → (∀ y, L[n]? = some y → ¬ 0 < ordCmp o y x) → tm[0] = OR o → tm[1] = OR m → tm[5] = .msl b 0 L.length 8 (8 * L.length) none → tm[6] = .int .i64 (i : Int) → tm[7] = .int .i64 (n : Int) → Q (.ex 2) ⟨tm, S⟩) :
    ∀ (k n : Nat), n + k = L.length → (∀ j y, j < n → L[j]? = some y → 0 < ordCmp o y x) →
    wpL RT f132_0m S.length f132_0 ⟨[OR o, OR m, .any, .any, .any, .msl b 0 L.length 8 (8 * L.length) none, .int .i64 (i : Int), .int .i64 (n : Int)] ++ List.replicate 58 .any, S⟩ Q := by
  have hil := (List.getElem?_eq_some_iff.1 hi).1
  have hilt : (i : Int) < (m.length : Int) := by omega
  have htx : (nums .i64 x).take 8 = nums .i64 x := List.take_of_length_le (by simp [hx])
  intro k
  induction k with
  | zero =>
    intro n hn hp
    have hn' : n = L.length := by omega
    subst hn'
    rw [wpL_step]
    generalize hK' : loopQ RT f132_0m S.length f132_0 Q = KK
    simp [f132_0, List.replicate]
    subst hK'
    exact hQ _ rfl L.length (Nat.le_refl _) hp (fun y hy => by rw [List.getElem?_eq_none (Nat.le_refl _)] at hy; cases hy) rfl rfl rfl rfl rfl
  | succ k ih =>
    intro n hn hp
    have hnl : n < L.length := by omega
    have hlt : (n : Int) < (L.length : Int) := by omega
    have hget : L[n]? = some L[n] := List.getElem?_eq_getElem hnl
    have hy8 := h8 L[n] (List.getElem_mem hnl)
    have hyb := hLb L[n] (List.getElem_mem hnl)
    have hrd := rd_row hg h8 rfl hget
    have hcmp := run_rord ho hol hy8 hx hyb hxb
    have hw1 : IntKind.i64.wrap ((n : Int) + 1) = ((n + 1 : Nat) : Int) := wrap_i64 (by omega) (by omega)
    have hty : (nums .i64 L[n]).take 8 = nums .i64 L[n] := List.take_of_length_le (by simp [hy8])
    have hfin := fun (h0 : ¬ 0 < ordCmp o L[n] x) tm hl => hQ tm hl n (by omega) hp (fun y hy => by rw [hget] at hy; cases hy; exact h0)
    have hnext : 0 < ordCmp o L[n] x → ∀ j y, j < n + 1 → L[j]? = some y → 0 < ordCmp o y x := fun h0 j y hj hy => by
      by_cases e : j = n
      · subst e; rw [hget] at hy; cases hy; exact h0
      · exact hp j y (by omega) hy
    have hih := fun h => ih (n + 1) (by omega) h
    generalize L[n] = y at *
    generalize ordCmp o y x = c at *
    rw [wpL_step]
    generalize hK' : loopQ RT f132_0m S.length f132_0 Q = KK
    by_cases c0 : 0 < c
    · have := hih (hnext c0)
      simp [f132_0, List.replicate, hlt, hilt, hi, hrd, hx, hy8, htx, hty, chk, hcmp, after_nr, c0, hw1]
      subst hK'
      simp [head, f132_0m, mask, trunc_len]
      simpa [f132_0m, List.replicate] using this
    · simp [f132_0, List.replicate, hlt, hilt, hi, hrd, hx, hy8, htx, hty, chk, hcmp, after_nr, c0]
      subst hK'
      exact hfin c0 _ rfl rfl rfl rfl rfl rfl
set_option maxHeartbeats 1000000 in
set_option maxRecDepth 20000 in
theorem insert_loop {o m : List (List Int)} (ho : Rows o) (hol : o.length < 1000000) (hm : Mono8 m) (hml : m.length ≤ 900) {Q : FQ}
    (hQ : ∀ (tm : List AV) (ht : tm.length = 66) (S : Store) (v : AV) (L : List (List Int)), tm[5] = v → Grow0 S v L → SDec o L → (∀ d, d ∈ L ↔ d ∈ m) → Q (.ex 0) ⟨tm, S⟩) :
    ∀ (k i : Nat), i + k = m.length → ∀ (S : Store) (v : AV) (L : List (List Int)), Grow0 S v L → SDec o L → (∀ d, d ∈ L ↔ d ∈ m.take i) → L.length ≤ i →
    wpL RT f132_1m 0 f132_1 ⟨[OR o, OR m, .any, .any, .any, v, .int .i64 (i : Int)] ++ List.replicate 59 .any, S⟩ Q := by
  intro k
  induction k with
  | zero =>
    intro i hi S v L hG hS hM hLi
    have hi' : i = m.length := by omega
    subst hi'
    rw [List.take_of_length_le (Nat.le_refl _)] at hM
    rw [wpL_step]
    generalize hK' : loopQ RT f132_1m 0 f132_1 Q = KK
    simp [f132_1, List.replicate]
    subst hK'
    exact hQ _ rfl S v L rfl hG hS hM
  | succ k ih =>
    intro i hi S v L hG hS hM hLi
    have hi1 : i < m.length := by omega
    have hlt : (i : Int) < (m.length : Int) := by omega
    have hw1 : IntKind.i64.wrap ((i : Int) + 1) = ((i + 1 : Nat) : Int) := wrap_i64 (by omega) (by omega)
    have hget : m[i]? = some m[i] := List.getElem?_eq_getElem hi1
    have hx8 := hm.len m[i] (List.getElem_mem hi1)
    have hxb := hm.bd m[i] (List.getElem_mem hi1)
    have htk : ∀ d, d ∈ m.take (i + 1) ↔ d ∈ m.take i ∨ d = m[i] := fun d => by rw [List.take_add_one, hget]; simp only [Option.toList_some, List.mem_append, List.mem_singleton]
    have hih := ih (i + 1) (by omega)
    generalize m[i] = x at *
    have htx : (nums .i64 x).take 8 = nums .i64 x := List.take_of_length_le (by simp [hx8])
    rcases hG.2 with ⟨rfl, rfl⟩ | ⟨b, hne, rfl, hg⟩
    · -- nothing is there yet
      obtain ⟨out, S2, ha1, ha2, hG2⟩ := ins_nil (S := S) hx8
      have hs1 : sliceA 8 true false false (.sl [] 8 true) [.int .i64 0] = some (.sl [] 8 true) := rfl
      have hs2 : sliceA 8 false true true (.sl [] 8 true) [.int .i64 0, .int .i64 0] = some (.sl [] 8 true) := rfl
      have hM2 : ∀ d, d ∈ [x] ↔ d ∈ m.take (i + 1) := fun d => by
        rw [htk, ← hM]; simp
      have hS2 : SDec o [x] := List.pairwise_singleton _ _
      have := hih (trunc 0 ([OR o, OR m, .any, .any, .any, out, .int .i64 ((i + 1 : Nat) : Int)] ++ List.replicate 59 .any) S2) out [x] (hG2.keepn (by simp)) hS2 hM2 (by simp)
      rw [wpL_step]
      generalize hK' : loopQ RT f132_1m 0 f132_1 Q = KK
      simp [f132_1, List.replicate, hlt]
      simp [head, f132_0m, mask, trunc_len]
      rw [wpL_step]
      simp [f132_0]
      simp [hlt, hget, hx8, htx, chk, opA_litn, fillE, elt, hs1, ha1, hs2, ha2, hw1]
      refine ⟨hi1, ?_⟩
      subst hK'
      simp [head, f132_1m, mask]
      simpa [f132_1m, List.replicate] using this
    · have hL8 : All8 L := hG.1
      have hLb : ∀ r ∈ L, Bd 200000 r := fun r hr => hm.bd r (List.mem_of_mem_take ((hM r).1 hr))
      have pl := fun (Q' : FQ) hQ' => place_loop (S := S) (b := b) (i := i) (L := L) (o := o) (m := m) (x := x) ho hol hg hL8 hLb (by omega) hx8 hxb hget (Q := Q') hQ' L.length 0 (by omega) (fun j y hj => by omega)
      simp [List.replicate, f132_0m] at pl
      rw [wpL_step]
      generalize hK' : loopQ RT f132_1m 0 f132_1 Q = KK
      simp [f132_1, List.replicate, hlt]
      simp [head, f132_0m, mask, trunc_len]
      refine pl _ ?_
      intro tm ht n hn hp hge t0 t1 t5 t6 t7
      by_cases hnl : n < L.length
      · have hnlt : (n : Int) < (L.length : Int) := by omega
        have hgn : L[n]? = some L[n] := List.getElem?_eq_getElem hnl
        have hy8 := hL8 L[n] (List.getElem_mem hnl)
        have hrd := rd_row hg hL8 rfl hgn
        have hge' := hge L[n] hgn
        have heq := eqcs_nums .i64 (a := L[n]) (b := x) (by omega)
        have hty : (nums .i64 L[n]).take 8 = nums .i64 L[n] := List.take_of_length_le (by simp [hy8])
        by_cases he : L[n] = x
        · rw [decide_eq_true he] at heq
          have hM2 : ∀ d, d ∈ L ↔ d ∈ m.take (i + 1) := fun d => by
            rw [htk, ← hM]
            constructor
            · exact .inl
            · rintro (h | h)
              · exact h
              · rw [h, ← he]; exact List.getElem_mem hnl
          have := hih (trunc 0 ([OR o, OR m, .any, .any, .any, .msl b 0 L.length 8 (8 * L.length) none, .int .i64 ((i + 1 : Nat) : Int)] ++ List.replicate 59 .any) S) _ L (hG.keepn (by simp)) hS hM2 (by omega)
          generalize L[n] = y at *
          simp [ht, t0, t1, t5, t6, t7, hnlt, hlt, hget, hrd, hx8, hy8, htx, hty, chk, heq, hw1]
          subst hK'
          simp only [loopQ_nrm, head]
          rw [mask_of (n := 66) (by simp [ht])]
          simp [f132_1m, ht, t0, t1, t5, List.range_succ]
          simpa [f132_1m, List.replicate] using this
        · rw [decide_eq_false he] at heq
          obtain ⟨rest, S1, out, S2, ha1, ha2, hG2⟩ := ins_app hg hL8 hx8 hn (by omega)
          have hS2 := sdec_insert hL8 hx8 hS hn hp (fun y hy => ⟨by have := hge y hy; omega, by rw [hgn] at hy; cases hy; exact he⟩)
          have hM2 : ∀ d, d ∈ L.take n ++ x :: L.drop n ↔ d ∈ m.take (i + 1) := fun d => by rw [htk, ← hM]; exact mem_insert
          have hlen : (L.take n ++ x :: L.drop n).length ≤ i + 1 := by simp; omega
          have s1 := slc_from (b := b) hn
          have s2 := slc_upto (b := b) hn
          have := hih (trunc 0 ([OR o, OR m, .any, .any, .any, out, .int .i64 ((i + 1 : Nat) : Int)] ++ List.replicate 59 .any) S2) out _ (hG2.keepn (by simp)) hS2 hM2 hlen
          generalize L[n] = y at *
          simp [ht, t0, t1, t5, t6, t7, hnlt, hlt, hget, hrd, hx8, hy8, htx, hty, chk, heq, opA_litn, fillE, elt, s1, s2, ha1, ha2, hw1]
          subst hK'
          simp only [loopQ_nrm, head]
          rw [mask_of (n := 66) (by simp [ht])]
          simp [f132_1m, ht, t0, t1, List.range_succ]
          simpa [f132_1m, List.replicate] using this
      · have hnlt : ¬ (n : Int) < (L.length : Int) := by omega
        obtain ⟨rest, S1, out, S2, ha1, ha2, hG2⟩ := ins_app hg hL8 hx8 hn (by omega)
        have hS2 := sdec_insert hL8 hx8 hS hn hp (fun y hy => by rw [List.getElem?_eq_none (by omega)] at hy; cases hy)
        have hM2 : ∀ d, d ∈ L.take n ++ x :: L.drop n ↔ d ∈ m.take (i + 1) := fun d => by rw [htk, ← hM]; exact mem_insert
        have hlen : (L.take n ++ x :: L.drop n).length ≤ i + 1 := by simp; omega
        have s1 := slc_from (b := b) hn
        have s2 := slc_upto (b := b) hn
        have := hih (trunc 0 ([OR o, OR m, .any, .any, .any, out, .int .i64 ((i + 1 : Nat) : Int)] ++ List.replicate 59 .any) S2) out _ (hG2.keepn (by simp)) hS2 hM2 hlen
        simp [ht, t0, t1, t5, t6, t7, hnlt, hlt, hget, hx8, htx, chk, opA_litn, fillE, elt, s1, s2, ha1, ha2, hw1]
        subst hK'
        simp only [loopQ_nrm, head]
        rw [mask_of (n := 66) (by simp [ht])]
        simp [f132_1m, ht, t0, t1, List.range_succ]
        simpa [f132_1m, List.replicate] using this
theorem run_rsort {o m : List (List Int)} (ho : Rows o) (hol : o.length < 1000000) (hm : Mono8 m) (hml : m.length ≤ 900) :
    ∃ s, callPure RT 132 [OR o, OR m] = some (OR s) ∧ SDec o s ∧ (∀ d, d ∈ s ↔ d ∈ m) := by
  suffices h : ∃ r, callPure RT 132 [OR o, OR m] = some r ∧ ∃ s, r = OR s ∧ SDec o s ∧ (∀ d, d ∈ s ↔ d ∈ m) by
    obtain ⟨_, h1, s, rfl, h2, h3⟩ := h
    exact ⟨s, h1, h2, h3⟩
  have lp := fun (Q : FQ) h => insert_loop ho hol hm hml (Q := Q) h m.length 0 (by omega) [] (.sl [] 8 true) [] ⟨fun x hx => (by cases hx), .inl ⟨rfl, rfl⟩⟩ List.Pairwise.nil (fun d => by simp) (by simp)
  simp [List.replicate, f132_1m] at lp
  refine callPure_ex (wpF_of tab_132 rfl ?_)
  simp [f132, enter]
  simp [head, f132_1m, mask, trunc_len]
  refine lp _ ?_
  intro tm ht S v L h5 hG hS hM
  have hfz := hG.fzv
  simp [ht, h5, hfz]
  exact ⟨L, rfl, hS, hM⟩
end Go.AVM
namespace Go.AVM
end Go.AVM
