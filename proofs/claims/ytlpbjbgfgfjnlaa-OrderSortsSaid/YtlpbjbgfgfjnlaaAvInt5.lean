/- Integers: multiplying. -/
import Derived.Test.YtlpbjbgfgfjnlaaAvInt4
set_option linter.unusedVariables false
set_option linter.unusedSimpArgs false
set_option linter.unusedSectionVars false
namespace Go.AVM
theorem mul_inner {xs ys : List Nat} (hy : Wd ys) (hly : ys.length ≤ Lim) {i a L n : Nat} (ha : a < B) (hL' : L ≤ 2 * Lim) (hiL : i + ys.length < L) {out0 : List Nat} (hl0 : out0.length = L) {Q : FQ}
    (hQ : ∀ (tm : List AV) (hl : tm.length = 67) (out : List Nat) (c : Nat), tm[1] = .sl (wds ys) 1 false → tm[5] = .msl 0 0 L 1 L none → tm[6] = .int .i64 (i : Int) → tm[8] = .int .u64 (c : Int) → tm[17] = .sl (wds xs) 1 false → tm[18] = .int .i64 (n : Int) → tm[19] = .int .i64 (i : Int) →
      out.length = L → Wd out → c < B → val out + B ^ (i + ys.length) * c = val out0 + B ^ i * (a * val ys) → (∀ j, i + ys.length ≤ j → out[j]? = out0[j]?) → Q (.ex 2) ⟨tm, [.mu (wds out) true]⟩) :
    ∀ (m k : Nat), k + m = ys.length → ∀ (out : List Nat) (c : Nat), out.length = L → Wd out → c < B → val out + B ^ (i + k) * c = val out0 + B ^ i * (a * val (ys.take k)) → (∀ j, i + k ≤ j → out[j]? = out0[j]?) →
    wpL RT f93_0m 1 f93_0 ⟨[.any, .sl (wds ys) 1 false, .any, .any, .any, .msl 0 0 L 1 L none, .int .i64 (i : Int), .int .u32 (a : Int), .int .u64 (c : Int), .any, .any, .any, .any, .any, .any, .any, .any, .sl (wds xs) 1 false, .int .i64 (n : Int), .int .i64 (i : Int), .any, .any, .any, .any, .sl (wds ys) 1 false, .int .i64 (ys.length : Int), .int .i64 (k : Int),
      .any, .any, .any, .any, .any, .any, .any, .any, .any, .any, .any, .any, .any, .any, .any, .any, .any, .any, .any, .any, .any, .any, .any, .any, .any, .any, .any, .any, .any, .any, .any, .any, .any, .any, .any, .any, .any, .any, .any, .any], [.mu (wds out) true]⟩ Q := by
  have hL : Lim = 1099511627776 := rfl
  intro m
  induction m with
  | zero =>
    intro k hk out c hlo hwo hc he hsame
    have hk' : k = ys.length := by omega
    subst hk'
    rw [wpL_eq]
    generalize hK : (fun s' => wpL RT f93_0m 1 f93_0 (head f93_0m 1 s') Q) = K
    simp [f93_0]
    rw [List.take_of_length_le (Nat.le_refl _)] at he
    exact hQ _ rfl out c rfl rfl rfl rfl rfl rfl rfl hlo hwo hc he hsame
  | succ m ih =>
    intro k hk out c hlo hwo hc he hsame
    rw [wpL_eq]
    generalize hK : (fun s' => wpL RT f93_0m 1 f93_0 (head f93_0m 1 s') Q) = K
    have hlt : (k : Int) < (ys.length : Int) := by omega
    obtain ⟨b, hb⟩ : ∃ b, ys[k]? = some b := ⟨ys[k], List.getElem?_eq_getElem (by omega)⟩
    have hbB : b < B := hy.get hb
    obtain ⟨w, hw⟩ : ∃ w, out[i + k]? = some w := ⟨out[i + k], List.getElem?_eq_getElem (by omega)⟩
    have hwB : w < B := hwo.get hw
    have hwik : IntKind.i64.wrap ((i : Int) + (k : Int)) = ((i + k : Nat) : Int) := wrap_i64 (by omega) (by omega)
    have hwk : IntKind.i64.wrap ((k : Int) + 1) = ((k + 1 : Nat) : Int) := wrap_i64 (by omega) (by omega)
    have hab : a * b ≤ (B - 1) * (B - 1) := Nat.mul_le_mul (by omega) (by omega)
    have hB : B = 4294967296 := rfl
    rw [hB] at hab ha hbB hwB hc
    have hrd := rd_word (S := [.mu (wds out) true]) (b := 0) (i := i + k) (vl := L) rfl hlo.symm (by omega)
    have hwe : out[i + k] = w := by rw [List.getElem?_eq_getElem (by omega)] at hw; exact Option.some.inj hw
    rw [hwe] at hrd
    obtain ⟨s, hs⟩ : ∃ s, s = c + (a * b + w) := ⟨_, rfl⟩
    obtain ⟨lo, hlo'⟩ : ∃ lo, lo = s % 4294967296 := ⟨_, rfl⟩
    obtain ⟨hi, hhi⟩ : ∃ hi, hi = s / 4294967296 := ⟨_, rfl⟩
    obtain ⟨p, hp⟩ : ∃ p, p = a * b := ⟨_, rfl⟩
    have hpz : (a : Int) * (b : Int) = (p : Int) := by rw [hp]; push_cast; rfl
    rw [← hp] at hab hs
    have ea : (a : Int) % 18446744073709551616 = a := by omega
    have eb : (b : Int) % 18446744073709551616 = b := by omega
    have ew : (w : Int) % 18446744073709551616 = w := by omega
    have e1 : (p : Int) % 18446744073709551616 = (p : Int) := by omega
    have e2 : ((p : Int) + w) % 18446744073709551616 = (p : Int) + w := by omega
    have e3 : ((c : Int) + ((p : Int) + w)) % 18446744073709551616 = (s : Int) := by omega
    have e4 : (s : Int) % 4294967296 = (lo : Int) := by omega
    have e5 : (s : Int) / 4294967296 % 18446744073709551616 = (hi : Int) := by omega
    have e5' : (s : Int) / 4294967296 = (hi : Int) := by omega
    have hwr := wr_word (S := [.mu (wds out) true]) (b := 0) (i := i + k) (vl := L) (w := lo) rfl hlo.symm (by omega)
    have htn : ((i : Int) + (k : Int)).toNat = i + k := by omega
    have hb1 : (0 : Int) ≤ (i : Int) + (k : Int) := by omega
    have hb2 : (i : Int) + (k : Int) < (L : Int) := by omega
    simp [f93_0, hlt, hb, hwik, hwk, wrap_u64, wrap_u32, ea, eb, hpz, e1, ew, e2, e3, e4, fdiv_word, IntKind.bits, e5', htn, hb1, hb2, hrd]
    rw [hwr]
    simp [hwk, fdiv_word, e5', IntKind.bits]
    subst hK
    simp [head, f93_0m, mask]
    have hsB : lo < B := by rw [hB]; omega
    have hval := val_set (w' := lo) hw
    have e6 := val_take_succ ys k
    have hgb : ys.getD k 0 = b := by rw [List.getD_eq_getElem?_getD, hb]; rfl
    rw [hgb] at e6
    have := ih (k + 1) (by omega) (out.set (i + k) lo) hi (by simp [hlo]) (hwo.set hsB) (by rw [hB]; omega) (by
      rw [e6]
      have hdm : lo + B * hi = c + (p + w) := by rw [hB]; omega
      have e7 : B ^ (i + k) * (lo + B * hi) = B ^ (i + k) * (c + (p + w)) := by rw [hdm]
      rw [hp] at e7
      simp only [Nat.mul_add, Nat.pow_add, Nat.pow_succ, Nat.pow_zero, Nat.one_mul, Nat.mul_one] at e7 he hval ⊢
      have e8 : B ^ i * (a * (B ^ k * b)) = B ^ i * B ^ k * (a * b) := by
        rw [Nat.mul_assoc (B ^ i), Nat.mul_left_comm a]
      rw [e8]
      have e9 : B ^ i * (B ^ k * B) * hi = B ^ i * B ^ k * (B * hi) := by
        rw [← Nat.mul_assoc (B ^ i), Nat.mul_assoc (B ^ i * B ^ k)]
      rw [e9]
      omega) (fun j hj => by rw [List.getElem?_set_ne (by omega)]; exact hsame j (by omega))
    simpa [f93_0m] using this
theorem mul_outer {xs ys : List Nat} (hx : Wd xs) (hy : Wd ys) (hlx : xs.length ≤ Lim) (hly : ys.length ≤ Lim) {L n : Nat} (hn : n = xs.length) (hLe : L = n + ys.length) {Q : FQ}
    (hQ : ∀ (tm : List AV) (hl : tm.length = 67) (out : List Nat), tm[5] = .msl 0 0 L 1 L none → out.length = L → Wd out → val out = val xs * val ys → Q (.ex 0) ⟨tm, [.mu (wds out) true]⟩) :
    ∀ (m i : Nat), i + m = n → ∀ (out : List Nat), out.length = L → Wd out → val out = val (xs.take i) * val ys →
    wpL RT f93_1m 1 f93_1 ⟨[.any, .sl (wds ys) 1 false, .any, .any, .any, .msl 0 0 L 1 L none, .any, .any, .any, .any, .any, .any, .any, .any, .any, .any, .any, .sl (wds xs) 1 false, .int .i64 (n : Int), .int .i64 (i : Int), .any, .any, .any, .any, .any, .any, .any,
      .any, .any, .any, .any, .any, .any, .any, .any, .any, .any, .any, .any, .any, .any, .any, .any, .any, .any, .any, .any, .any, .any, .any, .any, .any, .any, .any, .any, .any, .any, .any, .any, .any, .any, .any, .any, .any, .any, .any, .any], [.mu (wds out) true]⟩ Q := by
  have hL : Lim = 1099511627776 := rfl
  intro m
  induction m with
  | zero =>
    intro i hi out hlo hwo he
    have hi' : i = n := by omega
    subst hi'
    rw [wpL_eq]
    generalize hK : (fun s' => wpL RT f93_1m 1 f93_1 (head f93_1m 1 s') Q) = K
    simp [f93_1]
    rw [List.take_of_length_le (by omega)] at he
    exact hQ _ rfl out rfl hlo hwo he
  | succ m ih =>
    intro i hi out hlo hwo he
    rw [wpL_eq]
    generalize hK : (fun s' => wpL RT f93_1m 1 f93_1 (head f93_1m 1 s') Q) = K
    have hlt : (i : Int) < (n : Int) := by omega
    obtain ⟨a, hget⟩ : ∃ a, xs[i]? = some a := ⟨xs[i], List.getElem?_eq_getElem (by omega)⟩
    have haB : a < B := hx.get hget
    have hwi : IntKind.i64.wrap ((i : Int) + 1) = ((i + 1 : Nat) : Int) := wrap_i64 (by omega) (by omega)
    simp [f93_1, hlt, hget]
    refine ⟨by omega, ?_⟩
    simp [head, mask, f93_0m]
    have hin := fun (Q' : FQ) => mul_inner (xs := xs) (n := n) (Q := Q') hy hly (i := i) (a := a) (L := L) haB (by omega) (by omega) hlo
    refine hin _ ?_ ys.length 0 (by omega) out 0 hlo hwo (by decide) (by simp [val]) (fun j _ => rfl)
    intro tm hl out2 c h1 h5 h6 h8 h17 h18 h19 hlo2 hwo2 hc he2 hsame
    have hwil : IntKind.i64.wrap ((i : Int) + (ys.length : Int)) = (i : Int) + (ys.length : Int) := wrap_i64 (by omega) (by omega)
    have htn : ((i : Int) + (ys.length : Int)).toNat = i + ys.length := by omega
    have hb1 : (0 : Int) ≤ (i : Int) + (ys.length : Int) := by omega
    have hb2 : (i : Int) + (ys.length : Int) < (L : Int) := by omega
    have hB : B = 4294967296 := rfl
    have ec : (c : Int) % 4294967296 = (c : Int) := by rw [hB] at hc; omega
    have hwr := wr_word (S := [.mu (wds out2) true]) (b := 0) (i := i + ys.length) (vl := L) (w := c) rfl hlo2.symm (by omega)
    simp [hl, h1, h5, h6, h8, hwil, wrap_u32, ec, htn, hb1, hb2]
    rw [hwr]
    simp [hl, h1, h5, h6, h8, h17, h18, h19, hwi]
    subst hK
    simp only [head]
    rw [mask_of (n := 67) (by simp [hl])]
    simp [f93_1m, hl, h1, h5, h17, h18, List.range_succ]
    obtain ⟨w0, hw0⟩ : ∃ w0, out2[i + ys.length]? = some w0 := ⟨out2[i + ys.length], List.getElem?_eq_getElem (by omega)⟩
    have hw00 : w0 = 0 := by
      have h1' := hsame (i + ys.length) (Nat.le_refl _)
      rw [hw0] at h1'
      have h2 := val_ge h1'.symm
      have h3 := val_take_lt hx (k := i) (by omega)
      have h4 := val_lt hy
      have h5' : val out < B ^ (i + ys.length) := by
        rw [he, Nat.pow_add]
        exact Nat.mul_lt_mul'' h3 h4
      refine Classical.byContradiction fun hne => ?_
      have : B ^ (i + ys.length) * 1 ≤ B ^ (i + ys.length) * w0 := Nat.mul_le_mul_left _ (by omega)
      omega
    subst hw00
    have hvs := val_set (w' := c) hw0
    have e6 := val_take_succ xs i
    have hga : xs.getD i 0 = a := by rw [List.getD_eq_getElem?_getD, hget]; rfl
    rw [hga] at e6
    have := ih (i + 1) (by omega) (out2.set (i + ys.length) c) (by simp [hlo2]) (hwo2.set hc) (by
      rw [e6, Nat.add_mul, ← he, Nat.mul_assoc]
      omega)
    simpa [f93_1m] using this
theorem size_mul_le {x y : Nat} : size (x * y) ≤ size x + size y := by
  refine size_le ?_
  rw [Nat.pow_add]
  exact Nat.mul_lt_mul'' (lt_size x) (lt_size y)
theorem run_nmul {x y : Nat} (hx : size x ≤ Lim) (hy : size y ≤ Lim) : callPure RT 93 [N x, N y] = some (N (x * y)) := by
  refine callPure_of (wpF_of tab_93 rfl ?_)
  have hL : Lim = 1099511627776 := rfl
  unfold size at hx hy
  obtain ⟨n, hn⟩ : ∃ n, n = (dig x).length := ⟨_, rfl⟩
  obtain ⟨L, hLe⟩ : ∃ L, L = n + (dig y).length := ⟨_, rfl⟩
  have hw : IntKind.i64.wrap ((n : Int) + ((dig y).length : Int)) = (L : Int) := by
    have : (n : Int) + ((dig y).length : Int) = L := by omega
    rw [this]; exact wrap_i64 (by omega) (by omega)
  have hroom : room L 4 := by unfold room; omega
  have hln : (L : Int) ≤ 281474976710656 := by omega
  simp only [f93, enter_eq]
  simp [← hn, hw, hroom]
  refine ⟨by omega, ?_⟩
  simp [head, mask, f93_1m]
  have hst : List.replicate L (AV.int .u32 0) = wds (List.replicate L 0) := wds_rep L 0
  rw [hst]
  refine mul_outer (dig_wd x) (dig_wd y) hx hy hn hLe ?_ n 0 (by omega) (List.replicate L 0) (by simp) (Wd.rep (by decide)) (by simp [val, val_rep0])
  intro tm hl out h5 hlo hwo he
  rw [val_dig, val_dig] at he
  have hnorm := run_norm (t := false) hwo (by omega)
  rw [he] at hnorm
  have hfz : fzc [.mu (wds out) true] (5 + 1) (.msl 0 0 L 1 L none) = some (W out) := by
    have := fzc_mslv (S := [.mu (wds out) true]) (b := 0) (n := L) (vl := L) (cap := none) (fuel := 5) rfl hlo.symm (by omega)
    rwa [List.take_of_length_le (by omega)] at this
  simp [hl, h5, hfz, hnorm, after_row (S := [.mu (wds out) true]) (b := 0) rfl (show (N (x * y)).bare = false from rfl)]
theorem run_Mul {i j : Int} (hi : 2 * zsize i ≤ Lim) (hj : 2 * zsize j ≤ Lim) : callPure RT 85 [Z i, Z j] = some (Z (i * j)) := by
  refine callPure_of (wpF_of tab_85 rfl ?_)
  unfold zsize at hi hj
  have hm := run_nmul (x := i.natAbs) (y := j.natAbs) (by omega) (by omega)
  have hsz : size (i.natAbs * j.natAbs) ≤ Lim := by
    have := size_mul_le (x := i.natAbs) (y := j.natAbs); omega
  have hs := run_signedN (t := false) (neg := decide (i < 0) != decide (j < 0)) hsz
  have hz : (if (decide (i < 0) != decide (j < 0)) = true then -((i.natAbs * j.natAbs : Nat) : Int) else ((i.natAbs * j.natAbs : Nat) : Int)) = i * j := by
    rw [← Int.natAbs_mul]
    rcases Int.lt_or_le i 0 with h1 | h1 <;> rcases Int.lt_or_le j 0 with h2 | h2
    · have := Int.mul_pos_of_neg_of_neg h1 h2
      simp [h1, h2]; omega
    · have := Int.mul_nonneg (show 0 ≤ -i by omega) h2
      rw [Int.neg_mul] at this
      have h3 : ¬ j < 0 := by omega
      simp [h1, h3]; omega
    · have := Int.mul_nonneg h1 (show 0 ≤ -j by omega)
      rw [Int.mul_neg] at this
      have h3 : ¬ i < 0 := by omega
      simp [h2, h3]; omega
    · have := Int.mul_nonneg h1 h2
      have h3 : ¬ j < 0 := by omega
      have h4 : ¬ i < 0 := by omega
      simp [h3, h4]; omega
  rw [hz] at hs
  simp only [f85, enter_eq]
  simp [rd, wr, chk, splice]
  simp [hm, after_nr, rd, wr, chk, splice]
  simp [hs, after_nr, rd, wr, chk, splice, Z_fold]
end Go.AVM
