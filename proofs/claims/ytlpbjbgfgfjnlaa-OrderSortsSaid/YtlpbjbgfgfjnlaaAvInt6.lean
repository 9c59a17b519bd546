/- Integers: dividing by a word. -/
import Derived.Test.YtlpbjbgfgfjnlaaAvInt5
set_option linter.unusedVariables false
set_option linter.unusedSimpArgs false
set_option linter.unusedSectionVars false
namespace Go.AVM
theorem run_Div32 {h l d : Nat} (hh : h < d) (hl : l < B) (hd : d < B) : callPure RT 107 [.int .u32 (h : Int), .int .u32 (l : Int), .int .u32 (d : Int)] = some (.tup [.int .u32 (((h * B + l) / d : Nat) : Int), .int .u32 (((h * B + l) % d : Nat) : Int)]) := by
  refine callPure_of (wpF_of tab_107 rfl ?_)
  have hB : B = 4294967296 := rfl
  have hd0 : ¬ (d : Int) = 0 := by omega
  have hdh : ¬ (d : Int) ≤ (h : Int) := by omega
  obtain ⟨n, hn⟩ : ∃ n, n = h * B + l := ⟨_, rfl⟩
  obtain ⟨q, hq⟩ : ∃ q, q = n / d := ⟨_, rfl⟩
  obtain ⟨r, hr⟩ : ∃ r, r = n % d := ⟨_, rfl⟩
  have hqB : q < B := by
    rw [hq]
    refine Nat.div_lt_of_lt_mul ?_
    have : (h + 1) * B ≤ d * B := Nat.mul_le_mul_right _ hh
    rw [Nat.succ_mul] at this
    omega
  have hrB : r < B := by
    have := Nat.mod_lt n (show 0 < d by omega)
    omega
  rw [hB] at hn hl hd hqB hrB
  have hor : (h * 4294967296) ||| l = n := by
    rw [hn]
    have := Nat.two_pow_add_eq_or_of_lt (i := 32) (b := l) hl h
    rw [Nat.mul_comm h]
    exact this.symm
  have e1 : (h : Int) % 18446744073709551616 = h := by omega
  have e2 : (h : Int) * 4294967296 % 18446744073709551616 = ((h * 4294967296 : Nat) : Int) := by omega
  have e3 : (l : Int) % 18446744073709551616 = l := by omega
  have e4 : (d : Int) % 18446744073709551616 = d := by omega
  have hb : binA .or (.int .u64 ((h : Int) * 4294967296)) (.int .u64 (l : Int)) = some (.int .u64 (n : Int)) := by
    have hc : (h : Int) * 4294967296 = ((h * 4294967296 : Nat) : Int) := by omega
    rw [hc, or_nat rfl (show h * 4294967296 < 2 ^ 64 by omega) (show l < 2 ^ 64 by omega), hor]
  have e5 : ((n : Int).tdiv (d : Int)) % 18446744073709551616 % 4294967296 = (q : Int) := by
    rw [Int.tdiv_eq_ediv_of_nonneg (by omega)]
    have : (n : Int) / (d : Int) = (q : Int) := by rw [hq]; push_cast; rfl
    rw [this]; omega
  have e6 : ((n : Int).tmod (d : Int)) % 4294967296 = (r : Int) := by
    rw [Int.tmod_eq_emod_of_nonneg (by omega)]
    have : (n : Int) % (d : Int) = (r : Int) := by rw [hr]; push_cast; rfl
    rw [this]; omega
  rw [← hB] at hn
  rw [← hn, ← hq, ← hr]
  simp only [f107, enter_eq]
  have hd0' : ¬ d = 0 := by omega
  have hdh' : ¬ d ≤ h := by omega
  have e7 : (n : Int) / (d : Int) = (q : Int) := by rw [hq]; push_cast; rfl
  have e8 : (q : Int) % 18446744073709551616 = q := by omega
  have e9 : (q : Int) % 4294967296 = q := by omega
  simp [hd0', hdh', wrap_u64, wrap_u32, IntKind.bits, e1, e2, e3, hb]
  simp [e4, hd0', e6, e7, e8, e9, wrap_u64, wrap_u32]
theorem word_loop {xs : List Nat} (hx : Wd xs) (hlx : xs.length ≤ Lim) {n d : Nat} (hn : n = xs.length) (hd : d < B) (hd0 : 0 < d) {Q : FQ}
    (hQ : ∀ (tm : List AV) (hl : tm.length = 40) (ds : List Nat) (r : Nat), tm[6] = .msl 0 0 n 1 n none → tm[7] = .int .u32 (r : Int) → ds.length = n → Wd ds → r < d → val ds * d + r = val xs → Q (.ex 0) ⟨tm, [.mu (wds ds) true]⟩) :
    ∀ (m i : Nat), i + m = n → ∀ (ds : List Nat) (r : Nat), ds.length = i → Wd ds → r < d → val ds * d + r = val (xs.drop m) →
    wpL RT f98_0m 1 f98_0 ⟨[.sl (wds xs) 1 false, .int .u32 (d : Int), .any, .any, .any, .any, .msl 0 0 n 1 n none, .int .u32 (r : Int), .any, .any, .any, .any, .any, .any, .int .i64 (n : Int), .int .i64 (i : Int),
      .any, .any, .any, .any, .any, .any, .any, .any, .any, .any, .any, .any, .any, .any, .any, .any, .any, .any, .any, .any, .any, .any, .any, .any], [.mu (wds (List.replicate m 0 ++ ds)) true]⟩ Q := by
  have hL : Lim = 1099511627776 := rfl
  intro m
  induction m with
  | zero =>
    intro i hi ds r hds hwd hr he
    have hi' : i = n := by omega
    subst hi'
    rw [wpL_eq]
    generalize hK : (fun s' => wpL RT f98_0m 1 f98_0 (head f98_0m 1 s') Q) = K
    simp [f98_0]
    exact hQ _ rfl ds r rfl rfl hds hwd hr (by simpa using he)
  | succ m ih =>
    intro i hi ds r hds hwd hr he
    rw [wpL_eq]
    generalize hK : (fun s' => wpL RT f98_0m 1 f98_0 (head f98_0m 1 s') Q) = K
    have hlt : (i : Int) < (n : Int) := by omega
    obtain ⟨a, hget⟩ : ∃ a, xs[m]? = some a := ⟨xs[m], List.getElem?_eq_getElem (by omega)⟩
    have haB : a < B := hx.get hget
    have hdv := run_Div32 hr haB hd
    have hw1 : IntKind.i64.wrap ((xs.length : Int) - 1) = (xs.length : Int) - 1 := wrap_i64 (by omega) (by omega)
    have hw2 : IntKind.i64.wrap ((xs.length : Int) - 1 - (i : Int)) = (m : Int) := by
      have : (xs.length : Int) - 1 - (i : Int) = m := by omega
      rw [this]; exact wrap_i64 (by omega) (by omega)
    have hwi : IntKind.i64.wrap ((i : Int) + 1) = ((i + 1 : Nat) : Int) := wrap_i64 (by omega) (by omega)
    obtain ⟨q, hq⟩ : ∃ q, q = (r * B + a) / d := ⟨_, rfl⟩
    obtain ⟨r', hr'⟩ : ∃ r', r' = (r * B + a) % d := ⟨_, rfl⟩
    rw [← hq, ← hr'] at hdv
    have hqB : q < B := by
      rw [hq]
      refine Nat.div_lt_of_lt_mul ?_
      have : (r + 1) * B ≤ d * B := Nat.mul_le_mul_right _ hr
      rw [Nat.succ_mul] at this
      omega
    have hwr := wr_word (S := [.mu (wds (List.replicate (m + 1) 0 ++ ds)) true]) (b := 0) (i := m) (vl := n) (w := q) rfl (by simp; omega) (by simp; omega)
    have hset : (List.replicate (m + 1) 0 ++ ds).set m q = List.replicate m 0 ++ (q :: ds) := by
      rw [List.replicate_succ', List.append_assoc, List.set_append_right _ _ (by simp)]
      simp
    rw [hset] at hwr
    simp [f98_0, hlt, hw1, hw2, hget, hdv, after_nr]
    refine ⟨by omega, by omega, ?_⟩
    rw [hwr]
    simp [hwi]
    subst hK
    simp [head, f98_0m, mask]
    have hdm := Nat.div_add_mod (r * B + a) d
    rw [← hq, ← hr'] at hdm
    have := ih (i + 1) (by omega) (q :: ds) r' (by simp [hds]) (Wd.mk hqB hwd) (by rw [hr']; exact Nat.mod_lt _ hd0) (by
      rw [List.drop_eq_getElem_cons (show m < xs.length by omega)]
      have e1 : xs[m] = a := (List.getElem?_eq_some_iff.1 hget).2
      rw [e1]
      simp only [val]
      rw [← he, Nat.add_mul, Nat.mul_add, Nat.mul_assoc, Nat.mul_comm B r, Nat.mul_comm q d]
      omega)
    simpa [f98_0m] using this
theorem run_word {x d : Nat} (hx : size x ≤ Lim) (hd : d < B) (hd0 : 0 < d) : callPure RT 98 [N x, .int .u32 (d : Int)] = some (.tup [N (x / d), .int .u32 ((x % d : Nat) : Int)]) := by
  obtain ⟨r0, hr0⟩ : ∃ r0, r0 = x % d := ⟨_, rfl⟩
  rw [← hr0]
  refine callPure_of (wpF_of tab_98 rfl ?_)
  have hL : Lim = 1099511627776 := rfl
  unfold size at hx
  obtain ⟨n, hn⟩ : ∃ n, n = (dig x).length := ⟨_, rfl⟩
  have hroom : room n 4 := by unfold room; omega
  simp only [f98, enter_eq]
  simp [← hn, hroom]
  refine ⟨by omega, ?_⟩
  simp [head, mask, f98_0m]
  have hst : List.replicate n (AV.int .u32 0) = wds (List.replicate n 0 ++ []) := by rw [List.append_nil]; exact wds_rep n 0
  rw [hst]
  refine word_loop (dig_wd x) hx hn hd hd0 ?_ n 0 (by omega) [] 0 rfl Wd.nil hd0 (by rw [List.drop_of_length_le (by omega)]; simp [val])
  intro tm hl ds r h6 h7 hds hwd hr he
  rw [val_dig] at he
  have hq : val ds = x / d := by
    rw [← he, Nat.mul_comm, Nat.mul_add_div hd0, Nat.div_eq_of_lt hr, Nat.add_zero]
  have hr2 : r = x % d := by
    rw [← he, Nat.mul_comm, Nat.mul_add_mod, Nat.mod_eq_of_lt hr]
  have hnorm := run_norm (t := false) hwd (by omega)
  rw [hq] at hnorm
  have hfz : fzc [.mu (wds ds) true] (5 + 1) (.msl 0 0 n 1 n none) = some (W ds) := by
    have := fzc_mslv (S := [.mu (wds ds) true]) (b := 0) (n := n) (vl := n) (cap := none) (fuel := 5) rfl hds.symm (by omega)
    rwa [List.take_of_length_le (by omega)] at this
  rw [hr2, ← hr0] at h7
  simp [hl, h6, h7, hfz, hnorm, after_row (S := [.mu (wds ds) true]) (b := 0) rfl (show (N (x / d)).bare = false from rfl)]
end Go.AVM
