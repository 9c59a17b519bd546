/- Integers with a sign. -/
import Derived.Test.YtlpbjbgfgfjnlaaAvInt3
set_option linter.unusedVariables false
set_option linter.unusedSimpArgs false
set_option linter.unusedSectionVars false
namespace Go.AVM
/-- An integer. -/
def Z (i : Int) : AV := .agg [.bool (decide (i < 0)), N i.natAbs]
theorem Z_of (neg : Bool) (n : Nat) : AV.agg [.bool (neg && decide (n ≠ 0)), N n] = Z (if neg then -(n : Int) else n) := by
  unfold Z
  cases neg
  · have : ¬ ((n : Int) < 0) := by omega
    simp [this]
  · by_cases h : n = 0
    · subst h; simp
    · have h1 : 0 < n := by omega
      simp [h, h1]
theorem run_signedN {n : Nat} {t neg : Bool} (h : size n ≤ Lim) : callPure RT 84 [.sl (wds (dig n)) 1 t, .bool neg] = some (Z (if neg then -(n : Int) else n)) := by
  rw [run_signed (dig_wd n) h, val_dig, Z_of]
@[simp] theorem fz1_Z (S : Store) (i : Int) : fz1 S (Z i) = some (Z i) := by simp [Z]
@[simp] theorem nr1_Z (i : Int) : nr1 (Z i) = true := by simp [Z]
@[simp] theorem Z_whole (i : Int) : (Z i).whole = true := rfl
@[simp] theorem Z_cl (i : Int) : (Z i).cells = [.bool (decide (i < 0)), .sl (wds (dig i.natAbs)) 1 false] := rfl
theorem Z_fold (i : Int) : AV.agg [.bool (decide (i < 0)), .sl (wds (dig i.natAbs)) 1 false] = Z i := rfl
@[simp] theorem fzv_Z (S : Store) (i : Int) : fzv S (Z i) = some (Z i) := by unfold Z; simp
def zsize (i : Int) : Nat := size i.natAbs
theorem run_Sign (i : Int) : callPure RT 73 [Z i] = some (.int .i64 i.sign) := by
  refine callPure_of (wpF_of tab_73 rfl ?_)
  by_cases h : i < 0
  · simp [f73, enter_eq, Z, rd, chk, h]
    exact (Int.sign_eq_neg_one_iff_neg.2 h).symm
  · by_cases h0 : i = 0
    · subst h0
      simp [f73, enter_eq, Z, rd, chk]
    · have hp : 0 < i := by omega
      have h1 : (dig i.natAbs).length ≠ 0 := fun e => h0 (by
        have := dig_nil.1 (List.eq_nil_of_length_eq_zero e); omega)
      have hs : (if 1 < ((dig i.natAbs).length : Int) then (1 : Int) else ((dig i.natAbs).length : Int)) = 1 := by split <;> omega
      simp [f73, enter_eq, Z, rd, chk, h]
      rw [Int.sign_eq_one_iff_pos.2 hp]
      split <;> omega
theorem run_Of {n : Int} (h1 : -9223372036854775808 ≤ n) (h2 : n < 9223372036854775808) : callPure RT 72 [.int .i64 n] = some (Z n) := by
  refine callPure_of (wpF_of tab_72 rfl ?_)
  obtain ⟨m, hm⟩ : ∃ m, m = n.natAbs := ⟨_, rfl⟩
  have hmb : m < 18446744073709551616 := by omega
  have hn := run_natural hmb
  have hsz : size m ≤ Lim := by
    have : size m ≤ 2 := size_le (by show m < B ^ 2; have : B ^ 2 = 18446744073709551616 := by decide
                                     omega)
    have hL : Lim = 1099511627776 := rfl
    omega
  by_cases h : n < 0
  · have e : (0 - n % 18446744073709551616) % 18446744073709551616 = (m : Int) := by omega
    have hs := run_signedN (t := false) (neg := true) hsz
    have hz : (if true = true then -(m : Int) else m) = n := by simp; omega
    rw [hz] at hs
    simp only [f72, enter_eq]
    simp [h, wrap_u64]
    have e' : -(n % 18446744073709551616) % 18446744073709551616 = (m : Int) := by omega
    simp [e', hn, hs, after_nr, rd, wr, chk, splice, Z]
  · have e : n % 18446744073709551616 = (m : Int) := by omega
    have hs := run_signedN (t := false) (neg := false) hsz
    have hz : (if false = true then -(m : Int) else m) = n := by simp; omega
    rw [hz] at hs
    simp only [f72, enter_eq]
    simp [h, wrap_u64, e, hn, hs, after_nr, rd, wr, chk, splice, Z]
theorem run_Neg {i : Int} (h : zsize i ≤ Lim) : callPure RT 87 [Z i] = some (Z (-i)) := by
  refine callPure_of (wpF_of tab_87 rfl ?_)
  have hs := run_signedN (t := false) (neg := !decide (i < 0)) h
  have hz : (if (!decide (i < 0)) = true then -(i.natAbs : Int) else i.natAbs) = -i := by
    by_cases h : i < 0 <;> simp [h] <;> omega
  rw [hz] at hs
  simp [f87, enter_eq, Z, rd, wr, chk, splice]
  simp [Z] at hs
  simp [hs, after_nr, rd, wr, chk, splice]
theorem Z_cells (i : Int) : Z i = .agg [.bool (decide (i < 0)), N i.natAbs] := rfl
theorem size_add_le {x y k : Nat} (hx : size x ≤ k) (hy : size y ≤ k) : size (x + y) ≤ k + 1 := by
  refine size_le ?_
  have h1 := Nat.lt_of_lt_of_le (lt_size x) (Nat.pow_le_pow_right (by decide : 0 < B) hx)
  have h2 := Nat.lt_of_lt_of_le (lt_size y) (Nat.pow_le_pow_right (by decide : 0 < B) hy)
  rw [Nat.pow_succ]
  have : B ^ k * 2 ≤ B ^ k * B := Nat.mul_le_mul_left _ (by decide)
  omega
theorem run_Add {i j : Int} (hi : zsize i < Lim) (hj : zsize j < Lim) : callPure RT 89 [Z i, Z j] = some (Z (i + j)) := by
  refine callPure_of (wpF_of tab_89 rfl ?_)
  have hL : Lim = 1099511627776 := rfl
  unfold zsize at hi hj
  have hadd := run_nadd (x := i.natAbs) (y := j.natAbs) (by omega) (by omega)
  have hcmp := run_ncmp (x := i.natAbs) (y := j.natAbs) (by omega)
  have hsz : size (i.natAbs + j.natAbs) ≤ Lim := by
    have := size_add_le (x := i.natAbs) (y := j.natAbs) (k := Lim - 1) (by omega) (by omega)
    omega
  simp only [f89, enter_eq]
  by_cases hs : decide (i < 0) = decide (j < 0)
  · have hsg := run_signedN (t := false) (neg := decide (j < 0)) hsz
    have hz : (if decide (j < 0) = true then -((i.natAbs + j.natAbs : Nat) : Int) else ((i.natAbs + j.natAbs : Nat) : Int)) = i + j := by
      by_cases h1 : i < 0 <;> by_cases h2 : j < 0 <;> simp [h1, h2] at hs ⊢ <;> omega
    rw [hz] at hsg
    simp [Z_cells, hs, rd, wr, chk, splice]
    simp [hadd, after_nr, rd, wr, chk, splice]
    simp [hsg, Z_cells, after_nr, rd, wr, chk, splice]
  · by_cases hlt : i.natAbs < j.natAbs
    · have hc : cmpI i.natAbs j.natAbs < 0 := by unfold cmpI; rw [if_pos (by omega)]; decide
      have hsub := run_nsub (x := j.natAbs) (y := i.natAbs) (by omega) (by omega)
      have hsg := run_signedN (t := false) (neg := decide (j < 0)) (n := j.natAbs - i.natAbs) (Nat.le_trans (size_mono (Nat.sub_le _ _)) (by omega))
      have hz : (if decide (j < 0) = true then -((j.natAbs - i.natAbs : Nat) : Int) else ((j.natAbs - i.natAbs : Nat) : Int)) = i + j := by
        by_cases h1 : i < 0 <;> by_cases h2 : j < 0 <;> simp [h1, h2] at hs ⊢ <;> omega
      rw [hz] at hsg
      have hs' : (decide (i < 0) == decide (j < 0)) = false := by simpa using hs
      simp [Z_cells, rd, wr, chk, splice]
      simp [hs', hcmp, hc, after_nr, rd, wr, chk, splice]
      simp [hsub, after_nr, rd, wr, chk, splice]
      simp [hsg, Z_cells, after_nr, rd, wr, chk, splice]
    · have hc : ¬ cmpI i.natAbs j.natAbs < 0 := by unfold cmpI; rw [if_neg (by omega)]; split <;> decide
      have hsub := run_nsub (x := i.natAbs) (y := j.natAbs) (by omega) (by omega)
      have hsg := run_signedN (t := false) (neg := decide (i < 0)) (n := i.natAbs - j.natAbs) (Nat.le_trans (size_mono (Nat.sub_le _ _)) (by omega))
      have hz : (if decide (i < 0) = true then -((i.natAbs - j.natAbs : Nat) : Int) else ((i.natAbs - j.natAbs : Nat) : Int)) = i + j := by
        by_cases h1 : i < 0 <;> by_cases h2 : j < 0 <;> simp [h1, h2] at hs ⊢ <;> omega
      rw [hz] at hsg
      have hs' : (decide (i < 0) == decide (j < 0)) = false := by simpa using hs
      simp [Z_cells, rd, wr, chk, splice]
      simp [hs', hcmp, hc, after_nr, rd, wr, chk, splice]
      simp [hsub, after_nr, rd, wr, chk, splice]
      simp [hsg, Z_cells, after_nr, rd, wr, chk, splice]
theorem run_Sub {i j : Int} (hi : zsize i < Lim) (hj : zsize j < Lim) : callPure RT 77 [Z i, Z j] = some (Z (i - j)) := by
  refine callPure_of (wpF_of tab_77 rfl ?_)
  have hn := run_Neg (i := j) (by omega)
  have ha := run_Add (i := i) (j := -j) hi (by unfold zsize at *; rwa [Int.natAbs_neg])
  rw [← Int.sub_eq_add_neg] at ha
  simp only [f77, enter_eq]
  simp [Z_fold, hn, ha, after_nr, rd, wr, chk, splice]
end Go.AVM
