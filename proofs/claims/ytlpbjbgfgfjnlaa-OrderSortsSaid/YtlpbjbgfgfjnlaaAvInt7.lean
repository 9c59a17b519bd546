/- Bit lengths. -/
import Derived.Test.YtlpbjbgfgfjnlaaAvInt6
set_option linter.unusedVariables false
set_option linter.unusedSimpArgs false
set_option linter.unusedSectionVars false
namespace Go.AVM
def tabOk (i : Nat) : Bool := match tab256[i]? with
  | some b => decide (b.toNat ≤ 8) && decide (i < 2 ^ b.toNat) && (i == 0 || decide (2 ^ b.toNat ≤ 2 * i))
  | none => false
theorem tab_all : (List.range 256).all tabOk = true := by decide +kernel
theorem tab_get {i : Nat} (h : i < 256) : ∃ b, tab256[i]? = some b ∧ b.toNat ≤ 8 ∧ i < 2 ^ b.toNat ∧ (0 < i → 2 ^ b.toNat ≤ 2 * i) := by
  have := List.all_eq_true.1 tab_all i (List.mem_range.2 h)
  unfold tabOk at this
  split at this
  · rename_i b hb
    simp only [Bool.and_eq_true, decide_eq_true_eq, Bool.or_eq_true, beq_iff_eq] at this
    exact ⟨b, hb, this.1.1, this.1.2, fun h => this.2.resolve_left (by omega)⟩
  · cases this
@[simp] theorem opA_ixs {R : RunF} {s : ByteArray} {k : IntKind} {j : Int} {S : Store} : opA R .ixs [.str s, .int k j] S = chk (0 ≤ j) ((s[j.toNat]?).bind fun b => some (.int .u8 b.toNat, S)) := rfl
theorem len_fin {x y n t : Nat} (hy : y = x / 2 ^ n) (h1 : y < 2 ^ t) (h2 : 2 ^ t ≤ 2 * y) : x < 2 ^ (n + t) ∧ 2 ^ (n + t) ≤ 2 * x := by
  have hp : 0 < 2 ^ n := Nat.two_pow_pos n
  rw [Nat.pow_add]
  constructor
  · have : x < 2 ^ n * (y + 1) := by rw [hy]; exact Nat.lt_mul_div_succ x hp
    exact Nat.lt_of_lt_of_le this (Nat.mul_le_mul_left _ h1)
  · have h3 : 2 ^ n * y ≤ x := by rw [hy]; exact Nat.mul_div_le x (2 ^ n)
    have h4 : 2 ^ n * 2 ^ t ≤ 2 ^ n * (2 * y) := Nat.mul_le_mul_left _ h2
    rw [Nat.mul_left_comm] at h4
    omega
theorem fdiv_nat (a b : Nat) : (a : Int).fdiv (b : Int) = ((a / b : Nat) : Int) := by rw [Int.fdiv_eq_ediv_of_nonneg _ (by omega)]; push_cast; rfl
theorem run_Len32 {x : Nat} (hx : x < B) (h0 : 0 < x) : ∃ k : Nat, k ≤ 32 ∧ callPure RT 68 [.int .u32 (x : Int)] = some (.int .i64 (k : Int)) ∧ x < 2 ^ k ∧ 2 ^ k ≤ 2 * x := by
  have hx' : x < 4294967296 := hx
  have fin : ∀ (y n : Nat), y = x / 2 ^ n → y < 256 → 0 < y → n ≤ 24 → (∀ b : UInt8, tab256[y]? = some b → b.toNat ≤ 8 → callPure RT 68 [.int .u32 (x : Int)] = some (.int .i64 ((n + b.toNat : Nat) : Int))) →
      ∃ k : Nat, k ≤ 32 ∧ callPure RT 68 [.int .u32 (x : Int)] = some (.int .i64 (k : Int)) ∧ x < 2 ^ k ∧ 2 ^ k ≤ 2 * x := by
    intro y n hy h1 h2 hn h
    obtain ⟨b, b1, b2, b3, b4⟩ := tab_get h1
    exact ⟨n + b.toNat, by omega, h b b1 b2, len_fin hy b3 (b4 h2)⟩
  have wr1 : ∀ b : UInt8, b.toNat ≤ 8 → IntKind.i64.wrap (b.toNat : Int) = b.toNat := fun b hb => wrap_i64 (by omega) (by omega)
  have wr2 : ∀ (n : Nat) (b : UInt8), b.toNat ≤ 8 → n ≤ 24 → IntKind.i64.wrap ((n : Int) + (b.toNat : Int)) = (n : Int) + (b.toNat : Int) := fun n b hb hn => wrap_i64 (by omega) (by omega)
  have f16 : ∀ a : Int, a.fdiv 65536 = a / 65536 := fun a => Int.fdiv_eq_ediv_of_nonneg _ (by decide)
  have f8 : ∀ a : Int, a.fdiv 256 = a / 256 := fun a => Int.fdiv_eq_ediv_of_nonneg _ (by decide)
  by_cases h16 : 65536 ≤ x
  · have h16z : (65536 : Int) ≤ (x : Int) := by omega
    obtain ⟨y, hy⟩ : ∃ y, y = x / 65536 := ⟨_, rfl⟩
    have ey : (x : Int) / 65536 = (y : Int) := by omega
    by_cases h8 : 256 ≤ y
    · have h8z : (256 : Int) ≤ (y : Int) := by omega
      obtain ⟨z, hz⟩ : ∃ z, z = y / 256 := ⟨_, rfl⟩
      have ez : (y : Int) / 256 = (z : Int) := by omega
      refine fin z 24 (by omega) (by omega) (by omega) (by omega) fun b hb h8b => ?_
      refine callPure_of (wpF_of tab_68 rfl ?_)
      have e1 : (z : Int) % 256 = z := by omega
      have w16 : IntKind.i64.wrap 24 = 24 := by decide
      simp [f68, enter_eq, h16z, f16, ey, f8, h8z, ez, IntKind.bits, wrap_u8, e1, hb, w16, wr1 b h8b]
      have := wr2 24 b h8b (by omega)
      simpa using this
    · have h8z : ¬ (256 : Int) ≤ (y : Int) := by omega
      refine fin y 16 (by omega) (by omega) (by omega) (by omega) fun b hb h8b => ?_
      refine callPure_of (wpF_of tab_68 rfl ?_)
      have e1 : (y : Int) % 256 = y := by omega
      simp [f68, enter_eq, h16z, f16, ey, h8z, IntKind.bits, wrap_u8, e1, hb, wr1 b h8b]
      have := wr2 16 b h8b (by omega)
      simpa using this
  · have h16z : ¬ (65536 : Int) ≤ (x : Int) := by omega
    by_cases h8 : 256 ≤ x
    · have h8z : (256 : Int) ≤ (x : Int) := by omega
      obtain ⟨z, hz⟩ : ∃ z, z = x / 256 := ⟨_, rfl⟩
      have ez : (x : Int) / 256 = (z : Int) := by omega
      refine fin z 8 (by omega) (by omega) (by omega) (by omega) fun b hb h8b => ?_
      refine callPure_of (wpF_of tab_68 rfl ?_)
      have e1 : (z : Int) % 256 = z := by omega
      have w8 : IntKind.i64.wrap 8 = 8 := by decide
      simp [f68, enter_eq, h16z, f8, h8z, ez, IntKind.bits, wrap_u8, e1, hb, w8, wr1 b h8b]
      have := wr2 8 b h8b (by omega)
      simpa using this
    · have h8z : ¬ (256 : Int) ≤ (x : Int) := by omega
      refine fin x 0 (by omega) (by omega) (by omega) (by omega) fun b hb h8b => ?_
      refine callPure_of (wpF_of tab_68 rfl ?_)
      have e1 : (x : Int) % 256 = x := by omega
      simp [f68, enter_eq, h16z, h8z, IntKind.bits, wrap_u8, e1, hb, wr1 b h8b]
/-- How far a word must be moved so that its top bit is set. -/
theorem run_LeadingZeros32 {x : Nat} (hx : x < B) (h0 : 0 < x) : ∃ s : Nat, s < 32 ∧ callPure RT 99 [.int .u32 (x : Int)] = some (.int .i64 (s : Int)) ∧ x * 2 ^ s < B ∧ B ≤ 2 * (x * 2 ^ s) := by
  obtain ⟨k, hk, hr, h1, h2⟩ := run_Len32 hx h0
  have hk0 : 0 < k := by
    rcases Nat.eq_zero_or_pos k with h | h
    · subst h; simp at h1; omega
    · exact h
  have hp : B = 2 ^ k * 2 ^ (32 - k) := by rw [← Nat.pow_add, show k + (32 - k) = 32 by omega]
  refine ⟨32 - k, by omega, ?_, ?_, ?_⟩
  · refine callPure_of (wpF_of tab_99 rfl ?_)
    have hw : IntKind.i64.wrap (32 - (k : Int)) = ((32 - k : Nat) : Int) := by
      have : (32 : Int) - (k : Int) = ((32 - k : Nat) : Int) := by omega
      rw [this]; exact wrap_i64 (by omega) (by omega)
    simp [f99, enter_eq, hr, after_nr, hw]
  · rw [hp]; exact Nat.mul_lt_mul_of_pos_right h1 (Nat.two_pow_pos _)
  · rw [hp, ← Nat.mul_assoc]; exact Nat.mul_le_mul_right _ h2
end Go.AVM
