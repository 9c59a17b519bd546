/- Bits of words. -/
import Derived.Test.YtlpbjbgfgfjnlaaAvNum
set_option linter.unusedVariables false
set_option linter.unusedSimpArgs false
namespace Go.AVM
theorem ofInt_nat (n x : Nat) : (BitVec.ofInt n (x : Int)).toNat = x % 2 ^ n := by
  rw [BitVec.toNat_ofInt]; omega
section
variable {k : IntKind} {x y : Nat}
theorem wrap_nat {n : Nat} (hs : k.signed = false) (h : n < 2 ^ k.bits) : k.wrap (n : Int) = n := by
  unfold IntKind.wrap
  rw [hs]
  simp only [Bool.false_and, Bool.false_eq_true, if_false]
  have : ((2 : Int) ^ k.bits) = ((2 ^ k.bits : Nat) : Int) := by push_cast; rfl
  rw [this, Int.emod_eq_of_lt (by omega) (by omega)]
theorem and_nat (hs : k.signed = false) (hx : x < 2 ^ k.bits) (hy : y < 2 ^ k.bits) : binA .and (.int k (x : Int)) (.int k (y : Int)) = some (.int k ((x &&& y : Nat) : Int)) := by
  rw [binA_and]
  have h1 : (BitVec.ofInt k.bits (x : Int) &&& BitVec.ofInt k.bits (y : Int)).toNat = x &&& y := by
    rw [BitVec.toNat_and, ofInt_nat, ofInt_nat, Nat.mod_eq_of_lt hx, Nat.mod_eq_of_lt hy]
  rw [h1, wrap_nat hs (Nat.lt_of_le_of_lt Nat.and_le_left hx)]
theorem or_nat (hs : k.signed = false) (hx : x < 2 ^ k.bits) (hy : y < 2 ^ k.bits) : binA .or (.int k (x : Int)) (.int k (y : Int)) = some (.int k ((x ||| y : Nat) : Int)) := by
  rw [binA_or]
  have h1 : (BitVec.ofInt k.bits (x : Int) ||| BitVec.ofInt k.bits (y : Int)).toNat = x ||| y := by
    rw [BitVec.toNat_or, ofInt_nat, ofInt_nat, Nat.mod_eq_of_lt hx, Nat.mod_eq_of_lt hy]
  rw [h1, wrap_nat hs (Nat.or_lt_two_pow hx hy)]
theorem xor_nat (hs : k.signed = false) (hx : x < 2 ^ k.bits) (hy : y < 2 ^ k.bits) : binA .xor (.int k (x : Int)) (.int k (y : Int)) = some (.int k ((x ^^^ y : Nat) : Int)) := by
  have h0 : binA .xor (.int k (x : Int)) (.int k (y : Int)) = some (.int k (k.wrap (BitVec.ofInt k.bits (x : Int) ^^^ BitVec.ofInt k.bits (y : Int)).toNat)) := by simp [binA, intBin, chk]
  rw [h0]
  have h1 : (BitVec.ofInt k.bits (x : Int) ^^^ BitVec.ofInt k.bits (y : Int)).toNat = x ^^^ y := by
    rw [BitVec.toNat_xor, ofInt_nat, ofInt_nat, Nat.mod_eq_of_lt hx, Nat.mod_eq_of_lt hy]
  rw [h1, wrap_nat hs (Nat.xor_lt_two_pow hx hy)]
theorem not_u32 (hx : x < B) : unA .xor (.int .u32 (x : Int)) = some (.int .u32 ((4294967295 ^^^ x : Nat) : Int)) := by
  have h0 : unA .xor (.int .u32 (x : Int)) = some (.int .u32 (IntKind.u32.wrap (BitVec.ofInt 32 (4294967295 : Int) ^^^ BitVec.ofInt 32 (x : Int)).toNat)) := rfl
  rw [h0]
  have h1 : (BitVec.ofInt 32 (4294967295 : Int) ^^^ BitVec.ofInt 32 (x : Int)).toNat = 4294967295 ^^^ x := by
    rw [BitVec.toNat_xor, ofInt_nat]
    rw [Nat.mod_eq_of_lt hx]; rfl
  rw [h1, wrap_nat (k := .u32) rfl (Nat.xor_lt_two_pow (n := 32) (by decide) hx)]
end
theorem top_bit {v : Nat} (h : v < B) : v / 2147483648 = (v.testBit 31).toNat := by
  rw [Nat.testBit_eq_decide_div_mod_eq]
  have h1 : v / 2 ^ 31 < 2 := by have : v < 4294967296 := h; omega
  have h2 : v / 2147483648 = v / 2 ^ 31 := by rfl
  rw [h2]
  have : v / 2 ^ 31 = 0 ∨ v / 2 ^ 31 = 1 := by omega
  rcases this with h | h <;> rw [h] <;> rfl
theorem bit31 {x : Nat} (h : x < B) : x.testBit 31 = decide (2147483648 ≤ x) := by
  rw [Nat.testBit_eq_decide_div_mod_eq]
  have : x < 4294967296 := h
  by_cases h1 : 2147483648 ≤ x
  · have : x / 2 ^ 31 = 1 := by omega
    simp [this, h1]
  · have : x / 2 ^ 31 = 0 := by omega
    simp [this, h1]
/-- The borrow of a subtraction of words, as the library finds it. -/
theorem borrow_bits {x y b d : Nat} (hx : x < B) (hy : y < B) (hb : b ≤ 1) (hd : d = (x + 2 * B - y - b) % B) :
    (((4294967295 ^^^ x) &&& y) ||| ((4294967295 ^^^ (x ^^^ y)) &&& d)) / 2147483648 = if x < y + b then 1 else 0 := by
  have hdB : d < B := by rw [hd]; exact Nat.mod_lt _ (by decide)
  have hF : (4294967295 : Nat) < 2 ^ 32 := by decide
  have h1 : 4294967295 ^^^ x < 2 ^ 32 := Nat.xor_lt_two_pow hF hx
  have h2 : 4294967295 ^^^ (x ^^^ y) < 2 ^ 32 := Nat.xor_lt_two_pow hF (Nat.xor_lt_two_pow (n := 32) hx hy)
  have h3 : (4294967295 ^^^ x) &&& y < 2 ^ 32 := Nat.lt_of_le_of_lt Nat.and_le_left h1
  have h4 : (4294967295 ^^^ (x ^^^ y)) &&& d < 2 ^ 32 := Nat.lt_of_le_of_lt Nat.and_le_left h2
  rw [top_bit (Nat.or_lt_two_pow h3 h4)]
  rw [Nat.testBit_or, Nat.testBit_and, Nat.testBit_and, Nat.testBit_xor, Nat.testBit_xor, Nat.testBit_xor]
  rw [bit31 hx, bit31 hy, bit31 hdB]
  have hf : Nat.testBit 4294967295 31 = true := by decide
  rw [hf]
  have e : B = 4294967296 := rfl
  rw [e] at hx hy hdB hd
  by_cases c1 : 2147483648 ≤ x <;> by_cases c2 : 2147483648 ≤ y <;> by_cases c3 : 2147483648 ≤ d <;> by_cases c4 : x < y + b <;> simp [c1, c2, c3, c4] <;> omega
end Go.AVM
