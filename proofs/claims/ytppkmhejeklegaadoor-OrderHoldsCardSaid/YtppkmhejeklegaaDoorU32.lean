/- uint32 as natural numbers, and as bits. -/
import Derived.Test.YtppkmhejeklegaaDoorOwn
namespace Go.Proofs.YtppkmhejeklegaaDoor
open Go.RowKit

def rN : Rep Nat := Rep.one (fun n => Value.int .u32 n)
theorem ofInt_nat (a : Nat) : BitVec.ofInt 32 (a : Int) = BitVec.ofNat 32 a := rfl
theorem wrap_u32 (n : Int) : IntKind.u32.wrap n = n % 4294967296 := rfl
theorem wrap_u32_nat {n : Nat} (h : n < 4294967296) : IntKind.u32.wrap (n : Int) = (n : Int) := by rw [wrap_u32]; omega
theorem bits_or_u32 (a b : Nat) (ha : a < 4294967296) (hb : b < 4294967296) : bits .or .u32 (a : Int) (b : Int) = ((a ||| b : Nat) : Int) := by
  have hlt : a ||| b < 2 ^ 32 := Nat.or_lt_two_pow (by omega) (by omega)
  show IntKind.u32.wrap ((BitVec.ofInt 32 (a : Int) ||| BitVec.ofInt 32 (b : Int)).toNat : Int) = _
  rw [ofInt_nat, ofInt_nat, BitVec.toNat_or, BitVec.toNat_ofNat, BitVec.toNat_ofNat, Nat.mod_eq_of_lt (by omega), Nat.mod_eq_of_lt (by omega), wrap_u32_nat (by omega)]
theorem bits_and_u32 (a b : Nat) (ha : a < 4294967296) (hb : b < 4294967296) : bits .and .u32 (a : Int) (b : Int) = ((a &&& b : Nat) : Int) := by
  have hlt : a &&& b ≤ a := Nat.and_le_left
  show IntKind.u32.wrap ((BitVec.ofInt 32 (a : Int) &&& BitVec.ofInt 32 (b : Int)).toNat : Int) = _
  rw [ofInt_nat, ofInt_nat, BitVec.toNat_and, BitVec.toNat_ofNat, BitVec.toNat_ofNat, Nat.mod_eq_of_lt (by omega), Nat.mod_eq_of_lt (by omega), wrap_u32_nat (by omega)]
/-- a &^ b. -/
def andNot (a b : Nat) : Nat := a &&& (4294967295 - b)
theorem bits_andNot_u32 (a b : Nat) (ha : a < 4294967296) (hb : b < 4294967296) : bits .andNot .u32 (a : Int) (b : Int) = ((andNot a b : Nat) : Int) := by
  have hlt : andNot a b ≤ a := Nat.and_le_left
  show IntKind.u32.wrap ((BitVec.ofInt 32 (a : Int) &&& ~~~ BitVec.ofInt 32 (b : Int)).toNat : Int) = _
  rw [ofInt_nat, ofInt_nat, BitVec.toNat_and, BitVec.toNat_not, BitVec.toNat_ofNat, BitVec.toNat_ofNat, Nat.mod_eq_of_lt (by omega), Nat.mod_eq_of_lt (by omega)]
  unfold andNot at hlt ⊢
  rw [show 2 ^ 32 - 1 - b = 4294967295 - b by omega, wrap_u32_nat (by omega)]
theorem andNot_lt {a b : Nat} (ha : a < 4294967296) : andNot a b < 4294967296 := Nat.lt_of_le_of_lt Nat.and_le_left ha
theorem or_lt {a b : Nat} (ha : a < 4294967296) (hb : b < 4294967296) : a ||| b < 4294967296 := Nat.or_lt_two_pow (n := 32) (by omega) (by omega)
theorem and_lt {a : Nat} (b : Nat) (ha : a < 4294967296) : a &&& b < 4294967296 := Nat.lt_of_le_of_lt Nat.and_le_left ha
theorem testBit_andNot (a b k : Nat) (hb : b < 4294967296) : (andNot a b).testBit k = (a.testBit k && decide (k < 32) && !b.testBit k) := by
  unfold andNot
  rw [Nat.testBit_and, show 4294967295 - b = 2 ^ 32 - (b + 1) by omega, Nat.testBit_two_pow_sub_succ (by omega)]
  cases a.testBit k <;> simp
/-- 1 << k. -/
theorem pow_lt {k : Nat} (h : k < 32) : 2 ^ k < 4294967296 := Nat.pow_lt_pow_right (a := 2) (by omega) (m := k) (n := 32) h
theorem shl_one (k : Nat) (h : k < 32) : IntKind.u32.wrap ((1 : Int) * 2 ^ k) = ((2 ^ k : Nat) : Int) := by
  have := wrap_u32_nat (pow_lt h)
  rw [← this]
  congr 1
  simp
theorem lt_of_testBit {a : Nat} {n : Nat} (h : ∀ k, n ≤ k → a.testBit k = false) : a < 2 ^ n := by
  apply Nat.lt_pow_two_of_testBit
  intro i hi
  exact h i hi
/-- The number whose bits, among the first n, are those where p says yes. -/
def mkBits (p : Nat → Bool) : Nat → Nat
  | 0 => 0
  | n + 1 => if p n then mkBits p n ||| 2 ^ n else mkBits p n
theorem testBit_mkBits (p : Nat → Bool) (n k : Nat) : (mkBits p n).testBit k = (decide (k < n) && p k) := by
  induction n with
  | zero => simp [mkBits]
  | succ n ih =>
    unfold mkBits
    by_cases hk : k = n
    · subst hk
      cases hp : p k
      · simp [ih]
      · simp [Nat.testBit_or, Nat.testBit_two_pow]
    · have : decide (k < n + 1) = decide (k < n) := by apply decide_eq_decide.2; omega
      rw [this, ← ih]
      split
      · simp [Nat.testBit_or, Nat.testBit_two_pow, Ne.symm hk]
      · rfl
theorem mkBits_lt (p : Nat → Bool) (n : Nat) : mkBits p n < 2 ^ n := lt_of_testBit (fun k hk => by rw [testBit_mkBits]; simp; omega)
theorem mkBits_ext {a : Nat} {p : Nat → Bool} {n : Nat} (h : ∀ k, a.testBit k = (decide (k < n) && p k)) : a = mkBits p n := by
  apply Nat.eq_of_testBit_eq
  intro k
  rw [h, testBit_mkBits]
/-- Whether a bit is set, as the program asks it. -/
theorem bit_and_one (a k : Nat) : ((a >>> k) &&& 1 == 1) = a.testBit k := by
  rw [Nat.testBit, Nat.and_comm]
  rcases Nat.mod_two_eq_zero_or_one (a >>> k) with h | h <;> simp [Nat.one_and_eq_mod_two, h]
end Go.Proofs.YtppkmhejeklegaaDoor
