
/- Words as numbers: what Go's operations on them come to. No program in sight. -/
import Derived.Test.YtpicofkhioalkaaGreatTb
namespace Go.Wd
open Go Go.Lw Go.Tb
theorem wrapU64 {n : Int} (h0 : 0 <= n) (h1 : n < 18446744073709551616) : IntKind.wrap .u64 n = n := by
 simp [IntKind.wrap, IntKind.bits, IntKind.signed]; omega
theorem wrapU32 {n : Int} (h0 : 0 <= n) (h1 : n < 4294967296) : IntKind.wrap .u32 n = n := by
 simp [IntKind.wrap, IntKind.bits, IntKind.signed]; omega
theorem wrapI64 {n : Int} (h0 : -9223372036854775808 <= n) (h1 : n < 9223372036854775808) : IntKind.wrap .i64 n = n := by
 rw [IntKind.wrap_i64]; omega
theorem ofNat64 {x : Nat} (h : x < 18446744073709551616) : (BitVec.ofInt (IntKind.bits .u64) (x : Int)).toNat = x := by
 rw [BitVec.ofInt_natCast, BitVec.toNat_ofNat]
 exact Nat.mod_eq_of_lt (by simpa [IntKind.bits] using h)
theorem and_u64 {x y : Nat} (hx : x < 18446744073709551616) (hy : y < 18446744073709551616) : bAnd .u64 (x : Int) (y : Int) = ((x &&& y : Nat) : Int) := by
 unfold bAnd
 rw [BitVec.toNat_and, ofNat64 hx, ofNat64 hy]
 have : x &&& y <= x := Nat.and_le_left
 rw [wrapU64 (by omega) (by omega)]
theorem or_lt64 {x y : Nat} (hx : x < 18446744073709551616) (hy : y < 18446744073709551616) : x ||| y < 18446744073709551616 := by
 have := Nat.or_lt_two_pow (x := x) (y := y) (n := 64) (by simpa using hx) (by simpa using hy)
 simpa using this
theorem or_u64 {x y : Nat} (hx : x < 18446744073709551616) (hy : y < 18446744073709551616) : bOr .u64 (x : Int) (y : Int) = ((x ||| y : Nat) : Int) := by
 unfold bOr
 rw [BitVec.toNat_or, ofNat64 hx, ofNat64 hy]
 have := or_lt64 hx hy
 rw [wrapU64 (by omega) (by omega)]
theorem mask_u64 {x : Nat} (hx : x < 18446744073709551616) (k : Nat) (hk : k <= 32) {m : Int} (hm : m = ((2 ^ k - 1 : Nat) : Int)) : bAnd .u64 (x : Int) m = ((x % 2 ^ k : Nat) : Int) := by
 have h2 : 2 ^ k <= 2 ^ 32 := Nat.pow_le_pow_right (by omega) hk
 have h3 : (2 : Nat) ^ 32 = 4294967296 := by decide
 rw [hm, and_u64 hx (by omega), Nat.and_two_pow_sub_one_eq_mod]
theorem shr_u64 (x k : Nat) (hk : k < 64) : bShr .u64 (x : Int) (k : Int) = ((x / 2 ^ k : Nat) : Int) := by
 unfold bShr
 have : min (Int.toNat (k : Int)) (IntKind.bits .u64) = k := by simp [IntKind.bits]; omega
 have e : ((2 : Int) ^ k) = ((2 ^ k : Nat) : Int) := by rw [Int.natCast_pow]; rfl
 rw [this, e, Int.fdiv_eq_ediv_of_nonneg _ (Int.natCast_nonneg _)]
 rfl
theorem shl_u64 (x k : Nat) (hk : k < 64) (h : x * 2 ^ k < 18446744073709551616) : bShl .u64 (x : Int) (k : Int) = ((x * 2 ^ k : Nat) : Int) := by
 unfold bShl
 have : min (Int.toNat (k : Int)) (IntKind.bits .u64) = k := by simp [IntKind.bits]; omega
 have e : ((2 : Int) ^ k) = ((2 ^ k : Nat) : Int) := by rw [Int.natCast_pow]; rfl
 rw [this, e, <- Int.natCast_mul, wrapU64 (by omega) (by omega)]
theorem pow_lt64 {k : Nat} (hk : k < 64) : 2 ^ k < 18446744073709551616 := by
 have := Nat.pow_lt_pow_right (a := 2) (by omega) hk
 have h3 : (2 : Nat) ^ 64 = 18446744073709551616 := by decide
 omega
theorem bit_u64 {x k : Nat} (hx : x < 18446744073709551616) (hk : k < 64) : (bAnd .u64 (bShr .u64 (x : Int) (k : Int)) 1 == 1) = x.testBit k := by
 have h1 : x / 2 ^ k < 18446744073709551616 := Nat.lt_of_le_of_lt (Nat.div_le_self _ _) hx
 rw [shr_u64 x k hk, mask_u64 h1 1 (by omega) (m := 1) rfl, Nat.testBit_eq_decide_div_mod_eq]
 generalize x / 2 ^ k = y
 have : y % 2 ^ 1 = y % 2 := rfl
 rw [this]
 by_cases h : y % 2 = 1
 ·rw [h]; rfl
 ·have : y % 2 = 0 := by omega
  rw [this]; rfl
theorem setBit_u64 {x k : Nat} (hx : x < 18446744073709551616) (hk : k < 64) : ∃ y : Nat, bOr .u64 (x : Int) (bShl .u64 1 (k : Int)) = (y : Int) /\ y < 18446744073709551616 /\ ∀ j, y.testBit j = (x.testBit j || decide (j = k)) := by
 have h1 := shl_u64 1 k hk (by rw [Nat.one_mul]; exact pow_lt64 hk)
 rw [Nat.one_mul] at h1
 refine ⟨x ||| 2 ^ k, ?_, or_lt64 hx (pow_lt64 hk), fun j => ?_⟩
 ·rw [show (1 : Int) = ((1 : Nat) : Int) from rfl, h1, or_u64 hx (pow_lt64 hk)]
 ·rw [Nat.testBit_or, Nat.testBit_two_pow]
  by_cases h : k = j
  ·subst h; simp
  ·have : ¬ j = k := fun e => h e.symm
   simp [h, this]
theorem clearBit_u64 {x k : Nat} (hx : x < 18446744073709551616) (hk : k < 64) : ∃ y : Nat, bAndNot .u64 (x : Int) (bShl .u64 1 (k : Int)) = (y : Int) /\ y < 18446744073709551616 /\ ∀ j, y.testBit j = (x.testBit j && decide (j ≠ k)) := by
 have h1 := shl_u64 1 k hk (by rw [Nat.one_mul]; exact pow_lt64 hk)
 rw [Nat.one_mul] at h1
 rw [show (1 : Int) = ((1 : Nat) : Int) from rfl, h1]
 let z : BitVec 64 := BitVec.ofInt 64 (x : Int) &&& ~~~(BitVec.ofInt 64 ((2 ^ k : Nat) : Int))
 have hz : z.toNat < 18446744073709551616 := by have := z.isLt; simpa using this
 refine ⟨z.toNat, ?_, hz, fun j => ?_⟩
 ·show IntKind.wrap .u64 ((z.toNat : Nat) : Int) = _
  rw [wrapU64 (by omega) (by omega)]
 ·rw [BitVec.testBit_toNat]
  show (BitVec.ofInt 64 (x : Int) &&& ~~~(BitVec.ofInt 64 ((2 ^ k : Nat) : Int))).getLsbD j = _
  rw [BitVec.getLsbD_and, BitVec.getLsbD_not, <- BitVec.testBit_toNat, <- BitVec.testBit_toNat]
  have e1 : (BitVec.ofInt 64 (x : Int)).toNat = x := ofNat64 hx
  have e2 : (BitVec.ofInt 64 ((2 ^ k : Nat) : Int)).toNat = 2 ^ k := ofNat64 (pow_lt64 hk)
  rw [e1, e2, Nat.testBit_two_pow]
  by_cases hj : j < 64
  ·by_cases h : k = j
   ·subst h; simp
   ·have : ¬ j = k := fun e => h e.symm
    simp [hj, h, this]
  ·have : x.testBit j = false := Nat.testBit_lt_two_pow (Nat.lt_of_lt_of_le hx (by
    have := Nat.pow_le_pow_right (n := 2) (by omega) (Nat.le_of_not_lt hj)
    have h3 : (2 : Nat) ^ 64 = 18446744073709551616 := by decide
    omega))
   rw [this]
   simp
end Go.Wd
