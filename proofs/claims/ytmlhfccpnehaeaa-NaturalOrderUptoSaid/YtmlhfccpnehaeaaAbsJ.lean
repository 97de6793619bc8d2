/- Numbers of fixed width, in natural numbers. -/
import Derived.Test.YtmlhfccpnehaeaaAbsI
import Derived.IntWalk
set_option autoImplicit false
set_option linter.unusedVariables false
set_option linter.unusedSimpArgs false
namespace Go.Abs

theorem wrap_u64 (e : Int) : IntKind.u64.wrap e = e % 18446744073709551616 := rfl
theorem wrap_u32' (e : Int) : IntKind.u32.wrap e = e % 4294967296 := rfl
theorem wrap_u8' (e : Int) : IntKind.u8.wrap e = e % 256 := rfl

/-- a sum of any width that fits, given as a natural number -/
theorem fitN {k : IntKind} {e : Int} {K : Int → Prop} (v : Nat) (he : e = (v : Int)) (h1 : k.min ≤ 0) (h : (v : Int) ≤ k.max) (hk : K (v : Int)) : Ari k e K := by
  subst he; exact .fit (by omega) h hk
theorem sumu64 {e : Int} {K : Int → Prop} (v : Nat) (he : e = (v : Int)) (h : v < 18446744073709551616) (hk : K (v : Int)) : Ari .u64 e K := by
  subst he; exact fitu64 (by omega) hk
theorem sumu32 {e : Int} {K : Int → Prop} (v : Nat) (he : e = (v : Int)) (h : v < 4294967296) (hk : K (v : Int)) : Ari .u32 e K := by
  subst he; exact fitu32 (by omega) hk
theorem sumi64 {e : Int} {K : Int → Prop} (v : Nat) (he : e = (v : Int)) (h : v < 9223372036854775808) (hk : K (v : Int)) : Ari .i64 e K := by
  subst he; exact fit64 (by omega) hk
theorem sumu8 {e : Int} {K : Int → Prop} (v : Nat) (he : e = (v : Int)) (h : v < 256) (hk : K (v : Int)) : Ari .u8 e K := by
  subst he; exact fitu8 (by omega) hk
/-- a sum that may wrap -/
theorem modu64 {e : Int} {K : Int → Prop} (v : Nat) (he : e % 18446744073709551616 = (v : Int)) (hk : K (v : Int)) : Ari .u64 e K := .wrap (by rw [wrap_u64, he]; exact hk)
theorem modu32 {e : Int} {K : Int → Prop} (v : Nat) (he : e % 4294967296 = (v : Int)) (hk : K (v : Int)) : Ari .u32 e K := .wrap (by rw [wrap_u32', he]; exact hk)
theorem modu8 {e : Int} {K : Int → Prop} (v : Nat) (he : e % 256 = (v : Int)) (hk : K (v : Int)) : Ari .u8 e K := .wrap (by rw [wrap_u8', he]; exact hk)
/-- the low half -/
theorem lowu32 {v : Nat} {K : Int → Prop} (hk : K ((v % 4294967296 : Nat) : Int)) : Ari .u32 (v : Int) K := modu32 _ (by omega) hk

theorem lowu8 {v : Nat} {K : Int → Prop} (hk : K ((v % 256 : Nat) : Int)) : Ari .u8 (v : Int) K := modu8 _ (by omega) hk

theorem shrN {k : IntKind} {a n : Nat} {b : Int} {K : Int → Prop} (hb : b = (n : Int)) (h : n ≤ k.bits) (hk : K ((a / 2 ^ n : Nat) : Int)) : LetI ((a : Int).fdiv (2 ^ (min b.toNat k.bits))) K := by
  refine .as _ ?_ hk
  subst hb
  rw [Int.toNat_natCast, Nat.min_eq_left h]
  rw [Int.fdiv_eq_ediv_of_nonneg _ (Int.pow_nonneg (by decide))]
  norm_cast
theorem shr32 {k : IntKind} {a : Nat} {K : Int → Prop} (h : 32 ≤ k.bits) (hk : K ((a / 4294967296 : Nat) : Int)) : LetI ((a : Int).fdiv (2 ^ (min (Int.toNat 32) k.bits))) K := shrN (n := 32) rfl h hk
theorem shr63 {a : Nat} {K : Int → Prop} (hk : K ((a / 9223372036854775808 : Nat) : Int)) : LetI ((a : Int).fdiv (2 ^ (min (Int.toNat 63) (IntKind.bits .u64)))) K := shrN (n := 63) rfl (by decide) hk
theorem shl32 {a : Nat} {K : Int → Prop} (v : Nat) (h : a * 4294967296 % 18446744073709551616 = v) (hk : K (v : Int)) : LetI (IntKind.wrap .u64 ((a : Int) * 2 ^ (min (Int.toNat 32) (IntKind.bits .u64)))) K := by
  refine .as _ ?_ hk
  rw [wrap_u64, ← h]
  show (a : Int) * 4294967296 % _ = _
  omega
theorem shlN {a n : Nat} {b : Int} {K : Int → Prop} (v : Nat) (hb : b = (n : Int)) (hn : n ≤ 64) (h : a * 2 ^ n % 18446744073709551616 = v) (hk : K (v : Int)) : LetI (IntKind.wrap .u64 ((a : Int) * 2 ^ (min b.toNat (IntKind.bits .u64)))) K := by
  refine .as _ ?_ hk
  subst hb
  rw [Int.toNat_natCast, Nat.min_eq_left (show n ≤ IntKind.bits .u64 from hn), wrap_u64, ← h]
  have : (a : Int) * 2 ^ n = ((a * 2 ^ n : Nat) : Int) := by rw [Int.natCast_mul, Int.natCast_pow]; rfl
  rw [this]; omega
theorem shlN32 {a n : Nat} {b : Int} {K : Int → Prop} (v : Nat) (hb : b = (n : Int)) (hn : n ≤ 32) (h : a * 2 ^ n % 4294967296 = v) (hk : K (v : Int)) : LetI (IntKind.wrap .u32 ((a : Int) * 2 ^ (min b.toNat (IntKind.bits .u32)))) K := by
  refine .as _ ?_ hk
  subst hb
  rw [Int.toNat_natCast, Nat.min_eq_left (show n ≤ IntKind.bits .u32 from hn), wrap_u32', ← h]
  have : (a : Int) * 2 ^ n = ((a * 2 ^ n : Nat) : Int) := by rw [Int.natCast_mul, Int.natCast_pow]; rfl
  rw [this]; omega

theorem bits_nat {k : IntKind} (a : Nat) : BitVec.ofInt k.bits (a : Int) = BitVec.ofNat k.bits a := by simp
theorem orN {k : IntKind} {a b : Nat} {K : Int → Prop} (v : Nat) (hs : k.signed = false) (ha : a < 2 ^ k.bits) (hb : b < 2 ^ k.bits) (h : a ||| b = v) (hk : K (v : Int)) : LetI (intBitsA .or k (a : Int) (b : Int)) K := by
  refine .as _ ?_ hk
  simp only [intBitsA, bits_nat, BitVec.toNat_or, BitVec.toNat_ofNat, Nat.mod_eq_of_lt ha, Nat.mod_eq_of_lt hb, h, IntKind.wrap]
  have hv : v < 2 ^ k.bits := by rw [← h]; exact Nat.or_lt_two_pow ha hb
  simp only [hs, Bool.false_and, Bool.false_eq_true, if_false]
  norm_cast
  rw [Nat.mod_eq_of_lt hv]
theorem andN {k : IntKind} {a b : Nat} {K : Int → Prop} (v : Nat) (hs : k.signed = false) (ha : a < 2 ^ k.bits) (hb : b < 2 ^ k.bits) (h : a &&& b = v) (hk : K (v : Int)) : LetI (intBitsA .and k (a : Int) (b : Int)) K := by
  refine .as _ ?_ hk
  simp only [intBitsA, bits_nat, BitVec.toNat_and, BitVec.toNat_ofNat, Nat.mod_eq_of_lt ha, Nat.mod_eq_of_lt hb, h, IntKind.wrap]
  have hv : v < 2 ^ k.bits := by rw [← h]; exact Nat.lt_of_le_of_lt Nat.and_le_left ha
  simp only [hs, Bool.false_and, Bool.false_eq_true, if_false]
  norm_cast
  rw [Nat.mod_eq_of_lt hv]
/-- two halves beside each other -/
theorem or_add {a b n : Nat} (h : b < 2 ^ n) : a * 2 ^ n ||| b = a * 2 ^ n + b := by
  rw [Nat.mul_comm, ← Nat.two_pow_add_eq_or_of_lt h]
theorem or32 {a b : Nat} {K : Int → Prop} (ha : a < 4294967296) (hb : b < 4294967296) (hk : K ((a * 4294967296 + b : Nat) : Int)) : LetI (intBitsA .or .u64 ((a * 4294967296 : Nat) : Int) (b : Int)) K :=
  orN _ rfl (show a * 4294967296 < 18446744073709551616 by omega) (show b < 18446744073709551616 by omega) (or_add (n := 32) hb) hk

theorem quoN {k : IntKind} {a b : Nat} {K : Int → Prop} (h : (a : Int) ≤ k.max) (h0 : k.min ≤ 0) (hw : ∀ e : Int, 0 ≤ e → e ≤ k.max → k.wrap e = e) (hk : K ((a / b : Nat) : Int)) : LetI (k.wrap ((a : Int).tdiv (b : Int))) K := by
  refine .as _ ?_ hk
  have e : (a : Int).tdiv (b : Int) = ((a / b : Nat) : Int) := by rw [Int.tdiv_eq_ediv_of_nonneg (by omega)]; norm_cast
  rw [e]
  have : a / b ≤ a := Nat.div_le_self _ _
  exact hw _ (Int.natCast_nonneg _) (Int.le_trans (Int.ofNat_le.2 this) h)
theorem quou64 {a b : Nat} {K : Int → Prop} (h : a < 18446744073709551616) (hk : K ((a / b : Nat) : Int)) : LetI (IntKind.wrap .u64 ((a : Int).tdiv (b : Int))) K :=
  quoN (show (a : Int) ≤ 18446744073709551615 by omega) (by decide) (fun e h0 h1 => by rw [wrap_u64]; have : e ≤ 18446744073709551615 := h1; omega) hk
theorem quoi64 {a b : Nat} {K : Int → Prop} (h : a < 9223372036854775808) (hk : K ((a / b : Nat) : Int)) : LetI (IntKind.wrap .i64 ((a : Int).tdiv (b : Int))) K :=
  quoN (show (a : Int) ≤ 9223372036854775807 by omega) (by decide) (fun e h0 h1 => IntWalk.i64_in e (by have : e ≤ 9223372036854775807 := h1; omega)) hk
theorem remN {a b : Nat} {K : Int → Prop} (hk : K ((a % b : Nat) : Int)) : LetI ((a : Int).tmod (b : Int)) K := by
  refine .as _ ?_ hk
  rw [Int.tmod_eq_emod_of_nonneg (by omega)]; norm_cast

end Go.Abs
