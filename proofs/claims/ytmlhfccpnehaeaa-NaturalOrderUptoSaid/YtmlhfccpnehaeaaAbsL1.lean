/- The laws of natural numbers, as contracts: Values, Sums, Ring. -/
import Derived.Test.YtmlhfccpnehaeaaAbsA1
import Derived.Test.YtmlhfccpnehaeaaAbsR5
set_option autoImplicit false
set_option maxHeartbeats 4000000
set_option linter.unusedVariables false
set_option linter.unusedSimpArgs false
namespace Go.Abs
open Go Go.Proofs


theorem nat_call {f : FuncId} {A : Nat} {r : AV} (h : ∀ (g : Nat → Nat) (n : Nat), Dig g n → size (nval g n) = n → n = size A → nval g n = A → ACall Try.prog f [raw g n] r) : ACall Try.prog f [nat A] r :=
  h (digit A) (size A) (digit_Dig _ _) (by rw [nval_digit_size]) rfl (nval_digit_size A)

theorem NaturalValues_ok (g h : Nat → Nat) (n m v : Nat) (hg : Dig g n) (hh : Dig h m) (hn : n ≤ 1099511627776) (hm : m ≤ 1099511627776) (hv : v < 18446744073709551616) :
    ACall Try.prog 3 [raw g n, raw h m, .f (.int .u64 v)] (.f (.bool true)) := by
  have hA := size_nval hg
  have u1 := Uint64_ok g n hg (by omega)
  have u2 := refUint64_ok g n hg (by omega)
  have f1 := FromUint64_ok v hv
  have hsv : size v ≤ 2 := size_le (n := 2) hv
  have u3 := Uint64_ok (digit v) (size v) (digit_Dig _ _) (by omega)
  rw [nval_digit_size, if_pos hv] at u3
  have t1 := Trim_ok g n hg (by omega)
  have t2 := refTrim_ok g n hg (by omega)
  have e1 := refEqual_same (nval g n) (by omega)
  have f2 := refFromUint64_ok v hv
  have e2 := refEqual_same v (by omega)
  have c1 := Compare_ok g h n m hg hh (by omega) (by omega)
  have c2 := refCompare_ok g h n m hg hh (by omega) (by omega)
  by_cases hx : nval g n < 18446744073709551616
  · rw [if_pos hx] at u1 u2
    refine acall_rule env [0, 1, 2, 6, 7, 8, 9, 10, 11, 12] Try.func3 rfl rfl rfl rfl ?_
    conv => whnf
    refine callF u1 ⟨.refl _, trivial⟩ (by trivial) rfl ?_
    conv => whnf
    refine callF u2 ⟨.refl _, trivial⟩ (by trivial) rfl ?_
    conv => whnf
    refine callF f1 ⟨.refl _, trivial⟩ (by trivial) rfl ?_
    conv => whnf
    refine callF u3 ⟨.refl _, trivial⟩ (by trivial) rfl ?_
    conv => whnf
    refine callF awake_ok trivial (by trivial) rfl ?_
    conv => whnf
    refine callF t1 ⟨.refl _, trivial⟩ (by trivial) rfl ?_
    conv => whnf
    refine callF t2 ⟨.refl _, trivial⟩ (by trivial) rfl ?_
    conv => whnf
    refine callF e1 ⟨.refl _, .refl _, trivial⟩ (by trivial) rfl ?_
    conv => whnf
    refine callF f1 ⟨.refl _, trivial⟩ (by trivial) rfl ?_
    conv => whnf
    refine callF f2 ⟨.refl _, trivial⟩ (by trivial) rfl ?_
    conv => whnf
    refine callF e2 ⟨.refl _, .refl _, trivial⟩ (by trivial) rfl ?_
    conv => whnf
    refine splT (by simp) ?_
    conv => whnf
    refine splT (by simp) ?_
    conv => whnf
    refine callF c1 ⟨.refl _, .refl _, trivial⟩ (by trivial) rfl ?_
    conv => whnf
    refine callF c2 ⟨.refl _, .refl _, trivial⟩ (by trivial) rfl ?_
    conv => whnf
    refine ⟨(by (try simp only [true_and, and_true, Nat.sub_zero, Nat.zero_add, Int.toNat_natCast]) <;> omega), ?_⟩
    exact .bool_of (by simp)
  · rw [if_neg hx] at u1 u2
    refine acall_rule env [0, 1, 2, 6, 7, 8, 9, 10, 11, 12] Try.func3 rfl rfl rfl rfl ?_
    conv => whnf
    refine callF u1 ⟨.refl _, trivial⟩ (by trivial) rfl ?_
    conv => whnf
    refine callF u2 ⟨.refl _, trivial⟩ (by trivial) rfl ?_
    conv => whnf
    refine callF f1 ⟨.refl _, trivial⟩ (by trivial) rfl ?_
    conv => whnf
    refine callF u3 ⟨.refl _, trivial⟩ (by trivial) rfl ?_
    conv => whnf
    refine callF awake_ok trivial (by trivial) rfl ?_
    conv => whnf
    refine callF t1 ⟨.refl _, trivial⟩ (by trivial) rfl ?_
    conv => whnf
    refine callF t2 ⟨.refl _, trivial⟩ (by trivial) rfl ?_
    conv => whnf
    refine callF e1 ⟨.refl _, .refl _, trivial⟩ (by trivial) rfl ?_
    conv => whnf
    refine callF f1 ⟨.refl _, trivial⟩ (by trivial) rfl ?_
    conv => whnf
    refine callF f2 ⟨.refl _, trivial⟩ (by trivial) rfl ?_
    conv => whnf
    refine callF e2 ⟨.refl _, .refl _, trivial⟩ (by trivial) rfl ?_
    conv => whnf
    skip
    refine splT (by simp) ?_
    conv => whnf
    refine callF c1 ⟨.refl _, .refl _, trivial⟩ (by trivial) rfl ?_
    conv => whnf
    refine callF c2 ⟨.refl _, .refl _, trivial⟩ (by trivial) rfl ?_
    conv => whnf
    refine ⟨(by (try simp only [true_and, and_true, Nat.sub_zero, Nat.zero_add, Int.toNat_natCast]) <;> omega), ?_⟩
    exact .bool_of (by simp)

theorem NaturalSums_ok (g h : Nat → Nat) (n m : Nat) (hg : Dig g n) (hh : Dig h m) (hn : n ≤ 1099511627776) (hm : m ≤ 1099511627776) :
    ACall Try.prog 4 [raw g n, raw h m] (.f (.bool true)) := by
  have hA := size_nval hg
  have hB := size_nval hh
  have s1 := Sub_ok g h n m hg hh (by omega) (by omega)
  have s2 := refSub_ok g h n m hg hh (by omega) (by omega)
  have a1 := Add_ok g h n m hg hh (by omega) (by omega)
  have a2 := refAdd_ok g h n m hg hh (by omega) (by omega)
  have hs : size (nval g n + nval h m) ≤ max n m + 1 := by
    apply size_le
    have h1 := Nat.lt_of_lt_of_le (nval_lt hg) (pw_le (show n ≤ max n m by omega))
    have h2 := Nat.lt_of_lt_of_le (nval_lt hh) (pw_le (show m ≤ max n m by omega))
    rw [pw_succ]; omega
  have e1 := refEqual_same (nval g n + nval h m) (by omega)
  have e2 := refEqual_same (nval g n - nval h m) (Nat.le_trans (size_mono (Nat.sub_le _ _)) (by omega))
  have e3 := refEqual_same 0 (by decide)
  have c1 := refCompare_ok g h n m hg hh (by omega) (by omega)
  have hc := cmp_lt (A := nval g n) (B := nval h m)
  by_cases hx : nval g n < nval h m
  · rw [if_pos hx] at s1 s2
    refine acall_rule env [0, 1, 4, 5, 6, 7, 8] Try.func4 rfl rfl rfl rfl ?_
    conv => whnf
    refine callF s1 ⟨.refl _, .refl _, trivial⟩ (by trivial) rfl ?_
    conv => whnf
    refine callF s2 ⟨.refl _, .refl _, trivial⟩ (by trivial) rfl ?_
    conv => whnf
    refine callF awake_ok trivial (by trivial) rfl ?_
    conv => whnf
    refine callF a1 ⟨.refl _, .refl _, trivial⟩ (by trivial) rfl ?_
    conv => whnf
    refine callF a2 ⟨.refl _, .refl _, trivial⟩ (by trivial) rfl ?_
    conv => whnf
    refine callF e1 ⟨.refl _, .refl _, trivial⟩ (by trivial) rfl ?_
    conv => whnf
    refine callF e3 ⟨.refl _, .refl _, trivial⟩ (by trivial) rfl ?_
    conv => whnf
    refine callF c1 ⟨.refl _, .refl _, trivial⟩ (by trivial) rfl ?_
    conv => whnf
    refine ⟨(by (try simp only [true_and, and_true, Nat.sub_zero, Nat.zero_add, Int.toNat_natCast]) <;> omega), ?_⟩
    exact .bool_of (by rw [decide_eq_false (by have := hc.2 hx; omega)]; rfl)
  · rw [if_neg hx] at s1 s2
    refine acall_rule env [0, 1, 4, 5, 6, 7, 8] Try.func4 rfl rfl rfl rfl ?_
    conv => whnf
    refine callF s1 ⟨.refl _, .refl _, trivial⟩ (by trivial) rfl ?_
    conv => whnf
    refine callF s2 ⟨.refl _, .refl _, trivial⟩ (by trivial) rfl ?_
    conv => whnf
    refine callF awake_ok trivial (by trivial) rfl ?_
    conv => whnf
    refine callF a1 ⟨.refl _, .refl _, trivial⟩ (by trivial) rfl ?_
    conv => whnf
    refine callF a2 ⟨.refl _, .refl _, trivial⟩ (by trivial) rfl ?_
    conv => whnf
    refine callF e1 ⟨.refl _, .refl _, trivial⟩ (by trivial) rfl ?_
    conv => whnf
    refine callF e2 ⟨.refl _, .refl _, trivial⟩ (by trivial) rfl ?_
    conv => whnf
    refine callF c1 ⟨.refl _, .refl _, trivial⟩ (by trivial) rfl ?_
    conv => whnf
    refine ⟨(by (try simp only [true_and, and_true, Nat.sub_zero, Nat.zero_add, Int.toNat_natCast]) <;> omega), ?_⟩
    exact .bool_of (by rw [decide_eq_true (by have := mt hc.1 hx; omega)]; rfl)
end Go.Abs
