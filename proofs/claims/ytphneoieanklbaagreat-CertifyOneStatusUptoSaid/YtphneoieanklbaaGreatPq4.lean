/- Contracts of the functions that the law calls, and the logic in which they are proved: part 4. -/
import Derived.Test.YtphneoieanklbaaGreatPq3
/- Integers: Compare, Add, Sub, Mul, DivMod, GCD. -/
set_option autoImplicit false
set_option maxHeartbeats 4000000
set_option maxRecDepth 10000
set_option linter.unusedVariables false
set_option linter.unusedSimpArgs false
namespace Go.Abs
open Go Go.Proofs

theorem cmp_icmp (A B : Nat) : cmp A B = icmp (A : Int) (B : Int) := by
  unfold cmp icmp; repeat' split
  all_goals omega
theorem sgn_f (N : Nat) : sgn (ival false N) = if N = 0 then 0 else 1 := by
  rw [ival_f]; unfold sgn; repeat' split
  all_goals omega
theorem sgn_t (N : Nat) : sgn (ival true N) = if N = 0 then 0 else -1 := by
  rw [ival_t]; unfold sgn; repeat' split
  all_goals omega


theorem iCompare_ok {x y : AV} {a b : Int} {s t : Nat} (ha : IsI x a s) (hb : IsI y b t) (hs : s ≤ 4398046511000) (ht : t ≤ 4398046511000) :
    ACall Tryz.prog 64 [x, y] (.f (.int .i64 (icmp a b))) := by
  have sa := iSign_ok ha hs
  have sb := iSign_ok hb ht
  obtain ⟨na, g, n, _, hg, hn⟩ := ha
  obtain ⟨nb, h, m, _, hh, hm⟩ := hb
  have c1 := Compare_ok g h n m hg hh (by omega) (by omega)
  have c2 := Compare_ok h g m n hh hg (by omega) (by omega)
  generalize nval g n = A at *
  generalize nval h m = B at *
  rw [cmp_icmp] at c1 c2
  have e1 : na = false → nb = false → icmp (ival na A) (ival nb B) = icmp A B := by rintro rfl rfl; rfl
  have e2 : na = true → nb = true → icmp (ival na A) (ival nb B) = icmp B A := by
    rintro rfl rfl; simp only [ival_t]; unfold icmp; repeat' split
    all_goals omega
  cases na <;> cases nb
  · rw [e1 rfl rfl]
    rw [sgn_f] at sa sb
    by_cases hA : A = 0 <;> by_cases hB : B = 0
    · rw [if_pos hA] at sa; rw [if_pos hB] at sb
      refine acall_rule env [0, 1, 2, 3, 4, 5, 6, 11, 15, 19] Tryz.func64 rfl rfl rfl rfl ?_
      conv => whnf
      first | refine callF sa ⟨.refl _, trivial⟩ (by trivial) rfl ?_ | ((repeat (refine ⟨by kernel_rfl, ?_⟩; (conv => whnf))); refine callF sa ⟨.refl _, trivial⟩ (by trivial) rfl ?_)
      conv => whnf
      first | refine callF sb ⟨.refl _, trivial⟩ (by trivial) rfl ?_ | ((repeat (refine ⟨by kernel_rfl, ?_⟩; (conv => whnf))); refine callF sb ⟨.refl _, trivial⟩ (by trivial) rfl ?_)
      conv => whnf
      refine ⟨by kernel_rfl, ?_⟩
      conv => whnf
      first | refine callF c1 ⟨.refl _, .refl _, trivial⟩ (by trivial) rfl ?_ | ((repeat (refine ⟨by kernel_rfl, ?_⟩; (conv => whnf))); refine callF c1 ⟨.refl _, .refl _, trivial⟩ (by trivial) rfl ?_)
      conv => whnf
      refine ⟨(by (try simp only [true_and, and_true, Nat.sub_zero, Nat.zero_add, Int.toNat_natCast]) <;> omega), ?_⟩
      exact .refl _
    · rw [if_pos hA] at sa; rw [if_neg hB] at sb
      refine acall_rule env [0, 1, 2, 3, 4, 5, 6, 11, 15, 19] Tryz.func64 rfl rfl rfl rfl ?_
      conv => whnf
      first | refine callF sa ⟨.refl _, trivial⟩ (by trivial) rfl ?_ | ((repeat (refine ⟨by kernel_rfl, ?_⟩; (conv => whnf))); refine callF sa ⟨.refl _, trivial⟩ (by trivial) rfl ?_)
      conv => whnf
      first | refine callF sb ⟨.refl _, trivial⟩ (by trivial) rfl ?_ | ((repeat (refine ⟨by kernel_rfl, ?_⟩; (conv => whnf))); refine callF sb ⟨.refl _, trivial⟩ (by trivial) rfl ?_)
      conv => whnf
      refine ⟨by kernel_rfl, ?_⟩
      conv => whnf
      refine ⟨(by (try simp only [true_and, and_true, Nat.sub_zero, Nat.zero_add, Int.toNat_natCast]) <;> omega), ?_⟩
      refine .int_of ?_
      try simp only [ival_t, ival_f]
      unfold icmp
      repeat' split
      all_goals omega
    · rw [if_neg hA] at sa; rw [if_pos hB] at sb
      refine acall_rule env [0, 1, 2, 3, 4, 5, 6, 11, 15, 19] Tryz.func64 rfl rfl rfl rfl ?_
      conv => whnf
      first | refine callF sa ⟨.refl _, trivial⟩ (by trivial) rfl ?_ | ((repeat (refine ⟨by kernel_rfl, ?_⟩; (conv => whnf))); refine callF sa ⟨.refl _, trivial⟩ (by trivial) rfl ?_)
      conv => whnf
      first | refine callF sb ⟨.refl _, trivial⟩ (by trivial) rfl ?_ | ((repeat (refine ⟨by kernel_rfl, ?_⟩; (conv => whnf))); refine callF sb ⟨.refl _, trivial⟩ (by trivial) rfl ?_)
      conv => whnf
      refine ⟨by kernel_rfl, ?_⟩
      conv => whnf
      refine ⟨(by (try simp only [true_and, and_true, Nat.sub_zero, Nat.zero_add, Int.toNat_natCast]) <;> omega), ?_⟩
      refine .int_of ?_
      try simp only [ival_t, ival_f]
      unfold icmp
      repeat' split
      all_goals omega
    · rw [if_neg hA] at sa; rw [if_neg hB] at sb
      refine acall_rule env [0, 1, 2, 3, 4, 5, 6, 11, 15, 19] Tryz.func64 rfl rfl rfl rfl ?_
      conv => whnf
      first | refine callF sa ⟨.refl _, trivial⟩ (by trivial) rfl ?_ | ((repeat (refine ⟨by kernel_rfl, ?_⟩; (conv => whnf))); refine callF sa ⟨.refl _, trivial⟩ (by trivial) rfl ?_)
      conv => whnf
      first | refine callF sb ⟨.refl _, trivial⟩ (by trivial) rfl ?_ | ((repeat (refine ⟨by kernel_rfl, ?_⟩; (conv => whnf))); refine callF sb ⟨.refl _, trivial⟩ (by trivial) rfl ?_)
      conv => whnf
      refine ⟨by kernel_rfl, ?_⟩
      conv => whnf
      first | refine callF c1 ⟨.refl _, .refl _, trivial⟩ (by trivial) rfl ?_ | ((repeat (refine ⟨by kernel_rfl, ?_⟩; (conv => whnf))); refine callF c1 ⟨.refl _, .refl _, trivial⟩ (by trivial) rfl ?_)
      conv => whnf
      refine ⟨(by (try simp only [true_and, and_true, Nat.sub_zero, Nat.zero_add, Int.toNat_natCast]) <;> omega), ?_⟩
      exact .refl _
  · rw [sgn_f] at sa; rw [sgn_t] at sb
    by_cases hA : A = 0 <;> by_cases hB : B = 0
    · rw [if_pos hA] at sa; rw [if_pos hB] at sb
      subst hA; subst hB
      refine acall_rule env [0, 1, 2, 3, 4, 5, 6, 11, 15, 19] Tryz.func64 rfl rfl rfl rfl ?_
      conv => whnf
      first | refine callF sa ⟨.refl _, trivial⟩ (by trivial) rfl ?_ | ((repeat (refine ⟨by kernel_rfl, ?_⟩; (conv => whnf))); refine callF sa ⟨.refl _, trivial⟩ (by trivial) rfl ?_)
      conv => whnf
      first | refine callF sb ⟨.refl _, trivial⟩ (by trivial) rfl ?_ | ((repeat (refine ⟨by kernel_rfl, ?_⟩; (conv => whnf))); refine callF sb ⟨.refl _, trivial⟩ (by trivial) rfl ?_)
      conv => whnf
      refine ⟨by kernel_rfl, ?_⟩
      conv => whnf
      first | refine callF c1 ⟨.refl _, .refl _, trivial⟩ (by trivial) rfl ?_ | ((repeat (refine ⟨by kernel_rfl, ?_⟩; (conv => whnf))); refine callF c1 ⟨.refl _, .refl _, trivial⟩ (by trivial) rfl ?_)
      conv => whnf
      refine ⟨(by (try simp only [true_and, and_true, Nat.sub_zero, Nat.zero_add, Int.toNat_natCast]) <;> omega), ?_⟩
      exact .refl _
    · rw [if_pos hA] at sa; rw [if_neg hB] at sb
      refine acall_rule env [0, 1, 2, 3, 4, 5, 6, 11, 15, 19] Tryz.func64 rfl rfl rfl rfl ?_
      conv => whnf
      first | refine callF sa ⟨.refl _, trivial⟩ (by trivial) rfl ?_ | ((repeat (refine ⟨by kernel_rfl, ?_⟩; (conv => whnf))); refine callF sa ⟨.refl _, trivial⟩ (by trivial) rfl ?_)
      conv => whnf
      first | refine callF sb ⟨.refl _, trivial⟩ (by trivial) rfl ?_ | ((repeat (refine ⟨by kernel_rfl, ?_⟩; (conv => whnf))); refine callF sb ⟨.refl _, trivial⟩ (by trivial) rfl ?_)
      conv => whnf
      refine ⟨by kernel_rfl, ?_⟩
      conv => whnf
      refine ⟨(by (try simp only [true_and, and_true, Nat.sub_zero, Nat.zero_add, Int.toNat_natCast]) <;> omega), ?_⟩
      refine .int_of ?_
      try simp only [ival_t, ival_f]
      unfold icmp
      repeat' split
      all_goals omega
    · rw [if_neg hA] at sa; rw [if_pos hB] at sb
      refine acall_rule env [0, 1, 2, 3, 4, 5, 6, 11, 15, 19] Tryz.func64 rfl rfl rfl rfl ?_
      conv => whnf
      first | refine callF sa ⟨.refl _, trivial⟩ (by trivial) rfl ?_ | ((repeat (refine ⟨by kernel_rfl, ?_⟩; (conv => whnf))); refine callF sa ⟨.refl _, trivial⟩ (by trivial) rfl ?_)
      conv => whnf
      first | refine callF sb ⟨.refl _, trivial⟩ (by trivial) rfl ?_ | ((repeat (refine ⟨by kernel_rfl, ?_⟩; (conv => whnf))); refine callF sb ⟨.refl _, trivial⟩ (by trivial) rfl ?_)
      conv => whnf
      refine ⟨by kernel_rfl, ?_⟩
      conv => whnf
      refine ⟨(by (try simp only [true_and, and_true, Nat.sub_zero, Nat.zero_add, Int.toNat_natCast]) <;> omega), ?_⟩
      refine .int_of ?_
      try simp only [ival_t, ival_f]
      unfold icmp
      repeat' split
      all_goals omega
    · rw [if_neg hA] at sa; rw [if_neg hB] at sb
      refine acall_rule env [0, 1, 2, 3, 4, 5, 6, 11, 15, 19] Tryz.func64 rfl rfl rfl rfl ?_
      conv => whnf
      first | refine callF sa ⟨.refl _, trivial⟩ (by trivial) rfl ?_ | ((repeat (refine ⟨by kernel_rfl, ?_⟩; (conv => whnf))); refine callF sa ⟨.refl _, trivial⟩ (by trivial) rfl ?_)
      conv => whnf
      first | refine callF sb ⟨.refl _, trivial⟩ (by trivial) rfl ?_ | ((repeat (refine ⟨by kernel_rfl, ?_⟩; (conv => whnf))); refine callF sb ⟨.refl _, trivial⟩ (by trivial) rfl ?_)
      conv => whnf
      refine ⟨by kernel_rfl, ?_⟩
      conv => whnf
      refine ⟨(by (try simp only [true_and, and_true, Nat.sub_zero, Nat.zero_add, Int.toNat_natCast]) <;> omega), ?_⟩
      refine .int_of ?_
      try simp only [ival_t, ival_f]
      unfold icmp
      repeat' split
      all_goals omega
  · rw [sgn_t] at sa; rw [sgn_f] at sb
    by_cases hA : A = 0 <;> by_cases hB : B = 0
    · rw [if_pos hA] at sa; rw [if_pos hB] at sb
      subst hA; subst hB
      refine acall_rule env [0, 1, 2, 3, 4, 5, 6, 11, 15, 19] Tryz.func64 rfl rfl rfl rfl ?_
      conv => whnf
      first | refine callF sa ⟨.refl _, trivial⟩ (by trivial) rfl ?_ | ((repeat (refine ⟨by kernel_rfl, ?_⟩; (conv => whnf))); refine callF sa ⟨.refl _, trivial⟩ (by trivial) rfl ?_)
      conv => whnf
      first | refine callF sb ⟨.refl _, trivial⟩ (by trivial) rfl ?_ | ((repeat (refine ⟨by kernel_rfl, ?_⟩; (conv => whnf))); refine callF sb ⟨.refl _, trivial⟩ (by trivial) rfl ?_)
      conv => whnf
      refine ⟨by kernel_rfl, ?_⟩
      conv => whnf
      first | refine callF c1 ⟨.refl _, .refl _, trivial⟩ (by trivial) rfl ?_ | ((repeat (refine ⟨by kernel_rfl, ?_⟩; (conv => whnf))); refine callF c1 ⟨.refl _, .refl _, trivial⟩ (by trivial) rfl ?_)
      conv => whnf
      refine ⟨(by (try simp only [true_and, and_true, Nat.sub_zero, Nat.zero_add, Int.toNat_natCast]) <;> omega), ?_⟩
      exact .refl _
    · rw [if_pos hA] at sa; rw [if_neg hB] at sb
      refine acall_rule env [0, 1, 2, 3, 4, 5, 6, 11, 15, 19] Tryz.func64 rfl rfl rfl rfl ?_
      conv => whnf
      first | refine callF sa ⟨.refl _, trivial⟩ (by trivial) rfl ?_ | ((repeat (refine ⟨by kernel_rfl, ?_⟩; (conv => whnf))); refine callF sa ⟨.refl _, trivial⟩ (by trivial) rfl ?_)
      conv => whnf
      first | refine callF sb ⟨.refl _, trivial⟩ (by trivial) rfl ?_ | ((repeat (refine ⟨by kernel_rfl, ?_⟩; (conv => whnf))); refine callF sb ⟨.refl _, trivial⟩ (by trivial) rfl ?_)
      conv => whnf
      refine ⟨by kernel_rfl, ?_⟩
      conv => whnf
      refine ⟨(by (try simp only [true_and, and_true, Nat.sub_zero, Nat.zero_add, Int.toNat_natCast]) <;> omega), ?_⟩
      refine .int_of ?_
      try simp only [ival_t, ival_f]
      unfold icmp
      repeat' split
      all_goals omega
    · rw [if_neg hA] at sa; rw [if_pos hB] at sb
      refine acall_rule env [0, 1, 2, 3, 4, 5, 6, 11, 15, 19] Tryz.func64 rfl rfl rfl rfl ?_
      conv => whnf
      first | refine callF sa ⟨.refl _, trivial⟩ (by trivial) rfl ?_ | ((repeat (refine ⟨by kernel_rfl, ?_⟩; (conv => whnf))); refine callF sa ⟨.refl _, trivial⟩ (by trivial) rfl ?_)
      conv => whnf
      first | refine callF sb ⟨.refl _, trivial⟩ (by trivial) rfl ?_ | ((repeat (refine ⟨by kernel_rfl, ?_⟩; (conv => whnf))); refine callF sb ⟨.refl _, trivial⟩ (by trivial) rfl ?_)
      conv => whnf
      refine ⟨by kernel_rfl, ?_⟩
      conv => whnf
      refine ⟨(by (try simp only [true_and, and_true, Nat.sub_zero, Nat.zero_add, Int.toNat_natCast]) <;> omega), ?_⟩
      refine .int_of ?_
      try simp only [ival_t, ival_f]
      unfold icmp
      repeat' split
      all_goals omega
    · rw [if_neg hA] at sa; rw [if_neg hB] at sb
      refine acall_rule env [0, 1, 2, 3, 4, 5, 6, 11, 15, 19] Tryz.func64 rfl rfl rfl rfl ?_
      conv => whnf
      first | refine callF sa ⟨.refl _, trivial⟩ (by trivial) rfl ?_ | ((repeat (refine ⟨by kernel_rfl, ?_⟩; (conv => whnf))); refine callF sa ⟨.refl _, trivial⟩ (by trivial) rfl ?_)
      conv => whnf
      first | refine callF sb ⟨.refl _, trivial⟩ (by trivial) rfl ?_ | ((repeat (refine ⟨by kernel_rfl, ?_⟩; (conv => whnf))); refine callF sb ⟨.refl _, trivial⟩ (by trivial) rfl ?_)
      conv => whnf
      refine ⟨by kernel_rfl, ?_⟩
      conv => whnf
      refine ⟨(by (try simp only [true_and, and_true, Nat.sub_zero, Nat.zero_add, Int.toNat_natCast]) <;> omega), ?_⟩
      refine .int_of ?_
      try simp only [ival_t, ival_f]
      unfold icmp
      repeat' split
      all_goals omega
  · rw [e2 rfl rfl]
    rw [sgn_t] at sa sb
    by_cases hA : A = 0 <;> by_cases hB : B = 0
    · rw [if_pos hA] at sa; rw [if_pos hB] at sb
      subst hA; subst hB
      refine acall_rule env [0, 1, 2, 3, 4, 5, 6, 11, 15, 19] Tryz.func64 rfl rfl rfl rfl ?_
      conv => whnf
      first | refine callF sa ⟨.refl _, trivial⟩ (by trivial) rfl ?_ | ((repeat (refine ⟨by kernel_rfl, ?_⟩; (conv => whnf))); refine callF sa ⟨.refl _, trivial⟩ (by trivial) rfl ?_)
      conv => whnf
      first | refine callF sb ⟨.refl _, trivial⟩ (by trivial) rfl ?_ | ((repeat (refine ⟨by kernel_rfl, ?_⟩; (conv => whnf))); refine callF sb ⟨.refl _, trivial⟩ (by trivial) rfl ?_)
      conv => whnf
      refine ⟨by kernel_rfl, ?_⟩
      conv => whnf
      first | refine callF c1 ⟨.refl _, .refl _, trivial⟩ (by trivial) rfl ?_ | ((repeat (refine ⟨by kernel_rfl, ?_⟩; (conv => whnf))); refine callF c1 ⟨.refl _, .refl _, trivial⟩ (by trivial) rfl ?_)
      conv => whnf
      refine ⟨(by (try simp only [true_and, and_true, Nat.sub_zero, Nat.zero_add, Int.toNat_natCast]) <;> omega), ?_⟩
      exact .refl _
    · rw [if_pos hA] at sa; rw [if_neg hB] at sb
      refine acall_rule env [0, 1, 2, 3, 4, 5, 6, 11, 15, 19] Tryz.func64 rfl rfl rfl rfl ?_
      conv => whnf
      first | refine callF sa ⟨.refl _, trivial⟩ (by trivial) rfl ?_ | ((repeat (refine ⟨by kernel_rfl, ?_⟩; (conv => whnf))); refine callF sa ⟨.refl _, trivial⟩ (by trivial) rfl ?_)
      conv => whnf
      first | refine callF sb ⟨.refl _, trivial⟩ (by trivial) rfl ?_ | ((repeat (refine ⟨by kernel_rfl, ?_⟩; (conv => whnf))); refine callF sb ⟨.refl _, trivial⟩ (by trivial) rfl ?_)
      conv => whnf
      refine ⟨by kernel_rfl, ?_⟩
      conv => whnf
      refine ⟨(by (try simp only [true_and, and_true, Nat.sub_zero, Nat.zero_add, Int.toNat_natCast]) <;> omega), ?_⟩
      refine .int_of ?_
      try simp only [ival_t, ival_f]
      unfold icmp
      repeat' split
      all_goals omega
    · rw [if_neg hA] at sa; rw [if_pos hB] at sb
      refine acall_rule env [0, 1, 2, 3, 4, 5, 6, 11, 15, 19] Tryz.func64 rfl rfl rfl rfl ?_
      conv => whnf
      first | refine callF sa ⟨.refl _, trivial⟩ (by trivial) rfl ?_ | ((repeat (refine ⟨by kernel_rfl, ?_⟩; (conv => whnf))); refine callF sa ⟨.refl _, trivial⟩ (by trivial) rfl ?_)
      conv => whnf
      first | refine callF sb ⟨.refl _, trivial⟩ (by trivial) rfl ?_ | ((repeat (refine ⟨by kernel_rfl, ?_⟩; (conv => whnf))); refine callF sb ⟨.refl _, trivial⟩ (by trivial) rfl ?_)
      conv => whnf
      refine ⟨by kernel_rfl, ?_⟩
      conv => whnf
      refine ⟨(by (try simp only [true_and, and_true, Nat.sub_zero, Nat.zero_add, Int.toNat_natCast]) <;> omega), ?_⟩
      refine .int_of ?_
      try simp only [ival_t, ival_f]
      unfold icmp
      repeat' split
      all_goals omega
    · rw [if_neg hA] at sa; rw [if_neg hB] at sb
      refine acall_rule env [0, 1, 2, 3, 4, 5, 6, 11, 15, 19] Tryz.func64 rfl rfl rfl rfl ?_
      conv => whnf
      first | refine callF sa ⟨.refl _, trivial⟩ (by trivial) rfl ?_ | ((repeat (refine ⟨by kernel_rfl, ?_⟩; (conv => whnf))); refine callF sa ⟨.refl _, trivial⟩ (by trivial) rfl ?_)
      conv => whnf
      first | refine callF sb ⟨.refl _, trivial⟩ (by trivial) rfl ?_ | ((repeat (refine ⟨by kernel_rfl, ?_⟩; (conv => whnf))); refine callF sb ⟨.refl _, trivial⟩ (by trivial) rfl ?_)
      conv => whnf
      refine ⟨by kernel_rfl, ?_⟩
      conv => whnf
      first | refine callF c2 ⟨.refl _, .refl _, trivial⟩ (by trivial) rfl ?_ | ((repeat (refine ⟨by kernel_rfl, ?_⟩; (conv => whnf))); refine callF c2 ⟨.refl _, .refl _, trivial⟩ (by trivial) rfl ?_)
      conv => whnf
      refine ⟨(by (try simp only [true_and, and_true, Nat.sub_zero, Nat.zero_add, Int.toNat_natCast]) <;> omega), ?_⟩
      exact .refl _

theorem iAdd_ok {x y : AV} {a b : Int} {s t : Nat} (ha : IsI x a s) (hb : IsI y b t) (hs : s ≤ 4398046511000) (ht : t ≤ 4398046511000) :
    ACall Tryz.prog 66 [x, y] (int (a + b)) := by
  obtain ⟨na, g, n, _, hg, hn⟩ := ha
  obtain ⟨nb, h, m, _, hh, hm⟩ := hb
  have a1 := Add_ok g h n m hg hh (by omega) (by omega)
  have s1 := Sub_ok g h n m hg hh (by omega) (by omega)
  have s2 := Sub_ok h g m n hh hg (by omega) (by omega)
  generalize nval g n = A at *
  generalize nval h m = B at *
  have w1 := with_ok na (A + B)
  have w2 := with_ok na (A - B)
  have w3 := with_ok nb (B - A)
  cases na <;> cases nb
  · rw [show ival false A + ival false B = ival false (A + B) by simp only [ival_f]; omega]
    refine acall_rule env [0, 1, 2, 3, 4, 5, 6, 7, 13, 30] Tryz.func66 rfl rfl rfl rfl ?_
    conv => whnf
    first | refine callF a1 ⟨.refl _, .refl _, trivial⟩ (by trivial) rfl ?_ | ((repeat (refine ⟨by kernel_rfl, ?_⟩; (conv => whnf))); refine callF a1 ⟨.refl _, .refl _, trivial⟩ (by trivial) rfl ?_)
    conv => whnf
    first | refine callF w1 ⟨.refl _, .refl _, trivial⟩ (by trivial) rfl ?_ | ((repeat (refine ⟨by kernel_rfl, ?_⟩; (conv => whnf))); refine callF w1 ⟨.refl _, .refl _, trivial⟩ (by trivial) rfl ?_)
    conv => whnf
    refine ⟨by kernel_rfl, ?_⟩
    conv => whnf
    (repeat (refine ⟨by kernel_rfl, ?_⟩; (conv => whnf)))
    refine ⟨(by (try simp only [true_and, and_true, Nat.sub_zero, Nat.zero_add, Int.toNat_natCast]) <;> omega), ?_⟩
    exact .refl _
  · by_cases hlt : A < B
    · rw [if_pos hlt] at s1
      rw [if_neg (by omega)] at s2
      rw [show ival false A + ival true B = ival true (B - A) by simp only [ival_f, ival_t]; omega]
      refine acall_rule env [0, 1, 2, 3, 4, 5, 6, 7, 13, 30] Tryz.func66 rfl rfl rfl rfl ?_
      conv => whnf
      first | refine callF s1 ⟨.refl _, .refl _, trivial⟩ (by trivial) rfl ?_ | ((repeat (refine ⟨by kernel_rfl, ?_⟩; (conv => whnf))); refine callF s1 ⟨.refl _, .refl _, trivial⟩ (by trivial) rfl ?_)
      conv => whnf
      first | refine callF s2 ⟨.refl _, .refl _, trivial⟩ (by trivial) rfl ?_ | ((repeat (refine ⟨by kernel_rfl, ?_⟩; (conv => whnf))); refine callF s2 ⟨.refl _, .refl _, trivial⟩ (by trivial) rfl ?_)
      conv => whnf
      first | refine callF w3 ⟨.refl _, .refl _, trivial⟩ (by trivial) rfl ?_ | ((repeat (refine ⟨by kernel_rfl, ?_⟩; (conv => whnf))); refine callF w3 ⟨.refl _, .refl _, trivial⟩ (by trivial) rfl ?_)
      conv => whnf
      (repeat (refine ⟨by kernel_rfl, ?_⟩; (conv => whnf)))
      refine ⟨(by (try simp only [true_and, and_true, Nat.sub_zero, Nat.zero_add, Int.toNat_natCast]) <;> omega), ?_⟩
      exact .refl _
    · rw [if_neg hlt] at s1
      rw [show ival false A + ival true B = ival false (A - B) by simp only [ival_f, ival_t]; omega]
      refine acall_rule env [0, 1, 2, 3, 4, 5, 6, 7, 13, 30] Tryz.func66 rfl rfl rfl rfl ?_
      conv => whnf
      first | refine callF s1 ⟨.refl _, .refl _, trivial⟩ (by trivial) rfl ?_ | ((repeat (refine ⟨by kernel_rfl, ?_⟩; (conv => whnf))); refine callF s1 ⟨.refl _, .refl _, trivial⟩ (by trivial) rfl ?_)
      conv => whnf
      first | refine callF w2 ⟨.refl _, .refl _, trivial⟩ (by trivial) rfl ?_ | ((repeat (refine ⟨by kernel_rfl, ?_⟩; (conv => whnf))); refine callF w2 ⟨.refl _, .refl _, trivial⟩ (by trivial) rfl ?_)
      conv => whnf
      (repeat (refine ⟨by kernel_rfl, ?_⟩; (conv => whnf)))
      refine ⟨(by (try simp only [true_and, and_true, Nat.sub_zero, Nat.zero_add, Int.toNat_natCast]) <;> omega), ?_⟩
      exact .refl _
  · by_cases hlt : A < B
    · rw [if_pos hlt] at s1
      rw [if_neg (by omega)] at s2
      rw [show ival true A + ival false B = ival false (B - A) by simp only [ival_f, ival_t]; omega]
      refine acall_rule env [0, 1, 2, 3, 4, 5, 6, 7, 13, 30] Tryz.func66 rfl rfl rfl rfl ?_
      conv => whnf
      first | refine callF s1 ⟨.refl _, .refl _, trivial⟩ (by trivial) rfl ?_ | ((repeat (refine ⟨by kernel_rfl, ?_⟩; (conv => whnf))); refine callF s1 ⟨.refl _, .refl _, trivial⟩ (by trivial) rfl ?_)
      conv => whnf
      first | refine callF s2 ⟨.refl _, .refl _, trivial⟩ (by trivial) rfl ?_ | ((repeat (refine ⟨by kernel_rfl, ?_⟩; (conv => whnf))); refine callF s2 ⟨.refl _, .refl _, trivial⟩ (by trivial) rfl ?_)
      conv => whnf
      first | refine callF w3 ⟨.refl _, .refl _, trivial⟩ (by trivial) rfl ?_ | ((repeat (refine ⟨by kernel_rfl, ?_⟩; (conv => whnf))); refine callF w3 ⟨.refl _, .refl _, trivial⟩ (by trivial) rfl ?_)
      conv => whnf
      (repeat (refine ⟨by kernel_rfl, ?_⟩; (conv => whnf)))
      refine ⟨(by (try simp only [true_and, and_true, Nat.sub_zero, Nat.zero_add, Int.toNat_natCast]) <;> omega), ?_⟩
      exact .refl _
    · rw [if_neg hlt] at s1
      rw [show ival true A + ival false B = ival true (A - B) by simp only [ival_f, ival_t]; omega]
      refine acall_rule env [0, 1, 2, 3, 4, 5, 6, 7, 13, 30] Tryz.func66 rfl rfl rfl rfl ?_
      conv => whnf
      first | refine callF s1 ⟨.refl _, .refl _, trivial⟩ (by trivial) rfl ?_ | ((repeat (refine ⟨by kernel_rfl, ?_⟩; (conv => whnf))); refine callF s1 ⟨.refl _, .refl _, trivial⟩ (by trivial) rfl ?_)
      conv => whnf
      first | refine callF w2 ⟨.refl _, .refl _, trivial⟩ (by trivial) rfl ?_ | ((repeat (refine ⟨by kernel_rfl, ?_⟩; (conv => whnf))); refine callF w2 ⟨.refl _, .refl _, trivial⟩ (by trivial) rfl ?_)
      conv => whnf
      (repeat (refine ⟨by kernel_rfl, ?_⟩; (conv => whnf)))
      refine ⟨(by (try simp only [true_and, and_true, Nat.sub_zero, Nat.zero_add, Int.toNat_natCast]) <;> omega), ?_⟩
      exact .refl _
  · rw [show ival true A + ival true B = ival true (A + B) by simp only [ival_t]; omega]
    refine acall_rule env [0, 1, 2, 3, 4, 5, 6, 7, 13, 30] Tryz.func66 rfl rfl rfl rfl ?_
    conv => whnf
    first | refine callF a1 ⟨.refl _, .refl _, trivial⟩ (by trivial) rfl ?_ | ((repeat (refine ⟨by kernel_rfl, ?_⟩; (conv => whnf))); refine callF a1 ⟨.refl _, .refl _, trivial⟩ (by trivial) rfl ?_)
    conv => whnf
    first | refine callF w1 ⟨.refl _, .refl _, trivial⟩ (by trivial) rfl ?_ | ((repeat (refine ⟨by kernel_rfl, ?_⟩; (conv => whnf))); refine callF w1 ⟨.refl _, .refl _, trivial⟩ (by trivial) rfl ?_)
    conv => whnf
    refine ⟨by kernel_rfl, ?_⟩
    conv => whnf
    (repeat (refine ⟨by kernel_rfl, ?_⟩; (conv => whnf)))
    refine ⟨(by (try simp only [true_and, and_true, Nat.sub_zero, Nat.zero_add, Int.toNat_natCast]) <;> omega), ?_⟩
    exact .refl _

theorem iSub_ok {x y : AV} {a b : Int} {s t : Nat} (ha : IsI x a s) (hb : IsI y b t) (hs : s ≤ 4398046511000) (ht : t ≤ 4398046511000) :
    ACall Tryz.prog 156 [x, y] (int (a - b)) := by
  obtain ⟨nb, h, m, _, hh, hm⟩ := hb
  have a1 := iAdd_ok ha (IsI.mk (!nb) h m t hh hm) hs ht
  rw [show ival (!nb) (nval h m) = -ival nb (nval h m) by cases nb <;> simp [ival], ← Int.sub_eq_add_neg] at a1
  obtain ⟨na, g, n, _, hg, hn⟩ := ha
  refine acall_rule env [0, 1, 2, 3, 4] Tryz.func156 rfl rfl rfl rfl ?_
  conv => whnf
  first | refine callF a1 ⟨.refl _, .refl _, trivial⟩ (by trivial) rfl ?_ | ((repeat (refine ⟨by kernel_rfl, ?_⟩; (conv => whnf))); refine callF a1 ⟨.refl _, .refl _, trivial⟩ (by trivial) rfl ?_)
  conv => whnf
  (repeat (refine ⟨by kernel_rfl, ?_⟩; (conv => whnf)))
  refine ⟨(by (try simp only [true_and, and_true, Nat.sub_zero, Nat.zero_add, Int.toNat_natCast]) <;> omega), ?_⟩
  exact .refl _

theorem iMul_ok {x y : AV} {a b : Int} {s t : Nat} (ha : IsI x a s) (hb : IsI y b t) (hs : s + t ≤ 4398046511000) :
    ACall Tryz.prog 87 [x, y] (int (a * b)) := by
  obtain ⟨na, g, n, _, hg, hn⟩ := ha
  obtain ⟨nb, h, m, _, hh, hm⟩ := hb
  have m1 := Mul_ok g h n m hg hh (by omega)
  generalize nval g n = A at *
  generalize nval h m = B at *
  have w1 := with_ok (!(na == nb)) (A * B)
  have e : ival (!(na == nb)) (A * B) = ival na A * ival nb B := by cases na <;> cases nb <;> simp [ival, Int.neg_mul, Int.mul_neg]
  rw [e] at w1
  refine acall_rule env [0, 1, 2, 3, 4] Tryz.func87 rfl rfl rfl rfl ?_
  conv => whnf
  first | refine callF m1 ⟨.refl _, .refl _, trivial⟩ (by trivial) rfl ?_ | ((repeat (refine ⟨by kernel_rfl, ?_⟩; (conv => whnf))); refine callF m1 ⟨.refl _, .refl _, trivial⟩ (by trivial) rfl ?_)
  conv => whnf
  first | refine callF w1 ⟨.refl _, .refl _, trivial⟩ (by trivial) rfl ?_ | ((repeat (refine ⟨by kernel_rfl, ?_⟩; (conv => whnf))); refine callF w1 ⟨.refl _, .refl _, trivial⟩ (by trivial) rfl ?_)
  conv => whnf
  refine ⟨by kernel_rfl, ?_⟩
  conv => whnf
  (repeat (refine ⟨by kernel_rfl, ?_⟩; (conv => whnf)))
  refine ⟨(by (try simp only [true_and, and_true, Nat.sub_zero, Nat.zero_add, Int.toNat_natCast]) <;> omega), ?_⟩
  exact .refl _
end Go.Abs

/- Integers: DivMod, GCD. -/
set_option autoImplicit false
set_option maxHeartbeats 4000000
set_option maxRecDepth 10000
set_option linter.unusedVariables false
set_option linter.unusedSimpArgs false
namespace Go.Abs
open Go Go.Proofs

theorem ediv_pos (A B : Nat) : (A : Int) / (B : Int) = ((A / B : Nat) : Int) ∧ (A : Int) % (B : Int) = ((A % B : Nat) : Int) := ⟨(Int.natCast_ediv A B).symm, (Int.natCast_emod A B).symm⟩
theorem ediv_np (A B : Nat) (hB : 0 < B) : -(A : Int) / (B : Int) = (if A % B = 0 then -((A / B : Nat) : Int) else -((A / B + 1 : Nat) : Int)) ∧ -(A : Int) % (B : Int) = ((if A % B = 0 then 0 else B - A % B : Nat) : Int) := by
  have e := Nat.div_add_mod A B
  have hm : A % B < B := Nat.mod_lt _ hB
  refine (Int.ediv_emod_unique (by omega)).2 ?_
  split
  · rename_i h
    rw [h] at e
    refine ⟨?_, by omega, by omega⟩
    rw [Int.mul_neg]
    have : ((B : Int) * ((A / B : Nat) : Int)) = (A : Int) := by norm_cast
    omega
  · rename_i h
    refine ⟨?_, by omega, by omega⟩
    have : ((B : Int) * ((A / B : Nat) : Int)) = ((B * (A / B) : Nat) : Int) := by norm_cast
    rw [Int.mul_neg, show ((A / B + 1 : Nat) : Int) = ((A / B : Nat) : Int) + 1 from rfl, Int.mul_add, this]
    omega

/-- what DivMod answers -/
def idivRes (a b : Int) : AV := if b = 0 then .tup [int 0, int 0, .f (.bool false)] else .tup [int (a / b), int (a % b), .f (.bool true)]
theorem AVle.int_zero {sz : Nat} {at_ : Nat → List FV} {c : Option Nat} : AVle (.agg [.f (.bool false), .f (.sl sz at_ 0 c)]) (int 0) := .agg ⟨.refl _, .nil_nat, trivial⟩

theorem iDivMod_ok {x y : AV} {a b : Int} {s t : Nat} (ha : IsI x a s) (hb : IsI y b t) (hs : s ≤ 4398046510000) (ht : t ≤ 4398046510000) :
    ACall Tryz.prog 153 [x, y] (idivRes a b) := by
  obtain ⟨na, g, n, _, hg, hn⟩ := ha
  obtain ⟨nb, h, m, _, hh, hm⟩ := hb
  have d1 := DivMod_ok g h n m hg hh (by omega) (by omega)
  have sA := size_nval hg
  have sB := size_nval hh
  have hdig := digit_Dig (nval g n % nval h m) (size (nval g n % nval h m))
  have s1 := fun hsz => Sub_ok h (digit (nval g n % nval h m)) m (size (nval g n % nval h m)) hh hdig (by omega) hsz
  rw [nval_digit_size] at s1
  generalize nval g n = A at *
  generalize nval h m = B at *
  unfold idivRes
  unfold divRes at d1
  have hb0 : ival nb B = 0 ↔ B = 0 := by cases nb <;> simp [ival]
  by_cases hB : B = 0
  · rw [if_pos hB] at d1
    rw [if_pos (hb0.2 hB)]
    refine acall_rule env [0, 1, 2, 3, 4, 5, 6, 7, 8, 19, 28] Tryz.func153 rfl rfl rfl rfl ?_
    conv => whnf
    first | refine callF d1 ⟨.refl _, .refl _, trivial⟩ (by trivial) rfl ?_ | ((repeat (refine ⟨by kernel_rfl, ?_⟩; (conv => whnf))); refine callF d1 ⟨.refl _, .refl _, trivial⟩ (by trivial) rfl ?_)
    conv => whnf
    refine ⟨(by (try simp only [true_and, and_true, Nat.sub_zero, Nat.zero_add, Int.toNat_natCast]) <;> omega), ?_⟩
    exact .tup ⟨.int_zero, .int_zero, .refl _, trivial⟩
  have hB0 : 0 < B := by omega
  rw [if_neg hB] at d1
  rw [if_neg (fun h => hB (hb0.1 h))]
  have hlt : A % B < B := Nat.mod_lt _ hB0
  have sq : size (A / B) ≤ s := Nat.le_trans (size_le_of (Nat.div_le_self _ _) sA) hn
  have sr : size (A % B) ≤ t := Nat.le_trans (size_le_of (Nat.le_of_lt hlt) sB) hm
  have f1 := FromUint64_ok 1 (by omega)
  have a1 := Add_nn (A / B) 1 (by omega) (by decide)
  replace s1 := s1 (by omega)
  rw [if_neg (by omega)] at s1
  have w0 := with_ok (!(na == nb)) (A / B)
  have w1 := with_ok (!(na == nb)) (A / B + 1)
  have w2 := with_ok false (A % B)
  have w3 := with_ok false (B - A % B)
  have ep := ediv_pos A B
  have en := ediv_np A B hB0
  by_cases hr : A % B = 0
  · rw [if_pos hr, if_pos hr] at en
    have hq : ival na A / ival nb B = ival (!(na == nb)) (A / B) := by
      cases na <;> cases nb
      · exact ep.1
      · show (A : Int) / -(B : Int) = -((A / B : Nat) : Int); rw [Int.ediv_neg, ep.1]
      · exact en.1
      · show -(A : Int) / -(B : Int) = ((A / B : Nat) : Int); rw [Int.ediv_neg, en.1, Int.neg_neg]
    have hq2 : ival na A % ival nb B = ival false (A % B) := by
      rw [hr] at ep ⊢
      cases na <;> cases nb
      · exact ep.2
      · show (A : Int) % -(B : Int) = _; rw [Int.emod_neg, ep.2]; rfl
      · exact en.2
      · show -(A : Int) % -(B : Int) = _; rw [Int.emod_neg, en.2]; rfl
    rw [hq, hq2, hr]
    rw [hr] at d1 w2
    cases na
    · refine acall_rule env [0, 1, 2, 3, 4, 5, 6, 7, 8, 19, 28] Tryz.func153 rfl rfl rfl rfl ?_
      conv => whnf
      first | refine callF d1 ⟨.refl _, .refl _, trivial⟩ (by trivial) rfl ?_ | ((repeat (refine ⟨by kernel_rfl, ?_⟩; (conv => whnf))); refine callF d1 ⟨.refl _, .refl _, trivial⟩ (by trivial) rfl ?_)
      conv => whnf
      first | refine callF w0 ⟨.refl _, .refl _, trivial⟩ (by trivial) rfl ?_ | ((repeat (refine ⟨by kernel_rfl, ?_⟩; (conv => whnf))); refine callF w0 ⟨.refl _, .refl _, trivial⟩ (by trivial) rfl ?_)
      conv => whnf
      first | refine callF w2 ⟨.refl _, .refl _, trivial⟩ (by trivial) rfl ?_ | ((repeat (refine ⟨by kernel_rfl, ?_⟩; (conv => whnf))); refine callF w2 ⟨.refl _, .refl _, trivial⟩ (by trivial) rfl ?_)
      conv => whnf
      (repeat (refine ⟨by kernel_rfl, ?_⟩; (conv => whnf)))
      refine ⟨(by (try simp only [true_and, and_true, Nat.sub_zero, Nat.zero_add, Int.toNat_natCast]) <;> omega), ?_⟩
      exact .refl _
    · refine acall_rule env [0, 1, 2, 3, 4, 5, 6, 7, 8, 19, 28] Tryz.func153 rfl rfl rfl rfl ?_
      conv => whnf
      first | refine callF d1 ⟨.refl _, .refl _, trivial⟩ (by trivial) rfl ?_ | ((repeat (refine ⟨by kernel_rfl, ?_⟩; (conv => whnf))); refine callF d1 ⟨.refl _, .refl _, trivial⟩ (by trivial) rfl ?_)
      conv => whnf
      first | refine callF w0 ⟨.refl _, .refl _, trivial⟩ (by trivial) rfl ?_ | ((repeat (refine ⟨by kernel_rfl, ?_⟩; (conv => whnf))); refine callF w0 ⟨.refl _, .refl _, trivial⟩ (by trivial) rfl ?_)
      conv => whnf
      first | refine callF w2 ⟨.refl _, .refl _, trivial⟩ (by trivial) rfl ?_ | ((repeat (refine ⟨by kernel_rfl, ?_⟩; (conv => whnf))); refine callF w2 ⟨.refl _, .refl _, trivial⟩ (by trivial) rfl ?_)
      conv => whnf
      (repeat (refine ⟨by kernel_rfl, ?_⟩; (conv => whnf)))
      refine ⟨(by (try simp only [true_and, and_true, Nat.sub_zero, Nat.zero_add, Int.toNat_natCast]) <;> omega), ?_⟩
      exact .refl _
  · rw [if_neg hr, if_neg hr] at en
    have hs0 : 0 < size (A % B) := by
      rcases Nat.eq_zero_or_pos (size (A % B)) with h | h
      · exact absurd (size_eq_zero.1 h) hr
      · exact h
    cases na
    · have hq : ival false A / ival nb B = ival (!(false == nb)) (A / B) := by
        cases nb
        · exact ep.1
        · show (A : Int) / -(B : Int) = -((A / B : Nat) : Int); rw [Int.ediv_neg, ep.1]
      have hq2 : ival false A % ival nb B = ival false (A % B) := by
        cases nb
        · exact ep.2
        · show (A : Int) % -(B : Int) = _; rw [Int.emod_neg, ep.2]; rfl
      rw [hq, hq2]
      refine acall_rule env [0, 1, 2, 3, 4, 5, 6, 7, 8, 19, 28] Tryz.func153 rfl rfl rfl rfl ?_
      conv => whnf
      first | refine callF d1 ⟨.refl _, .refl _, trivial⟩ (by trivial) rfl ?_ | ((repeat (refine ⟨by kernel_rfl, ?_⟩; (conv => whnf))); refine callF d1 ⟨.refl _, .refl _, trivial⟩ (by trivial) rfl ?_)
      conv => whnf
      first | refine callF w0 ⟨.refl _, .refl _, trivial⟩ (by trivial) rfl ?_ | ((repeat (refine ⟨by kernel_rfl, ?_⟩; (conv => whnf))); refine callF w0 ⟨.refl _, .refl _, trivial⟩ (by trivial) rfl ?_)
      conv => whnf
      first | refine callF w2 ⟨.refl _, .refl _, trivial⟩ (by trivial) rfl ?_ | ((repeat (refine ⟨by kernel_rfl, ?_⟩; (conv => whnf))); refine callF w2 ⟨.refl _, .refl _, trivial⟩ (by trivial) rfl ?_)
      conv => whnf
      (repeat (refine ⟨by kernel_rfl, ?_⟩; (conv => whnf)))
      refine ⟨(by (try simp only [true_and, and_true, Nat.sub_zero, Nat.zero_add, Int.toNat_natCast]) <;> omega), ?_⟩
      exact .refl _
    · have hq : ival true A / ival nb B = ival (!(true == nb)) (A / B + 1) := by
        cases nb
        · exact en.1
        · show -(A : Int) / -(B : Int) = ((A / B + 1 : Nat) : Int); rw [Int.ediv_neg, en.1, Int.neg_neg]
      have hq2 : ival true A % ival nb B = ival false (B - A % B) := by
        cases nb
        · exact en.2
        · show -(A : Int) % -(B : Int) = _; rw [Int.emod_neg, en.2]; rfl
      rw [hq, hq2]
      refine acall_rule env [0, 1, 2, 3, 4, 5, 6, 7, 8, 19, 28] Tryz.func153 rfl rfl rfl rfl ?_
      conv => whnf
      first | refine callF d1 ⟨.refl _, .refl _, trivial⟩ (by trivial) rfl ?_ | ((repeat (refine ⟨by kernel_rfl, ?_⟩; (conv => whnf))); refine callF d1 ⟨.refl _, .refl _, trivial⟩ (by trivial) rfl ?_)
      conv => whnf
      refine splT (by simp only [decide_eq_true_eq, decide_eq_false_iff_not, Bool.not_eq_true', Bool.not_eq_false', gt_iff_lt, ge_iff_le] <;> omega) ?_
      conv => whnf
      first | refine callF f1 ⟨.refl _, trivial⟩ (by trivial) rfl ?_ | ((repeat (refine ⟨by kernel_rfl, ?_⟩; (conv => whnf))); refine callF f1 ⟨.refl _, trivial⟩ (by trivial) rfl ?_)
      conv => whnf
      first | refine callF a1 ⟨.refl _, .refl _, trivial⟩ (by trivial) rfl ?_ | ((repeat (refine ⟨by kernel_rfl, ?_⟩; (conv => whnf))); refine callF a1 ⟨.refl _, .refl _, trivial⟩ (by trivial) rfl ?_)
      conv => whnf
      first | refine callF s1 ⟨.refl _, .refl _, trivial⟩ (by trivial) rfl ?_ | ((repeat (refine ⟨by kernel_rfl, ?_⟩; (conv => whnf))); refine callF s1 ⟨.refl _, .refl _, trivial⟩ (by trivial) rfl ?_)
      conv => whnf
      first | refine callF w1 ⟨.refl _, .refl _, trivial⟩ (by trivial) rfl ?_ | ((repeat (refine ⟨by kernel_rfl, ?_⟩; (conv => whnf))); refine callF w1 ⟨.refl _, .refl _, trivial⟩ (by trivial) rfl ?_)
      conv => whnf
      first | refine callF w3 ⟨.refl _, .refl _, trivial⟩ (by trivial) rfl ?_ | ((repeat (refine ⟨by kernel_rfl, ?_⟩; (conv => whnf))); refine callF w3 ⟨.refl _, .refl _, trivial⟩ (by trivial) rfl ?_)
      conv => whnf
      (repeat (refine ⟨by kernel_rfl, ?_⟩; (conv => whnf)))
      refine ⟨(by (try simp only [true_and, and_true, Nat.sub_zero, Nat.zero_add, Int.toNat_natCast]) <;> omega), ?_⟩
      exact .refl _

end Go.Abs

/- The reference's integers. -/
set_option autoImplicit false
set_option maxHeartbeats 4000000
set_option maxRecDepth 10000
set_option linter.unusedVariables false
set_option linter.unusedSimpArgs false
namespace Go.Abs
open Go Go.Proofs

theorem rMake_ok (neg : Bool) (g : Nat → Nat) (n : Nat) (hg : Dig g n) (hn : n ≤ 4398046511000) : ACall Tryz.prog 67 [.f (.bool neg), raw g n] (int (ival neg (nval g n))) := by
  have t := refTrim_ok g n hg (by omega)
  generalize nval g n = N at *
  have e : int (ival neg N) = .agg [.f (.bool (neg && decide (0 < N))), nat N] := by unfold int; rw [ival_neg, ival_abs]
  have hs : 0 < size N ↔ 0 < N := by
    constructor
    · intro h; rcases Nat.eq_zero_or_pos N with h0 | h0
      · subst h0; exact absurd h (by decide)
      · exact h0
    · intro h; rcases Nat.eq_zero_or_pos (size N) with h0 | h0
      · have := size_eq_zero.1 h0; omega
      · exact h0
  rw [e]
  cases neg
  · refine acall_rule env [0, 1, 4, 5] Tryz.func67 rfl rfl rfl rfl ?_
    conv => whnf
    first | refine callF t ⟨.refl _, trivial⟩ (by trivial) rfl ?_ | ((repeat (refine ⟨by kernel_rfl, ?_⟩; (conv => whnf))); refine callF t ⟨.refl _, trivial⟩ (by trivial) rfl ?_)
    conv => whnf
    (repeat (refine ⟨by kernel_rfl, ?_⟩; (conv => whnf)))
    refine ⟨(by (try simp only [true_and, and_true, Nat.sub_zero, Nat.zero_add, Int.toNat_natCast]) <;> omega), ?_⟩
    exact .refl _
  · refine acall_rule env [0, 1, 4, 5] Tryz.func67 rfl rfl rfl rfl ?_
    conv => whnf
    first | refine callF t ⟨.refl _, trivial⟩ (by trivial) rfl ?_ | ((repeat (refine ⟨by kernel_rfl, ?_⟩; (conv => whnf))); refine callF t ⟨.refl _, trivial⟩ (by trivial) rfl ?_)
    conv => whnf
    refine ⟨(by (try simp only [true_and, and_true, Nat.sub_zero, Nat.zero_add, Int.toNat_natCast]) <;> omega), ?_⟩
    refine .agg ⟨.bool_of ?_, .refl _, trivial⟩
    by_cases h0 : 0 < N
    · rw [decide_eq_true h0, decide_eq_true (by have := hs.2 h0; omega)]; rfl
    · rw [decide_eq_false h0, decide_eq_false (fun h => h0 (hs.1 (by omega)))]; rfl
theorem rMake_nat (neg : Bool) (N : Nat) (h : size N ≤ 4398046511000) : ACall Tryz.prog 67 [.f (.bool neg), nat N] (int (ival neg N)) := by
  have := rMake_ok neg (digit N) (size N) (digit_Dig _ _) h
  rw [nval_digit_size] at this; exact this

theorem rNorm_ok {x : AV} {z : Int} {s : Nat} (h : IsI x z s) (hs : s ≤ 4398046511000) : ACall Tryz.prog 92 [x] (int z) := by
  obtain ⟨neg, g, n, _, hg, hn⟩ := h
  have w := rMake_ok neg g n hg (by omega)
  refine acall_rule env [0, 1, 2] Tryz.func92 rfl rfl rfl rfl ?_
  conv => whnf
  first | refine callF w ⟨.refl _, .refl _, trivial⟩ (by trivial) rfl ?_ | ((repeat (refine ⟨by kernel_rfl, ?_⟩; (conv => whnf))); refine callF w ⟨.refl _, .refl _, trivial⟩ (by trivial) rfl ?_)
  conv => whnf
  (repeat (refine ⟨by kernel_rfl, ?_⟩; (conv => whnf)))
  refine ⟨(by (try simp only [true_and, and_true, Nat.sub_zero, Nat.zero_add, Int.toNat_natCast]) <;> omega), ?_⟩
  exact .refl _
theorem rNeg_ok {x : AV} {z : Int} {s : Nat} (h : IsI x z s) (hs : s ≤ 4398046511000) : ACall Tryz.prog 57 [x] (int (-z)) := by
  obtain ⟨neg, g, n, _, hg, hn⟩ := h
  have w := rMake_ok (!neg) g n hg (by omega)
  have e : ival (!neg) (nval g n) = -ival neg (nval g n) := by cases neg <;> simp [ival]
  rw [e] at w
  refine acall_rule env [0, 1, 2] Tryz.func57 rfl rfl rfl rfl ?_
  conv => whnf
  first | refine callF w ⟨.refl _, .refl _, trivial⟩ (by trivial) rfl ?_ | ((repeat (refine ⟨by kernel_rfl, ?_⟩; (conv => whnf))); refine callF w ⟨.refl _, .refl _, trivial⟩ (by trivial) rfl ?_)
  conv => whnf
  (repeat (refine ⟨by kernel_rfl, ?_⟩; (conv => whnf)))
  refine ⟨(by (try simp only [true_and, and_true, Nat.sub_zero, Nat.zero_add, Int.toNat_natCast]) <;> omega), ?_⟩
  exact .refl _
theorem rAbs_ok {x : AV} {z : Int} {s : Nat} (h : IsI x z s) (hs : s ≤ 4398046511000) : ACall Tryz.prog 126 [x] (int (z.natAbs : Nat)) := by
  obtain ⟨neg, g, n, _, hg, hn⟩ := h
  have w := rMake_ok false g n hg (by omega)
  rw [ival_abs]
  refine acall_rule env [0, 1, 2] Tryz.func126 rfl rfl rfl rfl ?_
  conv => whnf
  first | refine callF w ⟨.refl _, .refl _, trivial⟩ (by trivial) rfl ?_ | ((repeat (refine ⟨by kernel_rfl, ?_⟩; (conv => whnf))); refine callF w ⟨.refl _, .refl _, trivial⟩ (by trivial) rfl ?_)
  conv => whnf
  (repeat (refine ⟨by kernel_rfl, ?_⟩; (conv => whnf)))
  refine ⟨(by (try simp only [true_and, and_true, Nat.sub_zero, Nat.zero_add, Int.toNat_natCast]) <;> omega), ?_⟩
  exact .refl _

theorem rEqual_raw (na nb : Bool) (g h : Nat → Nat) (n m : Nat) (hg : Dig g n) (hh : Dig h m) (hn : n ≤ 4398046511000) :
    ACall Tryz.prog 101 [rint na g n, rint nb h m] (.f (.bool (decide (na = nb ∧ n = m ∧ nval g n = nval h m)))) := by
  have e := refEqual_ok g h n m hg hh (by omega)
  by_cases hab : na = nb
  · subst hab
    simp only [true_and]
    cases na
    · refine acall_rule env [0, 1, 2, 3, 4] Tryz.func101 rfl rfl rfl rfl ?_
      conv => whnf
      first | refine callF e ⟨.refl _, .refl _, trivial⟩ (by trivial) rfl ?_ | ((repeat (refine ⟨by kernel_rfl, ?_⟩; (conv => whnf))); refine callF e ⟨.refl _, .refl _, trivial⟩ (by trivial) rfl ?_)
      conv => whnf
      (repeat (refine ⟨by kernel_rfl, ?_⟩; (conv => whnf)))
      refine ⟨(by (try simp only [true_and, and_true, Nat.sub_zero, Nat.zero_add, Int.toNat_natCast]) <;> omega), ?_⟩
      exact .refl _
    · refine acall_rule env [0, 1, 2, 3, 4] Tryz.func101 rfl rfl rfl rfl ?_
      conv => whnf
      first | refine callF e ⟨.refl _, .refl _, trivial⟩ (by trivial) rfl ?_ | ((repeat (refine ⟨by kernel_rfl, ?_⟩; (conv => whnf))); refine callF e ⟨.refl _, .refl _, trivial⟩ (by trivial) rfl ?_)
      conv => whnf
      (repeat (refine ⟨by kernel_rfl, ?_⟩; (conv => whnf)))
      refine ⟨(by (try simp only [true_and, and_true, Nat.sub_zero, Nat.zero_add, Int.toNat_natCast]) <;> omega), ?_⟩
      exact .refl _
  · rw [decide_eq_false (fun h => hab h.1)]
    cases na <;> cases nb
    · exact absurd rfl hab
    · refine acall_rule env [0, 1, 2, 3, 4] Tryz.func101 rfl rfl rfl rfl ?_
      conv => whnf
      (repeat (refine ⟨by kernel_rfl, ?_⟩; (conv => whnf)))
      refine ⟨(by (try simp only [true_and, and_true, Nat.sub_zero, Nat.zero_add, Int.toNat_natCast]) <;> omega), ?_⟩
      exact .refl _
    · refine acall_rule env [0, 1, 2, 3, 4] Tryz.func101 rfl rfl rfl rfl ?_
      conv => whnf
      (repeat (refine ⟨by kernel_rfl, ?_⟩; (conv => whnf)))
      refine ⟨(by (try simp only [true_and, and_true, Nat.sub_zero, Nat.zero_add, Int.toNat_natCast]) <;> omega), ?_⟩
      exact .refl _
    · exact absurd rfl hab
theorem rEqual_ii (a b : Int) (h : isz a ≤ 4398046511000) : ACall Tryz.prog 101 [int a, int b] (.f (.bool (decide (a = b)))) := by
  have := rEqual_raw (decide (a < 0)) (decide (b < 0)) (digit a.natAbs) (digit b.natAbs) (size a.natAbs) (size b.natAbs) (digit_Dig _ _) (digit_Dig _ _) h
  rw [nval_digit_size, nval_digit_size] at this
  refine this.res (.bool_of ?_)
  by_cases e : a = b
  · subst e; simp
  · rw [decide_eq_false e, decide_eq_false]
    rintro ⟨h1, h2, h3⟩
    have := decide_eq_decide.1 h1
    omega
theorem rEqual_same (a : Int) (h : isz a ≤ 4398046511000) : ACall Tryz.prog 101 [int a, int a] (.f (.bool true)) := by
  have := rEqual_ii a a h
  rwa [decide_eq_true rfl] at this
theorem rFromInt_ok (v : Int) (h : -9223372036854775808 ≤ v ∧ v ≤ 9223372036854775807) : ACall Tryz.prog 29 [.f (.int .i64 v)] (int v) := by
  by_cases h0 : v < 0
  · obtain ⟨k, hk⟩ : ∃ k : Nat, v = -(k : Int) := ⟨v.natAbs, by omega⟩
    have f := refFromUint64_ok k (by omega)
    have hs : size k ≤ 2 := size_le (show k < 18446744073709551616 by omega)
    have w := rMake_nat true k (by omega)
    rw [ival_t] at w
    subst hk
    refine acall_rule env [0, 2, 4] Tryz.func29 rfl rfl rfl rfl ?_
    conv => whnf
    refine splT (by simp only [decide_eq_true_eq, decide_eq_false_iff_not, Bool.not_eq_true', Bool.not_eq_false', gt_iff_lt, ge_iff_le] <;> omega) ?_
    conv => whnf
    refine fit64 (by omega) ?_
    conv => whnf
    refine sumi64 (k - 1) (by omega) (by omega) ?_
    conv => whnf
    refine sumu64 (k - 1) rfl (by omega) ?_
    conv => whnf
    refine sumu64 k (by omega) (by omega) ?_
    conv => whnf
    first | refine callF f ⟨.refl _, trivial⟩ (by trivial) rfl ?_ | ((repeat (refine ⟨by kernel_rfl, ?_⟩; (conv => whnf))); refine callF f ⟨.refl _, trivial⟩ (by trivial) rfl ?_)
    conv => whnf
    first | refine callF w ⟨.refl _, .refl _, trivial⟩ (by trivial) rfl ?_ | ((repeat (refine ⟨by kernel_rfl, ?_⟩; (conv => whnf))); refine callF w ⟨.refl _, .refl _, trivial⟩ (by trivial) rfl ?_)
    conv => whnf
    (repeat (refine ⟨by kernel_rfl, ?_⟩; (conv => whnf)))
    refine ⟨(by (try simp only [true_and, and_true, Nat.sub_zero, Nat.zero_add, Int.toNat_natCast]) <;> omega), ?_⟩
    exact .refl _
  · obtain ⟨k, hk⟩ : ∃ k : Nat, v = (k : Int) := ⟨v.natAbs, by omega⟩
    have f := refFromUint64_ok k (by omega)
    have hs : size k ≤ 2 := size_le (show k < 18446744073709551616 by omega)
    have w := rMake_nat false k (by omega)
    rw [ival_f] at w
    subst hk
    refine acall_rule env [0, 2, 4] Tryz.func29 rfl rfl rfl rfl ?_
    conv => whnf
    refine sumu64 k rfl (by omega) ?_
    conv => whnf
    first | refine callF f ⟨.refl _, trivial⟩ (by trivial) rfl ?_ | ((repeat (refine ⟨by kernel_rfl, ?_⟩; (conv => whnf))); refine callF f ⟨.refl _, trivial⟩ (by trivial) rfl ?_)
    conv => whnf
    first | refine callF w ⟨.refl _, .refl _, trivial⟩ (by trivial) rfl ?_ | ((repeat (refine ⟨by kernel_rfl, ?_⟩; (conv => whnf))); refine callF w ⟨.refl _, .refl _, trivial⟩ (by trivial) rfl ?_)
    conv => whnf
    (repeat (refine ⟨by kernel_rfl, ?_⟩; (conv => whnf)))
    refine ⟨(by (try simp only [true_and, and_true, Nat.sub_zero, Nat.zero_add, Int.toNat_natCast]) <;> omega), ?_⟩
    exact .refl _

theorem rSign_ok {x : AV} {z : Int} {s : Nat} (h : IsI x z s) (hs : s ≤ 4398046511000) : ACall Tryz.prog 56 [x] (.f (.int .i64 (sgn z))) := by
  have hn := rNorm_ok h hs
  have hz := h.size
  obtain ⟨neg, g, n, _, hg, hn'⟩ := h
  generalize hZ : ival neg (nval g n) = z at *
  unfold int at hn
  unfold sgn
  rcases Int.lt_trichotomy z 0 with h | h | h
  · rw [decide_eq_true h] at hn
    rw [if_neg (by omega), if_pos h]
    refine acall_rule env [0, 1, 2, 5, 8] Tryz.func56 rfl rfl rfl rfl ?_
    conv => whnf
    first | refine callF hn ⟨.refl _, trivial⟩ (by trivial) rfl ?_ | ((repeat (refine ⟨by kernel_rfl, ?_⟩; (conv => whnf))); refine callF hn ⟨.refl _, trivial⟩ (by trivial) rfl ?_)
    conv => whnf
    (repeat (refine ⟨by kernel_rfl, ?_⟩; (conv => whnf)))
    refine ⟨(by (try simp only [true_and, and_true, Nat.sub_zero, Nat.zero_add, Int.toNat_natCast]) <;> omega), ?_⟩
    exact .refl _
  · subst h
    refine acall_rule env [0, 1, 2, 5, 8] Tryz.func56 rfl rfl rfl rfl ?_
    conv => whnf
    first | refine callF hn ⟨.refl _, trivial⟩ (by trivial) rfl ?_ | ((repeat (refine ⟨by kernel_rfl, ?_⟩; (conv => whnf))); refine callF hn ⟨.refl _, trivial⟩ (by trivial) rfl ?_)
    conv => whnf
    (repeat (refine ⟨by kernel_rfl, ?_⟩; (conv => whnf)))
    refine ⟨(by (try simp only [true_and, and_true, Nat.sub_zero, Nat.zero_add, Int.toNat_natCast]) <;> omega), ?_⟩
    exact .refl _
  · rw [decide_eq_false (by omega)] at hn
    rw [if_neg (by omega), if_neg (by omega)]
    have : size z.natAbs ≠ 0 := fun h0 => by have := size_eq_zero.1 h0; omega
    refine acall_rule env [0, 1, 2, 5, 8] Tryz.func56 rfl rfl rfl rfl ?_
    conv => whnf
    first | refine callF hn ⟨.refl _, trivial⟩ (by trivial) rfl ?_ | ((repeat (refine ⟨by kernel_rfl, ?_⟩; (conv => whnf))); refine callF hn ⟨.refl _, trivial⟩ (by trivial) rfl ?_)
    conv => whnf
    refine splF (by simp only [decide_eq_true_eq, decide_eq_false_iff_not, Bool.not_eq_true', Bool.not_eq_false', gt_iff_lt, ge_iff_le] <;> omega) ?_
    conv => whnf
    (repeat (refine ⟨by kernel_rfl, ?_⟩; (conv => whnf)))
    refine ⟨(by (try simp only [true_and, and_true, Nat.sub_zero, Nat.zero_add, Int.toNat_natCast]) <;> omega), ?_⟩
    exact .refl _


theorem rAdd_ok {x y : AV} {a b : Int} {s t : Nat} (ha : IsI x a s) (hb : IsI y b t) (hs : s ≤ 4398046510000) (ht : t ≤ 4398046510000) :
    ACall Tryz.prog 51 [x, y] (int (a + b)) := by
  obtain ⟨na, g, n, _, hg, hn⟩ := ha
  obtain ⟨nb, h, m, _, hh, hm⟩ := hb
  have a1 := refAdd_ok g h n m hg hh (by omega) (by omega)
  have s1 := refSub_ok g h n m hg hh (by omega) (by omega)
  have s2 := refSub_ok h g m n hh hg (by omega) (by omega)
  have sA := size_nval hg
  have sB := size_nval hh
  generalize nval g n = A at *
  generalize nval h m = B at *
  have z1 := size_add2 sA sB
  have z2 := size_le_of (Nat.sub_le A B) sA
  have z3 := size_le_of (Nat.sub_le B A) sB
  have w1 := rMake_nat na (A + B) (by omega)
  have w2 := rMake_nat na (A - B) (by omega)
  have w3 := rMake_nat nb (B - A) (by omega)
  cases na <;> cases nb
  · rw [show ival false A + ival false B = ival false (A + B) by simp only [ival_f]; omega]
    refine acall_rule env [0, 1, 2, 3, 4, 5, 6, 7, 13, 30] Tryz.func51 rfl rfl rfl rfl ?_
    conv => whnf
    first | refine callF a1 ⟨.refl _, .refl _, trivial⟩ (by trivial) rfl ?_ | ((repeat (refine ⟨by kernel_rfl, ?_⟩; (conv => whnf))); refine callF a1 ⟨.refl _, .refl _, trivial⟩ (by trivial) rfl ?_)
    conv => whnf
    first | refine callF w1 ⟨.refl _, .refl _, trivial⟩ (by trivial) rfl ?_ | ((repeat (refine ⟨by kernel_rfl, ?_⟩; (conv => whnf))); refine callF w1 ⟨.refl _, .refl _, trivial⟩ (by trivial) rfl ?_)
    conv => whnf
    refine ⟨by kernel_rfl, ?_⟩
    conv => whnf
    (repeat (refine ⟨by kernel_rfl, ?_⟩; (conv => whnf)))
    refine ⟨(by (try simp only [true_and, and_true, Nat.sub_zero, Nat.zero_add, Int.toNat_natCast]) <;> omega), ?_⟩
    exact .refl _
  · by_cases hlt : A < B
    · rw [if_pos hlt] at s1
      rw [if_neg (by omega)] at s2
      rw [show ival false A + ival true B = ival true (B - A) by simp only [ival_f, ival_t]; omega]
      refine acall_rule env [0, 1, 2, 3, 4, 5, 6, 7, 13, 30] Tryz.func51 rfl rfl rfl rfl ?_
      conv => whnf
      first | refine callF s1 ⟨.refl _, .refl _, trivial⟩ (by trivial) rfl ?_ | ((repeat (refine ⟨by kernel_rfl, ?_⟩; (conv => whnf))); refine callF s1 ⟨.refl _, .refl _, trivial⟩ (by trivial) rfl ?_)
      conv => whnf
      first | refine callF s2 ⟨.refl _, .refl _, trivial⟩ (by trivial) rfl ?_ | ((repeat (refine ⟨by kernel_rfl, ?_⟩; (conv => whnf))); refine callF s2 ⟨.refl _, .refl _, trivial⟩ (by trivial) rfl ?_)
      conv => whnf
      first | refine callF w3 ⟨.refl _, .refl _, trivial⟩ (by trivial) rfl ?_ | ((repeat (refine ⟨by kernel_rfl, ?_⟩; (conv => whnf))); refine callF w3 ⟨.refl _, .refl _, trivial⟩ (by trivial) rfl ?_)
      conv => whnf
      (repeat (refine ⟨by kernel_rfl, ?_⟩; (conv => whnf)))
      refine ⟨(by (try simp only [true_and, and_true, Nat.sub_zero, Nat.zero_add, Int.toNat_natCast]) <;> omega), ?_⟩
      exact .refl _
    · rw [if_neg hlt] at s1
      rw [show ival false A + ival true B = ival false (A - B) by simp only [ival_f, ival_t]; omega]
      refine acall_rule env [0, 1, 2, 3, 4, 5, 6, 7, 13, 30] Tryz.func51 rfl rfl rfl rfl ?_
      conv => whnf
      first | refine callF s1 ⟨.refl _, .refl _, trivial⟩ (by trivial) rfl ?_ | ((repeat (refine ⟨by kernel_rfl, ?_⟩; (conv => whnf))); refine callF s1 ⟨.refl _, .refl _, trivial⟩ (by trivial) rfl ?_)
      conv => whnf
      first | refine callF w2 ⟨.refl _, .refl _, trivial⟩ (by trivial) rfl ?_ | ((repeat (refine ⟨by kernel_rfl, ?_⟩; (conv => whnf))); refine callF w2 ⟨.refl _, .refl _, trivial⟩ (by trivial) rfl ?_)
      conv => whnf
      (repeat (refine ⟨by kernel_rfl, ?_⟩; (conv => whnf)))
      refine ⟨(by (try simp only [true_and, and_true, Nat.sub_zero, Nat.zero_add, Int.toNat_natCast]) <;> omega), ?_⟩
      exact .refl _
  · by_cases hlt : A < B
    · rw [if_pos hlt] at s1
      rw [if_neg (by omega)] at s2
      rw [show ival true A + ival false B = ival false (B - A) by simp only [ival_f, ival_t]; omega]
      refine acall_rule env [0, 1, 2, 3, 4, 5, 6, 7, 13, 30] Tryz.func51 rfl rfl rfl rfl ?_
      conv => whnf
      first | refine callF s1 ⟨.refl _, .refl _, trivial⟩ (by trivial) rfl ?_ | ((repeat (refine ⟨by kernel_rfl, ?_⟩; (conv => whnf))); refine callF s1 ⟨.refl _, .refl _, trivial⟩ (by trivial) rfl ?_)
      conv => whnf
      first | refine callF s2 ⟨.refl _, .refl _, trivial⟩ (by trivial) rfl ?_ | ((repeat (refine ⟨by kernel_rfl, ?_⟩; (conv => whnf))); refine callF s2 ⟨.refl _, .refl _, trivial⟩ (by trivial) rfl ?_)
      conv => whnf
      first | refine callF w3 ⟨.refl _, .refl _, trivial⟩ (by trivial) rfl ?_ | ((repeat (refine ⟨by kernel_rfl, ?_⟩; (conv => whnf))); refine callF w3 ⟨.refl _, .refl _, trivial⟩ (by trivial) rfl ?_)
      conv => whnf
      (repeat (refine ⟨by kernel_rfl, ?_⟩; (conv => whnf)))
      refine ⟨(by (try simp only [true_and, and_true, Nat.sub_zero, Nat.zero_add, Int.toNat_natCast]) <;> omega), ?_⟩
      exact .refl _
    · rw [if_neg hlt] at s1
      rw [show ival true A + ival false B = ival true (A - B) by simp only [ival_f, ival_t]; omega]
      refine acall_rule env [0, 1, 2, 3, 4, 5, 6, 7, 13, 30] Tryz.func51 rfl rfl rfl rfl ?_
      conv => whnf
      first | refine callF s1 ⟨.refl _, .refl _, trivial⟩ (by trivial) rfl ?_ | ((repeat (refine ⟨by kernel_rfl, ?_⟩; (conv => whnf))); refine callF s1 ⟨.refl _, .refl _, trivial⟩ (by trivial) rfl ?_)
      conv => whnf
      first | refine callF w2 ⟨.refl _, .refl _, trivial⟩ (by trivial) rfl ?_ | ((repeat (refine ⟨by kernel_rfl, ?_⟩; (conv => whnf))); refine callF w2 ⟨.refl _, .refl _, trivial⟩ (by trivial) rfl ?_)
      conv => whnf
      (repeat (refine ⟨by kernel_rfl, ?_⟩; (conv => whnf)))
      refine ⟨(by (try simp only [true_and, and_true, Nat.sub_zero, Nat.zero_add, Int.toNat_natCast]) <;> omega), ?_⟩
      exact .refl _
  · rw [show ival true A + ival true B = ival true (A + B) by simp only [ival_t]; omega]
    refine acall_rule env [0, 1, 2, 3, 4, 5, 6, 7, 13, 30] Tryz.func51 rfl rfl rfl rfl ?_
    conv => whnf
    first | refine callF a1 ⟨.refl _, .refl _, trivial⟩ (by trivial) rfl ?_ | ((repeat (refine ⟨by kernel_rfl, ?_⟩; (conv => whnf))); refine callF a1 ⟨.refl _, .refl _, trivial⟩ (by trivial) rfl ?_)
    conv => whnf
    first | refine callF w1 ⟨.refl _, .refl _, trivial⟩ (by trivial) rfl ?_ | ((repeat (refine ⟨by kernel_rfl, ?_⟩; (conv => whnf))); refine callF w1 ⟨.refl _, .refl _, trivial⟩ (by trivial) rfl ?_)
    conv => whnf
    refine ⟨by kernel_rfl, ?_⟩
    conv => whnf
    (repeat (refine ⟨by kernel_rfl, ?_⟩; (conv => whnf)))
    refine ⟨(by (try simp only [true_and, and_true, Nat.sub_zero, Nat.zero_add, Int.toNat_natCast]) <;> omega), ?_⟩
    exact .refl _

theorem rSub_ok {x y : AV} {a b : Int} {s t : Nat} (ha : IsI x a s) (hb : IsI y b t) (hs : s ≤ 4398046510000) (ht : t ≤ 4398046510000) :
    ACall Tryz.prog 71 [x, y] (int (a - b)) := by
  have n1 := rNeg_ok hb (by omega)
  have a1 := rAdd_ok ha (isI_int (-b) (by rw [isz_neg]; exact hb.size)) hs ht
  rw [← Int.sub_eq_add_neg] at a1
  obtain ⟨nb, h, m, _, hh, hm⟩ := hb
  obtain ⟨na, g, n, _, hg, hn⟩ := ha
  refine acall_rule env [0, 1, 2, 3, 4] Tryz.func71 rfl rfl rfl rfl ?_
  conv => whnf
  first | refine callF n1 ⟨.refl _, trivial⟩ (by trivial) rfl ?_ | ((repeat (refine ⟨by kernel_rfl, ?_⟩; (conv => whnf))); refine callF n1 ⟨.refl _, trivial⟩ (by trivial) rfl ?_)
  conv => whnf
  first | refine callF a1 ⟨.refl _, .refl _, trivial⟩ (by trivial) rfl ?_ | ((repeat (refine ⟨by kernel_rfl, ?_⟩; (conv => whnf))); refine callF a1 ⟨.refl _, .refl _, trivial⟩ (by trivial) rfl ?_)
  conv => whnf
  (repeat (refine ⟨by kernel_rfl, ?_⟩; (conv => whnf)))
  refine ⟨(by (try simp only [true_and, and_true, Nat.sub_zero, Nat.zero_add, Int.toNat_natCast]) <;> omega), ?_⟩
  exact .refl _

theorem rMul_ok {x y : AV} {a b : Int} {s t : Nat} (ha : IsI x a s) (hb : IsI y b t) (hs : s + t ≤ 4398046511000) :
    ACall Tryz.prog 52 [x, y] (int (a * b)) := by
  obtain ⟨na, g, n, _, hg, hn⟩ := ha
  obtain ⟨nb, h, m, _, hh, hm⟩ := hb
  have m1 := refMul_ok g h n m hg hh (by omega)
  have sA := size_nval hg
  have sB := size_nval hh
  generalize nval g n = A at *
  generalize nval h m = B at *
  have z1 := size_mul2 sA sB
  have w1 := rMake_nat (!(na == nb)) (A * B) (by omega)
  have e : ival (!(na == nb)) (A * B) = ival na A * ival nb B := by cases na <;> cases nb <;> simp [ival, Int.neg_mul, Int.mul_neg]
  rw [e] at w1
  refine acall_rule env [0, 1, 2, 3, 4] Tryz.func52 rfl rfl rfl rfl ?_
  conv => whnf
  first | refine callF m1 ⟨.refl _, .refl _, trivial⟩ (by trivial) rfl ?_ | ((repeat (refine ⟨by kernel_rfl, ?_⟩; (conv => whnf))); refine callF m1 ⟨.refl _, .refl _, trivial⟩ (by trivial) rfl ?_)
  conv => whnf
  first | refine callF w1 ⟨.refl _, .refl _, trivial⟩ (by trivial) rfl ?_ | ((repeat (refine ⟨by kernel_rfl, ?_⟩; (conv => whnf))); refine callF w1 ⟨.refl _, .refl _, trivial⟩ (by trivial) rfl ?_)
  conv => whnf
  refine ⟨by kernel_rfl, ?_⟩
  conv => whnf
  (repeat (refine ⟨by kernel_rfl, ?_⟩; (conv => whnf)))
  refine ⟨(by (try simp only [true_and, and_true, Nat.sub_zero, Nat.zero_add, Int.toNat_natCast]) <;> omega), ?_⟩
  exact .refl _

theorem rCompare_ok {x y : AV} {a b : Int} {s t : Nat} (ha : IsI x a s) (hb : IsI y b t) (hs : s ≤ 4398046510000) (ht : t ≤ 4398046510000) :
    ACall Tryz.prog 31 [x, y] (.f (.int .i64 (icmp a b))) := by
  have a1 := rSub_ok ha hb hs ht
  have z := isz_sub ha.size hb.size
  have s1 := rSign_ok (isI_int (a - b) z) (by omega)
  rw [icmp_sgn] at s1
  obtain ⟨nb, h, m, _, hh, hm⟩ := hb
  obtain ⟨na, g, n, _, hg, hn⟩ := ha
  refine acall_rule env [0, 1, 2, 3, 4] Tryz.func31 rfl rfl rfl rfl ?_
  conv => whnf
  first | refine callF a1 ⟨.refl _, .refl _, trivial⟩ (by trivial) rfl ?_ | ((repeat (refine ⟨by kernel_rfl, ?_⟩; (conv => whnf))); refine callF a1 ⟨.refl _, .refl _, trivial⟩ (by trivial) rfl ?_)
  conv => whnf
  first | refine callF s1 ⟨.refl _, trivial⟩ (by trivial) rfl ?_ | ((repeat (refine ⟨by kernel_rfl, ?_⟩; (conv => whnf))); refine callF s1 ⟨.refl _, trivial⟩ (by trivial) rfl ?_)
  conv => whnf
  (repeat (refine ⟨by kernel_rfl, ?_⟩; (conv => whnf)))
  refine ⟨(by (try simp only [true_and, and_true, Nat.sub_zero, Nat.zero_add, Int.toNat_natCast]) <;> omega), ?_⟩
  exact .refl _
end Go.Abs

/- The reference's integers: DivMod, GCD. -/
set_option autoImplicit false
set_option maxHeartbeats 4000000
set_option maxRecDepth 10000
set_option linter.unusedVariables false
set_option linter.unusedSimpArgs false
namespace Go.Abs
open Go Go.Proofs

theorem rGCD_ok {x y : AV} {a b : Int} {s t : Nat} (ha : IsI x a s) (hb : IsI y b t) (hs : s ≤ 4398046510000) (ht : t ≤ 4398046510000) :
    ACall Tryz.prog 94 [x, y] (int (Nat.gcd a.natAbs b.natAbs : Nat)) := by
  obtain ⟨na, g, n, _, hg, hn⟩ := ha
  obtain ⟨nb, h, m, _, hh, hm⟩ := hb
  have d1 := refGCD_ok g h n m hg hh (by omega) (by omega)
  have sA := size_nval hg
  have sB := size_nval hh
  rw [ival_abs, ival_abs]
  have z := size_gcd_left (N := max s t) (Nat.le_trans sA (by omega)) (Nat.le_trans sB (by omega))
  have w := rMake_nat false (Nat.gcd (nval g n) (nval h m)) (by omega)
  refine acall_rule env [0, 1, 2, 3, 4] Tryz.func94 rfl rfl rfl rfl ?_
  conv => whnf
  first | refine callF d1 ⟨.refl _, .refl _, trivial⟩ (by trivial) rfl ?_ | ((repeat (refine ⟨by kernel_rfl, ?_⟩; (conv => whnf))); refine callF d1 ⟨.refl _, .refl _, trivial⟩ (by trivial) rfl ?_)
  conv => whnf
  first | refine callF w ⟨.refl _, .refl _, trivial⟩ (by trivial) rfl ?_ | ((repeat (refine ⟨by kernel_rfl, ?_⟩; (conv => whnf))); refine callF w ⟨.refl _, .refl _, trivial⟩ (by trivial) rfl ?_)
  conv => whnf
  (repeat (refine ⟨by kernel_rfl, ?_⟩; (conv => whnf)))
  refine ⟨(by (try simp only [true_and, and_true, Nat.sub_zero, Nat.zero_add, Int.toNat_natCast]) <;> omega), ?_⟩
  exact .refl _

theorem rDivMod_ok {x y : AV} {a b : Int} {s t : Nat} (ha : IsI x a s) (hb : IsI y b t) (hs : s ≤ 4398046500000) (ht : t ≤ 4398046500000) :
    ACall Tryz.prog 95 [x, y] (idivRes a b) := by
  have hab := rAbs_ok hb (by omega)
  obtain ⟨na, g, n, _, hg, hn⟩ := ha
  obtain ⟨nb, h, m, _, hh, hm⟩ := hb
  have d1 := refDivMod_ok g h n m hg hh (by omega) (by omega)
  have sA := size_nval hg
  have sB := size_nval hh
  rw [ival_abs] at hab
  generalize nval g n = A at *
  generalize nval h m = B at *
  unfold idivRes
  unfold divRes at d1
  have hb0 : ival nb B = 0 ↔ B = 0 := by cases nb <;> simp [ival]
  by_cases hB : B = 0
  · rw [if_pos hB] at d1
    rw [if_pos (hb0.2 hB)]
    refine acall_rule env [0, 1, 2, 3, 4, 5, 6, 7, 8, 19, 34, 40] Tryz.func95 rfl rfl rfl rfl ?_
    conv => whnf
    first | refine callF d1 ⟨.refl _, .refl _, trivial⟩ (by trivial) rfl ?_ | ((repeat (refine ⟨by kernel_rfl, ?_⟩; (conv => whnf))); refine callF d1 ⟨.refl _, .refl _, trivial⟩ (by trivial) rfl ?_)
    conv => whnf
    refine ⟨(by (try simp only [true_and, and_true, Nat.sub_zero, Nat.zero_add, Int.toNat_natCast]) <;> omega), ?_⟩
    exact .tup ⟨.int_zero, .int_zero, .refl _, trivial⟩
  have hB0 : 0 < B := by omega
  rw [if_neg hB] at d1
  rw [if_neg (fun h => hB (hb0.1 h))]
  have hlt : A % B < B := Nat.mod_lt _ hB0
  have sq : size (A / B) ≤ s := Nat.le_trans (size_le_of (Nat.div_le_self _ _) sA) hn
  have sr : size (A % B) ≤ t := Nat.le_trans (size_le_of (Nat.le_of_lt hlt) sB) hm
  have w0 := rMake_nat (!(na == nb)) (A / B) (by omega)
  have w2 := rMake_nat na (A % B) (by omega)
  have ep := ediv_pos A B
  have en := ediv_np A B hB0
  by_cases hr : A % B = 0
  · rw [if_pos hr, if_pos hr] at en
    have hq : ival na A / ival nb B = ival (!(na == nb)) (A / B) := by
      cases na <;> cases nb
      · exact ep.1
      · show (A : Int) / -(B : Int) = -((A / B : Nat) : Int); rw [Int.ediv_neg, ep.1]
      · exact en.1
      · show -(A : Int) / -(B : Int) = ((A / B : Nat) : Int); rw [Int.ediv_neg, en.1, Int.neg_neg]
    have hq2 : ival na A % ival nb B = 0 := by
      rw [hr] at ep
      cases na <;> cases nb
      · exact ep.2
      · show (A : Int) % -(B : Int) = _; rw [Int.emod_neg, ep.2]; rfl
      · exact en.2
      · show -(A : Int) % -(B : Int) = _; rw [Int.emod_neg, en.2]; rfl
    rw [hq, hq2]
    rw [hr] at d1 w2
    rw [show ival na 0 = 0 by cases na <;> rfl] at w2
    refine acall_rule env [0, 1, 2, 3, 4, 5, 6, 7, 8, 19, 34, 40] Tryz.func95 rfl rfl rfl rfl ?_
    conv => whnf
    first | refine callF d1 ⟨.refl _, .refl _, trivial⟩ (by trivial) rfl ?_ | ((repeat (refine ⟨by kernel_rfl, ?_⟩; (conv => whnf))); refine callF d1 ⟨.refl _, .refl _, trivial⟩ (by trivial) rfl ?_)
    conv => whnf
    first | refine callF w0 ⟨.refl _, .refl _, trivial⟩ (by trivial) rfl ?_ | ((repeat (refine ⟨by kernel_rfl, ?_⟩; (conv => whnf))); refine callF w0 ⟨.refl _, .refl _, trivial⟩ (by trivial) rfl ?_)
    conv => whnf
    first | refine callF w2 ⟨.refl _, .refl _, trivial⟩ (by trivial) rfl ?_ | ((repeat (refine ⟨by kernel_rfl, ?_⟩; (conv => whnf))); refine callF w2 ⟨.refl _, .refl _, trivial⟩ (by trivial) rfl ?_)
    conv => whnf
    (repeat (refine ⟨by kernel_rfl, ?_⟩; (conv => whnf)))
    refine ⟨(by (try simp only [true_and, and_true, Nat.sub_zero, Nat.zero_add, Int.toNat_natCast]) <;> omega), ?_⟩
    exact .refl _
  · rw [if_neg hr, if_neg hr] at en
    cases na
    · have hq : ival false A / ival nb B = ival (!(false == nb)) (A / B) := by
        cases nb
        · exact ep.1
        · show (A : Int) / -(B : Int) = -((A / B : Nat) : Int); rw [Int.ediv_neg, ep.1]
      have hq2 : ival false A % ival nb B = ival false (A % B) := by
        cases nb
        · exact ep.2
        · show (A : Int) % -(B : Int) = _; rw [Int.emod_neg, ep.2]; rfl
      rw [hq, hq2]
      have e : int (ival false (A % B)) = .agg [.f (.bool false), nat (A % B)] := int_nonneg _
      rw [e] at w2 ⊢
      refine acall_rule env [0, 1, 2, 3, 4, 5, 6, 7, 8, 19, 34, 40] Tryz.func95 rfl rfl rfl rfl ?_
      conv => whnf
      first | refine callF d1 ⟨.refl _, .refl _, trivial⟩ (by trivial) rfl ?_ | ((repeat (refine ⟨by kernel_rfl, ?_⟩; (conv => whnf))); refine callF d1 ⟨.refl _, .refl _, trivial⟩ (by trivial) rfl ?_)
      conv => whnf
      first | refine callF w0 ⟨.refl _, .refl _, trivial⟩ (by trivial) rfl ?_ | ((repeat (refine ⟨by kernel_rfl, ?_⟩; (conv => whnf))); refine callF w0 ⟨.refl _, .refl _, trivial⟩ (by trivial) rfl ?_)
      conv => whnf
      first | refine callF w2 ⟨.refl _, .refl _, trivial⟩ (by trivial) rfl ?_ | ((repeat (refine ⟨by kernel_rfl, ?_⟩; (conv => whnf))); refine callF w2 ⟨.refl _, .refl _, trivial⟩ (by trivial) rfl ?_)
      conv => whnf
      (repeat (refine ⟨by kernel_rfl, ?_⟩; (conv => whnf)))
      refine ⟨(by (try simp only [true_and, and_true, Nat.sub_zero, Nat.zero_add, Int.toNat_natCast]) <;> omega), ?_⟩
      exact .refl _
    · have e : int (ival true (A % B)) = .agg [.f (.bool true), nat (A % B)] := by
        unfold int
        rw [ival_neg, ival_abs, decide_eq_true (by omega)]; rfl
      have hz : isz (ival true (A % B)) ≤ t := by rw [isz, ival_abs]; exact sr
      have hzb : isz (B : Int) ≤ t := by rw [isz_nat]; omega
      have a1 := rAdd_ok (isI_int (ival true (A % B)) hz) (isI_int (B : Int) hzb) (by omega) (by omega)
      rw [show ival true (A % B) + (B : Int) = ival false (B - A % B) by simp only [ival_t, ival_f]; omega] at a1
      have hzq : ∀ c, isz (ival c (A / B)) ≤ s := fun c => by rw [isz, ival_abs]; exact sq
      have f1 := rFromInt_ok 1 (by omega)
      have h1 : isz 1 ≤ 1 := by decide
      have hq2 : ival true A % ival nb B = ival false (B - A % B) := by
        cases nb
        · exact en.2
        · show -(A : Int) % -(B : Int) = _; rw [Int.emod_neg, en.2]; rfl
      rw [hq2]
      rw [e] at w2 a1
      cases nb
      · have hq : ival true A / ival false B = ival true (A / B) - 1 := by
          rw [show ival true A / ival false B = -(A : Int) / (B : Int) from rfl, en.1]
          show -((A / B : Nat) + 1 : Int) = -((A / B : Nat) : Int) - 1
          omega
        rw [hq]
        have s1 := rSub_ok (isI_int _ (hzq true)) (isI_int 1 h1) (by omega) (by omega)
        refine acall_rule env [0, 1, 2, 3, 4, 5, 6, 7, 8, 19, 34, 40] Tryz.func95 rfl rfl rfl rfl ?_
        conv => whnf
        first | refine callF d1 ⟨.refl _, .refl _, trivial⟩ (by trivial) rfl ?_ | ((repeat (refine ⟨by kernel_rfl, ?_⟩; (conv => whnf))); refine callF d1 ⟨.refl _, .refl _, trivial⟩ (by trivial) rfl ?_)
        conv => whnf
        first | refine callF w0 ⟨.refl _, .refl _, trivial⟩ (by trivial) rfl ?_ | ((repeat (refine ⟨by kernel_rfl, ?_⟩; (conv => whnf))); refine callF w0 ⟨.refl _, .refl _, trivial⟩ (by trivial) rfl ?_)
        conv => whnf
        first | refine callF w2 ⟨.refl _, .refl _, trivial⟩ (by trivial) rfl ?_ | ((repeat (refine ⟨by kernel_rfl, ?_⟩; (conv => whnf))); refine callF w2 ⟨.refl _, .refl _, trivial⟩ (by trivial) rfl ?_)
        conv => whnf
        first | refine callF hab ⟨.refl _, trivial⟩ (by trivial) rfl ?_ | ((repeat (refine ⟨by kernel_rfl, ?_⟩; (conv => whnf))); refine callF hab ⟨.refl _, trivial⟩ (by trivial) rfl ?_)
        conv => whnf
        first | refine callF a1 ⟨.refl _, .refl _, trivial⟩ (by trivial) rfl ?_ | ((repeat (refine ⟨by kernel_rfl, ?_⟩; (conv => whnf))); refine callF a1 ⟨.refl _, .refl _, trivial⟩ (by trivial) rfl ?_)
        conv => whnf
        first | refine callF f1 ⟨.refl _, trivial⟩ (by trivial) rfl ?_ | ((repeat (refine ⟨by kernel_rfl, ?_⟩; (conv => whnf))); refine callF f1 ⟨.refl _, trivial⟩ (by trivial) rfl ?_)
        conv => whnf
        first | refine callF s1 ⟨.refl _, .refl _, trivial⟩ (by trivial) rfl ?_ | ((repeat (refine ⟨by kernel_rfl, ?_⟩; (conv => whnf))); refine callF s1 ⟨.refl _, .refl _, trivial⟩ (by trivial) rfl ?_)
        conv => whnf
        (repeat (refine ⟨by kernel_rfl, ?_⟩; (conv => whnf)))
        refine ⟨(by (try simp only [true_and, and_true, Nat.sub_zero, Nat.zero_add, Int.toNat_natCast]) <;> omega), ?_⟩
        exact .refl _
      · have hq : ival true A / ival true B = ival false (A / B) + 1 := by
          rw [show ival true A / ival true B = -(A : Int) / -(B : Int) from rfl, Int.ediv_neg, en.1, Int.neg_neg]
          rfl
        rw [hq]
        have s1 := rAdd_ok (isI_int _ (hzq false)) (isI_int 1 h1) (by omega) (by omega)
        refine acall_rule env [0, 1, 2, 3, 4, 5, 6, 7, 8, 19, 34, 40] Tryz.func95 rfl rfl rfl rfl ?_
        conv => whnf
        first | refine callF d1 ⟨.refl _, .refl _, trivial⟩ (by trivial) rfl ?_ | ((repeat (refine ⟨by kernel_rfl, ?_⟩; (conv => whnf))); refine callF d1 ⟨.refl _, .refl _, trivial⟩ (by trivial) rfl ?_)
        conv => whnf
        first | refine callF w0 ⟨.refl _, .refl _, trivial⟩ (by trivial) rfl ?_ | ((repeat (refine ⟨by kernel_rfl, ?_⟩; (conv => whnf))); refine callF w0 ⟨.refl _, .refl _, trivial⟩ (by trivial) rfl ?_)
        conv => whnf
        first | refine callF w2 ⟨.refl _, .refl _, trivial⟩ (by trivial) rfl ?_ | ((repeat (refine ⟨by kernel_rfl, ?_⟩; (conv => whnf))); refine callF w2 ⟨.refl _, .refl _, trivial⟩ (by trivial) rfl ?_)
        conv => whnf
        first | refine callF hab ⟨.refl _, trivial⟩ (by trivial) rfl ?_ | ((repeat (refine ⟨by kernel_rfl, ?_⟩; (conv => whnf))); refine callF hab ⟨.refl _, trivial⟩ (by trivial) rfl ?_)
        conv => whnf
        first | refine callF a1 ⟨.refl _, .refl _, trivial⟩ (by trivial) rfl ?_ | ((repeat (refine ⟨by kernel_rfl, ?_⟩; (conv => whnf))); refine callF a1 ⟨.refl _, .refl _, trivial⟩ (by trivial) rfl ?_)
        conv => whnf
        first | refine callF f1 ⟨.refl _, trivial⟩ (by trivial) rfl ?_ | ((repeat (refine ⟨by kernel_rfl, ?_⟩; (conv => whnf))); refine callF f1 ⟨.refl _, trivial⟩ (by trivial) rfl ?_)
        conv => whnf
        first | refine callF s1 ⟨.refl _, .refl _, trivial⟩ (by trivial) rfl ?_ | ((repeat (refine ⟨by kernel_rfl, ?_⟩; (conv => whnf))); refine callF s1 ⟨.refl _, .refl _, trivial⟩ (by trivial) rfl ?_)
        conv => whnf
        (repeat (refine ⟨by kernel_rfl, ?_⟩; (conv => whnf)))
        refine ⟨(by (try simp only [true_and, and_true, Nat.sub_zero, Nat.zero_add, Int.toNat_natCast]) <;> omega), ?_⟩
        exact .refl _

end Go.Abs

/- Rational numbers: reduced, Norm, parts, New. -/
set_option autoImplicit false
set_option maxHeartbeats 4000000
set_option maxRecDepth 10000
set_option linter.unusedVariables false
set_option linter.unusedSimpArgs false
namespace Go.Abs
open Go Go.Proofs

theorem bitlen_zero (A : Nat) : (bitlen A : Int) = 0 ↔ A = 0 := by
  unfold bitlen
  split
  · simp [*]
  · rename_i h; constructor
    · intro h; omega
    · intro h'; exact absurd h' h
theorem bitlen_one (A : Nat) : (bitlen A : Int) = 1 ↔ A = 1 := by
  unfold bitlen
  split
  · rename_i h; subst h; simp
  · rename_i h
    have h0 := Nat.log2_self_le h
    constructor
    · intro h1
      have : A.log2 = 0 := by omega
      have h2 : A < 2 ^ 1 := (Nat.log2_lt h).1 (by omega)
      rw [Nat.pow_one] at h2
      omega
    · intro h1; subst h1; rfl

theorem sgn_iff {a : Int} : (sgn a = 0) ↔ a = 0 := by unfold sgn; repeat' split
                                                      all_goals omega
theorem qone_ok : ACall Tryz.prog 119 [] (nat 1) := by
  have f := FromUint64_ok 1 (by omega)
  refine acall_rule env [0] Tryz.func119 rfl rfl rfl rfl ?_
  conv => whnf
  first | refine callF f ⟨.refl _, trivial⟩ (by trivial) rfl ?_ | ((repeat (refine ⟨by kernel_rfl, ?_⟩; (conv => whnf))); refine callF f ⟨.refl _, trivial⟩ (by trivial) rfl ?_)
  conv => whnf
  (repeat (refine ⟨by kernel_rfl, ?_⟩; (conv => whnf)))
  refine ⟨(by (try simp only [true_and, and_true, Nat.sub_zero, Nat.zero_add, Int.toNat_natCast]) <;> omega), ?_⟩
  exact .refl _
theorem qisOne_ok (A : Nat) (h : size A ≤ 4398046511104) : ACall Tryz.prog 140 [nat A] (.f (.bool (decide (A = 1)))) := by
  have b := Bits_ok (digit A) (size A) (digit_Dig _ _) h
  rw [nval_digit_size] at b
  have h1 := bitlen_one A
  refine acall_rule env [0, 2] Tryz.func140 rfl rfl rfl rfl ?_
  conv => whnf
  first | refine callF b ⟨.refl _, trivial⟩ (by trivial) rfl ?_ | ((repeat (refine ⟨by kernel_rfl, ?_⟩; (conv => whnf))); refine callF b ⟨.refl _, trivial⟩ (by trivial) rfl ?_)
  conv => whnf
  (repeat (refine ⟨by kernel_rfl, ?_⟩; (conv => whnf)))
  refine ⟨(by (try simp only [true_and, and_true, Nat.sub_zero, Nat.zero_add, Int.toNat_natCast]) <;> omega), ?_⟩
  exact .bool_of (by simp only [← h1])

theorem reduced_ok {x : AV} {z : Int} {s : Nat} (hx : IsI x z s) (h : Nat → Nat) (m : Nat) (hh : Dig h m) (hs : s ≤ 4398046510000) (hm : m ≤ 4398046510000) (h0 : nval h m ≠ 0) :
    ACall Tryz.prog 120 [x, raw h m] (rat (mkRat z (nval h m))) := by
  have n1 := iNorm_ok hx (by omega)
  have o1 := qone_ok
  have sz := hx.size
  have sD := size_nval hh
  have g1 := GCD_ok (digit z.natAbs) h (size z.natAbs) m (digit_Dig _ _) hh (by unfold isz at sz; omega) (by omega)
  rw [nval_digit_size] at g1
  have t1 := Trim_ok h m hh (by omega)
  have d2 := fun G hG => DivMod_ok h (digit G) m (size G) hh (digit_Dig _ _) (by omega) hG
  simp only [nval_digit_size] at d2
  obtain ⟨nx, gx, lx, _, hgx, hlx⟩ := hx
  generalize ival nx (nval gx lx) = z at *
  generalize nval h m = D at *
  have sG : size (Nat.gcd z.natAbs D) ≤ 4398046510000 := size_le_of (Nat.gcd_le_right _ (by omega)) (by omega)
  have hG0 : Nat.gcd z.natAbs D ≠ 0 := fun h => h0 (Nat.eq_zero_of_gcd_eq_zero_right h)
  replace d2 := d2 (Nat.gcd z.natAbs D) (by omega)
  have d1 := DivMod_nn z.natAbs (Nat.gcd z.natAbs D) (by unfold isz at sz; omega) (by omega)
  rw [divRes, if_neg hG0] at d1 d2
  have i1 := qisOne_ok (Nat.gcd z.natAbs D) (by omega)
  have t2 := Trim_ok (digit (D / Nat.gcd z.natAbs D)) (size (D / Nat.gcd z.natAbs D)) (digit_Dig _ _) (Nat.le_trans (size_mono (Nat.div_le_self _ _)) (by omega))
  rw [nval_digit_size] at t2
  have hr := mk_rat z h0
  by_cases hz : z = 0
  · subst hz
    rw [Rat.zero_mkRat]
    refine acall_rule env [0, 1, 2, 4, 5, 11, 21] Tryz.func120 rfl rfl rfl rfl ?_
    conv => whnf
    first | refine callF n1 ⟨.refl _, trivial⟩ (by trivial) rfl ?_ | ((repeat (refine ⟨by kernel_rfl, ?_⟩; (conv => whnf))); refine callF n1 ⟨.refl _, trivial⟩ (by trivial) rfl ?_)
    conv => whnf
    first | refine callF o1 trivial (by trivial) rfl ?_ | ((repeat (refine ⟨by kernel_rfl, ?_⟩; (conv => whnf))); refine callF o1 trivial (by trivial) rfl ?_)
    conv => whnf
    (repeat (refine ⟨by kernel_rfl, ?_⟩; (conv => whnf)))
    refine ⟨(by (try simp only [true_and, and_true, Nat.sub_zero, Nat.zero_add, Int.toNat_natCast]) <;> omega), ?_⟩
    exact .refl _
  rw [hr]
  have hz1 : 0 < size z.natAbs := size_pos (by omega)
  by_cases hG : Nat.gcd z.natAbs D = 1
  · rw [hG] at g1 i1 ⊢
    rw [Nat.div_one, Nat.div_one]
    obtain ⟨L, hL⟩ : ∃ L, size z.natAbs = L := ⟨_, rfl⟩
    refine acall_rule env [0, 1, 2, 4, 5, 11, 21] Tryz.func120 rfl rfl rfl rfl ?_
    conv => whnf
    first | refine callF n1 ⟨.refl _, trivial⟩ (by trivial) rfl ?_ | ((repeat (refine ⟨by kernel_rfl, ?_⟩; (conv => whnf))); refine callF n1 ⟨.refl _, trivial⟩ (by trivial) rfl ?_)
    conv => whnf
    refine splF (by simp only [decide_eq_true_eq, decide_eq_false_iff_not, Bool.not_eq_true', Bool.not_eq_false', gt_iff_lt, ge_iff_le] <;> omega) ?_
    conv => whnf
    first | refine callF g1 ⟨.refl _, .refl _, trivial⟩ (by trivial) rfl ?_ | ((repeat (refine ⟨by kernel_rfl, ?_⟩; (conv => whnf))); refine callF g1 ⟨.refl _, .refl _, trivial⟩ (by trivial) rfl ?_)
    conv => whnf
    first | refine callF i1 ⟨.refl _, trivial⟩ (by trivial) rfl ?_ | ((repeat (refine ⟨by kernel_rfl, ?_⟩; (conv => whnf))); refine callF i1 ⟨.refl _, trivial⟩ (by trivial) rfl ?_)
    conv => whnf
    first | refine callF t1 ⟨.refl _, trivial⟩ (by trivial) rfl ?_ | ((repeat (refine ⟨by kernel_rfl, ?_⟩; (conv => whnf))); refine callF t1 ⟨.refl _, trivial⟩ (by trivial) rfl ?_)
    conv => whnf
    (repeat (refine ⟨by kernel_rfl, ?_⟩; (conv => whnf)))
    refine ⟨(by (try simp only [true_and, and_true, Nat.sub_zero, Nat.zero_add, Int.toNat_natCast]) <;> omega), ?_⟩
    exact .refl _
  · rw [decide_eq_false hG] at i1
    refine acall_rule env [0, 1, 2, 4, 5, 11, 21] Tryz.func120 rfl rfl rfl rfl ?_
    conv => whnf
    first | refine callF n1 ⟨.refl _, trivial⟩ (by trivial) rfl ?_ | ((repeat (refine ⟨by kernel_rfl, ?_⟩; (conv => whnf))); refine callF n1 ⟨.refl _, trivial⟩ (by trivial) rfl ?_)
    conv => whnf
    refine splF (by simp only [decide_eq_true_eq, decide_eq_false_iff_not, Bool.not_eq_true', Bool.not_eq_false', gt_iff_lt, ge_iff_le] <;> omega) ?_
    conv => whnf
    first | refine callF g1 ⟨.refl _, .refl _, trivial⟩ (by trivial) rfl ?_ | ((repeat (refine ⟨by kernel_rfl, ?_⟩; (conv => whnf))); refine callF g1 ⟨.refl _, .refl _, trivial⟩ (by trivial) rfl ?_)
    conv => whnf
    first | refine callF i1 ⟨.refl _, trivial⟩ (by trivial) rfl ?_ | ((repeat (refine ⟨by kernel_rfl, ?_⟩; (conv => whnf))); refine callF i1 ⟨.refl _, trivial⟩ (by trivial) rfl ?_)
    conv => whnf
    first | refine callF d1 ⟨.refl _, .refl _, trivial⟩ (by trivial) rfl ?_ | ((repeat (refine ⟨by kernel_rfl, ?_⟩; (conv => whnf))); refine callF d1 ⟨.refl _, .refl _, trivial⟩ (by trivial) rfl ?_)
    conv => whnf
    first | refine callF d2 ⟨.refl _, .refl _, trivial⟩ (by trivial) rfl ?_ | ((repeat (refine ⟨by kernel_rfl, ?_⟩; (conv => whnf))); refine callF d2 ⟨.refl _, .refl _, trivial⟩ (by trivial) rfl ?_)
    conv => whnf
    first | refine callF t2 ⟨.refl _, trivial⟩ (by trivial) rfl ?_ | ((repeat (refine ⟨by kernel_rfl, ?_⟩; (conv => whnf))); refine callF t2 ⟨.refl _, trivial⟩ (by trivial) rfl ?_)
    conv => whnf
    (repeat (refine ⟨by kernel_rfl, ?_⟩; (conv => whnf)))
    refine ⟨(by (try simp only [true_and, and_true, Nat.sub_zero, Nat.zero_add, Int.toNat_natCast]) <;> omega), ?_⟩
    exact .refl _

theorem qFromInt_ok (v : Int) (h : -9223372036854775808 ≤ v ∧ v ≤ 9223372036854775807) : ACall Tryz.prog 81 [.f (.int .i64 v)] (rat (v : Rat)) := by
  have f := iFromInt_ok v h
  have o := qone_ok
  refine acall_rule env [0, 2] Tryz.func81 rfl rfl rfl rfl ?_
  conv => whnf
  first | refine callF f ⟨.refl _, trivial⟩ (by trivial) rfl ?_ | ((repeat (refine ⟨by kernel_rfl, ?_⟩; (conv => whnf))); refine callF f ⟨.refl _, trivial⟩ (by trivial) rfl ?_)
  conv => whnf
  first | refine callF o trivial (by trivial) rfl ?_ | ((repeat (refine ⟨by kernel_rfl, ?_⟩; (conv => whnf))); refine callF o trivial (by trivial) rfl ?_)
  conv => whnf
  (repeat (refine ⟨by kernel_rfl, ?_⟩; (conv => whnf)))
  refine ⟨(by (try simp only [true_and, and_true, Nat.sub_zero, Nat.zero_add, Int.toNat_natCast]) <;> omega), ?_⟩
  exact .refl _

/-- as it comes, with the denominator apart -/
theorem parts_ok {x : AV} {q : Rat} {s : Nat} (hx : IsR x q s) (hs : s ≤ 4398046510000) :
    ∃ (p : AV) (P : Int) (h : Nat → Nat) (m : Nat), ACall Tryz.prog 86 [x] (.tup [p, rint false h m]) ∧ IsI p P s ∧ Dig h m ∧ m ≤ s ∧ nval h m ≠ 0 ∧ q = mkRat P (nval h m) := by
  obtain ⟨neg, g, n, h, m, _, hg, hh, hn, hm, h1⟩ := hx
  have b1 := Bits_ok h m hh (by omega)
  have hb := bitlen_zero (nval h m)
  by_cases h0 : nval h m = 0
  · refine ⟨int 0, 0, digit 1, size 1, ?_, isI_int 0 (Nat.zero_le _), digit_Dig _ _, h1, by rw [nval_digit_size]; decide, by rw [h0, Rat.mkRat_zero, Rat.zero_mkRat]⟩
    have f := iFromInt_ok 1 (by decide)
    rw [h0] at b1
    refine acall_rule env [0, 1, 2, 3, 7] Tryz.func86 rfl rfl rfl rfl ?_
    conv => whnf
    first | refine callF b1 ⟨.refl _, trivial⟩ (by trivial) rfl ?_ | ((repeat (refine ⟨by kernel_rfl, ?_⟩; (conv => whnf))); refine callF b1 ⟨.refl _, trivial⟩ (by trivial) rfl ?_)
    conv => whnf
    first | refine callF f ⟨.refl _, trivial⟩ (by trivial) rfl ?_ | ((repeat (refine ⟨by kernel_rfl, ?_⟩; (conv => whnf))); refine callF f ⟨.refl _, trivial⟩ (by trivial) rfl ?_)
    conv => whnf
    refine ⟨(by (try simp only [true_and, and_true, Nat.sub_zero, Nat.zero_add, Int.toNat_natCast]) <;> omega), ?_⟩
    exact .tup ⟨.int_zero, .refl _, trivial⟩
  · refine ⟨rint neg g n, _, h, m, ?_, .mk neg g n s hg hn, hh, hm, h0, rfl⟩
    have hb2 : ¬ (bitlen (nval h m) : Int) = 0 := fun h => h0 (hb.1 h)
    obtain ⟨B, hB⟩ : ∃ B : Int, (bitlen (nval h m) : Int) = B := ⟨_, rfl⟩
    rw [hB] at b1 hb2
    refine acall_rule env [0, 1, 2, 3, 7] Tryz.func86 rfl rfl rfl rfl ?_
    conv => whnf
    first | refine callF b1 ⟨.refl _, trivial⟩ (by trivial) rfl ?_ | ((repeat (refine ⟨by kernel_rfl, ?_⟩; (conv => whnf))); refine callF b1 ⟨.refl _, trivial⟩ (by trivial) rfl ?_)
    conv => whnf
    refine splF (by simp only [decide_eq_true_eq, decide_eq_false_iff_not, Bool.not_eq_true', Bool.not_eq_false', gt_iff_lt, ge_iff_le] <;> omega) ?_
    conv => whnf
    (repeat (refine ⟨by kernel_rfl, ?_⟩; (conv => whnf)))
    refine ⟨(by (try simp only [true_and, and_true, Nat.sub_zero, Nat.zero_add, Int.toNat_natCast]) <;> omega), ?_⟩
    exact .refl _

theorem qNorm_ok {x : AV} {q : Rat} {s : Nat} (hx : IsR x q s) (hs : s ≤ 4398046510000) : ACall Tryz.prog 104 [x] (rat q) := by
  obtain ⟨neg, g, n, h, m, _, hg, hh, hn, hm, h1⟩ := hx
  have b1 := Bits_ok h m hh (by omega)
  have hb := bitlen_zero (nval h m)
  by_cases h0 : nval h m = 0
  · have f := qFromInt_ok 0 (by decide)
    rw [h0] at b1 ⊢
    rw [Rat.mkRat_zero]
    refine acall_rule env [0, 1, 2, 6] Tryz.func104 rfl rfl rfl rfl ?_
    conv => whnf
    first | refine callF b1 ⟨.refl _, trivial⟩ (by trivial) rfl ?_ | ((repeat (refine ⟨by kernel_rfl, ?_⟩; (conv => whnf))); refine callF b1 ⟨.refl _, trivial⟩ (by trivial) rfl ?_)
    conv => whnf
    first | refine callF f ⟨.refl _, trivial⟩ (by trivial) rfl ?_ | ((repeat (refine ⟨by kernel_rfl, ?_⟩; (conv => whnf))); refine callF f ⟨.refl _, trivial⟩ (by trivial) rfl ?_)
    conv => whnf
    (repeat (refine ⟨by kernel_rfl, ?_⟩; (conv => whnf)))
    refine ⟨(by (try simp only [true_and, and_true, Nat.sub_zero, Nat.zero_add, Int.toNat_natCast]) <;> omega), ?_⟩
    exact .refl _
  · have r := reduced_ok (.mk neg g n s hg hn) h m hh hs (by omega) h0
    have hb2 : ¬ (bitlen (nval h m) : Int) = 0 := fun h => h0 (hb.1 h)
    obtain ⟨B, hB⟩ : ∃ B : Int, (bitlen (nval h m) : Int) = B := ⟨_, rfl⟩
    rw [hB] at b1 hb2
    refine acall_rule env [0, 1, 2, 6] Tryz.func104 rfl rfl rfl rfl ?_
    conv => whnf
    first | refine callF b1 ⟨.refl _, trivial⟩ (by trivial) rfl ?_ | ((repeat (refine ⟨by kernel_rfl, ?_⟩; (conv => whnf))); refine callF b1 ⟨.refl _, trivial⟩ (by trivial) rfl ?_)
    conv => whnf
    refine splF (by simp only [decide_eq_true_eq, decide_eq_false_iff_not, Bool.not_eq_true', Bool.not_eq_false', gt_iff_lt, ge_iff_le] <;> omega) ?_
    conv => whnf
    first | refine callF r ⟨.refl _, .refl _, trivial⟩ (by trivial) rfl ?_ | ((repeat (refine ⟨by kernel_rfl, ?_⟩; (conv => whnf))); refine callF r ⟨.refl _, .refl _, trivial⟩ (by trivial) rfl ?_)
    conv => whnf
    (repeat (refine ⟨by kernel_rfl, ?_⟩; (conv => whnf)))
    refine ⟨(by (try simp only [true_and, and_true, Nat.sub_zero, Nat.zero_add, Int.toNat_natCast]) <;> omega), ?_⟩
    exact .refl _

theorem qSign_ok {x : AV} {q : Rat} {s : Nat} (hx : IsR x q s) (hs : s ≤ 4398046510000) : ACall Tryz.prog 73 [x] (.f (.int .i64 (rcmp q 0))) := by
  obtain ⟨neg, g, n, h, m, _, hg, hh, hn, hm, h1⟩ := hx
  have b1 := Bits_ok h m hh (by omega)
  have hb := bitlen_zero (nval h m)
  by_cases h0 : nval h m = 0
  · rw [h0] at b1 ⊢
    rw [Rat.mkRat_zero, rcmp_self]
    refine acall_rule env [0, 1, 2, 6] Tryz.func73 rfl rfl rfl rfl ?_
    conv => whnf
    first | refine callF b1 ⟨.refl _, trivial⟩ (by trivial) rfl ?_ | ((repeat (refine ⟨by kernel_rfl, ?_⟩; (conv => whnf))); refine callF b1 ⟨.refl _, trivial⟩ (by trivial) rfl ?_)
    conv => whnf
    (repeat (refine ⟨by kernel_rfl, ?_⟩; (conv => whnf)))
    refine ⟨(by (try simp only [true_and, and_true, Nat.sub_zero, Nat.zero_add, Int.toNat_natCast]) <;> omega), ?_⟩
    exact .refl _
  · have r := iSign_ok (.mk neg g n s hg hn) (by omega)
    have hs : sgn (mkRat (ival neg (nval g n)) (nval h m)).num = sgn (ival neg (nval g n)) := by
      have h3 := mk_neg (ival neg (nval g n)) h0
      have h2 := Rat.mkRat_eq_zero (n := ival neg (nval g n)) h0
      rw [← Rat.num_eq_zero] at h2
      unfold sgn; simp only [h3, h2]
    rw [rcmp_num, hs]
    have hb2 : ¬ (bitlen (nval h m) : Int) = 0 := fun h => h0 (hb.1 h)
    obtain ⟨B, hB⟩ : ∃ B : Int, (bitlen (nval h m) : Int) = B := ⟨_, rfl⟩
    rw [hB] at b1 hb2
    refine acall_rule env [0, 1, 2, 6] Tryz.func73 rfl rfl rfl rfl ?_
    conv => whnf
    first | refine callF b1 ⟨.refl _, trivial⟩ (by trivial) rfl ?_ | ((repeat (refine ⟨by kernel_rfl, ?_⟩; (conv => whnf))); refine callF b1 ⟨.refl _, trivial⟩ (by trivial) rfl ?_)
    conv => whnf
    refine splF (by simp only [decide_eq_true_eq, decide_eq_false_iff_not, Bool.not_eq_true', Bool.not_eq_false', gt_iff_lt, ge_iff_le] <;> omega) ?_
    conv => whnf
    first | refine callF r ⟨.refl _, trivial⟩ (by trivial) rfl ?_ | ((repeat (refine ⟨by kernel_rfl, ?_⟩; (conv => whnf))); refine callF r ⟨.refl _, trivial⟩ (by trivial) rfl ?_)
    conv => whnf
    (repeat (refine ⟨by kernel_rfl, ?_⟩; (conv => whnf)))
    refine ⟨(by (try simp only [true_and, and_true, Nat.sub_zero, Nat.zero_add, Int.toNat_natCast]) <;> omega), ?_⟩
    exact .refl _

/-- what New answers -/
def rat0 : AV := .agg [.f (.bool false), nat 0, nat 0]
theorem AVle.rat0 {sz sz' : Nat} {at_ at' : Nat → List FV} {c c' : Option Nat} : AVle (.agg [.f (.bool false), .f (.sl sz at_ 0 c), .f (.sl sz' at' 0 c')]) rat0 := .agg ⟨.refl _, .nil_nat, .nil_nat, trivial⟩
def newRes (z d : Int) : AV := if d = 0 then .tup [rat0, .f (.bool false)] else .tup [rat (Rat.divInt z d), .f (.bool true)]
theorem New_ok {x y : AV} {z d : Int} {s t : Nat} (hx : IsI x z s) (hy : IsI y d t) (hs : s ≤ 4398046510000) (ht : t ≤ 4398046510000) :
    ACall Tryz.prog 149 [x, y] (newRes z d) := by
  have s1 := iSign_ok hy (by omega)
  have n1 := iNeg_ok hx (by omega)
  have sz := hx.size
  have r1 := fun h m hh hm h0 => reduced_ok hx h m hh hs hm h0
  have r2 := fun h m hh hm h0 => reduced_ok (isI_int (-z) (by rw [isz_neg]; exact sz)) h m hh hs hm h0
  obtain ⟨nx, gx, lx, _, hgx, hlx⟩ := hx
  obtain ⟨nd, h, m, _, hh, hm⟩ := hy
  generalize ival nx (nval gx lx) = z at *
  have hd : ival nd (nval h m) = 0 ↔ nval h m = 0 := by cases nd <;> simp [ival]
  unfold newRes
  by_cases h0 : nval h m = 0
  · rw [if_pos (hd.2 h0)]
    rw [hd.2 h0] at s1
    refine acall_rule env [0, 1, 2, 3, 4, 5, 8, 11] Tryz.func149 rfl rfl rfl rfl ?_
    conv => whnf
    first | refine callF s1 ⟨.refl _, trivial⟩ (by trivial) rfl ?_ | ((repeat (refine ⟨by kernel_rfl, ?_⟩; (conv => whnf))); refine callF s1 ⟨.refl _, trivial⟩ (by trivial) rfl ?_)
    conv => whnf
    refine ⟨(by (try simp only [true_and, and_true, Nat.sub_zero, Nat.zero_add, Int.toNat_natCast]) <;> omega), ?_⟩
    exact .tup ⟨.rat0, .refl _, trivial⟩
  · rw [if_neg (fun h => h0 (hd.1 h))]
    have hb2 : ¬ sgn (ival nd (nval h m)) = 0 := fun h => h0 (hd.1 (sgn_iff.1 h))
    obtain ⟨B, hB⟩ : ∃ B : Int, sgn (ival nd (nval h m)) = B := ⟨_, rfl⟩
    rw [hB] at s1 hb2
    replace r1 := r1 h m hh (by omega) h0
    replace r2 := r2 h m hh (by omega) h0
    cases nd
    · rw [ival_f, Rat.divInt_ofNat]
      refine acall_rule env [0, 1, 2, 3, 4, 5, 8, 11] Tryz.func149 rfl rfl rfl rfl ?_
      conv => whnf
      first | refine callF s1 ⟨.refl _, trivial⟩ (by trivial) rfl ?_ | ((repeat (refine ⟨by kernel_rfl, ?_⟩; (conv => whnf))); refine callF s1 ⟨.refl _, trivial⟩ (by trivial) rfl ?_)
      conv => whnf
      refine splF (by simp only [decide_eq_true_eq, decide_eq_false_iff_not, Bool.not_eq_true', Bool.not_eq_false', gt_iff_lt, ge_iff_le] <;> omega) ?_
      conv => whnf
      first | refine callF r1 ⟨.refl _, .refl _, trivial⟩ (by trivial) rfl ?_ | ((repeat (refine ⟨by kernel_rfl, ?_⟩; (conv => whnf))); refine callF r1 ⟨.refl _, .refl _, trivial⟩ (by trivial) rfl ?_)
      conv => whnf
      (repeat (refine ⟨by kernel_rfl, ?_⟩; (conv => whnf)))
      refine ⟨(by (try simp only [true_and, and_true, Nat.sub_zero, Nat.zero_add, Int.toNat_natCast]) <;> omega), ?_⟩
      exact .refl _
    · rw [ival_t, Rat.divInt_neg', Rat.divInt_ofNat]
      refine acall_rule env [0, 1, 2, 3, 4, 5, 8, 11] Tryz.func149 rfl rfl rfl rfl ?_
      conv => whnf
      first | refine callF s1 ⟨.refl _, trivial⟩ (by trivial) rfl ?_ | ((repeat (refine ⟨by kernel_rfl, ?_⟩; (conv => whnf))); refine callF s1 ⟨.refl _, trivial⟩ (by trivial) rfl ?_)
      conv => whnf
      refine splF (by simp only [decide_eq_true_eq, decide_eq_false_iff_not, Bool.not_eq_true', Bool.not_eq_false', gt_iff_lt, ge_iff_le] <;> omega) ?_
      conv => whnf
      first | refine callF n1 ⟨.refl _, trivial⟩ (by trivial) rfl ?_ | ((repeat (refine ⟨by kernel_rfl, ?_⟩; (conv => whnf))); refine callF n1 ⟨.refl _, trivial⟩ (by trivial) rfl ?_)
      conv => whnf
      first | refine callF r2 ⟨.refl _, .refl _, trivial⟩ (by trivial) rfl ?_ | ((repeat (refine ⟨by kernel_rfl, ?_⟩; (conv => whnf))); refine callF r2 ⟨.refl _, .refl _, trivial⟩ (by trivial) rfl ?_)
      conv => whnf
      (repeat (refine ⟨by kernel_rfl, ?_⟩; (conv => whnf)))
      refine ⟨(by (try simp only [true_and, and_true, Nat.sub_zero, Nat.zero_add, Int.toNat_natCast]) <;> omega), ?_⟩
      exact .refl _
end Go.Abs

/- Rational numbers: arithmetic. -/
set_option autoImplicit false
set_option maxHeartbeats 4000000
set_option maxRecDepth 10000
set_option linter.unusedVariables false
set_option linter.unusedSimpArgs false
namespace Go.Abs
open Go Go.Proofs

theorem reduced_nat {x : AV} {z : Int} {s : Nat} (hx : IsI x z s) (D : Nat) (hs : s ≤ 4398046510000) (hD : size D ≤ 4398046510000) (h0 : D ≠ 0) :
    ACall Tryz.prog 120 [x, nat D] (rat (mkRat z D)) := by
  have := reduced_ok hx (digit D) (size D) (digit_Dig _ _) hs hD (by rw [nval_digit_size]; exact h0)
  rw [nval_digit_size] at this; exact this


theorem qCompare_ok {x y : AV} {a b : Rat} {s t : Nat} (ha : IsR x a s) (hb : IsR y b t) (hs : s + t ≤ 4398046500000) :
    ACall Tryz.prog 44 [x, y] (.f (.int .i64 (rcmp a b))) := by
  obtain ⟨p, P, hp, mp, pa, ip, dp, lp, zp, ep⟩ := parts_ok ha (by omega)
  obtain ⟨r, R, hr, mr, pb, ir, dr, lr, zr, er⟩ := parts_ok hb (by omega)
  have jp := isI_pos dp lp
  have jr := isI_pos dr lr
  have sP := ip.size
  have sR := ir.size
  have sQ := Nat.le_trans (size_nval dp) lp
  have sS := Nat.le_trans (size_nval dr) lr
  have m1 := iMul_ok ip jr (by omega)
  have m2 := iMul_ok ir jp (by omega)
  have k1 := iCompare_ok (isI_int (P * (nval hr mr : Nat)) (isz_mul sP (by rw [isz_nat]; exact sS))) (isI_int (R * (nval hp mp : Nat)) (isz_mul sR (by rw [isz_nat]; exact sQ))) (by omega) (by omega)
  rw [rcmp_cross P R _ _ zp zr] at k1
  rw [ep, er]
  clear ep er
  obtain ⟨na, ga, n, ga', n', _, hga, hga', hn, hn', h1⟩ := ha
  obtain ⟨nb, gb, m, gb', m', _, hgb, hgb', hm, hm', h2⟩ := hb
  obtain ⟨np, gp, kp, _, hgp, hkp⟩ := ip
  obtain ⟨nr, gr, kr, _, hgr, hkr⟩ := ir
  generalize ival np (nval gp kp) = P at *
  generalize ival nr (nval gr kr) = R at *
  refine acall_rule env [0, 1, 2, 3, 4, 5, 6, 7, 8] Tryz.func44 rfl rfl rfl rfl ?_
  conv => whnf
  first | refine callF pa ⟨.refl _, trivial⟩ (by trivial) rfl ?_ | ((repeat (refine ⟨by kernel_rfl, ?_⟩; (conv => whnf))); refine callF pa ⟨.refl _, trivial⟩ (by trivial) rfl ?_)
  conv => whnf
  first | refine callF pb ⟨.refl _, trivial⟩ (by trivial) rfl ?_ | ((repeat (refine ⟨by kernel_rfl, ?_⟩; (conv => whnf))); refine callF pb ⟨.refl _, trivial⟩ (by trivial) rfl ?_)
  conv => whnf
  first | refine callF m1 ⟨.refl _, .refl _, trivial⟩ (by trivial) rfl ?_ | ((repeat (refine ⟨by kernel_rfl, ?_⟩; (conv => whnf))); refine callF m1 ⟨.refl _, .refl _, trivial⟩ (by trivial) rfl ?_)
  conv => whnf
  first | refine callF m2 ⟨.refl _, .refl _, trivial⟩ (by trivial) rfl ?_ | ((repeat (refine ⟨by kernel_rfl, ?_⟩; (conv => whnf))); refine callF m2 ⟨.refl _, .refl _, trivial⟩ (by trivial) rfl ?_)
  conv => whnf
  first | refine callF k1 ⟨.refl _, .refl _, trivial⟩ (by trivial) rfl ?_ | ((repeat (refine ⟨by kernel_rfl, ?_⟩; (conv => whnf))); refine callF k1 ⟨.refl _, .refl _, trivial⟩ (by trivial) rfl ?_)
  conv => whnf
  (repeat (refine ⟨by kernel_rfl, ?_⟩; (conv => whnf)))
  refine ⟨(by (try simp only [true_and, and_true, Nat.sub_zero, Nat.zero_add, Int.toNat_natCast]) <;> omega), ?_⟩
  exact .refl _

theorem qAdd_ok {x y : AV} {a b : Rat} {s t : Nat} (ha : IsR x a s) (hb : IsR y b t) (hs : s + t ≤ 4398046500000) :
    ACall Tryz.prog 82 [x, y] (rat (a + b)) := by
  obtain ⟨p, P, hp, mp, pa, ip, dp, lp, zp, ep⟩ := parts_ok ha (by omega)
  obtain ⟨r, R, hr, mr, pb, ir, dr, lr, zr, er⟩ := parts_ok hb (by omega)
  have jp := isI_pos dp lp
  have jr := isI_pos dr lr
  have sP := ip.size
  have sR := ir.size
  have sQ := Nat.le_trans (size_nval dp) lp
  have sS := Nat.le_trans (size_nval dr) lr
  have c1 := Compare_ok hp hr mp mr dp dr (by omega) (by omega)
  have a1 := iAdd_ok ip ir (by omega) (by omega)
  have m1 := iMul_ok ip jr (by omega)
  have m2 := iMul_ok ir jp (by omega)
  have zm1 := isz_mul sP (show isz (nval hr mr : Nat) ≤ t by rw [isz_nat]; exact sS)
  have zm2 := isz_mul sR (show isz (nval hp mp : Nat) ≤ s by rw [isz_nat]; exact sQ)
  have a2 := iAdd_ok (isI_int _ zm1) (isI_int _ zm2) (by omega) (by omega)
  have za1 := isz_add sP sR
  have za2 := isz_add zm1 zm2
  have m3 := Mul_ok hp hr mp mr dp dr (by omega)
  have zm3 := size_mul2 sQ sS
  have r1 := reduced_ok (isI_int _ za1) hp mp dp (by omega) (by omega) zp
  have r2 := reduced_nat (isI_int _ za2) _ (by omega) (Nat.le_trans zm3 (by omega)) (Nat.mul_ne_zero zp zr)
  have e := Rat.mkRat_add_mkRat P R zp zr
  rw [ep, er]
  clear ep er
  obtain ⟨na, ga, n, ga', n', _, hga, hga', hn, hn', h1⟩ := ha
  obtain ⟨nb, gb, m, gb', m', _, hgb, hgb', hm, hm', h2⟩ := hb
  obtain ⟨np, gp, kp, _, hgp, hkp⟩ := ip
  obtain ⟨nr, gr, kr, _, hgr, hkr⟩ := ir
  generalize ival np (nval gp kp) = P at *
  generalize ival nr (nval gr kr) = R at *
  rw [e]
  by_cases h : nval hp mp = nval hr mr
  · have e2 : mkRat (P * (nval hr mr : Nat) + R * (nval hp mp : Nat)) (nval hp mp * nval hr mr) = mkRat (P + R) (nval hp mp) := by
      rw [h, ← Int.add_mul, Rat.mkRat_mul_right (by rw [← h]; exact zp)]
    rw [e2]
    rw [show cmp (nval hp mp) (nval hr mr) = 0 by rw [h]; simp [cmp]] at c1
    refine acall_rule env [0, 1, 2, 3, 4, 5, 6, 7, 8, 24] Tryz.func82 rfl rfl rfl rfl ?_
    conv => whnf
    first | refine callF pa ⟨.refl _, trivial⟩ (by trivial) rfl ?_ | ((repeat (refine ⟨by kernel_rfl, ?_⟩; (conv => whnf))); refine callF pa ⟨.refl _, trivial⟩ (by trivial) rfl ?_)
    conv => whnf
    first | refine callF pb ⟨.refl _, trivial⟩ (by trivial) rfl ?_ | ((repeat (refine ⟨by kernel_rfl, ?_⟩; (conv => whnf))); refine callF pb ⟨.refl _, trivial⟩ (by trivial) rfl ?_)
    conv => whnf
    first | refine callF c1 ⟨.refl _, .refl _, trivial⟩ (by trivial) rfl ?_ | ((repeat (refine ⟨by kernel_rfl, ?_⟩; (conv => whnf))); refine callF c1 ⟨.refl _, .refl _, trivial⟩ (by trivial) rfl ?_)
    conv => whnf
    first | refine callF a1 ⟨.refl _, .refl _, trivial⟩ (by trivial) rfl ?_ | ((repeat (refine ⟨by kernel_rfl, ?_⟩; (conv => whnf))); refine callF a1 ⟨.refl _, .refl _, trivial⟩ (by trivial) rfl ?_)
    conv => whnf
    first | refine callF r1 ⟨.refl _, .refl _, trivial⟩ (by trivial) rfl ?_ | ((repeat (refine ⟨by kernel_rfl, ?_⟩; (conv => whnf))); refine callF r1 ⟨.refl _, .refl _, trivial⟩ (by trivial) rfl ?_)
    conv => whnf
    (repeat (refine ⟨by kernel_rfl, ?_⟩; (conv => whnf)))
    refine ⟨(by (try simp only [true_and, and_true, Nat.sub_zero, Nat.zero_add, Int.toNat_natCast]) <;> omega), ?_⟩
    exact .refl _
  · have hc : ¬ cmp (nval hp mp) (nval hr mr) = 0 := by
      unfold cmp; repeat' split
      all_goals omega
    obtain ⟨C, hC⟩ : ∃ C : Int, cmp (nval hp mp) (nval hr mr) = C := ⟨_, rfl⟩
    rw [hC] at c1 hc
    refine acall_rule env [0, 1, 2, 3, 4, 5, 6, 7, 8, 24] Tryz.func82 rfl rfl rfl rfl ?_
    conv => whnf
    first | refine callF pa ⟨.refl _, trivial⟩ (by trivial) rfl ?_ | ((repeat (refine ⟨by kernel_rfl, ?_⟩; (conv => whnf))); refine callF pa ⟨.refl _, trivial⟩ (by trivial) rfl ?_)
    conv => whnf
    first | refine callF pb ⟨.refl _, trivial⟩ (by trivial) rfl ?_ | ((repeat (refine ⟨by kernel_rfl, ?_⟩; (conv => whnf))); refine callF pb ⟨.refl _, trivial⟩ (by trivial) rfl ?_)
    conv => whnf
    first | refine callF c1 ⟨.refl _, .refl _, trivial⟩ (by trivial) rfl ?_ | ((repeat (refine ⟨by kernel_rfl, ?_⟩; (conv => whnf))); refine callF c1 ⟨.refl _, .refl _, trivial⟩ (by trivial) rfl ?_)
    conv => whnf
    refine splF (by simp only [decide_eq_true_eq, decide_eq_false_iff_not, Bool.not_eq_true', Bool.not_eq_false', gt_iff_lt, ge_iff_le] <;> omega) ?_
    conv => whnf
    first | refine callF m1 ⟨.refl _, .refl _, trivial⟩ (by trivial) rfl ?_ | ((repeat (refine ⟨by kernel_rfl, ?_⟩; (conv => whnf))); refine callF m1 ⟨.refl _, .refl _, trivial⟩ (by trivial) rfl ?_)
    conv => whnf
    first | refine callF m2 ⟨.refl _, .refl _, trivial⟩ (by trivial) rfl ?_ | ((repeat (refine ⟨by kernel_rfl, ?_⟩; (conv => whnf))); refine callF m2 ⟨.refl _, .refl _, trivial⟩ (by trivial) rfl ?_)
    conv => whnf
    first | refine callF a2 ⟨.refl _, .refl _, trivial⟩ (by trivial) rfl ?_ | ((repeat (refine ⟨by kernel_rfl, ?_⟩; (conv => whnf))); refine callF a2 ⟨.refl _, .refl _, trivial⟩ (by trivial) rfl ?_)
    conv => whnf
    first | refine callF m3 ⟨.refl _, .refl _, trivial⟩ (by trivial) rfl ?_ | ((repeat (refine ⟨by kernel_rfl, ?_⟩; (conv => whnf))); refine callF m3 ⟨.refl _, .refl _, trivial⟩ (by trivial) rfl ?_)
    conv => whnf
    first | refine callF r2 ⟨.refl _, .refl _, trivial⟩ (by trivial) rfl ?_ | ((repeat (refine ⟨by kernel_rfl, ?_⟩; (conv => whnf))); refine callF r2 ⟨.refl _, .refl _, trivial⟩ (by trivial) rfl ?_)
    conv => whnf
    (repeat (refine ⟨by kernel_rfl, ?_⟩; (conv => whnf)))
    refine ⟨(by (try simp only [true_and, and_true, Nat.sub_zero, Nat.zero_add, Int.toNat_natCast]) <;> omega), ?_⟩
    exact .refl _

theorem qSub_ok {x y : AV} {a b : Rat} {s t : Nat} (ha : IsR x a s) (hb : IsR y b t) (hs : s + t ≤ 4398046500000) :
    ACall Tryz.prog 122 [x, y] (rat (a - b)) := by
  obtain ⟨nb, gb, m, gb', m', _, hgb, hgb', hm, hm', h2⟩ := hb
  have a1 := qAdd_ok ha (IsR.mk (!nb) gb m gb' m' t hgb hgb' hm hm' h2) hs
  rw [show ival (!nb) (nval gb m) = -ival nb (nval gb m) by cases nb <;> simp [ival], ← Rat.neg_mkRat, ← Rat.sub_eq_add_neg] at a1
  generalize mkRat (ival nb (nval gb m)) (nval gb' m') = b at *
  obtain ⟨na, ga, n, ga', n', _, hga, hga', hn, hn', h1⟩ := ha
  generalize mkRat (ival na (nval ga n)) (nval ga' n') = a at *
  refine acall_rule env [0, 1, 2, 3, 4] Tryz.func122 rfl rfl rfl rfl ?_
  conv => whnf
  first | refine callF a1 ⟨.refl _, .refl _, trivial⟩ (by trivial) rfl ?_ | ((repeat (refine ⟨by kernel_rfl, ?_⟩; (conv => whnf))); refine callF a1 ⟨.refl _, .refl _, trivial⟩ (by trivial) rfl ?_)
  conv => whnf
  (repeat (refine ⟨by kernel_rfl, ?_⟩; (conv => whnf)))
  refine ⟨(by (try simp only [true_and, and_true, Nat.sub_zero, Nat.zero_add, Int.toNat_natCast]) <;> omega), ?_⟩
  exact .refl _

theorem qMul_ok {x y : AV} {a b : Rat} {s t : Nat} (ha : IsR x a s) (hb : IsR y b t) (hs : s + t ≤ 4398046500000) :
    ACall Tryz.prog 83 [x, y] (rat (a * b)) := by
  obtain ⟨p, P, hp, mp, pa, ip, dp, lp, zp, ep⟩ := parts_ok ha (by omega)
  obtain ⟨r, R, hr, mr, pb, ir, dr, lr, zr, er⟩ := parts_ok hb (by omega)
  have jp := isI_pos dp lp
  have jr := isI_pos dr lr
  have sP := ip.size
  have sR := ir.size
  have sQ := Nat.le_trans (size_nval dp) lp
  have sS := Nat.le_trans (size_nval dr) lr
  have m1 := iMul_ok ip ir (by omega)
  have zm1 := isz_mul sP sR
  have m3 := Mul_ok hp hr mp mr dp dr (by omega)
  have zm3 := size_mul2 sQ sS
  have r2 := reduced_nat (isI_int _ zm1) _ (by omega) (Nat.le_trans zm3 (by omega)) (Nat.mul_ne_zero zp zr)
  rw [← Rat.mkRat_mul_mkRat] at r2
  rw [ep, er]
  clear ep er
  obtain ⟨na, ga, n, ga', n', _, hga, hga', hn, hn', h1⟩ := ha
  obtain ⟨nb, gb, m, gb', m', _, hgb, hgb', hm, hm', h2⟩ := hb
  obtain ⟨np, gp, kp, _, hgp, hkp⟩ := ip
  obtain ⟨nr, gr, kr, _, hgr, hkr⟩ := ir
  generalize ival np (nval gp kp) = P at *
  generalize ival nr (nval gr kr) = R at *
  refine acall_rule env [0, 1, 2, 3, 4, 5, 6, 7, 8] Tryz.func83 rfl rfl rfl rfl ?_
  conv => whnf
  first | refine callF pa ⟨.refl _, trivial⟩ (by trivial) rfl ?_ | ((repeat (refine ⟨by kernel_rfl, ?_⟩; (conv => whnf))); refine callF pa ⟨.refl _, trivial⟩ (by trivial) rfl ?_)
  conv => whnf
  first | refine callF pb ⟨.refl _, trivial⟩ (by trivial) rfl ?_ | ((repeat (refine ⟨by kernel_rfl, ?_⟩; (conv => whnf))); refine callF pb ⟨.refl _, trivial⟩ (by trivial) rfl ?_)
  conv => whnf
  first | refine callF m1 ⟨.refl _, .refl _, trivial⟩ (by trivial) rfl ?_ | ((repeat (refine ⟨by kernel_rfl, ?_⟩; (conv => whnf))); refine callF m1 ⟨.refl _, .refl _, trivial⟩ (by trivial) rfl ?_)
  conv => whnf
  first | refine callF m3 ⟨.refl _, .refl _, trivial⟩ (by trivial) rfl ?_ | ((repeat (refine ⟨by kernel_rfl, ?_⟩; (conv => whnf))); refine callF m3 ⟨.refl _, .refl _, trivial⟩ (by trivial) rfl ?_)
  conv => whnf
  first | refine callF r2 ⟨.refl _, .refl _, trivial⟩ (by trivial) rfl ?_ | ((repeat (refine ⟨by kernel_rfl, ?_⟩; (conv => whnf))); refine callF r2 ⟨.refl _, .refl _, trivial⟩ (by trivial) rfl ?_)
  conv => whnf
  (repeat (refine ⟨by kernel_rfl, ?_⟩; (conv => whnf)))
  refine ⟨(by (try simp only [true_and, and_true, Nat.sub_zero, Nat.zero_add, Int.toNat_natCast]) <;> omega), ?_⟩
  exact .refl _

def invRes (a : Rat) : AV := if a = 0 then .tup [rat0, .f (.bool false)] else .tup [rat a⁻¹, .f (.bool true)]
def qdivRes (a b : Rat) : AV := if b = 0 then .tup [rat0, .f (.bool false)] else .tup [rat (a / b), .f (.bool true)]

end Go.Abs

/- Rational numbers: Min, Max, roundings, Size. -/
set_option autoImplicit false
set_option maxHeartbeats 4000000
set_option maxRecDepth 10000
set_option linter.unusedVariables false
set_option linter.unusedSimpArgs false
namespace Go.Abs
open Go Go.Proofs

def rmin (a b : Rat) : Rat := if rcmp a b ≤ 0 then a else b
def rmax (a b : Rat) : Rat := if 0 ≤ rcmp a b then a else b



theorem qFloor_ok {x : AV} {a : Rat} {s : Nat} (ha : IsR x a s) (hs : s ≤ 4398046500000) : ACall Tryz.prog 146 [x] (int a.floor) := by
  obtain ⟨p, P, hp, mp, pa, ip, dp, lp, zp, ep⟩ := parts_ok ha (by omega)
  have d1 := iDivMod_ok ip (isI_pos dp lp) (by omega) (by omega)
  unfold idivRes at d1
  rw [if_neg (by omega), ← mk_floor P zp, ← ep] at d1
  clear ep
  obtain ⟨na, ga, n, ga', n', _, hga, hga', hn, hn', h1⟩ := ha
  generalize mkRat (ival na (nval ga n)) (nval ga' n') = a at *
  obtain ⟨np, gp, kp, _, hgp, hkp⟩ := ip
  refine acall_rule env [0, 1, 2, 3, 4, 5] Tryz.func146 rfl rfl rfl rfl ?_
  conv => whnf
  first | refine callF pa ⟨.refl _, trivial⟩ (by trivial) rfl ?_ | ((repeat (refine ⟨by kernel_rfl, ?_⟩; (conv => whnf))); refine callF pa ⟨.refl _, trivial⟩ (by trivial) rfl ?_)
  conv => whnf
  first | refine callF d1 ⟨.refl _, .refl _, trivial⟩ (by trivial) rfl ?_ | ((repeat (refine ⟨by kernel_rfl, ?_⟩; (conv => whnf))); refine callF d1 ⟨.refl _, .refl _, trivial⟩ (by trivial) rfl ?_)
  conv => whnf
  (repeat (refine ⟨by kernel_rfl, ?_⟩; (conv => whnf)))
  refine ⟨(by (try simp only [true_and, and_true, Nat.sub_zero, Nat.zero_add, Int.toNat_natCast]) <;> omega), ?_⟩
  exact .refl _
theorem odd_abs (z : Int) : (digit z.natAbs 0 % 2 = 1) ↔ z % 2 = 1 := by
  unfold digit
  rw [pw_zero, Nat.div_one]
  omega
theorem bitlen_size_le (N : Nat) : bitlen N ≤ 32 * size N := by
  refine bitlen_le ?_
  rw [← pw_two]
  exact lt_pw_size N
end Go.Abs

/- The reference's rational numbers: Make, Norm. -/
set_option autoImplicit false
set_option maxHeartbeats 4000000
set_option maxRecDepth 10000
set_option linter.unusedVariables false
set_option linter.unusedSimpArgs false
namespace Go.Abs
open Go Go.Proofs

theorem AVle.nat_one {at_ : Nat → List FV} {c : Option Nat} (h : at_ 0 = [.int .u32 1]) : AVle (.f (.sl 1 at_ 1 c)) (nat 1) := by
  have : nat 1 = .f (.sl 1 (fun j => [.int .u32 (digit 1 j : Nat)]) 1 none) := by unfold nat; rw [size_one]
  rw [this]
  refine .f (.sl (fun i hi => ?_) (.inl rfl))
  obtain rfl : i = 0 := by omega
  rw [h, show digit 1 0 = 1 by decide]
  exact ⟨.refl _, trivial⟩
theorem sZero_ok : ACall Tryz.prog 46 [] (rat 0) := by
  refine acall_rule env [0] Tryz.func46 rfl rfl rfl rfl ?_
  conv => whnf
  refine ⟨?_, ?_⟩
  · decide
  · exact .agg ⟨.refl _, .nil_nat, .nat_one rfl, trivial⟩

theorem int_minus (n : Nat) (h : n ≠ 0) : int (-(n : Int)) = .agg [.f (.bool true), nat n] := by
  unfold int
  rw [decide_eq_true (by omega), Int.natAbs_neg, Int.natAbs_natCast]

theorem sMake_ok {x y : AV} {z d : Int} {s t : Nat} (hx : IsI x z s) (hy : IsI y d t) (hs : s ≤ 4398046500000) (ht : t ≤ 4398046500000) :
    ACall Tryz.prog 50 [x, y] (rat (Rat.divInt z d)) := by
  have s1 := rSign_ok hy (by omega)
  have n1 := rNorm_ok hy (by omega)
  have n2 := rNorm_ok hx (by omega)
  have g1 := rGCD_ok hx hy (by omega) (by omega)
  have q1 := refEqual_nn d.natAbs 1 (Nat.le_trans hy.size (by omega))
  have sx := hx.size
  have sy := hy.size
  have sG : d ≠ 0 → size (Nat.gcd z.natAbs d.natAbs) ≤ t := fun h => size_le_of (Nat.gcd_le_right _ (by omega)) sy
  have d1 := fun h => rDivMod_ok hx (isI_int (Nat.gcd z.natAbs d.natAbs : Nat) (by rw [isz_nat]; exact sG h)) (by omega) (by omega)
  have d2 := fun h => rDivMod_ok hy (isI_int (Nat.gcd z.natAbs d.natAbs : Nat) (by rw [isz_nat]; exact sG h)) (by omega) (by omega)
  obtain ⟨nx, gx, lx, _, hgx, hlx⟩ := hx
  obtain ⟨ny, gy, ly, _, hgy, hly⟩ := hy
  generalize ival nx (nval gx lx) = z at *
  generalize ival ny (nval gy ly) = d at *
  have z0 := sZero_ok
  by_cases h0 : d = 0
  · subst h0
    rw [Rat.divInt_zero]
    refine acall_rule env [0, 1, 2, 3, 4, 5, 6, 7, 10, 15, 27, 51] Tryz.func50 rfl rfl rfl rfl ?_
    conv => whnf
    first | refine callF s1 ⟨.refl _, trivial⟩ (by trivial) rfl ?_ | ((repeat (refine ⟨by kernel_rfl, ?_⟩; (conv => whnf))); refine callF s1 ⟨.refl _, trivial⟩ (by trivial) rfl ?_)
    conv => whnf
    first | refine callF z0 trivial (by trivial) rfl ?_ | ((repeat (refine ⟨by kernel_rfl, ?_⟩; (conv => whnf))); refine callF z0 trivial (by trivial) rfl ?_)
    conv => whnf
    (repeat (refine ⟨by kernel_rfl, ?_⟩; (conv => whnf)))
    refine ⟨(by (try simp only [true_and, and_true, Nat.sub_zero, Nat.zero_add, Int.toNat_natCast]) <;> omega), ?_⟩
    exact .refl _
  have hs0 : ¬ sgn d = 0 := fun h => h0 (sgn_iff.1 h)
  obtain ⟨S, hS⟩ : ∃ S, sgn d = S := ⟨_, rfl⟩
  rw [hS] at s1 hs0
  clear hS
  replace d1 := d1 h0
  replace d2 := d2 h0
  unfold idivRes at d1 d2
  have hG0 : ((Nat.gcd z.natAbs d.natAbs : Nat) : Int) ≠ 0 := by
    have : 0 < Nat.gcd z.natAbs d.natAbs := Nat.gcd_pos_of_pos_right _ (by omega)
    omega
  rw [if_neg hG0] at d1 d2
  by_cases hd : d < 0
  · obtain ⟨D, rfl⟩ : ∃ D : Nat, d = -(D : Int) := ⟨d.natAbs, by omega⟩
    have hD : D ≠ 0 := by omega
    rw [Int.natAbs_neg, Int.natAbs_natCast] at *
    rw [Rat.divInt_neg', Rat.divInt_ofNat]
    rw [int_minus D hD] at n1
    have e1 : -(z / ((Nat.gcd z.natAbs D : Nat) : Int)) = (mkRat (-z) D).num := by
      rw [Rat.num_mkRat, if_neg hD, Int.natAbs_neg, Nat.gcd_comm D, Int.neg_ediv_of_dvd (Rat.normalize.dvd_num rfl)]
    have e2 : -(D : Int) / ((Nat.gcd z.natAbs D : Nat) : Int) = -(((mkRat (-z) D).den : Nat) : Int) := by
      rw [Rat.den_mkRat, if_neg hD, Int.natAbs_neg, Nat.gcd_comm D, Int.natCast_ediv, Int.neg_ediv_of_dvd]
      exact Int.natCast_dvd_natCast.2 (Nat.gcd_dvd_right _ _)
    have hden := (mkRat (-z) D).den_nz
    have sq := rsz_mk (-z) D (s := max s t + 1) (by rw [isz_neg]; omega) (by have := sy; rw [isz_neg, isz_nat] at this; omega) (by omega)
    rw [e2, int_minus _ hden] at d2
    have e3 : z / ((Nat.gcd z.natAbs D : Nat) : Int) = -(mkRat (-z) D).num := by rw [← e1]; omega
    rw [e3] at d1
    generalize mkRat (-z) D = q at *
    have r1 := rNeg_ok (isI_int (-q.num) (s := max s t + 1) (by rw [isz_neg]; exact rsz_num sq)) (by omega)
    have r2 := rNeg_ok (isI_int (-(q.den : Int)) (s := max s t + 1) (by rw [isz_neg, isz_nat]; exact rsz_den sq)) (by omega)
    rw [Int.neg_neg] at r1 r2
    rw [int_minus _ hden, int_nonneg] at r2
    refine acall_rule env [0, 1, 2, 3, 4, 5, 6, 7, 10, 15, 27, 51] Tryz.func50 rfl rfl rfl rfl ?_
    conv => whnf
    first | refine callF s1 ⟨.refl _, trivial⟩ (by trivial) rfl ?_ | ((repeat (refine ⟨by kernel_rfl, ?_⟩; (conv => whnf))); refine callF s1 ⟨.refl _, trivial⟩ (by trivial) rfl ?_)
    conv => whnf
    refine splF (by simp only [decide_eq_true_eq, decide_eq_false_iff_not, Bool.not_eq_true', Bool.not_eq_false', gt_iff_lt, ge_iff_le] <;> omega) ?_
    conv => whnf
    first | refine callF n1 ⟨.refl _, trivial⟩ (by trivial) rfl ?_ | ((repeat (refine ⟨by kernel_rfl, ?_⟩; (conv => whnf))); refine callF n1 ⟨.refl _, trivial⟩ (by trivial) rfl ?_)
    conv => whnf
    first | refine callF g1 ⟨.refl _, .refl _, trivial⟩ (by trivial) rfl ?_ | ((repeat (refine ⟨by kernel_rfl, ?_⟩; (conv => whnf))); refine callF g1 ⟨.refl _, .refl _, trivial⟩ (by trivial) rfl ?_)
    conv => whnf
    first | refine callF d1 ⟨.refl _, .refl _, trivial⟩ (by trivial) rfl ?_ | ((repeat (refine ⟨by kernel_rfl, ?_⟩; (conv => whnf))); refine callF d1 ⟨.refl _, .refl _, trivial⟩ (by trivial) rfl ?_)
    conv => whnf
    first | refine callF d2 ⟨.refl _, .refl _, trivial⟩ (by trivial) rfl ?_ | ((repeat (refine ⟨by kernel_rfl, ?_⟩; (conv => whnf))); refine callF d2 ⟨.refl _, .refl _, trivial⟩ (by trivial) rfl ?_)
    conv => whnf
    first | refine callF r1 ⟨.refl _, trivial⟩ (by trivial) rfl ?_ | ((repeat (refine ⟨by kernel_rfl, ?_⟩; (conv => whnf))); refine callF r1 ⟨.refl _, trivial⟩ (by trivial) rfl ?_)
    conv => whnf
    first | refine callF r2 ⟨.refl _, trivial⟩ (by trivial) rfl ?_ | ((repeat (refine ⟨by kernel_rfl, ?_⟩; (conv => whnf))); refine callF r2 ⟨.refl _, trivial⟩ (by trivial) rfl ?_)
    conv => whnf
    (repeat (refine ⟨by kernel_rfl, ?_⟩; (conv => whnf)))
    refine ⟨(by (try simp only [true_and, and_true, Nat.sub_zero, Nat.zero_add, Int.toNat_natCast]) <;> omega), ?_⟩
    exact .refl _
  · obtain ⟨D, rfl⟩ : ∃ D : Nat, d = (D : Int) := ⟨d.natAbs, by omega⟩
    have hD : D ≠ 0 := by omega
    rw [Int.natAbs_natCast] at *
    rw [Rat.divInt_ofNat]
    rw [int_nonneg] at n1
    by_cases h1 : D = 1
    · subst h1
      rw [decide_eq_true rfl] at q1
      have e : rat (mkRat z 1) = .agg [.f (.bool (decide (z < 0))), nat z.natAbs, nat 1] := by
        rw [mk_rat z hD, Nat.gcd_one_right, Nat.div_one, Nat.div_one]
      rw [e]
      refine acall_rule env [0, 1, 2, 3, 4, 5, 6, 7, 10, 15, 27, 51] Tryz.func50 rfl rfl rfl rfl ?_
      conv => whnf
      first | refine callF s1 ⟨.refl _, trivial⟩ (by trivial) rfl ?_ | ((repeat (refine ⟨by kernel_rfl, ?_⟩; (conv => whnf))); refine callF s1 ⟨.refl _, trivial⟩ (by trivial) rfl ?_)
      conv => whnf
      refine splF (by simp only [decide_eq_true_eq, decide_eq_false_iff_not, Bool.not_eq_true', Bool.not_eq_false', gt_iff_lt, ge_iff_le] <;> omega) ?_
      conv => whnf
      first | refine callF n1 ⟨.refl _, trivial⟩ (by trivial) rfl ?_ | ((repeat (refine ⟨by kernel_rfl, ?_⟩; (conv => whnf))); refine callF n1 ⟨.refl _, trivial⟩ (by trivial) rfl ?_)
      conv => whnf
      refine callF q1 ⟨.refl _, .nat_one rfl, trivial⟩ ?_ rfl ?_
      conv => whnf
      · decide
      first | refine callF n2 ⟨.refl _, trivial⟩ (by trivial) rfl ?_ | ((repeat (refine ⟨by kernel_rfl, ?_⟩; (conv => whnf))); refine callF n2 ⟨.refl _, trivial⟩ (by trivial) rfl ?_)
      conv => whnf
      (repeat (refine ⟨by kernel_rfl, ?_⟩; (conv => whnf)))
      refine ⟨(by (try simp only [true_and, and_true, Nat.sub_zero, Nat.zero_add, Int.toNat_natCast]) <;> omega), ?_⟩
      exact .refl _
    have e1 : z / ((Nat.gcd z.natAbs D : Nat) : Int) = (mkRat z D).num := by
      rw [Rat.num_mkRat, if_neg hD, Nat.gcd_comm]
    have e2 : (D : Int) / ((Nat.gcd z.natAbs D : Nat) : Int) = (((mkRat z D).den : Nat) : Int) := by
      rw [Rat.den_mkRat, if_neg hD, Nat.gcd_comm, Int.natCast_ediv]
    rw [e2, int_nonneg] at d2
    rw [e1] at d1
    generalize mkRat z D = q at *
    rw [decide_eq_false h1] at q1
    refine acall_rule env [0, 1, 2, 3, 4, 5, 6, 7, 10, 15, 27, 51] Tryz.func50 rfl rfl rfl rfl ?_
    conv => whnf
    first | refine callF s1 ⟨.refl _, trivial⟩ (by trivial) rfl ?_ | ((repeat (refine ⟨by kernel_rfl, ?_⟩; (conv => whnf))); refine callF s1 ⟨.refl _, trivial⟩ (by trivial) rfl ?_)
    conv => whnf
    refine splF (by simp only [decide_eq_true_eq, decide_eq_false_iff_not, Bool.not_eq_true', Bool.not_eq_false', gt_iff_lt, ge_iff_le] <;> omega) ?_
    conv => whnf
    first | refine callF n1 ⟨.refl _, trivial⟩ (by trivial) rfl ?_ | ((repeat (refine ⟨by kernel_rfl, ?_⟩; (conv => whnf))); refine callF n1 ⟨.refl _, trivial⟩ (by trivial) rfl ?_)
    conv => whnf
    refine callF q1 ⟨.refl _, .nat_one rfl, trivial⟩ ?_ rfl ?_
    conv => whnf
    · decide
    first | refine callF g1 ⟨.refl _, .refl _, trivial⟩ (by trivial) rfl ?_ | ((repeat (refine ⟨by kernel_rfl, ?_⟩; (conv => whnf))); refine callF g1 ⟨.refl _, .refl _, trivial⟩ (by trivial) rfl ?_)
    conv => whnf
    first | refine callF d1 ⟨.refl _, .refl _, trivial⟩ (by trivial) rfl ?_ | ((repeat (refine ⟨by kernel_rfl, ?_⟩; (conv => whnf))); refine callF d1 ⟨.refl _, .refl _, trivial⟩ (by trivial) rfl ?_)
    conv => whnf
    first | refine callF d2 ⟨.refl _, .refl _, trivial⟩ (by trivial) rfl ?_ | ((repeat (refine ⟨by kernel_rfl, ?_⟩; (conv => whnf))); refine callF d2 ⟨.refl _, .refl _, trivial⟩ (by trivial) rfl ?_)
    conv => whnf
    (repeat (refine ⟨by kernel_rfl, ?_⟩; (conv => whnf)))
    refine ⟨(by (try simp only [true_and, and_true, Nat.sub_zero, Nat.zero_add, Int.toNat_natCast]) <;> omega), ?_⟩
    exact .refl _
end Go.Abs

/- The reference's rational numbers. -/
set_option autoImplicit false
set_option maxHeartbeats 4000000
set_option maxRecDepth 10000
set_option linter.unusedVariables false
set_option linter.unusedSimpArgs false
namespace Go.Abs
open Go Go.Proofs


theorem divInt_one (v : Int) : Rat.divInt v 1 = (v : Rat) := by
  show Rat.divInt v ((1 : Nat) : Int) = _
  rw [Rat.divInt_ofNat]; exact Rat.mkRat_self (v : Rat)
theorem sNorm_ok {x : AV} {a : Rat} {s : Nat} (ha : IsR x a s) (hs : s ≤ 4398046500000) : ACall Tryz.prog 49 [x] (rat a) := by
  obtain ⟨na, ga, n, ga', n', _, hga, hga', hn, hn', h1⟩ := ha
  have m := sMake_ok (.mk na ga n s hga hn) (isI_pos hga' hn') hs hs
  rw [Rat.divInt_ofNat] at m
  generalize mkRat (ival na (nval ga n)) (nval ga' n') = a at *
  refine acall_rule env [0, 1, 2] Tryz.func49 rfl rfl rfl rfl ?_
  conv => whnf
  first | refine callF m ⟨.refl _, .refl _, trivial⟩ (by trivial) rfl ?_ | ((repeat (refine ⟨by kernel_rfl, ?_⟩; (conv => whnf))); refine callF m ⟨.refl _, .refl _, trivial⟩ (by trivial) rfl ?_)
  conv => whnf
  (repeat (refine ⟨by kernel_rfl, ?_⟩; (conv => whnf)))
  refine ⟨(by (try simp only [true_and, and_true, Nat.sub_zero, Nat.zero_add, Int.toNat_natCast]) <;> omega), ?_⟩
  exact .refl _
theorem sEqual_ok (a b : Rat) (h : rsz a ≤ 4398046500000) : ACall Tryz.prog 61 [rat a, rat b] (.f (.bool (decide (a = b)))) := by
  have e1 := rEqual_ii a.num b.num (Nat.le_trans (rsz_num h) (by omega))
  have e2 := refEqual_nn a.den b.den (Nat.le_trans (rsz_den h) (by omega))
  have hab : a = b ↔ a.num = b.num ∧ a.den = b.den := ⟨fun h => by rw [h]; exact ⟨rfl, rfl⟩, fun h => Rat.ext h.1 h.2⟩
  by_cases h1 : a.num = b.num
  · rw [show decide (a = b) = decide (a.den = b.den) by simp only [hab, h1, true_and]]
    rw [decide_eq_true h1] at e1
    refine acall_rule env [0, 1, 2, 3, 4] Tryz.func61 rfl rfl rfl rfl ?_
    conv => whnf
    first | refine callF e1 ⟨.refl _, .refl _, trivial⟩ (by trivial) rfl ?_ | ((repeat (refine ⟨by kernel_rfl, ?_⟩; (conv => whnf))); refine callF e1 ⟨.refl _, .refl _, trivial⟩ (by trivial) rfl ?_)
    conv => whnf
    first | refine callF e2 ⟨.refl _, .refl _, trivial⟩ (by trivial) rfl ?_ | ((repeat (refine ⟨by kernel_rfl, ?_⟩; (conv => whnf))); refine callF e2 ⟨.refl _, .refl _, trivial⟩ (by trivial) rfl ?_)
    conv => whnf
    (repeat (refine ⟨by kernel_rfl, ?_⟩; (conv => whnf)))
    refine ⟨(by (try simp only [true_and, and_true, Nat.sub_zero, Nat.zero_add, Int.toNat_natCast]) <;> omega), ?_⟩
    exact .refl _
  · rw [show decide (a = b) = false by simp only [hab, h1, false_and, decide_false]]
    rw [decide_eq_false h1] at e1
    refine acall_rule env [0, 1, 2, 3, 4] Tryz.func61 rfl rfl rfl rfl ?_
    conv => whnf
    first | refine callF e1 ⟨.refl _, .refl _, trivial⟩ (by trivial) rfl ?_ | ((repeat (refine ⟨by kernel_rfl, ?_⟩; (conv => whnf))); refine callF e1 ⟨.refl _, .refl _, trivial⟩ (by trivial) rfl ?_)
    conv => whnf
    (repeat (refine ⟨by kernel_rfl, ?_⟩; (conv => whnf)))
    refine ⟨(by (try simp only [true_and, and_true, Nat.sub_zero, Nat.zero_add, Int.toNat_natCast]) <;> omega), ?_⟩
    exact .refl _
theorem sEqual_same (a : Rat) (h : rsz a ≤ 4398046500000) : ACall Tryz.prog 61 [rat a, rat a] (.f (.bool true)) := by
  have := sEqual_ok a a h
  rwa [decide_eq_true rfl] at this
theorem sEqual_rat0 : ACall Tryz.prog 61 [rat0, rat0] (.f (.bool true)) := by
  have e1 := rEqual_raw false false (digit 0) (digit 0) (size 0) (size 0) (digit_Dig _ _) (digit_Dig _ _) (by decide)
  have e2 := refEqual_nn 0 0 (by decide)
  rw [decide_eq_true (by simp)] at e1 e2
  refine acall_rule env [0, 1, 2, 3, 4] Tryz.func61 rfl rfl rfl rfl ?_
  conv => whnf
  first | refine callF e1 ⟨.refl _, .refl _, trivial⟩ (by trivial) rfl ?_ | ((repeat (refine ⟨by kernel_rfl, ?_⟩; (conv => whnf))); refine callF e1 ⟨.refl _, .refl _, trivial⟩ (by trivial) rfl ?_)
  conv => whnf
  first | refine callF e2 ⟨.refl _, .refl _, trivial⟩ (by trivial) rfl ?_ | ((repeat (refine ⟨by kernel_rfl, ?_⟩; (conv => whnf))); refine callF e2 ⟨.refl _, .refl _, trivial⟩ (by trivial) rfl ?_)
  conv => whnf
  (repeat (refine ⟨by kernel_rfl, ?_⟩; (conv => whnf)))
  refine ⟨(by (try simp only [true_and, and_true, Nat.sub_zero, Nat.zero_add, Int.toNat_natCast]) <;> omega), ?_⟩
  exact .refl _
theorem sCanonical_rat (a : Rat) (h : rsz a ≤ 4398046500000) : ACall Tryz.prog 60 [rat a] (.f (.bool true)) := by
  have n := sNorm_ok (isR_rat a h) (Nat.le_refl _)
  have e := sEqual_same a h
  refine acall_rule env [0, 1, 2] Tryz.func60 rfl rfl rfl rfl ?_
  conv => whnf
  first | refine callF n ⟨.refl _, trivial⟩ (by trivial) rfl ?_ | ((repeat (refine ⟨by kernel_rfl, ?_⟩; (conv => whnf))); refine callF n ⟨.refl _, trivial⟩ (by trivial) rfl ?_)
  conv => whnf
  first | refine callF e ⟨.refl _, .refl _, trivial⟩ (by trivial) rfl ?_ | ((repeat (refine ⟨by kernel_rfl, ?_⟩; (conv => whnf))); refine callF e ⟨.refl _, .refl _, trivial⟩ (by trivial) rfl ?_)
  conv => whnf
  (repeat (refine ⟨by kernel_rfl, ?_⟩; (conv => whnf)))
  refine ⟨(by (try simp only [true_and, and_true, Nat.sub_zero, Nat.zero_add, Int.toNat_natCast]) <;> omega), ?_⟩
  exact .refl _
theorem sDen_ok {x : AV} {a : Rat} {s : Nat} (ha : IsR x a s) (hs : s ≤ 4398046500000) : ACall Tryz.prog 53 [x] (int (a.den : Nat)) := by
  have n := sNorm_ok ha hs
  rw [int_nonneg]
  obtain ⟨na, ga, la, ga', la', _, hga, hga', hn, hn', h1⟩ := ha
  generalize mkRat (ival na (nval ga la)) (nval ga' la') = a at *
  refine acall_rule env [0, 1, 2] Tryz.func53 rfl rfl rfl rfl ?_
  conv => whnf
  first | refine callF n ⟨.refl _, trivial⟩ (by trivial) rfl ?_ | ((repeat (refine ⟨by kernel_rfl, ?_⟩; (conv => whnf))); refine callF n ⟨.refl _, trivial⟩ (by trivial) rfl ?_)
  conv => whnf
  (repeat (refine ⟨by kernel_rfl, ?_⟩; (conv => whnf)))
  refine ⟨(by (try simp only [true_and, and_true, Nat.sub_zero, Nat.zero_add, Int.toNat_natCast]) <;> omega), ?_⟩
  exact .refl _
theorem sFromInt_ok (v : Int) (h : -9223372036854775808 ≤ v ∧ v ≤ 9223372036854775807) : ACall Tryz.prog 35 [.f (.int .i64 v)] (rat (v : Rat)) := by
  have f := rFromInt_ok v h
  have o := rFromInt_ok 1 (by decide)
  have m := sMake_ok (isI_int v (s := 2) (isz_small (by omega))) (isI_int 1 (s := 1) (by decide)) (by omega) (by omega)
  rw [divInt_one] at m
  refine acall_rule env [0, 2] Tryz.func35 rfl rfl rfl rfl ?_
  conv => whnf
  first | refine callF f ⟨.refl _, trivial⟩ (by trivial) rfl ?_ | ((repeat (refine ⟨by kernel_rfl, ?_⟩; (conv => whnf))); refine callF f ⟨.refl _, trivial⟩ (by trivial) rfl ?_)
  conv => whnf
  first | refine callF o ⟨.refl _, trivial⟩ (by trivial) rfl ?_ | ((repeat (refine ⟨by kernel_rfl, ?_⟩; (conv => whnf))); refine callF o ⟨.refl _, trivial⟩ (by trivial) rfl ?_)
  conv => whnf
  first | refine callF m ⟨.refl _, .refl _, trivial⟩ (by trivial) rfl ?_ | ((repeat (refine ⟨by kernel_rfl, ?_⟩; (conv => whnf))); refine callF m ⟨.refl _, .refl _, trivial⟩ (by trivial) rfl ?_)
  conv => whnf
  (repeat (refine ⟨by kernel_rfl, ?_⟩; (conv => whnf)))
  refine ⟨(by (try simp only [true_and, and_true, Nat.sub_zero, Nat.zero_add, Int.toNat_natCast]) <;> omega), ?_⟩
  exact .refl _
theorem sOf_ok (n d : Int) (hn : -9223372036854775808 ≤ n ∧ n ≤ 9223372036854775807) (hd : -9223372036854775808 ≤ d ∧ d ≤ 9223372036854775807) : ACall Tryz.prog 18 [.f (.int .i64 n), .f (.int .i64 d)] (rat (Rat.divInt n d)) := by
  have f := rFromInt_ok n hn
  have o := rFromInt_ok d hd
  have m := sMake_ok (isI_int n (s := 2) (isz_small (by omega))) (isI_int d (s := 2) (isz_small (by omega))) (by omega) (by omega)
  refine acall_rule env [0, 1, 4] Tryz.func18 rfl rfl rfl rfl ?_
  conv => whnf
  first | refine callF f ⟨.refl _, trivial⟩ (by trivial) rfl ?_ | ((repeat (refine ⟨by kernel_rfl, ?_⟩; (conv => whnf))); refine callF f ⟨.refl _, trivial⟩ (by trivial) rfl ?_)
  conv => whnf
  first | refine callF o ⟨.refl _, trivial⟩ (by trivial) rfl ?_ | ((repeat (refine ⟨by kernel_rfl, ?_⟩; (conv => whnf))); refine callF o ⟨.refl _, trivial⟩ (by trivial) rfl ?_)
  conv => whnf
  first | refine callF m ⟨.refl _, .refl _, trivial⟩ (by trivial) rfl ?_ | ((repeat (refine ⟨by kernel_rfl, ?_⟩; (conv => whnf))); refine callF m ⟨.refl _, .refl _, trivial⟩ (by trivial) rfl ?_)
  conv => whnf
  (repeat (refine ⟨by kernel_rfl, ?_⟩; (conv => whnf)))
  refine ⟨(by (try simp only [true_and, and_true, Nat.sub_zero, Nat.zero_add, Int.toNat_natCast]) <;> omega), ?_⟩
  exact .refl _
theorem sSign_ok {x : AV} {a : Rat} {s : Nat} (ha : IsR x a s) (hs : s ≤ 4398046500000) : ACall Tryz.prog 22 [x] (.f (.int .i64 (rcmp a 0))) := by
  have n := sNorm_ok ha hs
  have sa := ha.size
  have g := rSign_ok (isI_int a.num (rsz_num sa)) (by omega)
  rw [rcmp_num]
  obtain ⟨na, ga, la, ga', la', _, hga, hga', hn, hn', h1⟩ := ha
  generalize mkRat (ival na (nval ga la)) (nval ga' la') = a at *
  refine acall_rule env [0, 1, 2] Tryz.func22 rfl rfl rfl rfl ?_
  conv => whnf
  first | refine callF n ⟨.refl _, trivial⟩ (by trivial) rfl ?_ | ((repeat (refine ⟨by kernel_rfl, ?_⟩; (conv => whnf))); refine callF n ⟨.refl _, trivial⟩ (by trivial) rfl ?_)
  conv => whnf
  first | refine callF g ⟨.refl _, trivial⟩ (by trivial) rfl ?_ | ((repeat (refine ⟨by kernel_rfl, ?_⟩; (conv => whnf))); refine callF g ⟨.refl _, trivial⟩ (by trivial) rfl ?_)
  conv => whnf
  (repeat (refine ⟨by kernel_rfl, ?_⟩; (conv => whnf)))
  refine ⟨(by (try simp only [true_and, and_true, Nat.sub_zero, Nat.zero_add, Int.toNat_natCast]) <;> omega), ?_⟩
  exact .refl _
theorem sNeg_ok {x : AV} {a : Rat} {s : Nat} (ha : IsR x a s) (hs : s ≤ 4398046500000) : ACall Tryz.prog 23 [x] (rat (-a)) := by
  have n := sNorm_ok ha hs
  have sa := ha.size
  have g := rNeg_ok (isI_int a.num (rsz_num sa)) (by omega)
  have d := sDen_ok ha hs
  have m := sMake_ok (isI_int (-a.num) (s := s) (by rw [isz_neg]; exact rsz_num sa)) (isI_int (a.den : Nat) (s := s) (by rw [isz_nat]; exact rsz_den sa)) hs hs
  rw [← Rat.neg_divInt, Rat.num_divInt_den] at m
  obtain ⟨na, ga, la, ga', la', _, hga, hga', hn, hn', h1⟩ := ha
  generalize mkRat (ival na (nval ga la)) (nval ga' la') = a at *
  refine acall_rule env [0, 1, 2] Tryz.func23 rfl rfl rfl rfl ?_
  conv => whnf
  first | refine callF n ⟨.refl _, trivial⟩ (by trivial) rfl ?_ | ((repeat (refine ⟨by kernel_rfl, ?_⟩; (conv => whnf))); refine callF n ⟨.refl _, trivial⟩ (by trivial) rfl ?_)
  conv => whnf
  first | refine callF g ⟨.refl _, trivial⟩ (by trivial) rfl ?_ | ((repeat (refine ⟨by kernel_rfl, ?_⟩; (conv => whnf))); refine callF g ⟨.refl _, trivial⟩ (by trivial) rfl ?_)
  conv => whnf
  first | refine callF d ⟨.refl _, trivial⟩ (by trivial) rfl ?_ | ((repeat (refine ⟨by kernel_rfl, ?_⟩; (conv => whnf))); refine callF d ⟨.refl _, trivial⟩ (by trivial) rfl ?_)
  conv => whnf
  first | refine callF m ⟨.refl _, .refl _, trivial⟩ (by trivial) rfl ?_ | ((repeat (refine ⟨by kernel_rfl, ?_⟩; (conv => whnf))); refine callF m ⟨.refl _, .refl _, trivial⟩ (by trivial) rfl ?_)
  conv => whnf
  (repeat (refine ⟨by kernel_rfl, ?_⟩; (conv => whnf)))
  refine ⟨(by (try simp only [true_and, and_true, Nat.sub_zero, Nat.zero_add, Int.toNat_natCast]) <;> omega), ?_⟩
  exact .refl _
theorem sAdd_ok {x y : AV} {a b : Rat} {s t : Nat} (ha : IsR x a s) (hb : IsR y b t) (hs : s + t ≤ 4398046400000) :
    ACall Tryz.prog 17 [x, y] (rat (a + b)) := by
  have n1 := sNorm_ok ha (by omega)
  have n2 := sNorm_ok hb (by omega)
  have sa := ha.size
  have sb := hb.size
  have d1 := sDen_ok ha (by omega)
  have d2 := sDen_ok hb (by omega)
  have za := isI_int a.num (rsz_num sa)
  have zb := isI_int b.num (rsz_num sb)
  have ya := isI_int (a.den : Nat) (s := s) (by rw [isz_nat]; exact rsz_den sa)
  have yb := isI_int (b.den : Nat) (s := t) (by rw [isz_nat]; exact rsz_den sb)
  have m1 := rMul_ok za yb (by omega)
  have m2 := rMul_ok zb ya (by omega)
  have m3 := rMul_ok ya yb (by omega)
  have w1 := isz_mul za.size yb.size
  have w2 := isz_mul zb.size ya.size
  have w3 := isz_mul ya.size yb.size
  have a1 := rAdd_ok (isI_int _ w1) (isI_int _ w2) (by omega) (by omega)
  have w4 := isz_add w1 w2
  have mk := sMake_ok (isI_int _ w4) (isI_int _ w3) (by omega) (by omega)
  rw [show Rat.divInt (a.num * (b.den : Nat) + b.num * (a.den : Nat)) ((a.den : Nat) * (b.den : Nat)) = a + b by rw [Rat.add_def', ← Rat.divInt_ofNat, Int.natCast_mul]] at mk
  clear za zb ya yb
  obtain ⟨na, ga, n, ga', n', _, hga, hga', hn, hn', h1⟩ := ha
  obtain ⟨nb, gb, m, gb', m', _, hgb, hgb', hm, hm', h2⟩ := hb
  generalize mkRat (ival na (nval ga n)) (nval ga' n') = a at *
  generalize mkRat (ival nb (nval gb m)) (nval gb' m') = b at *
  refine acall_rule env [0, 1, 2, 3, 4, 5, 6] Tryz.func17 rfl rfl rfl rfl ?_
  conv => whnf
  first | refine callF n1 ⟨.refl _, trivial⟩ (by trivial) rfl ?_ | ((repeat (refine ⟨by kernel_rfl, ?_⟩; (conv => whnf))); refine callF n1 ⟨.refl _, trivial⟩ (by trivial) rfl ?_)
  conv => whnf
  first | refine callF n2 ⟨.refl _, trivial⟩ (by trivial) rfl ?_ | ((repeat (refine ⟨by kernel_rfl, ?_⟩; (conv => whnf))); refine callF n2 ⟨.refl _, trivial⟩ (by trivial) rfl ?_)
  conv => whnf
  first | refine callF d2 ⟨.refl _, trivial⟩ (by trivial) rfl ?_ | ((repeat (refine ⟨by kernel_rfl, ?_⟩; (conv => whnf))); refine callF d2 ⟨.refl _, trivial⟩ (by trivial) rfl ?_)
  conv => whnf
  first | refine callF m1 ⟨.refl _, .refl _, trivial⟩ (by trivial) rfl ?_ | ((repeat (refine ⟨by kernel_rfl, ?_⟩; (conv => whnf))); refine callF m1 ⟨.refl _, .refl _, trivial⟩ (by trivial) rfl ?_)
  conv => whnf
  first | refine callF d1 ⟨.refl _, trivial⟩ (by trivial) rfl ?_ | ((repeat (refine ⟨by kernel_rfl, ?_⟩; (conv => whnf))); refine callF d1 ⟨.refl _, trivial⟩ (by trivial) rfl ?_)
  conv => whnf
  first | refine callF m2 ⟨.refl _, .refl _, trivial⟩ (by trivial) rfl ?_ | ((repeat (refine ⟨by kernel_rfl, ?_⟩; (conv => whnf))); refine callF m2 ⟨.refl _, .refl _, trivial⟩ (by trivial) rfl ?_)
  conv => whnf
  first | refine callF a1 ⟨.refl _, .refl _, trivial⟩ (by trivial) rfl ?_ | ((repeat (refine ⟨by kernel_rfl, ?_⟩; (conv => whnf))); refine callF a1 ⟨.refl _, .refl _, trivial⟩ (by trivial) rfl ?_)
  conv => whnf
  first | refine callF d1 ⟨.refl _, trivial⟩ (by trivial) rfl ?_ | ((repeat (refine ⟨by kernel_rfl, ?_⟩; (conv => whnf))); refine callF d1 ⟨.refl _, trivial⟩ (by trivial) rfl ?_)
  conv => whnf
  first | refine callF d2 ⟨.refl _, trivial⟩ (by trivial) rfl ?_ | ((repeat (refine ⟨by kernel_rfl, ?_⟩; (conv => whnf))); refine callF d2 ⟨.refl _, trivial⟩ (by trivial) rfl ?_)
  conv => whnf
  first | refine callF m3 ⟨.refl _, .refl _, trivial⟩ (by trivial) rfl ?_ | ((repeat (refine ⟨by kernel_rfl, ?_⟩; (conv => whnf))); refine callF m3 ⟨.refl _, .refl _, trivial⟩ (by trivial) rfl ?_)
  conv => whnf
  first | refine callF mk ⟨.refl _, .refl _, trivial⟩ (by trivial) rfl ?_ | ((repeat (refine ⟨by kernel_rfl, ?_⟩; (conv => whnf))); refine callF mk ⟨.refl _, .refl _, trivial⟩ (by trivial) rfl ?_)
  conv => whnf
  (repeat (refine ⟨by kernel_rfl, ?_⟩; (conv => whnf)))
  refine ⟨(by (try simp only [true_and, and_true, Nat.sub_zero, Nat.zero_add, Int.toNat_natCast]) <;> omega), ?_⟩
  exact .refl _
theorem sSub_ok {x y : AV} {a b : Rat} {s t : Nat} (ha : IsR x a s) (hb : IsR y b t) (hs : s + t ≤ 4398046400000) :
    ACall Tryz.prog 25 [x, y] (rat (a - b)) := by
  have sb := hb.size
  have n1 := sNeg_ok hb (by omega)
  have a1 := sAdd_ok ha (isR_rat (-b) (s := t) (by rw [rsz_neg]; exact sb)) hs
  rw [← Rat.sub_eq_add_neg] at a1
  obtain ⟨na, ga, n, ga', n', _, hga, hga', hn, hn', h1⟩ := ha
  obtain ⟨nb, gb, m, gb', m', _, hgb, hgb', hm, hm', h2⟩ := hb
  generalize mkRat (ival na (nval ga n)) (nval ga' n') = a at *
  generalize mkRat (ival nb (nval gb m)) (nval gb' m') = b at *
  refine acall_rule env [0, 1, 2, 3, 4] Tryz.func25 rfl rfl rfl rfl ?_
  conv => whnf
  first | refine callF n1 ⟨.refl _, trivial⟩ (by trivial) rfl ?_ | ((repeat (refine ⟨by kernel_rfl, ?_⟩; (conv => whnf))); refine callF n1 ⟨.refl _, trivial⟩ (by trivial) rfl ?_)
  conv => whnf
  first | refine callF a1 ⟨.refl _, .refl _, trivial⟩ (by trivial) rfl ?_ | ((repeat (refine ⟨by kernel_rfl, ?_⟩; (conv => whnf))); refine callF a1 ⟨.refl _, .refl _, trivial⟩ (by trivial) rfl ?_)
  conv => whnf
  (repeat (refine ⟨by kernel_rfl, ?_⟩; (conv => whnf)))
  refine ⟨(by (try simp only [true_and, and_true, Nat.sub_zero, Nat.zero_add, Int.toNat_natCast]) <;> omega), ?_⟩
  exact .refl _
theorem sMul_ok {x y : AV} {a b : Rat} {s t : Nat} (ha : IsR x a s) (hb : IsR y b t) (hs : s + t ≤ 4398046400000) :
    ACall Tryz.prog 36 [x, y] (rat (a * b)) := by
  have n1 := sNorm_ok ha (by omega)
  have n2 := sNorm_ok hb (by omega)
  have sa := ha.size
  have sb := hb.size
  have d1 := sDen_ok ha (by omega)
  have d2 := sDen_ok hb (by omega)
  have za := isI_int a.num (rsz_num sa)
  have zb := isI_int b.num (rsz_num sb)
  have ya := isI_int (a.den : Nat) (s := s) (by rw [isz_nat]; exact rsz_den sa)
  have yb := isI_int (b.den : Nat) (s := t) (by rw [isz_nat]; exact rsz_den sb)
  have m1 := rMul_ok za zb (by omega)
  have m3 := rMul_ok ya yb (by omega)
  have w1 := isz_mul za.size zb.size
  have w3 := isz_mul ya.size yb.size
  have mk := sMake_ok (isI_int _ w1) (isI_int _ w3) (by omega) (by omega)
  rw [show Rat.divInt (a.num * b.num) ((a.den : Nat) * (b.den : Nat)) = a * b by rw [Rat.mul_def', ← Rat.divInt_ofNat, Int.natCast_mul]] at mk
  clear za zb ya yb
  obtain ⟨na, ga, n, ga', n', _, hga, hga', hn, hn', h1⟩ := ha
  obtain ⟨nb, gb, m, gb', m', _, hgb, hgb', hm, hm', h2⟩ := hb
  generalize mkRat (ival na (nval ga n)) (nval ga' n') = a at *
  generalize mkRat (ival nb (nval gb m)) (nval gb' m') = b at *
  refine acall_rule env [0, 1, 2, 3, 4] Tryz.func36 rfl rfl rfl rfl ?_
  conv => whnf
  first | refine callF n1 ⟨.refl _, trivial⟩ (by trivial) rfl ?_ | ((repeat (refine ⟨by kernel_rfl, ?_⟩; (conv => whnf))); refine callF n1 ⟨.refl _, trivial⟩ (by trivial) rfl ?_)
  conv => whnf
  first | refine callF n2 ⟨.refl _, trivial⟩ (by trivial) rfl ?_ | ((repeat (refine ⟨by kernel_rfl, ?_⟩; (conv => whnf))); refine callF n2 ⟨.refl _, trivial⟩ (by trivial) rfl ?_)
  conv => whnf
  first | refine callF m1 ⟨.refl _, .refl _, trivial⟩ (by trivial) rfl ?_ | ((repeat (refine ⟨by kernel_rfl, ?_⟩; (conv => whnf))); refine callF m1 ⟨.refl _, .refl _, trivial⟩ (by trivial) rfl ?_)
  conv => whnf
  first | refine callF d1 ⟨.refl _, trivial⟩ (by trivial) rfl ?_ | ((repeat (refine ⟨by kernel_rfl, ?_⟩; (conv => whnf))); refine callF d1 ⟨.refl _, trivial⟩ (by trivial) rfl ?_)
  conv => whnf
  first | refine callF d2 ⟨.refl _, trivial⟩ (by trivial) rfl ?_ | ((repeat (refine ⟨by kernel_rfl, ?_⟩; (conv => whnf))); refine callF d2 ⟨.refl _, trivial⟩ (by trivial) rfl ?_)
  conv => whnf
  first | refine callF m3 ⟨.refl _, .refl _, trivial⟩ (by trivial) rfl ?_ | ((repeat (refine ⟨by kernel_rfl, ?_⟩; (conv => whnf))); refine callF m3 ⟨.refl _, .refl _, trivial⟩ (by trivial) rfl ?_)
  conv => whnf
  first | refine callF mk ⟨.refl _, .refl _, trivial⟩ (by trivial) rfl ?_ | ((repeat (refine ⟨by kernel_rfl, ?_⟩; (conv => whnf))); refine callF mk ⟨.refl _, .refl _, trivial⟩ (by trivial) rfl ?_)
  conv => whnf
  (repeat (refine ⟨by kernel_rfl, ?_⟩; (conv => whnf)))
  refine ⟨(by (try simp only [true_and, and_true, Nat.sub_zero, Nat.zero_add, Int.toNat_natCast]) <;> omega), ?_⟩
  exact .refl _
theorem sCompare_ok {x y : AV} {a b : Rat} {s t : Nat} (ha : IsR x a s) (hb : IsR y b t) (hs : s + t ≤ 4398046300000) :
    ACall Tryz.prog 15 [x, y] (.f (.int .i64 (rcmp a b))) := by
  have d := sSub_ok ha hb (by omega)
  have g := sSign_ok (isR_rat (a - b) (rsz_sub ha.size hb.size)) (by omega)
  rw [rcmp_sub] at g
  obtain ⟨na, ga, n, ga', n', _, hga, hga', hn, hn', h1⟩ := ha
  obtain ⟨nb, gb, m, gb', m', _, hgb, hgb', hm, hm', h2⟩ := hb
  generalize mkRat (ival na (nval ga n)) (nval ga' n') = a at *
  generalize mkRat (ival nb (nval gb m)) (nval gb' m') = b at *
  generalize rcmp a b = C at *
  refine acall_rule env [0, 1, 2, 3, 4] Tryz.func15 rfl rfl rfl rfl ?_
  conv => whnf
  first | refine callF d ⟨.refl _, .refl _, trivial⟩ (by trivial) rfl ?_ | ((repeat (refine ⟨by kernel_rfl, ?_⟩; (conv => whnf))); refine callF d ⟨.refl _, .refl _, trivial⟩ (by trivial) rfl ?_)
  conv => whnf
  first | refine callF g ⟨.refl _, trivial⟩ (by trivial) rfl ?_ | ((repeat (refine ⟨by kernel_rfl, ?_⟩; (conv => whnf))); refine callF g ⟨.refl _, trivial⟩ (by trivial) rfl ?_)
  conv => whnf
  (repeat (refine ⟨by kernel_rfl, ?_⟩; (conv => whnf)))
  refine ⟨(by (try simp only [true_and, and_true, Nat.sub_zero, Nat.zero_add, Int.toNat_natCast]) <;> omega), ?_⟩
  exact .refl _
theorem sFloor_ok {x : AV} {a : Rat} {s : Nat} (ha : IsR x a s) (hs : s ≤ 4398046400000) : ACall Tryz.prog 133 [x] (int a.floor) := by
  have n1 := sNorm_ok ha (by omega)
  have sa := ha.size
  have d1 := sDen_ok ha (by omega)
  have q := rDivMod_ok (isI_int a.num (rsz_num sa)) (isI_int (a.den : Nat) (s := s) (by rw [isz_nat]; exact rsz_den sa)) (by omega) (by omega)
  unfold idivRes at q
  rw [if_neg (by have := a.den_nz; omega), ← Rat.floor_def] at q
  obtain ⟨na, ga, la, ga', la', _, hga, hga', hn, hn', h1⟩ := ha
  generalize mkRat (ival na (nval ga la)) (nval ga' la') = a at *
  generalize a.floor = f at *
  refine acall_rule env [0, 1, 2, 3] Tryz.func133 rfl rfl rfl rfl ?_
  conv => whnf
  first | refine callF n1 ⟨.refl _, trivial⟩ (by trivial) rfl ?_ | ((repeat (refine ⟨by kernel_rfl, ?_⟩; (conv => whnf))); refine callF n1 ⟨.refl _, trivial⟩ (by trivial) rfl ?_)
  conv => whnf
  first | refine callF d1 ⟨.refl _, trivial⟩ (by trivial) rfl ?_ | ((repeat (refine ⟨by kernel_rfl, ?_⟩; (conv => whnf))); refine callF d1 ⟨.refl _, trivial⟩ (by trivial) rfl ?_)
  conv => whnf
  first | refine callF q ⟨.refl _, .refl _, trivial⟩ (by trivial) rfl ?_ | ((repeat (refine ⟨by kernel_rfl, ?_⟩; (conv => whnf))); refine callF q ⟨.refl _, .refl _, trivial⟩ (by trivial) rfl ?_)
  conv => whnf
  (repeat (refine ⟨by kernel_rfl, ?_⟩; (conv => whnf)))
  refine ⟨(by (try simp only [true_and, and_true, Nat.sub_zero, Nat.zero_add, Int.toNat_natCast]) <;> omega), ?_⟩
  exact .refl _
theorem sWhole_ok {x : AV} {z : Int} {s : Nat} (ha : IsI x z s) (hs : s ≤ 4398046400000) : ACall Tryz.prog 132 [x] (rat (z : Rat)) := by
  have o := rFromInt_ok 1 (by decide)
  have m := sMake_ok ha (isI_int 1 (s := 1) (by decide)) (by omega) (by omega)
  rw [divInt_one] at m
  obtain ⟨na, ga, n, _, hga, hn⟩ := ha
  refine acall_rule env [0, 1, 2] Tryz.func132 rfl rfl rfl rfl ?_
  conv => whnf
  first | refine callF o ⟨.refl _, trivial⟩ (by trivial) rfl ?_ | ((repeat (refine ⟨by kernel_rfl, ?_⟩; (conv => whnf))); refine callF o ⟨.refl _, trivial⟩ (by trivial) rfl ?_)
  conv => whnf
  first | refine callF m ⟨.refl _, .refl _, trivial⟩ (by trivial) rfl ?_ | ((repeat (refine ⟨by kernel_rfl, ?_⟩; (conv => whnf))); refine callF m ⟨.refl _, .refl _, trivial⟩ (by trivial) rfl ?_)
  conv => whnf
  (repeat (refine ⟨by kernel_rfl, ?_⟩; (conv => whnf)))
  refine ⟨(by (try simp only [true_and, and_true, Nat.sub_zero, Nat.zero_add, Int.toNat_natCast]) <;> omega), ?_⟩
  exact .refl _
end Go.Abs

/- Linear programs: which are valid. -/
set_option autoImplicit false
set_option maxHeartbeats 4000000
set_option maxRecDepth 10000
set_option linter.unusedVariables false
set_option linter.unusedSimpArgs false
namespace Go.Abs
open Go Go.Proofs

def bpk (k n : Nat) : Nat × AV := (k, .lptr k 1 n 0 0)
def bxk (k : Nat) (xs : List AV) : Nat × Nat × Blk := (k, 1, .vr xs)
theorem ordered_ok {c : Co} (hc : c.Ok) (hs : c.sz ≤ 1099511627776) : ACall Tryz.prog 136 [c.a] (.f (.bool (!c.cross))) := by
  unfold Co.sz at hs
  have k1 := qCompare_ok hc.lo.is hc.up.is (by omega)
  have hx : decide (rcmp c.lo.v c.up.v ≤ 0) = !decide (c.up.v < c.lo.v) := by
    by_cases h : c.up.v < c.lo.v
    · rw [decide_eq_true h, rcmp_gt h]; rfl
    · rw [decide_eq_false h, decide_eq_true (rcmp_le.2 (Rat.not_lt.1 h))]; rfl
  unfold Co.cross
  obtain ⟨b, hb⟩ : ∃ b, decide (c.up.v < c.lo.v) = b := ⟨_, rfl⟩
  rw [hb] at hx ⊢
  clear hb
  generalize rcmp c.lo.v c.up.v = C at *
  by_cases h1 : c.hl = true
  · by_cases h2 : c.hu = true
    · refine acall_rule env [0, 1, 2] Tryz.func136 rfl rfl rfl rfl ?_
      conv => whnf
      refine splF (by rw [h1]; rfl) ?_
      conv => whnf
      refine splF (by rw [h2]; rfl) ?_
      conv => whnf
      first | refine callF k1 ⟨.refl _, .refl _, trivial⟩ (by trivial) rfl ?_ | ((repeat (refine ⟨by kernel_rfl, ?_⟩; (conv => whnf))); refine callF k1 ⟨.refl _, .refl _, trivial⟩ (by trivial) rfl ?_)
      conv => whnf
      refine ⟨(by (try simp only [true_and, and_true, Nat.sub_zero, Nat.zero_add, Int.toNat_natCast]) <;> omega), ?_⟩
      exact .bool_of (by rw [hx, h1, h2]; cases b <;> rfl)
    · refine acall_rule env [0, 1, 2] Tryz.func136 rfl rfl rfl rfl ?_
      conv => whnf
      refine splF (by rw [h1]; rfl) ?_
      conv => whnf
      refine splT (by cases h : c.hu <;> simp_all) ?_
      conv => whnf
      refine ⟨(by (try simp only [true_and, and_true, Nat.sub_zero, Nat.zero_add, Int.toNat_natCast]) <;> omega), ?_⟩
      exact .bool_of (by cases h : c.hu <;> simp_all)
  · refine acall_rule env [0, 1, 2] Tryz.func136 rfl rfl rfl rfl ?_
    conv => whnf
    refine splT (by cases h : c.hl <;> simp_all) ?_
    conv => whnf
    refine ⟨(by (try simp only [true_and, and_true, Nat.sub_zero, Nat.zero_add, Int.toNat_natCast]) <;> omega), ?_⟩
    exact .bool_of (by cases h : c.hl <;> simp_all)

/-- a list of entries -/
def ents (e : Nat → En) (k : Nat) : AV := .f (.sl 4 (fun j => (e j).c) k none)
theorem vecValid_ok {e : Nat → En} {k : Nat} (n : Int) (he : ∀ j, j < k → (e j).Ok) (hs : ∀ j, j < k → (e j).v.sz ≤ 1099511627776) (hk : k ≤ 1099511627776) (hn : 0 ≤ n ∧ n ≤ 1099511627776) :
    ACall Tryz.prog 137 [ents e k, .f (.int .i64 n)] (.f (.bool (allB (entB e n.toNat) k))) := by
  obtain ⟨n, rfl⟩ : ∃ m : Nat, n = m := ⟨n.toNat, by omega⟩
  rw [Int.toNat_natCast]
  obtain ⟨B, hB⟩ : ∃ B, allB (entB e n) k = B := ⟨_, rfl⟩
  rw [hB]
  refine acall_rule env [0, 1, 4, 5, 7, 8, 9, 10, 11, 29] Tryz.func137 rfl rfl rfl rfl ?_
  conv => whnf
  refine loop_mod [1, 4, 5, 8, 9, 10] [] [4] []
    (fun μ fr hp => ∃ i : Nat, i ≤ k ∧ allB (entB e n) i = true ∧ fr = [(1, .f (.int .i64 n)), (4, .f (.bool false)), (5, .f (.int .i64 (prevI e i))), (8, ents e k), (9, .f (.int .i64 k)), (10, .f (.int .i64 i))] ∧ hp = [] ∧ μ = k - i)
    (fun x fr hp => (x = .exit 0 ∧ B = true ∧ fr = [(4, .f (.bool false))] ∧ hp = []) ∨ (x = .ret ∧ B = false ∧ fr = [(4, .f (.bool false))] ∧ hp = []))
    ⟨_, _, _, _, rfl, .refl _, 0, Nat.zero_le _, rfl, rfl, rfl, rfl⟩ ?_ ?_
  · rintro _ _ _ (⟨rfl, rfl, rfl, rfl⟩ | ⟨rfl, rfl, rfl, rfl⟩)
    · conv => whnf
      (repeat (refine ⟨by kernel_rfl, ?_⟩; (conv => whnf)))
      refine ⟨(by (try simp only [true_and, and_true, Nat.sub_zero, Nat.zero_add, Int.toNat_natCast]) <;> omega), ?_⟩
      exact .refl _
    · conv => whnf
      (repeat (refine ⟨by kernel_rfl, ?_⟩; (conv => whnf)))
      refine ⟨(by (try simp only [true_and, and_true, Nat.sub_zero, Nat.zero_add, Int.toNat_natCast]) <;> omega), ?_⟩
      exact .refl _
  rintro μ _ _ ⟨i, hi, hall, rfl, rfl, rfl⟩
  by_cases hik : i < k
  · have hf := fun h => hB.symm.trans (allB_false hik h)
    have s1 := qSign_ok (he i hik).v.is (by have := hs i hik; omega)
    have hb : allB (entB e n) (i + 1) = entB e n i := by rw [allB, hall, Bool.true_and]
    have hei : entB e n i = (decide (prevI e i < (e i).i) && decide ((e i).i < n) && decide ((e i).v.v ≠ 0)) := rfl
    rw [hei] at hf hb
    obtain ⟨L, hL⟩ : ∃ L, prevI e i = L := ⟨_, rfl⟩
    rw [hL] at hf hb ⊢
    have hL1 : prevI e (i + 1) = (e i).i := rfl
    have hx0 : rcmp (e i).v.v 0 = 0 ↔ (e i).v.v = 0 := rcmp_zero
    generalize rcmp (e i).v.v 0 = C at *
    conv => whnf
    refine splT (by simp only [decide_eq_true_eq, decide_eq_false_iff_not, Bool.not_eq_true', Bool.not_eq_false', gt_iff_lt, ge_iff_le] <;> omega) ?_
    conv => whnf
    refine ⟨(by (try simp only [true_and, and_true, Nat.sub_zero, Nat.zero_add, Int.toNat_natCast]) <;> omega), ?_⟩
    conv => whnf
    by_cases h1 : (e i).i ≤ L
    · refine splT (decide_eq_true h1) ?_
      conv => whnf
      exact ⟨_, _, _, rfl, .refl _, .inr ⟨rfl, hf (by rw [decide_eq_false (by omega)]; rfl), rfl, rfl⟩⟩
    refine splF (decide_eq_false h1) ?_
    conv => whnf
    by_cases h2 : (e i).i ≥ n
    · refine splT (decide_eq_true h2) ?_
      conv => whnf
      exact ⟨_, _, _, rfl, .refl _, .inr ⟨rfl, hf (by rw [decide_eq_false (show ¬ (e i).i < n by omega), Bool.and_false]; rfl), rfl, rfl⟩⟩
    refine splF (decide_eq_false h2) ?_
    conv => whnf
    first | refine callF s1 ⟨.refl _, trivial⟩ (by trivial) rfl ?_ | ((repeat (refine ⟨by kernel_rfl, ?_⟩; (conv => whnf))); refine callF s1 ⟨.refl _, trivial⟩ (by trivial) rfl ?_)
    conv => whnf
    by_cases h3 : C = 0
    · refine splT (decide_eq_true h3) ?_
      conv => whnf
      exact ⟨_, _, _, rfl, .refl _, .inr ⟨rfl, hf (by rw [decide_eq_false (show ¬ (e i).v.v ≠ 0 from fun h => h (hx0.1 h3)), Bool.and_false]), rfl, rfl⟩⟩
    refine splF (decide_eq_false h3) ?_
    conv => whnf
    refine fit64 (by omega) ?_
    conv => whnf
    refine ⟨_, ?_, _, _, _, rfl, .refl _, i + 1, hik, ?_, ?_, rfl, rfl⟩
    · omega
    · rw [hb, decide_eq_true (show L < (e i).i by omega), decide_eq_true (show (e i).i < n by omega), decide_eq_true (show (e i).v.v ≠ 0 from fun h => h3 (hx0.2 h))]; rfl
    · rw [hL1]; rfl
  · obtain rfl : i = k := by omega
    conv => whnf
    refine splF (by simp only [decide_eq_true_eq, decide_eq_false_iff_not, Bool.not_eq_true', Bool.not_eq_false', gt_iff_lt, ge_iff_le] <;> omega) ?_
    conv => whnf
    exact ⟨_, _, _, rfl, .refl _, .inl ⟨rfl, by rw [← hB, hall], rfl, rfl⟩⟩

theorem Pr.err_range (p : Pr) : p.err = 0 ∨ p.err = 1 ∨ p.err = 3 ∨ p.err = 8 := by
  unfold Pr.err; repeat' split
  all_goals omega
theorem lpValid_ok {p : Pr} (hp : p.Ok) (hs : p.sz ≤ 1099511627776) (hk : ∀ i, i < p.nr → (p.r i).k ≤ 1099511627776) (hn : p.nc ≤ 1099511627776 ∧ p.nr ≤ 1099511627776) :
    ACall Tryz.prog 118 [p.a] (.f (.int .i64 p.err)) := by
  have ho := fun j (h : j < p.nc) => ordered_ok (hp.c j h) (Nat.le_trans (Pr.csz h) hs)
  have hv := fun i (h : i < p.nr) => vecValid_ok (e := (p.r i).e) (k := (p.r i).k) (p.nc : Nat) (hp.r i h).e
    (fun j hj => by have := Ro.esz_get hj; have := Pr.rsz h; unfold Ro.sz at this; omega) (hk i h) (by omega)
  obtain ⟨E, hE⟩ : ∃ E, p.err = E := ⟨_, rfl⟩
  rw [hE]
  unfold Pr.err at hE
  by_cases g1 : 16384 < p.nc
  · rw [if_pos (.inl g1)] at hE
    subst hE
    refine acall_rule env [0, 1, 2, 4, 6, 16, 18, 19, 20, 21, 26, 29, 30, 31, 32, 56] Tryz.func118 rfl rfl rfl rfl ?_
    conv => whnf
    refine splT (decide_eq_true (by omega)) ?_
    conv => whnf
    (repeat (refine ⟨by kernel_rfl, ?_⟩; (conv => whnf)))
    refine ⟨(by (try simp only [true_and, and_true, Nat.sub_zero, Nat.zero_add, Int.toNat_natCast]) <;> omega), ?_⟩
    exact .refl _
  by_cases g2 : 16384 < p.nr
  · rw [if_pos (.inr g2)] at hE
    subst hE
    refine acall_rule env [0, 1, 2, 4, 6, 16, 18, 19, 20, 21, 26, 29, 30, 31, 32, 56] Tryz.func118 rfl rfl rfl rfl ?_
    conv => whnf
    refine splF (decide_eq_false (by omega)) ?_
    conv => whnf
    refine splT (decide_eq_true (by omega)) ?_
    conv => whnf
    (repeat (refine ⟨by kernel_rfl, ?_⟩; (conv => whnf)))
    refine ⟨(by (try simp only [true_and, and_true, Nat.sub_zero, Nat.zero_add, Int.toNat_natCast]) <;> omega), ?_⟩
    exact .refl _
  rw [if_neg (by omega)] at hE
  refine acall_rule env [0, 1, 2, 4, 6, 16, 18, 19, 20, 21, 26, 29, 30, 31, 32, 56] Tryz.func118 rfl rfl rfl rfl ?_
  conv => whnf
  refine splF (decide_eq_false (by omega)) ?_
  conv => whnf
  refine splF (decide_eq_false (by omega)) ?_
  conv => whnf
  refine loop_mod [1, 2, 18, 19, 20] [1] [1, 2] [1]
    (fun μ fr hp => ∃ i : Nat, i ≤ p.nc ∧ allB (fun j => !(p.c j).cross) i = true ∧ fr = [bpk 1 2, (2, .f (.int .i64 0)), (18, .f (.sl 11 (fun j => (p.c j).c) p.nc none)), (19, .f (.int .i64 p.nc)), (20, .f (.int .i64 i))] ∧
      hp = [bxk 1 [.f (.sl 11 (fun j => (p.c j).c) p.nc none), .f (.sl 5 (fun i => (p.r i).c) p.nr none)]] ∧ μ = p.nc - i)
    (fun x fr hp => (x = .exit 0 ∧ allB (fun j => !(p.c j).cross) p.nc = true ∧ fr = [bpk 1 2, (2, .f (.int .i64 0))] ∧ hp = [bxk 1 [.f (.sl 11 (fun j => (p.c j).c) p.nc none), .f (.sl 5 (fun i => (p.r i).c) p.nr none)]]) ∨
      (x = .ret ∧ E = 3 ∧ fr = [bpk 1 2, (2, .f (.int .i64 3))] ∧ hp = [bxk 1 [.f (.sl 11 (fun j => (p.c j).c) p.nc none), .f (.sl 5 (fun i => (p.r i).c) p.nr none)]]))
    ⟨_, _, _, _, rfl, .refl _, 0, Nat.zero_le _, rfl, rfl, rfl, rfl⟩ ?_ ?_
  · rintro _ _ _ (⟨rfl, hall, rfl, rfl⟩ | ⟨rfl, rfl, rfl, rfl⟩)
    · rw [hall, if_neg (by decide)] at hE
      clear ho
      conv => whnf
      refine loop_mod [1, 2, 29, 30, 31] [1] [2] []
        (fun μ fr hp => ∃ i : Nat, i ≤ p.nr ∧ allB (fun i => (p.r i).ok p.nc) i = true ∧ fr = [bpk 1 2, (2, .f (.int .i64 0)), (29, .f (.sl 5 (fun i => (p.r i).c) p.nr none)), (30, .f (.int .i64 p.nr)), (31, .f (.int .i64 i))] ∧
          hp = [bxk 1 [.f (.sl 11 (fun j => (p.c j).c) p.nc none), .f (.sl 5 (fun i => (p.r i).c) p.nr none)]] ∧ μ = p.nr - i)
        (fun x fr hp => (x = .exit 2 ∧ E = 0 ∧ fr = [(2, .f (.int .i64 0))] ∧ hp = []) ∨ (x = .ret ∧ E = 1 ∧ fr = [(2, .f (.int .i64 1))] ∧ hp = []))
        ⟨_, _, _, _, rfl, .refl _, 0, Nat.zero_le _, rfl, rfl, rfl, rfl⟩ ?_ ?_
      · rintro _ _ _ (⟨rfl, rfl, rfl, rfl⟩ | ⟨rfl, rfl, rfl, rfl⟩)
        · conv => whnf
          (repeat (refine ⟨by kernel_rfl, ?_⟩; (conv => whnf)))
          refine ⟨(by (try simp only [true_and, and_true, Nat.sub_zero, Nat.zero_add, Int.toNat_natCast]) <;> omega), ?_⟩
          exact .refl _
        · conv => whnf
          (repeat (refine ⟨by kernel_rfl, ?_⟩; (conv => whnf)))
          refine ⟨(by (try simp only [true_and, and_true, Nat.sub_zero, Nat.zero_add, Int.toNat_natCast]) <;> omega), ?_⟩
          exact .refl _
      rintro μ _ _ ⟨i, hi, hall2, rfl, rfl, rfl⟩
      by_cases hik : i < p.nr
      · have hf : (p.r i).ok p.nc = false → E = 1 := fun h => by rw [← hE, if_pos (allB_false hik h)]
        have hb : allB (fun i => (p.r i).ok p.nc) (i + 1) = (p.r i).ok p.nc := by rw [allB, hall2, Bool.true_and]
        have v1 := hv i hik
        rw [Int.toNat_natCast] at v1
        unfold Ro.ok at hf hb
        obtain ⟨V, hV⟩ : ∃ V, allB (entB (p.r i).e p.nc) (p.r i).k = V := ⟨_, rfl⟩
        have hb' : allB (fun i => (p.r i).ok p.nc) (i + 1) = ((decide ((p.r i).s = -1) || decide ((p.r i).s = 0) || decide ((p.r i).s = 1)) && V) := by rw [← hV]; exact hb
        rw [hV] at v1 hf
        clear hb hV
        obtain ⟨sg, hsg⟩ : ∃ sg, (p.r i).s = sg := ⟨_, rfl⟩
        rw [hsg] at hf hb'
        by_cases h1 : sg = -1
        · cases V with
          | true =>
            conv => whnf
            refine splT (by simp only [decide_eq_true_eq, decide_eq_false_iff_not, Bool.not_eq_true', Bool.not_eq_false', gt_iff_lt, ge_iff_le] <;> omega) ?_
            conv => whnf
            refine ⟨(by (try simp only [true_and, and_true, Nat.sub_zero, Nat.zero_add, Int.toNat_natCast]) <;> omega), ?_⟩
            conv => whnf
            refine splF (by simp [hsg, h1]) ?_
            conv => whnf
            first | refine callF v1 ⟨.refl _, .refl _, trivial⟩ (by trivial) rfl ?_ | ((repeat (refine ⟨by kernel_rfl, ?_⟩; (conv => whnf))); refine callF v1 ⟨.refl _, .refl _, trivial⟩ (by trivial) rfl ?_)
            conv => whnf
            refine fit64 (by omega) ?_
            conv => whnf
            refine ⟨_, ?_, _, _, _, rfl, .refl _, i + 1, hik, ?_, rfl, rfl, rfl⟩
            · omega
            · rw [hb', h1]; simp
          | false =>
            conv => whnf
            refine splT (by simp only [decide_eq_true_eq, decide_eq_false_iff_not, Bool.not_eq_true', Bool.not_eq_false', gt_iff_lt, ge_iff_le] <;> omega) ?_
            conv => whnf
            refine ⟨(by (try simp only [true_and, and_true, Nat.sub_zero, Nat.zero_add, Int.toNat_natCast]) <;> omega), ?_⟩
            conv => whnf
            refine splF (by simp [hsg, h1]) ?_
            conv => whnf
            first | refine callF v1 ⟨.refl _, .refl _, trivial⟩ (by trivial) rfl ?_ | ((repeat (refine ⟨by kernel_rfl, ?_⟩; (conv => whnf))); refine callF v1 ⟨.refl _, .refl _, trivial⟩ (by trivial) rfl ?_)
            conv => whnf
            exact ⟨_, _, _, rfl, .refl _, .inr ⟨rfl, hf (by simp), rfl, rfl⟩⟩
        by_cases h2 : sg = 0
        · have h1 := h2
          cases V with
          | true =>
            conv => whnf
            refine splT (by simp only [decide_eq_true_eq, decide_eq_false_iff_not, Bool.not_eq_true', Bool.not_eq_false', gt_iff_lt, ge_iff_le] <;> omega) ?_
            conv => whnf
            refine ⟨(by (try simp only [true_and, and_true, Nat.sub_zero, Nat.zero_add, Int.toNat_natCast]) <;> omega), ?_⟩
            conv => whnf
            refine splT (by simp [hsg, h1]) ?_
            conv => whnf
            refine splF (by simp [hsg, h1]) ?_
            conv => whnf
            first | refine callF v1 ⟨.refl _, .refl _, trivial⟩ (by trivial) rfl ?_ | ((repeat (refine ⟨by kernel_rfl, ?_⟩; (conv => whnf))); refine callF v1 ⟨.refl _, .refl _, trivial⟩ (by trivial) rfl ?_)
            conv => whnf
            refine fit64 (by omega) ?_
            conv => whnf
            refine ⟨_, ?_, _, _, _, rfl, .refl _, i + 1, hik, ?_, rfl, rfl, rfl⟩
            · omega
            · rw [hb', h1]; simp
          | false =>
            conv => whnf
            refine splT (by simp only [decide_eq_true_eq, decide_eq_false_iff_not, Bool.not_eq_true', Bool.not_eq_false', gt_iff_lt, ge_iff_le] <;> omega) ?_
            conv => whnf
            refine ⟨(by (try simp only [true_and, and_true, Nat.sub_zero, Nat.zero_add, Int.toNat_natCast]) <;> omega), ?_⟩
            conv => whnf
            refine splT (by simp [hsg, h1]) ?_
            conv => whnf
            refine splF (by simp [hsg, h1]) ?_
            conv => whnf
            first | refine callF v1 ⟨.refl _, .refl _, trivial⟩ (by trivial) rfl ?_ | ((repeat (refine ⟨by kernel_rfl, ?_⟩; (conv => whnf))); refine callF v1 ⟨.refl _, .refl _, trivial⟩ (by trivial) rfl ?_)
            conv => whnf
            exact ⟨_, _, _, rfl, .refl _, .inr ⟨rfl, hf (by simp), rfl, rfl⟩⟩
        by_cases h3 : sg = 1
        · have h1 := h3
          cases V with
          | true =>
            conv => whnf
            refine splT (by simp only [decide_eq_true_eq, decide_eq_false_iff_not, Bool.not_eq_true', Bool.not_eq_false', gt_iff_lt, ge_iff_le] <;> omega) ?_
            conv => whnf
            refine ⟨(by (try simp only [true_and, and_true, Nat.sub_zero, Nat.zero_add, Int.toNat_natCast]) <;> omega), ?_⟩
            conv => whnf
            refine splT (by simp [hsg, h1]) ?_
            conv => whnf
            refine splT (by simp [hsg, h1]) ?_
            conv => whnf
            refine splF (by simp [hsg, h1]) ?_
            conv => whnf
            first | refine callF v1 ⟨.refl _, .refl _, trivial⟩ (by trivial) rfl ?_ | ((repeat (refine ⟨by kernel_rfl, ?_⟩; (conv => whnf))); refine callF v1 ⟨.refl _, .refl _, trivial⟩ (by trivial) rfl ?_)
            conv => whnf
            refine fit64 (by omega) ?_
            conv => whnf
            refine ⟨_, ?_, _, _, _, rfl, .refl _, i + 1, hik, ?_, rfl, rfl, rfl⟩
            · omega
            · rw [hb', h1]; simp
          | false =>
            conv => whnf
            refine splT (by simp only [decide_eq_true_eq, decide_eq_false_iff_not, Bool.not_eq_true', Bool.not_eq_false', gt_iff_lt, ge_iff_le] <;> omega) ?_
            conv => whnf
            refine ⟨(by (try simp only [true_and, and_true, Nat.sub_zero, Nat.zero_add, Int.toNat_natCast]) <;> omega), ?_⟩
            conv => whnf
            refine splT (by simp [hsg, h1]) ?_
            conv => whnf
            refine splT (by simp [hsg, h1]) ?_
            conv => whnf
            refine splF (by simp [hsg, h1]) ?_
            conv => whnf
            first | refine callF v1 ⟨.refl _, .refl _, trivial⟩ (by trivial) rfl ?_ | ((repeat (refine ⟨by kernel_rfl, ?_⟩; (conv => whnf))); refine callF v1 ⟨.refl _, .refl _, trivial⟩ (by trivial) rfl ?_)
            conv => whnf
            exact ⟨_, _, _, rfl, .refl _, .inr ⟨rfl, hf (by simp), rfl, rfl⟩⟩
        · conv => whnf
          refine splT (by simp only [decide_eq_true_eq, decide_eq_false_iff_not, Bool.not_eq_true', Bool.not_eq_false', gt_iff_lt, ge_iff_le] <;> omega) ?_
          conv => whnf
          refine ⟨(by (try simp only [true_and, and_true, Nat.sub_zero, Nat.zero_add, Int.toNat_natCast]) <;> omega), ?_⟩
          conv => whnf
          refine splT (by simp [hsg, h1]) ?_
          conv => whnf
          refine splT (by simp [hsg, h2]) ?_
          conv => whnf
          refine splT (by simp [hsg, h3]) ?_
          conv => whnf
          exact ⟨_, _, _, rfl, .refl _, .inr ⟨rfl, hf (by simp [h1, h2, h3]), rfl, rfl⟩⟩
      · obtain rfl : i = p.nr := by omega
        rw [hall2, if_neg (by decide)] at hE
        conv => whnf
        refine splF (by simp only [decide_eq_true_eq, decide_eq_false_iff_not, Bool.not_eq_true', Bool.not_eq_false', gt_iff_lt, ge_iff_le] <;> omega) ?_
        conv => whnf
        exact ⟨_, _, _, rfl, .refl _, .inl ⟨rfl, hE.symm, rfl, rfl⟩⟩
    · conv => whnf
      (repeat (refine ⟨by kernel_rfl, ?_⟩; (conv => whnf)))
      refine ⟨(by (try simp only [true_and, and_true, Nat.sub_zero, Nat.zero_add, Int.toNat_natCast]) <;> omega), ?_⟩
      exact .refl _
  rintro μ _ _ ⟨i, hi, hall, rfl, rfl, rfl⟩
  by_cases hik : i < p.nc
  · have o1 := ho i hik
    have hf : (!(p.c i).cross) = false → E = 3 := fun h => by rw [← hE, if_pos (allB_false hik h)]
    have hb : allB (fun j => !(p.c j).cross) (i + 1) = !(p.c i).cross := by rw [allB, hall, Bool.true_and]
    obtain ⟨b, hbb⟩ : ∃ b, (!(p.c i).cross) = b := ⟨_, rfl⟩
    rw [hbb] at o1 hf hb
    cases b with
    | false =>
      conv => whnf
      refine splT (by simp only [decide_eq_true_eq, decide_eq_false_iff_not, Bool.not_eq_true', Bool.not_eq_false', gt_iff_lt, ge_iff_le] <;> omega) ?_
      conv => whnf
      refine ⟨(by (try simp only [true_and, and_true, Nat.sub_zero, Nat.zero_add, Int.toNat_natCast]) <;> omega), ?_⟩
      conv => whnf
      first | refine callF o1 ⟨.refl _, trivial⟩ (by trivial) rfl ?_ | ((repeat (refine ⟨by kernel_rfl, ?_⟩; (conv => whnf))); refine callF o1 ⟨.refl _, trivial⟩ (by trivial) rfl ?_)
      conv => whnf
      exact ⟨_, _, _, rfl, .refl _, .inr ⟨rfl, hf rfl, rfl, rfl⟩⟩
    | true =>
      conv => whnf
      refine splT (by simp only [decide_eq_true_eq, decide_eq_false_iff_not, Bool.not_eq_true', Bool.not_eq_false', gt_iff_lt, ge_iff_le] <;> omega) ?_
      conv => whnf
      refine ⟨(by (try simp only [true_and, and_true, Nat.sub_zero, Nat.zero_add, Int.toNat_natCast]) <;> omega), ?_⟩
      conv => whnf
      first | refine callF o1 ⟨.refl _, trivial⟩ (by trivial) rfl ?_ | ((repeat (refine ⟨by kernel_rfl, ?_⟩; (conv => whnf))); refine callF o1 ⟨.refl _, trivial⟩ (by trivial) rfl ?_)
      conv => whnf
      refine fit64 (by omega) ?_
      conv => whnf
      refine ⟨_, ?_, _, _, _, rfl, .refl _, i + 1, hik, hb, rfl, rfl, rfl⟩
      omega
  · obtain rfl : i = p.nc := by omega
    conv => whnf
    refine splF (by simp only [decide_eq_true_eq, decide_eq_false_iff_not, Bool.not_eq_true', Bool.not_eq_false', gt_iff_lt, ge_iff_le] <;> omega) ?_
    conv => whnf
    exact ⟨_, _, _, rfl, .refl _, .inl ⟨rfl, hall, rfl, rfl⟩⟩
end Go.Abs

/- Linear programs: points. -/
set_option autoImplicit false
set_option maxHeartbeats 4000000
set_option maxRecDepth 10000
set_option linter.unusedVariables false
set_option linter.unusedSimpArgs false
namespace Go.Abs
open Go Go.Proofs

/-- a program that is not too large -/
structure Pr.H (p : Pr) : Prop where
  ok : p.Ok
  s : p.sz ≤ 4194304
  k : ∀ i, i < p.nr → (p.r i).k ≤ 4194304
  c : p.nc ≤ 4194304
  r : p.nr ≤ 4194304
/-- numbers that are not too large -/
structure XH (x : Nat → RR) (n : Nat) : Prop where
  ok : ∀ j, j < n → (x j).Ok
  s : ∀ j, j < n → (x j).sz ≤ 4194304
  t : nsum (fun j => (x j).sz) n ≤ 16777216
  n : n ≤ 4194304
theorem Pr.err_facts {p : Pr} (h : p.err = 0) : p.nc ≤ 16384 ∧ p.nr ≤ 16384 ∧ (∀ j, j < p.nc → (p.c j).cross = false) ∧ ∀ i, i < p.nr → (p.r i).ok p.nc = true := by
  unfold Pr.err at h
  split at h
  · cases h
  split at h
  · cases h
  split at h
  · cases h
  rename_i h1 h2 h3
  refine ⟨by omega, by omega, fun j hj => ?_, fun i hi => allB_iff.1 (by simpa using h3) i hi⟩
  have := allB_iff.1 (show allB (fun j => !(p.c j).cross) p.nc = true by simpa using h2) j hj
  simpa using this
theorem Pr.row_facts {p : Pr} (h : p.err = 0) {i : Nat} (hi : i < p.nr) : (p.r i).k ≤ p.nc ∧ ∀ j, j < (p.r i).k → 0 ≤ ((p.r i).e j).i ∧ ((p.r i).e j).i < p.nc := by
  have h1 := (Pr.err_facts h).2.2.2 i hi
  unfold Ro.ok at h1
  simp only [Bool.and_eq_true] at h1
  exact ⟨ent_count h1.2, fun j hj => ⟨(ent_range h1.2 j hj).1, (ent_range h1.2 j hj).2.1⟩⟩
theorem Pr.errS_zero {p : Pr} {a b : Nat} : p.errS a b = 0 ↔ p.err = 0 ∧ a = b := by
  unfold Pr.errS
  split
  · constructor
    · intro h; exact absurd h ‹_›
    · intro h; exact absurd h.1 ‹_›
  · split
    · simp_all
    · simp_all
theorem lpCheck_ok {p : Pr} (hp : p.H) (a b : Nat) (ha : a ≤ 4194304) (hb : b ≤ 4194304) : ACall Tryz.prog 80 [p.a, .f (.int .i64 a), .f (.int .i64 b)] (.f (.int .i64 (p.errS a b))) := by
  have v1 := lpValid_ok hp.ok (by have := hp.s; omega) (fun i hi => by have := hp.k i hi; omega) (by have := hp.c; have := hp.r; omega)
  unfold Pr.errS
  obtain ⟨E, hE⟩ : ∃ E, p.err = E := ⟨_, rfl⟩
  rw [hE] at v1 ⊢
  by_cases h : E = 0
  · subst h
    rw [if_neg (by decide)]
    by_cases h2 : a = b
    · rw [if_pos h2]
      refine acall_rule env [0, 1, 2, 3, 6, 7, 11, 15] Tryz.func80 rfl rfl rfl rfl ?_
      conv => whnf
      first | refine callF v1 ⟨.refl _, trivial⟩ (by trivial) rfl ?_ | ((repeat (refine ⟨by kernel_rfl, ?_⟩; (conv => whnf))); refine callF v1 ⟨.refl _, trivial⟩ (by trivial) rfl ?_)
      conv => whnf
      refine splF (by simp; omega) ?_
      conv => whnf
      (repeat (refine ⟨by kernel_rfl, ?_⟩; (conv => whnf)))
      refine ⟨(by (try simp only [true_and, and_true, Nat.sub_zero, Nat.zero_add, Int.toNat_natCast]) <;> omega), ?_⟩
      exact .refl _
    · rw [if_neg h2]
      refine acall_rule env [0, 1, 2, 3, 6, 7, 11, 15] Tryz.func80 rfl rfl rfl rfl ?_
      conv => whnf
      first | refine callF v1 ⟨.refl _, trivial⟩ (by trivial) rfl ?_ | ((repeat (refine ⟨by kernel_rfl, ?_⟩; (conv => whnf))); refine callF v1 ⟨.refl _, trivial⟩ (by trivial) rfl ?_)
      conv => whnf
      refine splT (by simp; omega) ?_
      conv => whnf
      (repeat (refine ⟨by kernel_rfl, ?_⟩; (conv => whnf)))
      refine ⟨(by (try simp only [true_and, and_true, Nat.sub_zero, Nat.zero_add, Int.toNat_natCast]) <;> omega), ?_⟩
      exact .refl _
  · rw [if_pos h]
    refine acall_rule env [0, 1, 2, 3, 6, 7, 11, 15] Tryz.func80 rfl rfl rfl rfl ?_
    conv => whnf
    first | refine callF v1 ⟨.refl _, trivial⟩ (by trivial) rfl ?_ | ((repeat (refine ⟨by kernel_rfl, ?_⟩; (conv => whnf))); refine callF v1 ⟨.refl _, trivial⟩ (by trivial) rfl ?_)
    conv => whnf
    refine splT (by simp [h]) ?_
    conv => whnf
    (repeat (refine ⟨by kernel_rfl, ?_⟩; (conv => whnf)))
    refine ⟨(by (try simp only [true_and, and_true, Nat.sub_zero, Nat.zero_add, Int.toNat_natCast]) <;> omega), ?_⟩
    exact .refl _
def objRes (p : Pr) (x : Nat → RR) (n : Nat) : AV := if p.errS n p.nc ≠ 0 then .tup [rat0, .f (.int .i64 (p.errS n p.nc))] else .tup [rat (p.obj x), .f (.int .i64 0)]
theorem prod_sz {a b : RR} (ha : a.Ok) (hb : b.Ok) : rsz (a.v * b.v) ≤ a.sz + b.sz := rsz_mul ha.size hb.size
theorem qpart_sz {f : Nat → Rat} {B i n : Nat} (h : ∀ j, j < n → rsz (f j) ≤ B) (hi : i ≤ n) : rsz (qsum f i) ≤ n * (B + 1) + 1 := by
  have h1 := qsum_sz (f := f) (s := fun _ => B) (n := i) (fun j hj => h j (by omega))
  rw [nsum_const] at h1
  exact Nat.le_trans h1 (Nat.add_le_add_right (Nat.mul_le_mul_right _ hi) 1)
theorem lpObjective_ok {p : Pr} (hp : p.H) {x : Nat → RR} {n : Nat} (hx : XH x n) : ACall Tryz.prog 42 [p.a, rats x n] (objRes p x n) := by
  have ck := lpCheck_ok hp n p.nc hx.n hp.c
  have z0 := qFromInt_ok 0 (by decide)
  unfold objRes
  by_cases he : p.errS n p.nc = 0
  · obtain ⟨e1, e2⟩ := Pr.errS_zero.1 he
    obtain ⟨b1, b2, _, _⟩ := Pr.err_facts e1
    rw [if_neg (fun h => h he)]
    rw [he] at ck
    have hterm : ∀ j, j < p.nc → rsz ((p.c j).w.v * (x j).v) ≤ 8388608 := by
      intro j hj
      have h1 := prod_sz (hp.ok.c j hj).w (hx.ok j (by omega))
      have h2 := Pr.csz hj
      have h3 := hp.s
      have h4 := hx.s j (by omega)
      unfold Co.sz at h2
      omega
    have hpart : ∀ i, i ≤ p.nc → rsz (qsum (fun j => (p.c j).w.v * (x j).v) i) ≤ 137455730690 := by
      intro i hi
      have := qpart_sz hterm hi
      have h2 : p.nc * (8388608 + 1) ≤ 16384 * (8388608 + 1) := Nat.mul_le_mul_right _ b1
      omega
    unfold Pr.obj
    refine acall_rule env [0, 1, 2, 4, 5, 6, 7, 8, 9, 18, 23, 24, 25, 26, 35] Tryz.func42 rfl rfl rfl rfl ?_
    conv => whnf
    first | refine callF ck ⟨.refl _, .refl _, .refl _, trivial⟩ (by trivial) rfl ?_ | ((repeat (refine ⟨by kernel_rfl, ?_⟩; (conv => whnf))); refine callF ck ⟨.refl _, .refl _, .refl _, trivial⟩ (by trivial) rfl ?_)
    conv => whnf
    first | refine callF z0 ⟨.refl _, trivial⟩ (by trivial) rfl ?_ | ((repeat (refine ⟨by kernel_rfl, ?_⟩; (conv => whnf))); refine callF z0 ⟨.refl _, trivial⟩ (by trivial) rfl ?_)
    conv => whnf
    refine loop_mod [1, 4, 7, 23, 24, 25] [4, 7] [4, 7] [4, 7]
      (fun μ fr hp_ => ∃ i : Nat, i ≤ p.nc ∧ fr = [(1, rats x n), bp3 4, bp3 7, (23, .f (.sl 11 (fun j => (p.c j).c) p.nc none)), (24, .f (.int .i64 p.nc)), (25, .f (.int .i64 i))] ∧
        hp_ = [bx3 4 zR, bx3 7 (ratL (qsum (fun j => (p.c j).w.v * (x j).v) i))] ∧ μ = p.nc - i)
      (fun e fr hp_ => e = .exit 0 ∧ fr = [bp3 4, bp3 7] ∧ hp_ = [bx3 4 zR, bx3 7 (ratL (qsum (fun j => (p.c j).w.v * (x j).v) p.nc))])
      ⟨_, _, _, _, rfl, .refl _, 0, Nat.zero_le _, rfl, rfl, rfl⟩ ?_ ?_
    · rintro _ _ _ ⟨rfl, rfl, rfl⟩
      conv => whnf
      (repeat (refine ⟨by kernel_rfl, ?_⟩; (conv => whnf)))
      refine ⟨(by (try simp only [true_and, and_true, Nat.sub_zero, Nat.zero_add, Int.toNat_natCast]) <;> omega), ?_⟩
      exact .refl _
    rintro μ _ _ ⟨i, hi, rfl, rfl, rfl⟩
    by_cases hik : i < p.nc
    · have hin : i < n := by omega
      have s1 := qSign_ok (hx.ok i hin).is (by have := hx.s i hin; omega)
      have m1 := qMul_ok (hp.ok.c i hik).w.is (hx.ok i hin).is (by have := Pr.csz hik; have := hp.s; have := hx.s i hin; unfold Co.sz at *; omega)
      have zq := hpart i hi
      have zt := hterm i hik
      have a1 := qAdd_ok (isR_rat _ zq) (isR_rat _ zt) (by omega)
      have hS : qsum (fun j => (p.c j).w.v * (x j).v) (i + 1) = qsum (fun j => (p.c j).w.v * (x j).v) i + (p.c i).w.v * (x i).v := rfl
      have hx0 : rcmp (x i).v 0 = 0 ↔ (x i).v = 0 := rcmp_zero
      by_cases hz : (x i).v = 0
      · rw [hx0.2 hz] at s1
        rw [hz, Rat.mul_zero, Rat.add_zero] at hS
        conv => whnf
        refine splT (by simp only [decide_eq_true_eq, decide_eq_false_iff_not, Bool.not_eq_true', Bool.not_eq_false', gt_iff_lt, ge_iff_le] <;> omega) ?_
        conv => whnf
        refine ⟨(by (try simp only [true_and, and_true, Nat.sub_zero, Nat.zero_add, Int.toNat_natCast]) <;> omega), ?_⟩
        conv => whnf
        refine ⟨(by (try simp only [true_and, and_true, Nat.sub_zero, Nat.zero_add, Int.toNat_natCast]) <;> omega), ?_⟩
        conv => whnf
        first | refine callF s1 ⟨.refl _, trivial⟩ (by trivial) rfl ?_ | ((repeat (refine ⟨by kernel_rfl, ?_⟩; (conv => whnf))); refine callF s1 ⟨.refl _, trivial⟩ (by trivial) rfl ?_)
        conv => whnf
        refine fit64 (by omega) ?_
        conv => whnf
        exact ⟨_, by omega, _, _, _, rfl, .refl _, i + 1, hik, rfl, by rw [hS]; rfl, rfl⟩
      · have hne : ¬ rcmp (x i).v 0 = 0 := fun h => hz (hx0.1 h)
        rw [← hS] at a1
        generalize rcmp (x i).v 0 = C at *
        conv => whnf
        refine splT (by simp only [decide_eq_true_eq, decide_eq_false_iff_not, Bool.not_eq_true', Bool.not_eq_false', gt_iff_lt, ge_iff_le] <;> omega) ?_
        conv => whnf
        refine ⟨(by (try simp only [true_and, and_true, Nat.sub_zero, Nat.zero_add, Int.toNat_natCast]) <;> omega), ?_⟩
        conv => whnf
        refine ⟨(by (try simp only [true_and, and_true, Nat.sub_zero, Nat.zero_add, Int.toNat_natCast]) <;> omega), ?_⟩
        conv => whnf
        first | refine callF s1 ⟨.refl _, trivial⟩ (by trivial) rfl ?_ | ((repeat (refine ⟨by kernel_rfl, ?_⟩; (conv => whnf))); refine callF s1 ⟨.refl _, trivial⟩ (by trivial) rfl ?_)
        conv => whnf
        refine splT (by simp [hne]) ?_
        conv => whnf
        refine ⟨(by (try simp only [true_and, and_true, Nat.sub_zero, Nat.zero_add, Int.toNat_natCast]) <;> omega), ?_⟩
        conv => whnf
        first | refine callF m1 ⟨.refl _, .refl _, trivial⟩ (by trivial) rfl ?_ | ((repeat (refine ⟨by kernel_rfl, ?_⟩; (conv => whnf))); refine callF m1 ⟨.refl _, .refl _, trivial⟩ (by trivial) rfl ?_)
        conv => whnf
        first | refine callF a1 ⟨.refl _, .refl _, trivial⟩ (by trivial) rfl ?_ | ((repeat (refine ⟨by kernel_rfl, ?_⟩; (conv => whnf))); refine callF a1 ⟨.refl _, .refl _, trivial⟩ (by trivial) rfl ?_)
        conv => whnf
        refine ⟨by kernel_rfl, ?_⟩
        conv => whnf
        refine fit64 (by omega) ?_
        conv => whnf
        exact ⟨_, by omega, _, _, _, rfl, .refl _, i + 1, hik, rfl, rfl, rfl⟩
    · obtain rfl : i = p.nc := by omega
      conv => whnf
      refine splF (by simp only [decide_eq_true_eq, decide_eq_false_iff_not, Bool.not_eq_true', Bool.not_eq_false', gt_iff_lt, ge_iff_le] <;> omega) ?_
      conv => whnf
      exact ⟨_, _, _, rfl, .refl _, rfl, rfl, rfl⟩
  · rw [if_pos he]
    generalize p.errS n p.nc = E at *
    refine acall_rule env [0, 1, 2, 4, 5, 6, 7, 8, 9, 18, 23, 24, 25, 26, 35] Tryz.func42 rfl rfl rfl rfl ?_
    conv => whnf
    first | refine callF ck ⟨.refl _, .refl _, .refl _, trivial⟩ (by trivial) rfl ?_ | ((repeat (refine ⟨by kernel_rfl, ?_⟩; (conv => whnf))); refine callF ck ⟨.refl _, .refl _, .refl _, trivial⟩ (by trivial) rfl ?_)
    conv => whnf
    refine splT (by simp [he]) ?_
    conv => whnf
    refine ⟨(by (try simp only [true_and, and_true, Nat.sub_zero, Nat.zero_add, Int.toNat_natCast]) <;> omega), ?_⟩
    exact .tup ⟨.rat0, .refl _, trivial⟩

/-- a row at a point: the indices are in range -/
structure RH (r : Ro) (n : Nat) : Prop where
  ok : r.Ok
  s : ∀ j, j < r.k → (r.e j).v.sz ≤ 4194304
  k : r.k ≤ 16384
  i : ∀ j, j < r.k → 0 ≤ (r.e j).i ∧ (r.e j).i < n
theorem Pr.H.row {p : Pr} (hp : p.H) (h : p.err = 0) {i : Nat} (hi : i < p.nr) : RH (p.r i) p.nc := by
  obtain ⟨h1, h2⟩ := Pr.row_facts h hi
  obtain ⟨b1, b2, _⟩ := Pr.err_facts h
  refine ⟨hp.ok.r i hi, fun j hj => ?_, by omega, h2⟩
  have := Ro.esz_get hj
  have := Pr.rsz hi
  have := hp.s
  unfold Ro.sz at *
  omega
theorem act_term {r : Ro} {x : Nat → RR} {n : Nat} (hr : RH r n) (hx : XH x n) : ∀ j, j < r.k → rsz ((r.e j).v.v * (x (r.e j).i.toNat).v) ≤ 8388608 := by
  intro j hj
  have h0 := hr.i j hj
  have h1 := prod_sz (hr.ok.e j hj).v (hx.ok (r.e j).i.toNat (by omega))
  have := hr.s j hj
  have := hx.s (r.e j).i.toNat (by omega)
  omega
theorem act_part {r : Ro} {x : Nat → RR} {n : Nat} (hr : RH r n) (hx : XH x n) : ∀ i, i ≤ r.k → rsz (qsum (fun j => (r.e j).v.v * (x (r.e j).i.toNat).v) i) ≤ 137455730690 := by
  intro i hi
  have := qpart_sz (act_term hr hx) hi
  have h2 : r.k * (8388608 + 1) ≤ 16384 * (8388608 + 1) := Nat.mul_le_mul_right _ hr.k
  omega
theorem act_sz {r : Ro} {x : Nat → RR} {n : Nat} (hr : RH r n) (hx : XH x n) : rsz (r.act x) ≤ 137455730690 := act_part hr hx _ (Nat.le_refl _)
theorem lpActivity_ok {r : Ro} {x : Nat → RR} {n : Nat} (hr : RH r n) (hx : XH x n) : ACall Tryz.prog 115 [r.a, rats x n] (rat (r.act x)) := by
  have z0 := qFromInt_ok 0 (by decide)
  have hterm := act_term hr hx
  have hpart := act_part hr hx
  have hrk := hr.k
  unfold Ro.act
  refine acall_rule env [0, 1, 2, 4, 5, 7, 10, 11, 12, 13, 22] Tryz.func115 rfl rfl rfl rfl ?_
  conv => whnf
  first | refine callF z0 ⟨.refl _, trivial⟩ (by trivial) rfl ?_ | ((repeat (refine ⟨by kernel_rfl, ?_⟩; (conv => whnf))); refine callF z0 ⟨.refl _, trivial⟩ (by trivial) rfl ?_)
  conv => whnf
  refine loop_mod [1, 4, 5, 10, 11, 12] [4, 5] [4, 5] [4, 5]
    (fun μ fr hp_ => ∃ i : Nat, i ≤ r.k ∧ fr = [(1, rats x n), bp3 4, bp3 5, (10, .f (.sl 4 (fun j => (r.e j).c) r.k none)), (11, .f (.int .i64 r.k)), (12, .f (.int .i64 i))] ∧
      hp_ = [bx3 4 zR, bx3 5 (ratL (qsum (fun j => (r.e j).v.v * (x (r.e j).i.toNat).v) i))] ∧ μ = r.k - i)
    (fun e fr hp_ => e = .exit 0 ∧ fr = [bp3 4, bp3 5] ∧ hp_ = [bx3 4 zR, bx3 5 (ratL (qsum (fun j => (r.e j).v.v * (x (r.e j).i.toNat).v) r.k))])
    ⟨_, _, _, _, rfl, .refl _, 0, Nat.zero_le _, rfl, rfl, rfl⟩ ?_ ?_
  · rintro _ _ _ ⟨rfl, rfl, rfl⟩
    conv => whnf
    (repeat (refine ⟨by kernel_rfl, ?_⟩; (conv => whnf)))
    refine ⟨(by (try simp only [true_and, and_true, Nat.sub_zero, Nat.zero_add, Int.toNat_natCast]) <;> omega), ?_⟩
    exact .refl _
  rintro μ _ _ ⟨i, hi, rfl, rfl, rfl⟩
  by_cases hik : i < r.k
  · have hin := hr.i i hik
    have hlt : (r.e i).i.toNat < n := by omega
    have s1 := qSign_ok (hx.ok _ hlt).is (by have := hx.s _ hlt; omega)
    have m1 := qMul_ok (hr.ok.e i hik).v.is (hx.ok _ hlt).is (by have := hr.s i hik; have := hx.s _ hlt; omega)
    have zq := hpart i hi
    have zt := hterm i hik
    have a1 := qAdd_ok (isR_rat _ zq) (isR_rat _ zt) (by omega)
    have hS : qsum (fun j => (r.e j).v.v * (x (r.e j).i.toNat).v) (i + 1) = qsum (fun j => (r.e j).v.v * (x (r.e j).i.toNat).v) i + (r.e i).v.v * (x (r.e i).i.toNat).v := rfl
    have hx0 : rcmp (x (r.e i).i.toNat).v 0 = 0 ↔ (x (r.e i).i.toNat).v = 0 := rcmp_zero
    by_cases hz : (x (r.e i).i.toNat).v = 0
    · rw [hx0.2 hz] at s1
      rw [hz, Rat.mul_zero, Rat.add_zero] at hS
      conv => whnf
      refine splT (by simp only [decide_eq_true_eq, decide_eq_false_iff_not, Bool.not_eq_true', Bool.not_eq_false', gt_iff_lt, ge_iff_le] <;> omega) ?_
      conv => whnf
      refine ⟨(by (try simp only [true_and, and_true, Nat.sub_zero, Nat.zero_add, Int.toNat_natCast]) <;> omega), ?_⟩
      conv => whnf
      refine ⟨(by (try simp only [true_and, and_true, Nat.sub_zero, Nat.zero_add, Int.toNat_natCast]) <;> omega), ?_⟩
      conv => whnf
      first | refine callF s1 ⟨.refl _, trivial⟩ (by trivial) rfl ?_ | ((repeat (refine ⟨by kernel_rfl, ?_⟩; (conv => whnf))); refine callF s1 ⟨.refl _, trivial⟩ (by trivial) rfl ?_)
      conv => whnf
      refine fit64 (by omega) ?_
      conv => whnf
      exact ⟨_, by omega, _, _, _, rfl, .refl _, i + 1, hik, rfl, by rw [hS]; rfl, rfl⟩
    · have hne : ¬ rcmp (x (r.e i).i.toNat).v 0 = 0 := fun h => hz (hx0.1 h)
      rw [← hS] at a1
      generalize rcmp (x (r.e i).i.toNat).v 0 = C at *
      conv => whnf
      refine splT (by simp only [decide_eq_true_eq, decide_eq_false_iff_not, Bool.not_eq_true', Bool.not_eq_false', gt_iff_lt, ge_iff_le] <;> omega) ?_
      conv => whnf
      refine ⟨(by (try simp only [true_and, and_true, Nat.sub_zero, Nat.zero_add, Int.toNat_natCast]) <;> omega), ?_⟩
      conv => whnf
      refine ⟨(by (try simp only [true_and, and_true, Nat.sub_zero, Nat.zero_add, Int.toNat_natCast]) <;> omega), ?_⟩
      conv => whnf
      first | refine callF s1 ⟨.refl _, trivial⟩ (by trivial) rfl ?_ | ((repeat (refine ⟨by kernel_rfl, ?_⟩; (conv => whnf))); refine callF s1 ⟨.refl _, trivial⟩ (by trivial) rfl ?_)
      conv => whnf
      refine splT (by simp [hne]) ?_
      conv => whnf
      refine ⟨(by (try simp only [true_and, and_true, Nat.sub_zero, Nat.zero_add, Int.toNat_natCast]) <;> omega), ?_⟩
      conv => whnf
      first | refine callF m1 ⟨.refl _, .refl _, trivial⟩ (by trivial) rfl ?_ | ((repeat (refine ⟨by kernel_rfl, ?_⟩; (conv => whnf))); refine callF m1 ⟨.refl _, .refl _, trivial⟩ (by trivial) rfl ?_)
      conv => whnf
      first | refine callF a1 ⟨.refl _, .refl _, trivial⟩ (by trivial) rfl ?_ | ((repeat (refine ⟨by kernel_rfl, ?_⟩; (conv => whnf))); refine callF a1 ⟨.refl _, .refl _, trivial⟩ (by trivial) rfl ?_)
      conv => whnf
      refine ⟨by kernel_rfl, ?_⟩
      conv => whnf
      refine fit64 (by omega) ?_
      conv => whnf
      exact ⟨_, by omega, _, _, _, rfl, .refl _, i + 1, hik, rfl, rfl, rfl⟩
  · obtain rfl : i = r.k := by omega
    conv => whnf
    refine splF (by simp only [decide_eq_true_eq, decide_eq_false_iff_not, Bool.not_eq_true', Bool.not_eq_false', gt_iff_lt, ge_iff_le] <;> omega) ?_
    conv => whnf
    exact ⟨_, _, _, rfl, .refl _, rfl, rfl, rfl⟩

def ratsRes (f : Nat → Rat) (n : Nat) : AV := rats (fun i => RR.of (f i)) n
def actRes (p : Pr) (x : Nat → RR) (n : Nat) : AV := if p.errS n p.nc ≠ 0 then .tup [rats (fun _ => RR.nil) 0, .f (.int .i64 (p.errS n p.nc))] else .tup [ratsRes (fun i => (p.r i).act x) p.nr, .f (.int .i64 0)]
theorem AVle.rats_nil {sz : Nat} {at_ : Nat → List FV} {c : Option Nat} {x : Nat → RR} : AVle (.f (.sl sz at_ 0 c)) (rats x 0) := .f .nil
theorem All2.fle_rr (r : RR) : All2 FVle r.c r.c := ⟨.refl _, .refl _, .refl _, trivial⟩
def nilQ : AV := .f (.sl 3 (fun _ => [.bool false, .sl 1 (fun _ => [.int .u32 0]) 0 (some 0), .sl 1 (fun _ => [.int .u32 0]) 0 (some 0)]) 0 (some 0))
theorem upd_le {at_ : Nat → List FV} {i i' j : Nat} {l l' : List FV} (hi : i' = i) (h1 : j = i → All2 FVle l l') (h2 : j ≠ i → All2 FVle (at_ j) l') : All2 FVle (upd at_ i' l j) l' := by
  subst hi
  unfold upd
  split
  · rename_i h; exact h1 h
  · rename_i h; exact h2 h
theorem lpActivities_ok {p : Pr} (hp : p.H) {x : Nat → RR} {n : Nat} (hx : XH x n) : ACall Tryz.prog 74 [p.a, rats x n] (actRes p x n) := by
  have ck := lpCheck_ok hp n p.nc hx.n hp.c
  unfold actRes
  by_cases he : p.errS n p.nc = 0
  · obtain ⟨e1, e2⟩ := Pr.errS_zero.1 he
    obtain ⟨b1, b2, _, _⟩ := Pr.err_facts e1
    rw [if_neg (fun h => h he)]
    rw [he] at ck
    subst e2
    have ha := fun i (hi : i < p.nr) => lpActivity_ok (hp.row e1 hi) hx
    refine acall_rule env [0, 1, 2, 4, 5, 6, 7, 8, 9, 18, 25, 26, 27, 28] Tryz.func74 rfl rfl rfl rfl ?_
    conv => whnf
    first | refine callF ck ⟨.refl _, .refl _, .refl _, trivial⟩ (by trivial) rfl ?_ | ((repeat (refine ⟨by kernel_rfl, ?_⟩; (conv => whnf))); refine callF ck ⟨.refl _, .refl _, .refl _, trivial⟩ (by trivial) rfl ?_)
    conv => whnf
    refine ⟨(by (try simp only [true_and, and_true, Nat.sub_zero, Nat.zero_add, Int.toNat_natCast]) <;> omega), ?_⟩
    conv => whnf
    refine loop_mod [1, 4, 5, 7, 25, 26, 27] [23] [7] [23]
      (fun μ fr hp_ => ∃ i : Nat, i ≤ p.nr ∧ fr = [(1, rats x p.nc), (4, nilQ), (5, .f (.int .i64 0)), (7, .lsl 23 1 3 0 p.nr (some p.nr)), (25, .f (.sl 5 (fun i => (p.r i).c) p.nr none)), (26, .f (.int .i64 p.nr)), (27, .f (.int .i64 i))] ∧
        hp_ = [(23, 1, .fa 3 p.nr (fun j => (if j < i then RR.of ((p.r j).act x) else RR.nil).c))] ∧ μ = p.nr - i)
      (fun e fr hp_ => e = .exit 0 ∧ fr = [(7, .lsl 23 1 3 0 p.nr (some p.nr))] ∧ hp_ = [(23, 1, .fa 3 p.nr (fun j => (if j < p.nr then RR.of ((p.r j).act x) else RR.nil).c))])
      ⟨_, _, _, _, rfl, ?_, 0, Nat.zero_le _, rfl, rfl, rfl⟩ ?_ ?_
    · refine ⟨⟨rfl, rfl⟩, .fa fun j hj => ?_, trivial⟩
      rw [if_neg (Nat.not_lt_zero _)]; exact ⟨.refl _, .nil, .nil, trivial⟩
    · rintro _ _ _ ⟨rfl, rfl, rfl⟩
      conv => whnf
      refine ⟨(by (try simp only [true_and, and_true, Nat.sub_zero, Nat.zero_add, Int.toNat_natCast]) <;> omega), ?_⟩
      refine .tup ⟨.f (.sl (fun j hj => ?_) (.inl rfl)), .refl _, trivial⟩
      simp only [Nat.zero_add]
      rw [if_pos hj]; exact .fle_rr _
    rintro μ _ _ ⟨i, hi, rfl, rfl, rfl⟩
    by_cases hik : i < p.nr
    · have a1 := ha i hik
      conv => whnf
      refine splT (by simp only [decide_eq_true_eq, decide_eq_false_iff_not, Bool.not_eq_true', Bool.not_eq_false', gt_iff_lt, ge_iff_le] <;> omega) ?_
      conv => whnf
      refine ⟨(by (try simp only [true_and, and_true, Nat.sub_zero, Nat.zero_add, Int.toNat_natCast]) <;> omega), ?_⟩
      conv => whnf
      first | refine callF a1 ⟨.refl _, .refl _, trivial⟩ (by trivial) rfl ?_ | ((repeat (refine ⟨by kernel_rfl, ?_⟩; (conv => whnf))); refine callF a1 ⟨.refl _, .refl _, trivial⟩ (by trivial) rfl ?_)
      conv => whnf
      refine ⟨(by (try simp only [true_and, and_true, Nat.sub_zero, Nat.zero_add, Int.toNat_natCast]) <;> omega), ?_⟩
      conv => whnf
      refine ⟨(by (try simp only [true_and, and_true, Nat.sub_zero, Nat.zero_add, Int.toNat_natCast]) <;> omega), ?_⟩
      conv => whnf
      refine fit64 (by omega) ?_
      conv => whnf
      refine ⟨_, ?_, _, _, _, rfl, ?_, i + 1, hik, rfl, rfl, rfl⟩
      · omega
      refine ⟨⟨rfl, rfl⟩, .fa fun j hj => upd_le (i := i) (by omega) (fun h => ?_) (fun h => ?_), trivial⟩
      · subst h; rw [if_pos (Nat.lt_succ_self _)]; exact All2.fle_rr (RR.of ((p.r j).act x))
      · by_cases h2 : j < i
        · rw [if_pos h2, if_pos (by omega)]; exact .fle_rr _
        · rw [if_neg h2, if_neg (by omega)]; exact .fle_rr _
    · obtain rfl : i = p.nr := by omega
      conv => whnf
      refine splF (by simp only [decide_eq_true_eq, decide_eq_false_iff_not, Bool.not_eq_true', Bool.not_eq_false', gt_iff_lt, ge_iff_le] <;> omega) ?_
      conv => whnf
      exact ⟨_, _, _, rfl, .refl _, rfl, rfl, rfl⟩
  · rw [if_pos he]
    generalize p.errS n p.nc = E at *
    refine acall_rule env [0, 1, 2, 4, 5, 6, 7, 8, 9, 18, 25, 26, 27, 28] Tryz.func74 rfl rfl rfl rfl ?_
    conv => whnf
    first | refine callF ck ⟨.refl _, .refl _, .refl _, trivial⟩ (by trivial) rfl ?_ | ((repeat (refine ⟨by kernel_rfl, ?_⟩; (conv => whnf))); refine callF ck ⟨.refl _, .refl _, .refl _, trivial⟩ (by trivial) rfl ?_)
    conv => whnf
    refine splT (by simp [he]) ?_
    conv => whnf
    refine ⟨(by (try simp only [true_and, and_true, Nat.sub_zero, Nat.zero_add, Int.toNat_natCast]) <;> omega), ?_⟩
    exact .tup ⟨.rats_nil, .refl _, trivial⟩

theorem lpHolds_ok {r : Ro} (hr : r.Ok) (hb : r.b.sz ≤ 4194304) {v : Rat} (hv : rsz v ≤ 274911461380) : ACall Tryz.prog 117 [r.a, rat v] (.f (.bool (holdB r.s v r.b.v))) := by
  have k1 := qCompare_ok (isR_rat v hv) hr.b.is (by omega)
  have h1 : decide (rcmp v r.b.v ≤ 0) = decide (v ≤ r.b.v) := decide_eq_decide.2 rcmp_le
  have h2 : decide (rcmp v r.b.v ≥ 0) = decide (r.b.v ≤ v) := decide_eq_decide.2 (by rw [← rcmp_le, rcmp_neg]; omega)
  have h3 : decide (rcmp v r.b.v = 0) = decide (v = r.b.v) := decide_eq_decide.2 rcmp_zero
  unfold holdB
  generalize rcmp v r.b.v = C at *
  by_cases s1 : r.s = -1
  · rw [if_pos s1]
    refine acall_rule env [0, 1, 2, 3, 4, 5, 11, 14, 18] Tryz.func117 rfl rfl rfl rfl ?_
    conv => whnf
    first | refine callF k1 ⟨.refl _, .refl _, trivial⟩ (by trivial) rfl ?_ | ((repeat (refine ⟨by kernel_rfl, ?_⟩; (conv => whnf))); refine callF k1 ⟨.refl _, .refl _, trivial⟩ (by trivial) rfl ?_)
    conv => whnf
    refine splT (decide_eq_true s1) ?_
    conv => whnf
    refine ⟨(by (try simp only [true_and, and_true, Nat.sub_zero, Nat.zero_add, Int.toNat_natCast]) <;> omega), ?_⟩
    exact .bool_of h1
  · rw [if_neg s1]
    by_cases s2 : r.s = 1
    · rw [if_pos s2]
      refine acall_rule env [0, 1, 2, 3, 4, 5, 11, 14, 18] Tryz.func117 rfl rfl rfl rfl ?_
      conv => whnf
      first | refine callF k1 ⟨.refl _, .refl _, trivial⟩ (by trivial) rfl ?_ | ((repeat (refine ⟨by kernel_rfl, ?_⟩; (conv => whnf))); refine callF k1 ⟨.refl _, .refl _, trivial⟩ (by trivial) rfl ?_)
      conv => whnf
      refine splF (decide_eq_false s1) ?_
      conv => whnf
      refine splT (decide_eq_true s2) ?_
      conv => whnf
      refine ⟨(by (try simp only [true_and, and_true, Nat.sub_zero, Nat.zero_add, Int.toNat_natCast]) <;> omega), ?_⟩
      exact .bool_of h2
    · rw [if_neg s2]
      refine acall_rule env [0, 1, 2, 3, 4, 5, 11, 14, 18] Tryz.func117 rfl rfl rfl rfl ?_
      conv => whnf
      first | refine callF k1 ⟨.refl _, .refl _, trivial⟩ (by trivial) rfl ?_ | ((repeat (refine ⟨by kernel_rfl, ?_⟩; (conv => whnf))); refine callF k1 ⟨.refl _, .refl _, trivial⟩ (by trivial) rfl ?_)
      conv => whnf
      refine splF (decide_eq_false s1) ?_
      conv => whnf
      refine splF (decide_eq_false s2) ?_
      conv => whnf
      refine ⟨(by (try simp only [true_and, and_true, Nat.sub_zero, Nat.zero_add, Int.toNat_natCast]) <;> omega), ?_⟩
      exact .bool_of h3
def nilI : AV := .f (.sl 1 (fun _ => [.int .i64 0]) 0 (some 0))
theorem cnt_step {f : Nat → Bool} {i : Nat} (h : f i = true) : cnt f (i + 1) = cnt f i + 1 := by rw [cnt, if_pos h]
theorem cnt_same {f : Nat → Bool} {i : Nat} (h : f i = false) : cnt f (i + 1) = cnt f i ∧ nth f (i + 1) = nth f i := by
  refine ⟨by rw [cnt, h]; rfl, ?_⟩
  funext j
  rw [nth, h]; simp
theorem more_nth {f : Nat → Bool} {i j : Nat} (h : f i = true) (hj : j < cnt f i + 1) {l : List FV} (hl : l = [.int .i64 i]) :
    All2 FVle (if j < cnt f i then [.int .i64 (nth f i (0 + j))] else List.take 1 (List.drop ((0 + (j - cnt f i)) * 1) l)) [.int .i64 (nth f (i + 1) j)] := by
  subst hl
  rw [Nat.zero_add]
  by_cases h2 : j < cnt f i
  · rw [if_pos h2, nth, if_neg (by omega)]; exact .one (.refl _)
  · obtain rfl : j = cnt f i := by omega
    rw [if_neg h2, Nat.sub_self, nth, if_pos ⟨h, rfl⟩]; exact .one (.refl _)
def vioRes (p : Pr) (x : Nat → RR) (n : Nat) : AV := if p.errS n p.nc ≠ 0 then .tup [nums (fun _ => 0) 0, nums (fun _ => 0) 0, .f (.int .i64 (p.errS n p.nc))] else
  .tup [nums (nth (p.cv x) p.nc) (cnt (p.cv x) p.nc), nums (nth (p.rv x) p.nr) (cnt (p.rv x) p.nr), .f (.int .i64 0)]
theorem AVle.nums_nil {sz : Nat} {at_ : Nat → List FV} {c : Option Nat} {g : Nat → Int} : AVle (.f (.sl sz at_ 0 c)) (nums g 0) := .f .nil
theorem lpViolated_ok {p : Pr} (hp : p.H) {x : Nat → RR} {n : Nat} (hx : XH x n) : ACall Tryz.prog 79 [p.a, rats x n] (vioRes p x n) := by
  have ck := lpCheck_ok hp n p.nc hx.n hp.c
  unfold vioRes
  by_cases he : p.errS n p.nc = 0
  · obtain ⟨e1, e2⟩ := Pr.errS_zero.1 he
    obtain ⟨b1, b2, _, _⟩ := Pr.err_facts e1
    rw [if_neg (fun h => h he)]
    rw [he] at ck
    subst e2
    have ha := fun i (hi : i < p.nr) => lpActivity_ok (hp.row e1 hi) hx
    have hh := fun i (hi : i < p.nr) => lpHolds_ok (hp.ok.r i hi) (by have := Pr.rsz hi; have := hp.s; unfold Ro.sz at *; omega) (Nat.le_trans (act_sz (hp.row e1 hi) hx) (by omega))
    have hcl := cnt_le (p.cv x)
    have hrl := cnt_le (p.rv x)
    refine acall_rule env [0, 1, 2, 4, 5, 6, 7, 8, 9, 10, 11, 20, 23, 24, 25, 26, 55, 62, 63, 64, 65, 74] Tryz.func79 rfl rfl rfl rfl ?_
    conv => whnf
    first | refine callF ck ⟨.refl _, .refl _, .refl _, trivial⟩ (by trivial) rfl ?_ | ((repeat (refine ⟨by kernel_rfl, ?_⟩; (conv => whnf))); refine callF ck ⟨.refl _, .refl _, .refl _, trivial⟩ (by trivial) rfl ?_)
    conv => whnf
    refine .weak (nil_weak 4 59 1 (by decide) rfl rfl) ?_
    refine loop_mod [1, 2, 4, 5, 6, 23, 24, 25] [2, 59] [1, 2, 4, 5, 6] [2, 59]
      (fun μ fr hp_ => ∃ i : Nat, i ≤ p.nc ∧ fr = [(1, rats x p.nc), bpk 2 2, (4, .lsl 59 1 1 0 (cnt (p.cv x) i) none), (5, nilI), (6, .f (.int .i64 0)), (23, .f (.sl 11 (fun j => (p.c j).c) p.nc none)), (24, .f (.int .i64 p.nc)), (25, .f (.int .i64 i))] ∧
        hp_ = [bxk 2 [.f (.sl 11 (fun j => (p.c j).c) p.nc none), .f (.sl 5 (fun i => (p.r i).c) p.nr none)], (59, 1, .fa 1 (cnt (p.cv x) i) (fun j => [.int .i64 (nth (p.cv x) i j)]))] ∧ μ = p.nc - i)
      (fun e fr hp_ => e = .exit 0 ∧ fr = [(1, rats x p.nc), bpk 2 2, (4, .lsl 59 1 1 0 (cnt (p.cv x) p.nc) none), (5, nilI), (6, .f (.int .i64 0))] ∧
        hp_ = [bxk 2 [.f (.sl 11 (fun j => (p.c j).c) p.nc none), .f (.sl 5 (fun i => (p.r i).c) p.nr none)], (59, 1, .fa 1 (cnt (p.cv x) p.nc) (fun j => [.int .i64 (nth (p.cv x) p.nc j)]))])
      ⟨_, _, _, _, rfl, ?_, 0, Nat.zero_le _, rfl, rfl, rfl⟩ ?_ ?_
    · exact ⟨⟨rfl, rfl⟩, .refl _, ⟨rfl, rfl⟩, .fa fun j hj => absurd hj (Nat.not_lt_zero _), trivial⟩
    · rintro _ _ _ ⟨rfl, rfl, rfl⟩
      conv => whnf
      refine .weak (nil_weak 5 78 1 (by decide) rfl rfl) ?_
      refine loop_mod [1, 4, 5, 6, 62, 63, 64] [59, 78] [4, 5, 6] [59, 78]
        (fun μ fr hp_ => ∃ i : Nat, i ≤ p.nr ∧ fr = [(1, rats x p.nc), (4, .lsl 59 1 1 0 (cnt (p.cv x) p.nc) none), (5, .lsl 78 1 1 0 (cnt (p.rv x) i) none), (6, .f (.int .i64 0)), (62, .f (.sl 5 (fun i => (p.r i).c) p.nr none)), (63, .f (.int .i64 p.nr)), (64, .f (.int .i64 i))] ∧
          hp_ = [(59, 1, .fa 1 (cnt (p.cv x) p.nc) (fun j => [.int .i64 (nth (p.cv x) p.nc j)])), (78, 1, .fa 1 (cnt (p.rv x) i) (fun j => [.int .i64 (nth (p.rv x) i j)]))] ∧ μ = p.nr - i)
        (fun e fr hp_ => e = .exit 2 ∧ fr = [(4, .lsl 59 1 1 0 (cnt (p.cv x) p.nc) none), (5, .lsl 78 1 1 0 (cnt (p.rv x) p.nr) none), (6, .f (.int .i64 0))] ∧
          hp_ = [(59, 1, .fa 1 (cnt (p.cv x) p.nc) (fun j => [.int .i64 (nth (p.cv x) p.nc j)])), (78, 1, .fa 1 (cnt (p.rv x) p.nr) (fun j => [.int .i64 (nth (p.rv x) p.nr j)]))])
        ⟨_, _, _, _, rfl, ?_, 0, Nat.zero_le _, rfl, rfl, rfl⟩ ?_ ?_
      · exact ⟨⟨rfl, rfl⟩, .refl _, ⟨rfl, rfl⟩, .fa fun j hj => absurd hj (Nat.not_lt_zero _), trivial⟩
      · rintro _ _ _ ⟨rfl, rfl, rfl⟩
        conv => whnf
        refine ⟨(by (try simp only [true_and, and_true, Nat.sub_zero, Nat.zero_add, Int.toNat_natCast]) <;> omega), ?_⟩
        refine .tup ⟨.f (.sl (fun j hj => ?_) (.inl rfl)), .f (.sl (fun j hj => ?_) (.inl rfl)), .refl _, trivial⟩
        · simp only [Nat.zero_add]; exact .one (.refl _)
        · simp only [Nat.zero_add]; exact .one (.refl _)
      rintro μ _ _ ⟨i, hi, rfl, rfl, rfl⟩
      by_cases hik : i < p.nr
      · have a1 := ha i hik
        have h1 := hh i hik
        have hl := hrl i
        have hrv : p.rv x i = !holdB (p.r i).s ((p.r i).act x) (p.r i).b.v := rfl
        cases hb : holdB (p.r i).s ((p.r i).act x) (p.r i).b.v with
        | true =>
          rw [hb] at hrv h1
          obtain ⟨c1, c2⟩ := cnt_same hrv
          conv => whnf
          refine splT (by simp only [decide_eq_true_eq, decide_eq_false_iff_not, Bool.not_eq_true', Bool.not_eq_false', gt_iff_lt, ge_iff_le] <;> omega) ?_
          conv => whnf
          refine ⟨(by (try simp only [true_and, and_true, Nat.sub_zero, Nat.zero_add, Int.toNat_natCast]) <;> omega), ?_⟩
          conv => whnf
          first | refine callF a1 ⟨.refl _, .refl _, trivial⟩ (by trivial) rfl ?_ | ((repeat (refine ⟨by kernel_rfl, ?_⟩; (conv => whnf))); refine callF a1 ⟨.refl _, .refl _, trivial⟩ (by trivial) rfl ?_)
          conv => whnf
          first | refine callF h1 ⟨.refl _, .refl _, trivial⟩ (by trivial) rfl ?_ | ((repeat (refine ⟨by kernel_rfl, ?_⟩; (conv => whnf))); refine callF h1 ⟨.refl _, .refl _, trivial⟩ (by trivial) rfl ?_)
          conv => whnf
          refine ⟨by kernel_rfl, ?_⟩
          conv => whnf
          refine fit64 (by omega) ?_
          conv => whnf
          refine ⟨_, ?_, _, _, _, rfl, .refl _, i + 1, hik, ?_, ?_, rfl⟩
          · omega
          · rw [c1]; rfl
          · rw [c1, c2]
        | false =>
          rw [hb] at hrv h1
          have c1 := cnt_step hrv
          conv => whnf
          refine splT (by simp only [decide_eq_true_eq, decide_eq_false_iff_not, Bool.not_eq_true', Bool.not_eq_false', gt_iff_lt, ge_iff_le] <;> omega) ?_
          conv => whnf
          refine ⟨(by (try simp only [true_and, and_true, Nat.sub_zero, Nat.zero_add, Int.toNat_natCast]) <;> omega), ?_⟩
          conv => whnf
          first | refine callF a1 ⟨.refl _, .refl _, trivial⟩ (by trivial) rfl ?_ | ((repeat (refine ⟨by kernel_rfl, ?_⟩; (conv => whnf))); refine callF a1 ⟨.refl _, .refl _, trivial⟩ (by trivial) rfl ?_)
          conv => whnf
          first | refine callF h1 ⟨.refl _, .refl _, trivial⟩ (by trivial) rfl ?_ | ((repeat (refine ⟨by kernel_rfl, ?_⟩; (conv => whnf))); refine callF h1 ⟨.refl _, .refl _, trivial⟩ (by trivial) rfl ?_)
          conv => whnf
          refine ⟨by kernel_rfl, ?_⟩
          conv => whnf
          refine ⟨⟨(show 1 ≤ 1 / 1 - 0 by decide), by omega, by omega, (show (cnt (p.rv x) i + 1) * 8 ≤ 140737488355328 by omega)⟩, ?_⟩
          conv => whnf
          refine fit64 (by omega) ?_
          conv => whnf
          refine ⟨_, ?_, _, _, [(59, 1, .fa 1 (cnt (p.cv x) p.nc) (fun j => [.int .i64 (nth (p.cv x) p.nc j)])), (78, 1, .fa 1 (cnt (p.rv x) i + 1) (fun j => [.int .i64 (nth (p.rv x) (i + 1) j)]))], rfl, ⟨⟨rfl, rfl⟩, .refl _, ⟨rfl, rfl⟩, .fa fun j hj => more_nth hrv hj rfl, trivial⟩, i + 1, hik, ?_, ?_, rfl⟩
          · omega
          · rw [c1]; rfl
          · rw [c1]
      · obtain rfl : i = p.nr := by omega
        conv => whnf
        refine splF (by simp only [decide_eq_true_eq, decide_eq_false_iff_not, Bool.not_eq_true', Bool.not_eq_false', gt_iff_lt, ge_iff_le] <;> omega) ?_
        conv => whnf
        exact ⟨_, _, _, rfl, .refl _, rfl, rfl, rfl⟩
    rintro μ _ _ ⟨i, hi, rfl, rfl, rfl⟩
    by_cases hik : i < p.nc
    · have hl := hcl i
      have hc := hp.ok.c i hik
      have hsz : (p.c i).sz ≤ 4194304 := Nat.le_trans (Pr.csz hik) hp.s
      unfold Co.sz at hsz
      have k1 := qCompare_ok (hx.ok i hik).is hc.lo.is (by have := hx.s i hik; omega)
      have k2 := qCompare_ok (hx.ok i hik).is hc.up.is (by have := hx.s i hik; omega)
      have hcv : p.cv x i = (((p.c i).hl && decide ((x i).v < (p.c i).lo.v)) || ((p.c i).hu && decide ((p.c i).up.v < (x i).v))) := rfl
      have q1 : decide ((x i).v < (p.c i).lo.v) = decide (rcmp (x i).v (p.c i).lo.v < 0) := decide_eq_decide.2 (by
        constructor
        · intro h; rw [rcmp_lt h]; decide
        · intro h; exact Rat.not_le.1 fun h' => by have := rcmp_le.2 h'; rw [rcmp_neg] at this; omega)
      have q2 : decide ((p.c i).up.v < (x i).v) = decide (rcmp (x i).v (p.c i).up.v > 0) := decide_eq_decide.2 rcmp_pos.symm
      rw [q1, q2] at hcv
      generalize rcmp (x i).v (p.c i).lo.v = C1 at *
      generalize rcmp (x i).v (p.c i).up.v = C2 at *
      clear q1 q2
      by_cases a1 : (p.c i).hl = true
      · by_cases a2 : C1 < 0
        · have hv : p.cv x i = true := by rw [hcv, a1, decide_eq_true a2]; rfl
          conv => whnf
          refine splT (by simp only [decide_eq_true_eq, decide_eq_false_iff_not, Bool.not_eq_true', Bool.not_eq_false', gt_iff_lt, ge_iff_le] <;> omega) ?_
          conv => whnf
          refine ⟨(by (try simp only [true_and, and_true, Nat.sub_zero, Nat.zero_add, Int.toNat_natCast]) <;> omega), ?_⟩
          conv => whnf
          refine splT a1 ?_
          conv => whnf
          refine ⟨(by (try simp only [true_and, and_true, Nat.sub_zero, Nat.zero_add, Int.toNat_natCast]) <;> omega), ?_⟩
          conv => whnf
          first | refine callF k1 ⟨.refl _, .refl _, trivial⟩ (by trivial) rfl ?_ | ((repeat (refine ⟨by kernel_rfl, ?_⟩; (conv => whnf))); refine callF k1 ⟨.refl _, .refl _, trivial⟩ (by trivial) rfl ?_)
          conv => whnf
          refine splT (decide_eq_true a2) ?_
          conv => whnf
          refine ⟨by kernel_rfl, ?_⟩
          conv => whnf
          have c1 := cnt_step hv
          refine ⟨⟨(show 1 ≤ 1 / 1 - 0 by decide), by omega, by omega, (show (cnt (p.cv x) i + 1) * 8 ≤ 140737488355328 by omega)⟩, ?_⟩
          conv => whnf
          refine fit64 (by omega) ?_
          conv => whnf
          refine ⟨_, ?_, _, _, [bxk 2 [.f (.sl 11 (fun j => (p.c j).c) p.nc none), .f (.sl 5 (fun i => (p.r i).c) p.nr none)], (59, 1, .fa 1 (cnt (p.cv x) i + 1) (fun j => [.int .i64 (nth (p.cv x) (i + 1) j)]))], rfl, ⟨⟨rfl, rfl⟩, .refl _, ⟨rfl, rfl⟩, .fa fun j hj => more_nth hv hj rfl, trivial⟩, i + 1, hik, ?_, ?_, rfl⟩
          · omega
          · rw [c1]; rfl
          · rw [c1]
        · by_cases a3 : (p.c i).hu = true
          · by_cases a4 : C2 > 0
            · have hv : p.cv x i = true := by rw [hcv, a1, a3, decide_eq_true a4]; simp
              conv => whnf
              refine splT (by simp only [decide_eq_true_eq, decide_eq_false_iff_not, Bool.not_eq_true', Bool.not_eq_false', gt_iff_lt, ge_iff_le] <;> omega) ?_
              conv => whnf
              refine ⟨(by (try simp only [true_and, and_true, Nat.sub_zero, Nat.zero_add, Int.toNat_natCast]) <;> omega), ?_⟩
              conv => whnf
              refine splT a1 ?_
              conv => whnf
              refine ⟨(by (try simp only [true_and, and_true, Nat.sub_zero, Nat.zero_add, Int.toNat_natCast]) <;> omega), ?_⟩
              conv => whnf
              first | refine callF k1 ⟨.refl _, .refl _, trivial⟩ (by trivial) rfl ?_ | ((repeat (refine ⟨by kernel_rfl, ?_⟩; (conv => whnf))); refine callF k1 ⟨.refl _, .refl _, trivial⟩ (by trivial) rfl ?_)
              conv => whnf
              refine splF (decide_eq_false a2) ?_
              conv => whnf
              refine splT a3 ?_
              conv => whnf
              refine ⟨(by (try simp only [true_and, and_true, Nat.sub_zero, Nat.zero_add, Int.toNat_natCast]) <;> omega), ?_⟩
              conv => whnf
              first | refine callF k2 ⟨.refl _, .refl _, trivial⟩ (by trivial) rfl ?_ | ((repeat (refine ⟨by kernel_rfl, ?_⟩; (conv => whnf))); refine callF k2 ⟨.refl _, .refl _, trivial⟩ (by trivial) rfl ?_)
              conv => whnf
              refine ⟨by kernel_rfl, ?_⟩
              conv => whnf
              refine splT (decide_eq_true a4) ?_
              conv => whnf
              have c1 := cnt_step hv
              refine ⟨⟨(show 1 ≤ 1 / 1 - 0 by decide), by omega, by omega, (show (cnt (p.cv x) i + 1) * 8 ≤ 140737488355328 by omega)⟩, ?_⟩
              conv => whnf
              refine fit64 (by omega) ?_
              conv => whnf
              refine ⟨_, ?_, _, _, [bxk 2 [.f (.sl 11 (fun j => (p.c j).c) p.nc none), .f (.sl 5 (fun i => (p.r i).c) p.nr none)], (59, 1, .fa 1 (cnt (p.cv x) i + 1) (fun j => [.int .i64 (nth (p.cv x) (i + 1) j)]))], rfl, ⟨⟨rfl, rfl⟩, .refl _, ⟨rfl, rfl⟩, .fa fun j hj => more_nth hv hj rfl, trivial⟩, i + 1, hik, ?_, ?_, rfl⟩
              · omega
              · rw [c1]; rfl
              · rw [c1]
            · have hv : p.cv x i = false := by rw [hcv, decide_eq_false a2, decide_eq_false a4]; simp
              conv => whnf
              refine splT (by simp only [decide_eq_true_eq, decide_eq_false_iff_not, Bool.not_eq_true', Bool.not_eq_false', gt_iff_lt, ge_iff_le] <;> omega) ?_
              conv => whnf
              refine ⟨(by (try simp only [true_and, and_true, Nat.sub_zero, Nat.zero_add, Int.toNat_natCast]) <;> omega), ?_⟩
              conv => whnf
              refine splT a1 ?_
              conv => whnf
              refine ⟨(by (try simp only [true_and, and_true, Nat.sub_zero, Nat.zero_add, Int.toNat_natCast]) <;> omega), ?_⟩
              conv => whnf
              first | refine callF k1 ⟨.refl _, .refl _, trivial⟩ (by trivial) rfl ?_ | ((repeat (refine ⟨by kernel_rfl, ?_⟩; (conv => whnf))); refine callF k1 ⟨.refl _, .refl _, trivial⟩ (by trivial) rfl ?_)
              conv => whnf
              refine splF (decide_eq_false a2) ?_
              conv => whnf
              refine splT a3 ?_
              conv => whnf
              refine ⟨(by (try simp only [true_and, and_true, Nat.sub_zero, Nat.zero_add, Int.toNat_natCast]) <;> omega), ?_⟩
              conv => whnf
              first | refine callF k2 ⟨.refl _, .refl _, trivial⟩ (by trivial) rfl ?_ | ((repeat (refine ⟨by kernel_rfl, ?_⟩; (conv => whnf))); refine callF k2 ⟨.refl _, .refl _, trivial⟩ (by trivial) rfl ?_)
              conv => whnf
              refine ⟨by kernel_rfl, ?_⟩
              conv => whnf
              refine splF (decide_eq_false a4) ?_
              conv => whnf
              obtain ⟨c1, c2⟩ := cnt_same hv
              refine fit64 (by omega) ?_
              conv => whnf
              refine ⟨_, ?_, _, _, _, rfl, .refl _, i + 1, hik, ?_, ?_, rfl⟩
              · omega
              · rw [c1]; rfl
              · rw [c1, c2]; rfl
          · have hv : p.cv x i = false := by rw [hcv, decide_eq_false a2]; simp [a3]
            conv => whnf
            refine splT (by simp only [decide_eq_true_eq, decide_eq_false_iff_not, Bool.not_eq_true', Bool.not_eq_false', gt_iff_lt, ge_iff_le] <;> omega) ?_
            conv => whnf
            refine ⟨(by (try simp only [true_and, and_true, Nat.sub_zero, Nat.zero_add, Int.toNat_natCast]) <;> omega), ?_⟩
            conv => whnf
            refine splT a1 ?_
            conv => whnf
            refine ⟨(by (try simp only [true_and, and_true, Nat.sub_zero, Nat.zero_add, Int.toNat_natCast]) <;> omega), ?_⟩
            conv => whnf
            first | refine callF k1 ⟨.refl _, .refl _, trivial⟩ (by trivial) rfl ?_ | ((repeat (refine ⟨by kernel_rfl, ?_⟩; (conv => whnf))); refine callF k1 ⟨.refl _, .refl _, trivial⟩ (by trivial) rfl ?_)
            conv => whnf
            refine splF (decide_eq_false a2) ?_
            conv => whnf
            refine splF (by simpa using a3) ?_
            conv => whnf
            refine ⟨by kernel_rfl, ?_⟩
            conv => whnf
            obtain ⟨c1, c2⟩ := cnt_same hv
            refine fit64 (by omega) ?_
            conv => whnf
            refine ⟨_, ?_, _, _, _, rfl, .refl _, i + 1, hik, ?_, ?_, rfl⟩
            · omega
            · rw [c1]; rfl
            · rw [c1, c2]; rfl
      · by_cases a3 : (p.c i).hu = true
        · by_cases a4 : C2 > 0
          · have hv : p.cv x i = true := by rw [hcv, a3, decide_eq_true a4]; simp
            conv => whnf
            refine splT (by simp only [decide_eq_true_eq, decide_eq_false_iff_not, Bool.not_eq_true', Bool.not_eq_false', gt_iff_lt, ge_iff_le] <;> omega) ?_
            conv => whnf
            refine ⟨(by (try simp only [true_and, and_true, Nat.sub_zero, Nat.zero_add, Int.toNat_natCast]) <;> omega), ?_⟩
            conv => whnf
            refine splF (by simpa using a1) ?_
            conv => whnf
            refine splT a3 ?_
            conv => whnf
            refine ⟨(by (try simp only [true_and, and_true, Nat.sub_zero, Nat.zero_add, Int.toNat_natCast]) <;> omega), ?_⟩
            conv => whnf
            first | refine callF k2 ⟨.refl _, .refl _, trivial⟩ (by trivial) rfl ?_ | ((repeat (refine ⟨by kernel_rfl, ?_⟩; (conv => whnf))); refine callF k2 ⟨.refl _, .refl _, trivial⟩ (by trivial) rfl ?_)
            conv => whnf
            refine ⟨by kernel_rfl, ?_⟩
            conv => whnf
            refine splT (decide_eq_true a4) ?_
            conv => whnf
            have c1 := cnt_step hv
            refine ⟨⟨(show 1 ≤ 1 / 1 - 0 by decide), by omega, by omega, (show (cnt (p.cv x) i + 1) * 8 ≤ 140737488355328 by omega)⟩, ?_⟩
            conv => whnf
            refine fit64 (by omega) ?_
            conv => whnf
            refine ⟨_, ?_, _, _, [bxk 2 [.f (.sl 11 (fun j => (p.c j).c) p.nc none), .f (.sl 5 (fun i => (p.r i).c) p.nr none)], (59, 1, .fa 1 (cnt (p.cv x) i + 1) (fun j => [.int .i64 (nth (p.cv x) (i + 1) j)]))], rfl, ⟨⟨rfl, rfl⟩, .refl _, ⟨rfl, rfl⟩, .fa fun j hj => more_nth hv hj rfl, trivial⟩, i + 1, hik, ?_, ?_, rfl⟩
            · omega
            · rw [c1]; rfl
            · rw [c1]
          · have hv : p.cv x i = false := by rw [hcv, decide_eq_false a4]; simp [a1]
            conv => whnf
            refine splT (by simp only [decide_eq_true_eq, decide_eq_false_iff_not, Bool.not_eq_true', Bool.not_eq_false', gt_iff_lt, ge_iff_le] <;> omega) ?_
            conv => whnf
            refine ⟨(by (try simp only [true_and, and_true, Nat.sub_zero, Nat.zero_add, Int.toNat_natCast]) <;> omega), ?_⟩
            conv => whnf
            refine splF (by simpa using a1) ?_
            conv => whnf
            refine splT a3 ?_
            conv => whnf
            refine ⟨(by (try simp only [true_and, and_true, Nat.sub_zero, Nat.zero_add, Int.toNat_natCast]) <;> omega), ?_⟩
            conv => whnf
            first | refine callF k2 ⟨.refl _, .refl _, trivial⟩ (by trivial) rfl ?_ | ((repeat (refine ⟨by kernel_rfl, ?_⟩; (conv => whnf))); refine callF k2 ⟨.refl _, .refl _, trivial⟩ (by trivial) rfl ?_)
            conv => whnf
            refine ⟨by kernel_rfl, ?_⟩
            conv => whnf
            refine splF (decide_eq_false a4) ?_
            conv => whnf
            obtain ⟨c1, c2⟩ := cnt_same hv
            refine fit64 (by omega) ?_
            conv => whnf
            refine ⟨_, ?_, _, _, _, rfl, .refl _, i + 1, hik, ?_, ?_, rfl⟩
            · omega
            · rw [c1]; rfl
            · rw [c1, c2]; rfl
        · have hv : p.cv x i = false := by rw [hcv]; simp [a1, a3]
          conv => whnf
          refine splT (by simp only [decide_eq_true_eq, decide_eq_false_iff_not, Bool.not_eq_true', Bool.not_eq_false', gt_iff_lt, ge_iff_le] <;> omega) ?_
          conv => whnf
          refine ⟨(by (try simp only [true_and, and_true, Nat.sub_zero, Nat.zero_add, Int.toNat_natCast]) <;> omega), ?_⟩
          conv => whnf
          refine splF (by simpa using a1) ?_
          conv => whnf
          refine splF (by simpa using a3) ?_
          conv => whnf
          refine ⟨by kernel_rfl, ?_⟩
          conv => whnf
          obtain ⟨c1, c2⟩ := cnt_same hv
          refine fit64 (by omega) ?_
          conv => whnf
          refine ⟨_, ?_, _, _, _, rfl, .refl _, i + 1, hik, ?_, ?_, rfl⟩
          · omega
          · rw [c1]; rfl
          · rw [c1, c2]; rfl
    · obtain rfl : i = p.nc := by omega
      conv => whnf
      refine splF (by simp only [decide_eq_true_eq, decide_eq_false_iff_not, Bool.not_eq_true', Bool.not_eq_false', gt_iff_lt, ge_iff_le] <;> omega) ?_
      conv => whnf
      exact ⟨_, _, _, rfl, .refl _, rfl, rfl, rfl⟩
  · rw [if_pos he]
    generalize p.errS n p.nc = E at *
    refine acall_rule env [0, 1, 2, 4, 5, 6, 7, 8, 9, 10, 11, 20, 23, 24, 25, 26, 55, 62, 63, 64, 65, 74] Tryz.func79 rfl rfl rfl rfl ?_
    conv => whnf
    first | refine callF ck ⟨.refl _, .refl _, .refl _, trivial⟩ (by trivial) rfl ?_ | ((repeat (refine ⟨by kernel_rfl, ?_⟩; (conv => whnf))); refine callF ck ⟨.refl _, .refl _, .refl _, trivial⟩ (by trivial) rfl ?_)
    conv => whnf
    refine splT (by simp [he]) ?_
    conv => whnf
    refine ⟨(by (try simp only [true_and, and_true, Nat.sub_zero, Nat.zero_add, Int.toNat_natCast]) <;> omega), ?_⟩
    exact .tup ⟨.nums_nil, .nums_nil, .refl _, trivial⟩

theorem lpFeasible_ok {p : Pr} (hp : p.H) {x : Nat → RR} {n : Nat} (hx : XH x n) : ACall Tryz.prog 41 [p.a, rats x n] (.f (.bool (p.feas x n))) := by
  have v1 := lpViolated_ok hp hx
  unfold vioRes at v1
  unfold Pr.feas
  by_cases he : p.errS n p.nc = 0
  · rw [if_neg (fun h => h he)] at v1
    rw [decide_eq_true he, Bool.true_and]
    generalize cnt (p.cv x) p.nc = a at *
    generalize cnt (p.rv x) p.nr = b at *
    by_cases h1 : a = 0
    · refine acall_rule env [0, 1, 2, 4, 5, 6, 7] Tryz.func41 rfl rfl rfl rfl ?_
      conv => whnf
      first | refine callF v1 ⟨.refl _, .refl _, trivial⟩ (by trivial) rfl ?_ | ((repeat (refine ⟨by kernel_rfl, ?_⟩; (conv => whnf))); refine callF v1 ⟨.refl _, .refl _, trivial⟩ (by trivial) rfl ?_)
      conv => whnf
      refine splT (decide_eq_true (by omega)) ?_
      conv => whnf
      refine ⟨(by (try simp only [true_and, and_true, Nat.sub_zero, Nat.zero_add, Int.toNat_natCast]) <;> omega), ?_⟩
      refine .bool_of ?_
      rw [decide_eq_true h1, Bool.true_and]
      exact decide_eq_decide.2 (by omega)
    · refine acall_rule env [0, 1, 2, 4, 5, 6, 7] Tryz.func41 rfl rfl rfl rfl ?_
      conv => whnf
      first | refine callF v1 ⟨.refl _, .refl _, trivial⟩ (by trivial) rfl ?_ | ((repeat (refine ⟨by kernel_rfl, ?_⟩; (conv => whnf))); refine callF v1 ⟨.refl _, .refl _, trivial⟩ (by trivial) rfl ?_)
      conv => whnf
      refine splF (decide_eq_false (by omega)) ?_
      conv => whnf
      refine ⟨(by (try simp only [true_and, and_true, Nat.sub_zero, Nat.zero_add, Int.toNat_natCast]) <;> omega), ?_⟩
      refine .bool_of ?_
      rw [decide_eq_false h1]; rfl
  · rw [if_pos he] at v1
    generalize p.errS n p.nc = E at *
    refine acall_rule env [0, 1, 2, 4, 5, 6, 7] Tryz.func41 rfl rfl rfl rfl ?_
    conv => whnf
    first | refine callF v1 ⟨.refl _, .refl _, trivial⟩ (by trivial) rfl ?_ | ((repeat (refine ⟨by kernel_rfl, ?_⟩; (conv => whnf))); refine callF v1 ⟨.refl _, .refl _, trivial⟩ (by trivial) rfl ?_)
    conv => whnf
    refine splF (decide_eq_false he) ?_
    conv => whnf
    refine ⟨(by (try simp only [true_and, and_true, Nat.sub_zero, Nat.zero_add, Int.toNat_natCast]) <;> omega), ?_⟩
    refine .bool_of ?_
    rw [decide_eq_false he]; rfl
end Go.Abs

/- Linear programs: multipliers. -/
set_option autoImplicit false
set_option maxHeartbeats 4000000
set_option maxRecDepth 10000
set_option linter.unusedVariables false
set_option linter.unusedSimpArgs false
namespace Go.Abs
open Go Go.Proofs

/-- the reduced costs after some rows, and what a row has at a column after some entries -/
def redP (p : Pr) (y : Nat → RR) (i j : Nat) : Rat := (p.c j).w.v - qsum (fun i => (y i).v * (p.r i).at j) i
def atP (r : Ro) (k j : Nat) : Rat := qsum (fun k => if (r.e k).i = j then (r.e k).v.v else 0) k
theorem rsz_zero : rsz 0 = 1 := by decide
theorem at_sz {r : Ro} (hr : r.Ok) (j : Nat) : ∀ k, k ≤ r.k → rsz (atP r k j) ≤ r.esz + 1 := by
  intro k hk
  have h := qsum_sz (f := fun k => if (r.e k).i = j then (r.e k).v.v else 0) (s := fun k => (r.e k).v.sz) (n := k) (fun q hq => by
    show rsz (if (r.e q).i = j then (r.e q).v.v else 0) ≤ (r.e q).v.sz
    split
    · exact (hr.e q (by omega)).v.size
    · rw [rsz_zero]; exact RR.sz_pos _)
  have h2 : nsum (fun k => (r.e k).v.sz + 1) k ≤ r.esz := nsum_le hk
  exact Nat.le_trans h (by omega)
theorem red_sz {p : Pr} (hp : p.H) {y : Nat → RR} (hy : XH y p.nr) (hnr : p.nr ≤ 16384) {j : Nat} (hj : j < p.nc) : ∀ i, i ≤ p.nr → rsz (redP p y i j) ≤ 25182211 := by
  intro i hi
  have h := qsum_sz (f := fun i => (y i).v * (p.r i).at j) (s := fun i => (y i).sz + (p.r i).sz) (n := i) (fun q hq => by
    have h1 := at_sz (hp.ok.r q (by omega)) j (p.r q).k (Nat.le_refl _)
    have h2 := rsz_mul (hy.ok q (by omega)).size h1
    have h3 : (p.r q).sz = (p.r q).b.sz + (p.r q).esz + 1 := rfl
    exact Nat.le_trans h2 (by omega))
  have e : nsum (fun i => (y i).sz + (p.r i).sz + 1) i = nsum (fun i => (y i).sz) i + nsum (fun i => (p.r i).sz) i + nsum (fun _ => 1) i := by rw [nsum_add, nsum_add]
  have h3 : nsum (fun i => (y i).sz) i ≤ nsum (fun i => (y i).sz) p.nr := nsum_le hi
  have h4 : nsum (fun i => (p.r i).sz) i ≤ nsum (fun i => (p.r i).sz) p.nr := nsum_le hi
  have h5 := nsum_const 1 i
  have h6 := hy.t
  have h7 := hp.s
  have h8 : p.sz = nsum (fun j => (p.c j).sz) p.nc + nsum (fun i => (p.r i).sz) p.nr := rfl
  have h9 := nsum_get (f := fun j => (p.c j).sz) hj
  have h10 : (p.c j).sz = (p.c j).w.sz + (p.c j).lo.sz + (p.c j).up.sz := rfl
  have h11 := rsz_sub (hp.ok.c j hj).w.size h
  unfold redP
  exact Nat.le_trans h11 (by omega)
def redRes (p : Pr) (y : Nat → RR) (n : Nat) : AV := if p.errS n p.nr ≠ 0 then .tup [rats (fun _ => RR.nil) 0, .f (.int .i64 (p.errS n p.nr))] else .tup [ratsRes (p.red y) p.nc, .f (.int .i64 0)]
theorem lpReduced_ok {p : Pr} (hp : p.H) {y : Nat → RR} {n : Nat} (hy : XH y n) : ACall Tryz.prog 85 [p.a, rats y n] (redRes p y n) := by
  have ck := lpCheck_ok hp n p.nr hy.n hp.r
  unfold redRes
  by_cases he : p.errS n p.nr = 0
  · obtain ⟨e1, e2⟩ := Pr.errS_zero.1 he
    obtain ⟨b1, b2, _, _⟩ := Pr.err_facts e1
    rw [if_neg (fun h => h he)]
    rw [he] at ck
    subst e2
    have hrs := fun j (hj : j < p.nc) i (hi : i ≤ p.nr) => red_sz hp hy b2 hj i hi
    refine acall_rule env [0, 1, 2, 4, 5, 6, 7, 8, 9, 10, 11, 13, 22, 29, 30, 31, 32, 44, 45, 46, 47, 56, 58, 59, 60, 61] Tryz.func85 rfl rfl rfl rfl ?_
    conv => whnf
    first | refine callF ck ⟨.refl _, .refl _, .refl _, trivial⟩ (by trivial) rfl ?_ | ((repeat (refine ⟨by kernel_rfl, ?_⟩; (conv => whnf))); refine callF ck ⟨.refl _, .refl _, .refl _, trivial⟩ (by trivial) rfl ?_)
    conv => whnf
    refine ⟨(by (try simp only [true_and, and_true, Nat.sub_zero, Nat.zero_add, Int.toNat_natCast]) <;> omega), ?_⟩
    conv => whnf
    refine loop_mod [1, 2, 4, 5, 7, 29, 30, 31] [2, 27] [1, 2, 4, 5, 7] [2, 27]
      (fun μ fr hp_ => ∃ i : Nat, i ≤ p.nc ∧ fr = [(1, rats y p.nr), bpk 2 2, (4, nilQ), (5, .f (.int .i64 0)), (7, .lsl 27 1 3 0 p.nc (some p.nc)), (29, .f (.sl 11 (fun i => (p.c i).c) p.nc none)), (30, .f (.int .i64 p.nc)), (31, .f (.int .i64 i))] ∧
        hp_ = [bxk 2 [.f (.sl 11 (fun j => (p.c j).c) p.nc none), .f (.sl 5 (fun i => (p.r i).c) p.nr none)], (27, 1, .fa 3 p.nc (fun j => (if j < i then RR.of (p.c j).w.v else RR.nil).c))] ∧ μ = p.nc - i)
      (fun e fr hp_ => e = .exit 0 ∧ fr = [(1, rats y p.nr), bpk 2 2, (4, nilQ), (5, .f (.int .i64 0)), (7, .lsl 27 1 3 0 p.nc (some p.nc))] ∧
        hp_ = [bxk 2 [.f (.sl 11 (fun j => (p.c j).c) p.nc none), .f (.sl 5 (fun i => (p.r i).c) p.nr none)], (27, 1, .fa 3 p.nc (fun j => (RR.of (redP p y 0 j)).c))])
      ⟨_, _, _, _, rfl, ?_, 0, Nat.zero_le _, rfl, rfl, rfl⟩ ?_ ?_
    · refine ⟨⟨rfl, rfl⟩, .refl _, ⟨rfl, rfl⟩, .fa fun j hj => ?_, trivial⟩
      rw [if_neg (Nat.not_lt_zero _)]; exact ⟨.refl _, .nil, .nil, trivial⟩
    · rintro _ _ _ ⟨rfl, rfl, rfl⟩
      conv => whnf
      refine loop_mod [1, 4, 5, 7, 44, 45, 46] [27] [5, 7] [27]
        (fun μ fr hp_ => ∃ i : Nat, i ≤ p.nr ∧ fr = [(1, rats y p.nr), (4, nilQ), (5, .f (.int .i64 0)), (7, .lsl 27 1 3 0 p.nc (some p.nc)), (44, .f (.sl 5 (fun i => (p.r i).c) p.nr none)), (45, .f (.int .i64 p.nr)), (46, .f (.int .i64 i))] ∧
          hp_ = [(27, 1, .fa 3 p.nc (fun j => (RR.of (redP p y i j)).c))] ∧ μ = p.nr - i)
        (fun e fr hp_ => e = .exit 2 ∧ fr = [(5, .f (.int .i64 0)), (7, .lsl 27 1 3 0 p.nc (some p.nc))] ∧ hp_ = [(27, 1, .fa 3 p.nc (fun j => (RR.of (p.red y j)).c))])
        ⟨_, _, _, _, rfl, .refl _, 0, Nat.zero_le _, rfl, rfl, rfl⟩ ?_ ?_
      · rintro _ _ _ ⟨rfl, rfl, rfl⟩
        conv => whnf
        refine ⟨(by (try simp only [true_and, and_true, Nat.sub_zero, Nat.zero_add, Int.toNat_natCast]) <;> omega), ?_⟩
        refine .tup ⟨.f (.sl (fun j hj => ?_) (.inl rfl)), .refl _, trivial⟩
        simp only [Nat.zero_add]
        exact .fle_rr _
      rintro μ _ _ ⟨i, hi, rfl, rfl, rfl⟩
      by_cases hik : i < p.nr
      · have s1 := qSign_ok (hy.ok i hik).is (by have := hy.s i hik; omega)
        have hx0 : rcmp (y i).v 0 = 0 ↔ (y i).v = 0 := rcmp_zero
        have hstep : ∀ j, redP p y (i + 1) j = redP p y i j - (y i).v * (p.r i).at j := by intro j; unfold redP; rw [qsum]; grind
        by_cases hz : (y i).v = 0
        · rw [hx0.2 hz] at s1
          have hsame : (fun j => redP p y (i + 1) j) = fun j => redP p y i j := by funext j; rw [hstep, hz]; grind
          conv => whnf
          refine splT (by simp only [decide_eq_true_eq, decide_eq_false_iff_not, Bool.not_eq_true', Bool.not_eq_false', gt_iff_lt, ge_iff_le] <;> omega) ?_
          conv => whnf
          refine ⟨(by (try simp only [true_and, and_true, Nat.sub_zero, Nat.zero_add, Int.toNat_natCast]) <;> omega), ?_⟩
          conv => whnf
          refine ⟨(by (try simp only [true_and, and_true, Nat.sub_zero, Nat.zero_add, Int.toNat_natCast]) <;> omega), ?_⟩
          conv => whnf
          first | refine callF s1 ⟨.refl _, trivial⟩ (by trivial) rfl ?_ | ((repeat (refine ⟨by kernel_rfl, ?_⟩; (conv => whnf))); refine callF s1 ⟨.refl _, trivial⟩ (by trivial) rfl ?_)
          conv => whnf
          refine fit64 (by omega) ?_
          conv => whnf
          refine ⟨_, ?_, _, _, _, rfl, .refl _, i + 1, hik, rfl, ?_, rfl⟩
          · omega
          · have : ∀ j, redP p y (i + 1) j = redP p y i j := fun j => congrFun hsame j
            simp only [this]
        · have hne : ¬ rcmp (y i).v 0 = 0 := fun h => hz (hx0.1 h)
          have hrow := hp.row e1 hik
          have hz0 : ∀ j, redP p y i j - (y i).v * atP (p.r i) 0 j = redP p y i j := by intro j; unfold atP; rw [qsum]; grind
          have hzk : ∀ j, redP p y i j - (y i).v * atP (p.r i) (p.r i).k j = redP p y (i + 1) j := by intro j; rw [hstep]; rfl
          have hrk := hrow.k
          clear ck hstep hx0
          conv => whnf
          refine splT (by simp only [decide_eq_true_eq, decide_eq_false_iff_not, Bool.not_eq_true', Bool.not_eq_false', gt_iff_lt, ge_iff_le] <;> omega) ?_
          conv => whnf
          refine ⟨(by (try simp only [true_and, and_true, Nat.sub_zero, Nat.zero_add, Int.toNat_natCast]) <;> omega), ?_⟩
          conv => whnf
          refine ⟨(by (try simp only [true_and, and_true, Nat.sub_zero, Nat.zero_add, Int.toNat_natCast]) <;> omega), ?_⟩
          conv => whnf
          first | refine callF s1 ⟨.refl _, trivial⟩ (by trivial) rfl ?_ | ((repeat (refine ⟨by kernel_rfl, ?_⟩; (conv => whnf))); refine callF s1 ⟨.refl _, trivial⟩ (by trivial) rfl ?_)
          conv => whnf
          refine splF (decide_eq_false hne) ?_
          conv => whnf
          refine loop_mod [1, 4, 5, 7, 10, 44, 45, 46, 58, 59, 60] [27] [1, 4, 5, 7, 44, 45, 46] [27]
            (fun μ fr hp_ => ∃ k : Nat, k ≤ (p.r i).k ∧ fr = [(1, rats y p.nr), (4, nilQ), (5, .f (.int .i64 0)), (7, .lsl 27 1 3 0 p.nc (some p.nc)), (10, .f (.int .i64 i)), (44, .f (.sl 5 (fun i => (p.r i).c) p.nr none)), (45, .f (.int .i64 p.nr)), (46, .f (.int .i64 i)),
                (58, .f (.sl 4 (fun j => ((p.r i).e j).c) (p.r i).k none)), (59, .f (.int .i64 (p.r i).k)), (60, .f (.int .i64 k))] ∧
              hp_ = [(27, 1, .fa 3 p.nc (fun j => (RR.of (redP p y i j - (y i).v * atP (p.r i) k j)).c))] ∧ μ = (p.r i).k - k)
            (fun e fr hp_ => e = .exit 4 ∧ fr = [(1, rats y p.nr), (4, nilQ), (5, .f (.int .i64 0)), (7, .lsl 27 1 3 0 p.nc (some p.nc)), (44, .f (.sl 5 (fun i => (p.r i).c) p.nr none)), (45, .f (.int .i64 p.nr)), (46, .f (.int .i64 i))] ∧
              hp_ = [(27, 1, .fa 3 p.nc (fun j => (RR.of (redP p y (i + 1) j)).c))])
            ⟨_, _, _, _, rfl, ?_, 0, Nat.zero_le _, rfl, rfl, rfl⟩ ?_ ?_
          · refine ⟨⟨rfl, rfl⟩, .fa fun j hj => ?_, trivial⟩
            rw [hz0]; exact .fle_rr _
          · rintro _ _ _ ⟨rfl, rfl, rfl⟩
            conv => whnf
            refine fit64 (by omega) ?_
            conv => whnf
            refine ⟨_, ?_, _, _, _, rfl, .refl _, i + 1, hik, rfl, rfl, rfl⟩
            omega
          rintro μ _ _ ⟨k, hk, rfl, rfl, rfl⟩
          by_cases hkk : k < (p.r i).k
          · have hin := hrow.i k hkk
            obtain ⟨J, hJ⟩ : ∃ J : Nat, ((p.r i).e k).i = J := ⟨((p.r i).e k).i.toNat, by omega⟩
            have hJn : J < p.nc := by omega
            have hes := hrow.s k hkk
            have m1 := qMul_ok (hy.ok i hik).is (hrow.ok.e k hkk).v.is (by have := hy.s i hik; omega)
            have zm := rsz_mul (hy.ok i hik).size (hrow.ok.e k hkk).v.size
            have zD : rsz (redP p y i J - (y i).v * atP (p.r i) k J) ≤ 40000000 := by
              have h1 := at_sz (hp.ok.r i hik) J k hk
              have h2 := rsz_mul (hy.ok i hik).size h1
              have h3 := rsz_sub (hrs J hJn i hi) h2
              have := hy.s i hik
              have h5 := Pr.rsz hik
              have h6 := hp.s
              have h7 : (p.r i).sz = (p.r i).b.sz + (p.r i).esz + 1 := rfl
              exact Nat.le_trans h3 (by omega)
            have u1 := qSub_ok (isR_rat _ zD) (isR_rat _ zm) (by have := hy.s i hik; omega)
            have hat : ∀ j : Nat, atP (p.r i) (k + 1) j = atP (p.r i) k j + (if ((p.r i).e k).i = j then ((p.r i).e k).v.v else 0) := fun j => rfl
            have hnew : redP p y i J - (y i).v * atP (p.r i) k J - (y i).v * ((p.r i).e k).v.v = redP p y i J - (y i).v * atP (p.r i) (k + 1) J := by rw [hat, if_pos hJ]; grind
            rw [hnew] at u1
            have hold : ∀ j : Nat, j ≠ J → redP p y i j - (y i).v * atP (p.r i) (k + 1) j = redP p y i j - (y i).v * atP (p.r i) k j := by intro j hj; rw [hat, if_neg (by omega)]; grind
            rw [← RR.of_a] at u1
            have hJ1 : 0 + ((p.r i).e (Int.toNat (k : Int))).i.toNat = J := by rw [Int.toNat_natCast]; omega
            conv => whnf
            refine splT (by simp only [decide_eq_true_eq, decide_eq_false_iff_not, Bool.not_eq_true', Bool.not_eq_false', gt_iff_lt, ge_iff_le] <;> omega) ?_
            conv => whnf
            refine ⟨(by (try simp only [true_and, and_true, Nat.sub_zero, Nat.zero_add, Int.toNat_natCast]) <;> omega), ?_⟩
            conv => whnf
            refine ⟨by rw [Int.toNat_natCast]; omega, ?_⟩
            conv => whnf
            refine ⟨(by (try simp only [true_and, and_true, Nat.sub_zero, Nat.zero_add, Int.toNat_natCast]) <;> omega), ?_⟩
            conv => whnf
            refine ⟨(by (try simp only [true_and, and_true, Nat.sub_zero, Nat.zero_add, Int.toNat_natCast]) <;> omega), ?_⟩
            conv => whnf
            first | refine callF m1 ⟨.refl _, .refl _, trivial⟩ (by trivial) rfl ?_ | ((repeat (refine ⟨by kernel_rfl, ?_⟩; (conv => whnf))); refine callF m1 ⟨.refl _, .refl _, trivial⟩ (by trivial) rfl ?_)
            conv => whnf
            refine callF u1 ⟨?_, .refl _, trivial⟩ (by trivial) rfl ?_
            · rw [hJ1]; exact .refl _
            conv => whnf
            refine ⟨by rw [Int.toNat_natCast]; omega, ?_⟩
            conv => whnf
            refine ⟨by rw [hJ1]; exact hJn, ?_⟩
            conv => whnf
            refine ⟨by kernel_rfl, ?_⟩
            conv => whnf
            refine fit64 (by omega) ?_
            conv => whnf
            refine ⟨_, ?_, _, _, _, rfl, ?_, k + 1, hkk, rfl, rfl, rfl⟩
            · omega
            refine ⟨⟨rfl, rfl⟩, .fa fun j hj => upd_le (i := J) hJ1 (fun h => ?_) (fun h => ?_), trivial⟩
            · subst h; exact All2.fle_rr (RR.of (redP p y i j - (y i).v * atP (p.r i) (k + 1) j))
            · rw [hold j h]; exact .fle_rr _
          · obtain rfl : k = (p.r i).k := by omega
            conv => whnf
            refine splF (by simp only [decide_eq_true_eq, decide_eq_false_iff_not, Bool.not_eq_true', Bool.not_eq_false', gt_iff_lt, ge_iff_le] <;> omega) ?_
            conv => whnf
            refine ⟨_, _, _, rfl, ?_, rfl, rfl, rfl⟩
            refine ⟨⟨rfl, rfl⟩, .fa fun j hj => ?_, trivial⟩
            rw [hzk]; exact .fle_rr _
      · obtain rfl : i = p.nr := by omega
        conv => whnf
        refine splF (by simp only [decide_eq_true_eq, decide_eq_false_iff_not, Bool.not_eq_true', Bool.not_eq_false', gt_iff_lt, ge_iff_le] <;> omega) ?_
        conv => whnf
        exact ⟨_, _, _, rfl, .refl _, rfl, rfl, rfl⟩
    rintro μ _ _ ⟨i, hi, rfl, rfl, rfl⟩
    by_cases hik : i < p.nc
    · have hsz : (p.c i).sz ≤ 4194304 := Nat.le_trans (Pr.csz hik) hp.s
      unfold Co.sz at hsz
      have a1 := qNorm_ok (hp.ok.c i hik).w.is (by omega)
      conv => whnf
      refine splT (by simp only [decide_eq_true_eq, decide_eq_false_iff_not, Bool.not_eq_true', Bool.not_eq_false', gt_iff_lt, ge_iff_le] <;> omega) ?_
      conv => whnf
      refine ⟨(by (try simp only [true_and, and_true, Nat.sub_zero, Nat.zero_add, Int.toNat_natCast]) <;> omega), ?_⟩
      conv => whnf
      first | refine callF a1 ⟨.refl _, trivial⟩ (by trivial) rfl ?_ | ((repeat (refine ⟨by kernel_rfl, ?_⟩; (conv => whnf))); refine callF a1 ⟨.refl _, trivial⟩ (by trivial) rfl ?_)
      conv => whnf
      refine ⟨(by (try simp only [true_and, and_true, Nat.sub_zero, Nat.zero_add, Int.toNat_natCast]) <;> omega), ?_⟩
      conv => whnf
      refine ⟨(by (try simp only [true_and, and_true, Nat.sub_zero, Nat.zero_add, Int.toNat_natCast]) <;> omega), ?_⟩
      conv => whnf
      refine fit64 (by omega) ?_
      conv => whnf
      refine ⟨_, ?_, _, _, _, rfl, ?_, i + 1, hik, rfl, rfl, rfl⟩
      · omega
      refine ⟨⟨rfl, rfl⟩, .refl _, ⟨rfl, rfl⟩, .fa fun j hj => upd_le (i := i) (by omega) (fun h => ?_) (fun h => ?_), trivial⟩
      · subst h; rw [if_pos (Nat.lt_succ_self _)]; exact All2.fle_rr (RR.of (p.c j).w.v)
      · by_cases h2 : j < i
        · rw [if_pos h2, if_pos (by omega)]; exact .fle_rr _
        · rw [if_neg h2, if_neg (by omega)]; exact .fle_rr _
    · obtain rfl : i = p.nc := by omega
      conv => whnf
      refine splF (by simp only [decide_eq_true_eq, decide_eq_false_iff_not, Bool.not_eq_true', Bool.not_eq_false', gt_iff_lt, ge_iff_le] <;> omega) ?_
      conv => whnf
      refine ⟨_, _, _, rfl, ?_, rfl, rfl, rfl⟩
      refine ⟨⟨rfl, rfl⟩, .refl _, ⟨rfl, rfl⟩, .fa fun j hj => ?_, trivial⟩
      rw [if_pos hj]
      have : redP p y 0 j = (p.c j).w.v := by unfold redP; rw [qsum]; grind
      rw [this]; exact .fle_rr _
  · rw [if_pos he]
    generalize p.errS n p.nr = E at *
    refine acall_rule env [0, 1, 2, 4, 5, 6, 7, 8, 9, 10, 11, 13, 22, 29, 30, 31, 32, 44, 45, 46, 47, 56, 58, 59, 60, 61] Tryz.func85 rfl rfl rfl rfl ?_
    conv => whnf
    first | refine callF ck ⟨.refl _, .refl _, .refl _, trivial⟩ (by trivial) rfl ?_ | ((repeat (refine ⟨by kernel_rfl, ?_⟩; (conv => whnf))); refine callF ck ⟨.refl _, .refl _, .refl _, trivial⟩ (by trivial) rfl ?_)
    conv => whnf
    refine splT (by simp [he]) ?_
    conv => whnf
    refine ⟨(by (try simp only [true_and, and_true, Nat.sub_zero, Nat.zero_add, Int.toNat_natCast]) <;> omega), ?_⟩
    exact .tup ⟨.rats_nil, .refl _, trivial⟩

theorem lpSigned_ok {p : Pr} (hp : p.H) {y : Nat → RR} {n : Nat} (hy : XH y n) : ACall Tryz.prog 84 [p.a, rats y n] (.f (.bool (p.sgnd y n))) := by
  have ck := lpCheck_ok hp n p.nr hy.n hp.r
  unfold Pr.sgnd
  by_cases he : p.errS n p.nr = 0
  · obtain ⟨e1, e2⟩ := Pr.errS_zero.1 he
    obtain ⟨b1, b2, _, _⟩ := Pr.err_facts e1
    rw [decide_eq_true he, Bool.true_and]
    rw [he] at ck
    subst e2
    obtain ⟨B, hB⟩ : ∃ B, allB (fun i => signB (p.r i).s (y i).v) p.nr = B := ⟨_, rfl⟩
    rw [hB]
    refine acall_rule env [0, 1, 2, 4, 5, 6, 7, 15, 17, 18, 19, 20, 44] Tryz.func84 rfl rfl rfl rfl ?_
    conv => whnf
    first | refine callF ck ⟨.refl _, .refl _, .refl _, trivial⟩ (by trivial) rfl ?_ | ((repeat (refine ⟨by kernel_rfl, ?_⟩; (conv => whnf))); refine callF ck ⟨.refl _, .refl _, .refl _, trivial⟩ (by trivial) rfl ?_)
    conv => whnf
    refine loop_mod [1, 4, 17, 18, 19] [] [4] []
      (fun μ fr hp_ => ∃ i : Nat, i ≤ p.nr ∧ allB (fun i => signB (p.r i).s (y i).v) i = true ∧ fr = [(1, rats y p.nr), (4, .f (.bool false)), (17, .f (.sl 5 (fun i => (p.r i).c) p.nr none)), (18, .f (.int .i64 p.nr)), (19, .f (.int .i64 i))] ∧ hp_ = [] ∧ μ = p.nr - i)
      (fun x fr hp_ => (x = .exit 0 ∧ B = true ∧ fr = [(4, .f (.bool false))] ∧ hp_ = []) ∨ (x = .ret ∧ B = false ∧ fr = [(4, .f (.bool false))] ∧ hp_ = []))
      ⟨_, _, _, _, rfl, .refl _, 0, Nat.zero_le _, rfl, rfl, rfl, rfl⟩ ?_ ?_
    · rintro _ _ _ (⟨rfl, rfl, rfl, rfl⟩ | ⟨rfl, rfl, rfl, rfl⟩)
      · conv => whnf
        (repeat (refine ⟨by kernel_rfl, ?_⟩; (conv => whnf)))
        refine ⟨(by (try simp only [true_and, and_true, Nat.sub_zero, Nat.zero_add, Int.toNat_natCast]) <;> omega), ?_⟩
        exact .refl _
      · conv => whnf
        (repeat (refine ⟨by kernel_rfl, ?_⟩; (conv => whnf)))
        refine ⟨(by (try simp only [true_and, and_true, Nat.sub_zero, Nat.zero_add, Int.toNat_natCast]) <;> omega), ?_⟩
        exact .refl _
    rintro μ _ _ ⟨i, hi, hall, rfl, rfl, rfl⟩
    by_cases hik : i < p.nr
    · have s1 := qSign_ok (hy.ok i hik).is (by have := hy.s i hik; omega)
      have hf : signB (p.r i).s (y i).v = false → B = false := fun h => hB.symm.trans (allB_false hik h)
      have hb : allB (fun i => signB (p.r i).s (y i).v) (i + 1) = signB (p.r i).s (y i).v := by rw [allB, hall, Bool.true_and]
      have q1 : decide (0 < (y i).v) = decide (rcmp (y i).v 0 > 0) := decide_eq_decide.2 rcmp_pos.symm
      have q2 : decide ((y i).v < 0) = decide (rcmp (y i).v 0 < 0) := decide_eq_decide.2 (by
        constructor
        · intro h; rw [rcmp_lt h]; decide
        · intro h; exact Rat.not_le.1 fun h' => by have := rcmp_le.2 h'; rw [rcmp_neg] at this; omega)
      have hsb : signB (p.r i).s (y i).v = !((decide ((p.r i).s = -1) && decide (0 < (y i).v)) || (decide ((p.r i).s = 1) && decide ((y i).v < 0))) := rfl
      rw [q1, q2] at hsb
      generalize rcmp (y i).v 0 = C at *
      clear q1 q2
      by_cases a1 : (p.r i).s = -1
      · by_cases a2 : C > 0
        · have hv : signB (p.r i).s (y i).v = false := by rw [hsb, decide_eq_true a1, decide_eq_true a2]; rfl
          conv => whnf
          refine splT (by simp only [decide_eq_true_eq, decide_eq_false_iff_not, Bool.not_eq_true', Bool.not_eq_false', gt_iff_lt, ge_iff_le] <;> omega) ?_
          conv => whnf
          refine ⟨(by (try simp only [true_and, and_true, Nat.sub_zero, Nat.zero_add, Int.toNat_natCast]) <;> omega), ?_⟩
          conv => whnf
          refine ⟨(by (try simp only [true_and, and_true, Nat.sub_zero, Nat.zero_add, Int.toNat_natCast]) <;> omega), ?_⟩
          conv => whnf
          first | refine callF s1 ⟨.refl _, trivial⟩ (by trivial) rfl ?_ | ((repeat (refine ⟨by kernel_rfl, ?_⟩; (conv => whnf))); refine callF s1 ⟨.refl _, trivial⟩ (by trivial) rfl ?_)
          conv => whnf
          refine splT (decide_eq_true a1) ?_
          conv => whnf
          refine splT (decide_eq_true a2) ?_
          conv => whnf
          exact ⟨_, _, _, rfl, .refl _, .inr ⟨rfl, hf hv, rfl, rfl⟩⟩
        · have hv : signB (p.r i).s (y i).v = true := by rw [hsb, decide_eq_false a2, decide_eq_false (show ¬ (p.r i).s = 1 by omega)]; simp
          conv => whnf
          refine splT (by simp only [decide_eq_true_eq, decide_eq_false_iff_not, Bool.not_eq_true', Bool.not_eq_false', gt_iff_lt, ge_iff_le] <;> omega) ?_
          conv => whnf
          refine ⟨(by (try simp only [true_and, and_true, Nat.sub_zero, Nat.zero_add, Int.toNat_natCast]) <;> omega), ?_⟩
          conv => whnf
          refine ⟨(by (try simp only [true_and, and_true, Nat.sub_zero, Nat.zero_add, Int.toNat_natCast]) <;> omega), ?_⟩
          conv => whnf
          first | refine callF s1 ⟨.refl _, trivial⟩ (by trivial) rfl ?_ | ((repeat (refine ⟨by kernel_rfl, ?_⟩; (conv => whnf))); refine callF s1 ⟨.refl _, trivial⟩ (by trivial) rfl ?_)
          conv => whnf
          refine splT (decide_eq_true a1) ?_
          conv => whnf
          refine splF (decide_eq_false a2) ?_
          conv => whnf
          refine splF (decide_eq_false (show ¬ (p.r i).s = 1 by omega)) ?_
          conv => whnf
          refine fit64 (by omega) ?_
          conv => whnf
          refine ⟨_, ?_, _, _, _, rfl, .refl _, i + 1, hik, by rw [hb, hv], rfl, rfl, rfl⟩
          omega
      · by_cases a3 : (p.r i).s = 1
        · by_cases a4 : C < 0
          · have hv : signB (p.r i).s (y i).v = false := by rw [hsb, decide_eq_true a3, decide_eq_true a4]; simp
            conv => whnf
            refine splT (by simp only [decide_eq_true_eq, decide_eq_false_iff_not, Bool.not_eq_true', Bool.not_eq_false', gt_iff_lt, ge_iff_le] <;> omega) ?_
            conv => whnf
            refine ⟨(by (try simp only [true_and, and_true, Nat.sub_zero, Nat.zero_add, Int.toNat_natCast]) <;> omega), ?_⟩
            conv => whnf
            refine ⟨(by (try simp only [true_and, and_true, Nat.sub_zero, Nat.zero_add, Int.toNat_natCast]) <;> omega), ?_⟩
            conv => whnf
            first | refine callF s1 ⟨.refl _, trivial⟩ (by trivial) rfl ?_ | ((repeat (refine ⟨by kernel_rfl, ?_⟩; (conv => whnf))); refine callF s1 ⟨.refl _, trivial⟩ (by trivial) rfl ?_)
            conv => whnf
            refine splF (decide_eq_false a1) ?_
            conv => whnf
            refine splT (decide_eq_true a3) ?_
            conv => whnf
            refine splT (decide_eq_true a4) ?_
            conv => whnf
            exact ⟨_, _, _, rfl, .refl _, .inr ⟨rfl, hf hv, rfl, rfl⟩⟩
          · have hv : signB (p.r i).s (y i).v = true := by rw [hsb, decide_eq_false a1, decide_eq_false a4]; simp
            conv => whnf
            refine splT (by simp only [decide_eq_true_eq, decide_eq_false_iff_not, Bool.not_eq_true', Bool.not_eq_false', gt_iff_lt, ge_iff_le] <;> omega) ?_
            conv => whnf
            refine ⟨(by (try simp only [true_and, and_true, Nat.sub_zero, Nat.zero_add, Int.toNat_natCast]) <;> omega), ?_⟩
            conv => whnf
            refine ⟨(by (try simp only [true_and, and_true, Nat.sub_zero, Nat.zero_add, Int.toNat_natCast]) <;> omega), ?_⟩
            conv => whnf
            first | refine callF s1 ⟨.refl _, trivial⟩ (by trivial) rfl ?_ | ((repeat (refine ⟨by kernel_rfl, ?_⟩; (conv => whnf))); refine callF s1 ⟨.refl _, trivial⟩ (by trivial) rfl ?_)
            conv => whnf
            refine splF (decide_eq_false a1) ?_
            conv => whnf
            refine splT (decide_eq_true a3) ?_
            conv => whnf
            refine splF (decide_eq_false a4) ?_
            conv => whnf
            refine fit64 (by omega) ?_
            conv => whnf
            refine ⟨_, ?_, _, _, _, rfl, .refl _, i + 1, hik, by rw [hb, hv], rfl, rfl, rfl⟩
            omega
        · have hv : signB (p.r i).s (y i).v = true := by rw [hsb, decide_eq_false a1, decide_eq_false a3]; simp
          conv => whnf
          refine splT (by simp only [decide_eq_true_eq, decide_eq_false_iff_not, Bool.not_eq_true', Bool.not_eq_false', gt_iff_lt, ge_iff_le] <;> omega) ?_
          conv => whnf
          refine ⟨(by (try simp only [true_and, and_true, Nat.sub_zero, Nat.zero_add, Int.toNat_natCast]) <;> omega), ?_⟩
          conv => whnf
          refine ⟨(by (try simp only [true_and, and_true, Nat.sub_zero, Nat.zero_add, Int.toNat_natCast]) <;> omega), ?_⟩
          conv => whnf
          first | refine callF s1 ⟨.refl _, trivial⟩ (by trivial) rfl ?_ | ((repeat (refine ⟨by kernel_rfl, ?_⟩; (conv => whnf))); refine callF s1 ⟨.refl _, trivial⟩ (by trivial) rfl ?_)
          conv => whnf
          refine splF (decide_eq_false a1) ?_
          conv => whnf
          refine splF (decide_eq_false a3) ?_
          conv => whnf
          refine fit64 (by omega) ?_
          conv => whnf
          refine ⟨_, ?_, _, _, _, rfl, .refl _, i + 1, hik, by rw [hb, hv], rfl, rfl, rfl⟩
          omega
    · obtain rfl : i = p.nr := by omega
      conv => whnf
      refine splF (by simp only [decide_eq_true_eq, decide_eq_false_iff_not, Bool.not_eq_true', Bool.not_eq_false', gt_iff_lt, ge_iff_le] <;> omega) ?_
      conv => whnf
      exact ⟨_, _, _, rfl, .refl _, .inl ⟨rfl, by rw [← hB, hall], rfl, rfl⟩⟩
  · rw [decide_eq_false he]
    generalize p.errS n p.nr = E at *
    refine acall_rule env [0, 1, 2, 4, 5, 6, 7, 15, 17, 18, 19, 20, 44] Tryz.func84 rfl rfl rfl rfl ?_
    conv => whnf
    first | refine callF ck ⟨.refl _, .refl _, .refl _, trivial⟩ (by trivial) rfl ?_ | ((repeat (refine ⟨by kernel_rfl, ?_⟩; (conv => whnf))); refine callF ck ⟨.refl _, .refl _, .refl _, trivial⟩ (by trivial) rfl ?_)
    conv => whnf
    refine splT (by simp [he]) ?_
    conv => whnf
    (repeat (refine ⟨by kernel_rfl, ?_⟩; (conv => whnf)))
    refine ⟨(by (try simp only [true_and, and_true, Nat.sub_zero, Nat.zero_add, Int.toNat_natCast]) <;> omega), ?_⟩
    exact .refl _

def bndRes (p : Pr) (y : Nat → RR) (n : Nat) : AV := if p.bndOk y n then .tup [rat (p.bnd y), .f (.bool true)] else .tup [rat0, .f (.bool false)]
theorem rcmp_cases (a : Rat) : (0 < a ∧ rcmp a 0 = 1) ∨ (a = 0 ∧ rcmp a 0 = 0) ∨ (a < 0 ∧ rcmp a 0 = -1) := by
  rcases rat_tri a 0 with h | h | h
  · exact .inr (.inr ⟨h, rcmp_lt h⟩)
  · exact .inr (.inl ⟨h, rcmp_zero.2 h⟩)
  · exact .inl ⟨h, rcmp_gt h⟩
theorem colB_sz {p : Pr} (hp : p.H) {y : Nat → RR} (hy : XH y p.nr) (hnr : p.nr ≤ 16384) {j : Nat} (hj : j < p.nc) : rsz (colB (p.c j) (p.red y j)) ≤ 29376515 := by
  have h1 : rsz (p.red y j) ≤ 25182211 := red_sz hp hy hnr hj p.nr (Nat.le_refl _)
  have h2 := Nat.le_trans (Pr.csz hj) hp.s
  have hc := hp.ok.c j hj
  unfold Co.sz at h2
  unfold colB
  split
  · exact Nat.le_trans (rsz_mul h1 hc.lo.size) (by omega)
  · split
    · exact Nat.le_trans (rsz_mul h1 hc.up.size) (by omega)
    · rw [rsz_zero]; omega
theorem lpBound_ok {p : Pr} (hp : p.H) {y : Nat → RR} {n : Nat} (hy : XH y n) : ACall Tryz.prog 43 [p.a, rats y n] (bndRes p y n) := by
  have sg := lpSigned_ok hp hy
  have rd := lpReduced_ok hp hy
  have z0 := qFromInt_ok 0 (by decide)
  unfold bndRes Pr.bndOk
  cases hs : p.sgnd y n with
  | false =>
    rw [hs] at sg
    rw [if_neg (by simp)]
    refine acall_rule env [0, 1, 2, 4, 5, 6, 8, 9, 10, 11, 12, 13, 17, 27, 28, 29, 30, 45, 46, 47, 48, 57, 73, 89] Tryz.func43 rfl rfl rfl rfl ?_
    conv => whnf
    first | refine callF sg ⟨.refl _, .refl _, trivial⟩ (by trivial) rfl ?_ | ((repeat (refine ⟨by kernel_rfl, ?_⟩; (conv => whnf))); refine callF sg ⟨.refl _, .refl _, trivial⟩ (by trivial) rfl ?_)
    conv => whnf
    refine ⟨(by (try simp only [true_and, and_true, Nat.sub_zero, Nat.zero_add, Int.toNat_natCast]) <;> omega), ?_⟩
    exact .tup ⟨.rat0, .refl _, trivial⟩
  | true =>
    rw [hs] at sg
    rw [Bool.true_and]
    have he : p.errS n p.nr = 0 := by unfold Pr.sgnd at hs; simp only [Bool.and_eq_true, decide_eq_true_eq] at hs; exact hs.1
    obtain ⟨e1, e2⟩ := Pr.errS_zero.1 he
    obtain ⟨b1, b2, _, _⟩ := Pr.err_facts e1
    rw [redRes, if_neg (fun h => h he)] at rd
    subst e2
    have ht1 : ∀ i, i < p.nr → rsz ((y i).v * (p.r i).b.v) ≤ 8388608 := by
      intro i hi
      have h1 := prod_sz (hy.ok i hi) (hp.ok.r i hi).b
      have h2 := Pr.rsz hi
      have h3 := hp.s
      have h4 := hy.s i hi
      unfold Ro.sz at h2
      omega
    have hp1 : ∀ i, i ≤ p.nr → rsz (qsum (fun i => (y i).v * (p.r i).b.v) i) ≤ 137455730690 := by
      intro i hi
      have := qpart_sz ht1 hi
      have h2 : p.nr * (8388608 + 1) ≤ 16384 * (8388608 + 1) := Nat.mul_le_mul_right _ b2
      omega
    have hp2 : ∀ j, j ≤ p.nc → rsz (qsum (fun j => colB (p.c j) (p.red y j)) j) ≤ 481304838145 := by
      intro j hj
      have := qpart_sz (fun j hj => colB_sz hp hy b2 hj) hj
      have h2 : p.nc * (29376515 + 1) ≤ 16384 * (29376515 + 1) := Nat.mul_le_mul_right _ b1
      omega
    have hrz : ∀ j, j < p.nc → rsz (p.red y j) ≤ 25182211 := fun j hj => red_sz hp hy b2 hj p.nr (Nat.le_refl _)
    obtain ⟨B, hB⟩ : ∃ B, allB (fun j => colHas (p.c j) (p.red y j)) p.nc = B := ⟨_, rfl⟩
    rw [hB]
    obtain ⟨Y, hY⟩ : ∃ Y, qsum (fun i => (y i).v * (p.r i).b.v) p.nr = Y := ⟨_, rfl⟩
    have hYz : rsz Y ≤ 137455730690 := by rw [← hY]; exact hp1 _ (Nat.le_refl _)
    have hbnd : p.bnd y = Y + qsum (fun j => colB (p.c j) (p.red y j)) p.nc := by rw [← hY]; rfl
    rw [hbnd]
    refine acall_rule env [0, 1, 2, 4, 5, 6, 8, 9, 10, 11, 12, 13, 17, 27, 28, 29, 30, 45, 46, 47, 48, 57, 73, 89] Tryz.func43 rfl rfl rfl rfl ?_
    conv => whnf
    first | refine callF sg ⟨.refl _, .refl _, trivial⟩ (by trivial) rfl ?_ | ((repeat (refine ⟨by kernel_rfl, ?_⟩; (conv => whnf))); refine callF sg ⟨.refl _, .refl _, trivial⟩ (by trivial) rfl ?_)
    conv => whnf
    first | refine callF rd ⟨.refl _, .refl _, trivial⟩ (by trivial) rfl ?_ | ((repeat (refine ⟨by kernel_rfl, ?_⟩; (conv => whnf))); refine callF rd ⟨.refl _, .refl _, trivial⟩ (by trivial) rfl ?_)
    conv => whnf
    first | refine callF z0 ⟨.refl _, trivial⟩ (by trivial) rfl ?_ | ((repeat (refine ⟨by kernel_rfl, ?_⟩; (conv => whnf))); refine callF z0 ⟨.refl _, trivial⟩ (by trivial) rfl ?_)
    conv => whnf
    refine loop_mod [1, 2, 4, 5, 6, 8, 27, 28, 29] [2, 4, 8] [1, 2, 4, 5, 6, 8] [2, 4, 8]
      (fun μ fr hp_ => ∃ i : Nat, i ≤ p.nr ∧ fr = [(1, rats y p.nr), bpk 2 2, bp3 4, (5, .f (.bool false)), (6, ratsRes (p.red y) p.nc), bp3 8, (27, .f (.sl 5 (fun i => (p.r i).c) p.nr none)), (28, .f (.int .i64 p.nr)), (29, .f (.int .i64 i))] ∧
        hp_ = [bxk 2 [.f (.sl 11 (fun j => (p.c j).c) p.nc none), .f (.sl 5 (fun i => (p.r i).c) p.nr none)], bx3 4 zR, bx3 8 (ratL (qsum (fun i => (y i).v * (p.r i).b.v) i))] ∧ μ = p.nr - i)
      (fun e fr hp_ => e = .exit 0 ∧ fr = [(1, rats y p.nr), bpk 2 2, bp3 4, (5, .f (.bool false)), (6, ratsRes (p.red y) p.nc), bp3 8] ∧
        hp_ = [bxk 2 [.f (.sl 11 (fun j => (p.c j).c) p.nc none), .f (.sl 5 (fun i => (p.r i).c) p.nr none)], bx3 4 zR, bx3 8 (ratL Y)])
      ⟨_, _, _, _, rfl, .refl _, 0, Nat.zero_le _, rfl, rfl, rfl⟩ ?_ ?_
    · rintro _ _ _ ⟨rfl, rfl, rfl⟩
      have hY0 : Y + qsum (fun j => colB (p.c j) (p.red y j)) 0 = Y := by rw [qsum]; exact Rat.add_zero _
      clear hY ht1 hp1
      conv => whnf
      refine loop_mod [4, 5, 6, 8, 45, 46, 47] [4, 8] [4, 5, 8] [4, 8]
        (fun μ fr hp_ => ∃ i : Nat, i ≤ p.nc ∧ allB (fun j => colHas (p.c j) (p.red y j)) i = true ∧ fr = [bp3 4, (5, .f (.bool false)), (6, ratsRes (p.red y) p.nc), bp3 8, (45, .f (.sl 11 (fun i => (p.c i).c) p.nc none)), (46, .f (.int .i64 p.nc)), (47, .f (.int .i64 i))] ∧
          hp_ = [bx3 4 zR, bx3 8 (ratL (Y + qsum (fun j => colB (p.c j) (p.red y j)) i))] ∧ μ = p.nc - i)
        (fun e fr hp_ => (e = .exit 2 ∧ B = true ∧ fr = [bp3 4, (5, .f (.bool false)), bp3 8] ∧ hp_ = [bx3 4 zR, bx3 8 (ratL (Y + qsum (fun j => colB (p.c j) (p.red y j)) p.nc))]) ∨
          (e = .ret ∧ B = false ∧ ∃ q, fr = [bp3 4, (5, .f (.bool false)), bp3 8] ∧ hp_ = [bx3 4 zR, bx3 8 (ratL q)]))
        ⟨_, _, _, _, rfl, ?_, 0, Nat.zero_le _, rfl, rfl, rfl, rfl⟩ ?_ ?_
      · exact ⟨⟨rfl, rfl⟩, .refl _, ⟨rfl, rfl⟩, by rw [hY0]; exact .refl _, trivial⟩
      · rintro _ _ _ (⟨rfl, rfl, rfl, rfl⟩ | ⟨rfl, rfl, q, rfl, rfl⟩)
        · rw [if_pos rfl]
          conv => whnf
          (repeat (refine ⟨by kernel_rfl, ?_⟩; (conv => whnf)))
          refine ⟨(by (try simp only [true_and, and_true, Nat.sub_zero, Nat.zero_add, Int.toNat_natCast]) <;> omega), ?_⟩
          exact .refl _
        · rw [if_neg (by simp)]
          conv => whnf
          refine ⟨(by (try simp only [true_and, and_true, Nat.sub_zero, Nat.zero_add, Int.toNat_natCast]) <;> omega), ?_⟩
          exact .tup ⟨.rat0, .refl _, trivial⟩
      rintro μ _ _ ⟨i, hi, hall, rfl, rfl, rfl⟩
      by_cases hik : i < p.nc
      · have hc := hp.ok.c i hik
        have hsz : (p.c i).sz ≤ 4194304 := Nat.le_trans (Pr.csz hik) hp.s
        unfold Co.sz at hsz
        have zr := hrz i hik
        have s1 := qSign_ok (isR_rat _ zr) (by omega)
        have hf : colHas (p.c i) (p.red y i) = false → B = false := fun h => hB.symm.trans (allB_false hik h)
        have hb : allB (fun j => colHas (p.c j) (p.red y j)) (i + 1) = colHas (p.c i) (p.red y i) := by rw [allB, hall, Bool.true_and]
        have hS : Y + qsum (fun j => colB (p.c j) (p.red y j)) (i + 1) = Y + qsum (fun j => colB (p.c j) (p.red y j)) i + colB (p.c i) (p.red y i) := by rw [qsum]; grind
        have zq := rsz_add hYz (hp2 i hi)
        have hcH : colHas (p.c i) (p.red y i) = ((decide (p.red y i = 0)) || (decide (0 < p.red y i) && (p.c i).hl) || (decide (p.red y i < 0) && (p.c i).hu)) := rfl
        have hcB : colB (p.c i) (p.red y i) = if 0 < p.red y i then p.red y i * (p.c i).lo.v else if p.red y i < 0 then p.red y i * (p.c i).up.v else 0 := rfl
        have m1 := qMul_ok (isR_rat _ zr) hc.lo.is (by omega)
        have m2 := qMul_ok (isR_rat _ zr) hc.up.is (by omega)
        have zm1 := rsz_mul zr hc.lo.size
        have zm2 := rsz_mul zr hc.up.size
        rcases rcmp_cases (p.red y i) with ⟨h1, h2⟩ | ⟨h1, h2⟩ | ⟨h1, h2⟩
        · rw [h2] at s1
          rw [decide_eq_false (show ¬ p.red y i = 0 by grind), decide_eq_true h1, decide_eq_false (show ¬ p.red y i < 0 by grind)] at hcH
          rw [if_pos h1] at hcB
          cases hhl : (p.c i).hl with
          | true =>
            rw [hhl] at hcH
            have a1 := qAdd_ok (isR_rat _ zq) (isR_rat _ zm1) (by omega)
            rw [hcB] at hS
            rw [← hS] at a1
            conv => whnf
            refine splT (by simp only [decide_eq_true_eq, decide_eq_false_iff_not, Bool.not_eq_true', Bool.not_eq_false', gt_iff_lt, ge_iff_le] <;> omega) ?_
            conv => whnf
            refine ⟨(by (try simp only [true_and, and_true, Nat.sub_zero, Nat.zero_add, Int.toNat_natCast]) <;> omega), ?_⟩
            conv => whnf
            refine ⟨(by (try simp only [true_and, and_true, Nat.sub_zero, Nat.zero_add, Int.toNat_natCast]) <;> omega), ?_⟩
            conv => whnf
            first | refine callF s1 ⟨.refl _, trivial⟩ (by trivial) rfl ?_ | ((repeat (refine ⟨by kernel_rfl, ?_⟩; (conv => whnf))); refine callF s1 ⟨.refl _, trivial⟩ (by trivial) rfl ?_)
            conv => whnf
            refine splT hhl ?_
            conv => whnf
            refine ⟨(by (try simp only [true_and, and_true, Nat.sub_zero, Nat.zero_add, Int.toNat_natCast]) <;> omega), ?_⟩
            conv => whnf
            first | refine callF m1 ⟨.refl _, .refl _, trivial⟩ (by trivial) rfl ?_ | ((repeat (refine ⟨by kernel_rfl, ?_⟩; (conv => whnf))); refine callF m1 ⟨.refl _, .refl _, trivial⟩ (by trivial) rfl ?_)
            conv => whnf
            first | refine callF a1 ⟨.refl _, .refl _, trivial⟩ (by trivial) rfl ?_ | ((repeat (refine ⟨by kernel_rfl, ?_⟩; (conv => whnf))); refine callF a1 ⟨.refl _, .refl _, trivial⟩ (by trivial) rfl ?_)
            conv => whnf
            refine ⟨by kernel_rfl, ?_⟩
            conv => whnf
            refine fit64 (by omega) ?_
            conv => whnf
            refine ⟨_, ?_, _, _, _, rfl, .refl _, i + 1, hik, by rw [hb, hcH]; rfl, rfl, rfl, rfl⟩
            omega
          | false =>
            rw [hhl] at hcH
            conv => whnf
            refine splT (by simp only [decide_eq_true_eq, decide_eq_false_iff_not, Bool.not_eq_true', Bool.not_eq_false', gt_iff_lt, ge_iff_le] <;> omega) ?_
            conv => whnf
            refine ⟨(by (try simp only [true_and, and_true, Nat.sub_zero, Nat.zero_add, Int.toNat_natCast]) <;> omega), ?_⟩
            conv => whnf
            refine ⟨(by (try simp only [true_and, and_true, Nat.sub_zero, Nat.zero_add, Int.toNat_natCast]) <;> omega), ?_⟩
            conv => whnf
            first | refine callF s1 ⟨.refl _, trivial⟩ (by trivial) rfl ?_ | ((repeat (refine ⟨by kernel_rfl, ?_⟩; (conv => whnf))); refine callF s1 ⟨.refl _, trivial⟩ (by trivial) rfl ?_)
            conv => whnf
            refine splF hhl ?_
            conv => whnf
            exact ⟨_, _, _, rfl, .refl _, .inr ⟨rfl, hf (by rw [hcH]; rfl), _, rfl, rfl⟩⟩
        · rw [h2] at s1
          rw [decide_eq_true h1] at hcH
          rw [if_neg (by grind), if_neg (by grind)] at hcB
          rw [hcB, Rat.add_zero] at hS
          conv => whnf
          refine splT (by simp only [decide_eq_true_eq, decide_eq_false_iff_not, Bool.not_eq_true', Bool.not_eq_false', gt_iff_lt, ge_iff_le] <;> omega) ?_
          conv => whnf
          refine ⟨(by (try simp only [true_and, and_true, Nat.sub_zero, Nat.zero_add, Int.toNat_natCast]) <;> omega), ?_⟩
          conv => whnf
          refine ⟨(by (try simp only [true_and, and_true, Nat.sub_zero, Nat.zero_add, Int.toNat_natCast]) <;> omega), ?_⟩
          conv => whnf
          first | refine callF s1 ⟨.refl _, trivial⟩ (by trivial) rfl ?_ | ((repeat (refine ⟨by kernel_rfl, ?_⟩; (conv => whnf))); refine callF s1 ⟨.refl _, trivial⟩ (by trivial) rfl ?_)
          conv => whnf
          refine fit64 (by omega) ?_
          conv => whnf
          refine ⟨_, ?_, _, _, _, rfl, .refl _, i + 1, hik, by rw [hb, hcH]; rfl, rfl, by rw [hS]; rfl, rfl⟩
          omega
        · rw [h2] at s1
          rw [decide_eq_false (show ¬ p.red y i = 0 by grind), decide_eq_false (show ¬ 0 < p.red y i by grind), decide_eq_true h1] at hcH
          rw [if_neg (by grind), if_pos h1] at hcB
          cases hhu : (p.c i).hu with
          | true =>
            rw [hhu] at hcH
            have a1 := qAdd_ok (isR_rat _ zq) (isR_rat _ zm2) (by omega)
            rw [hcB] at hS
            rw [← hS] at a1
            conv => whnf
            refine splT (by simp only [decide_eq_true_eq, decide_eq_false_iff_not, Bool.not_eq_true', Bool.not_eq_false', gt_iff_lt, ge_iff_le] <;> omega) ?_
            conv => whnf
            refine ⟨(by (try simp only [true_and, and_true, Nat.sub_zero, Nat.zero_add, Int.toNat_natCast]) <;> omega), ?_⟩
            conv => whnf
            refine ⟨(by (try simp only [true_and, and_true, Nat.sub_zero, Nat.zero_add, Int.toNat_natCast]) <;> omega), ?_⟩
            conv => whnf
            first | refine callF s1 ⟨.refl _, trivial⟩ (by trivial) rfl ?_ | ((repeat (refine ⟨by kernel_rfl, ?_⟩; (conv => whnf))); refine callF s1 ⟨.refl _, trivial⟩ (by trivial) rfl ?_)
            conv => whnf
            refine splT hhu ?_
            conv => whnf
            refine ⟨(by (try simp only [true_and, and_true, Nat.sub_zero, Nat.zero_add, Int.toNat_natCast]) <;> omega), ?_⟩
            conv => whnf
            first | refine callF m2 ⟨.refl _, .refl _, trivial⟩ (by trivial) rfl ?_ | ((repeat (refine ⟨by kernel_rfl, ?_⟩; (conv => whnf))); refine callF m2 ⟨.refl _, .refl _, trivial⟩ (by trivial) rfl ?_)
            conv => whnf
            first | refine callF a1 ⟨.refl _, .refl _, trivial⟩ (by trivial) rfl ?_ | ((repeat (refine ⟨by kernel_rfl, ?_⟩; (conv => whnf))); refine callF a1 ⟨.refl _, .refl _, trivial⟩ (by trivial) rfl ?_)
            conv => whnf
            refine ⟨by kernel_rfl, ?_⟩
            conv => whnf
            refine fit64 (by omega) ?_
            conv => whnf
            refine ⟨_, ?_, _, _, _, rfl, .refl _, i + 1, hik, by rw [hb, hcH]; rfl, rfl, rfl, rfl⟩
            omega
          | false =>
            rw [hhu] at hcH
            conv => whnf
            refine splT (by simp only [decide_eq_true_eq, decide_eq_false_iff_not, Bool.not_eq_true', Bool.not_eq_false', gt_iff_lt, ge_iff_le] <;> omega) ?_
            conv => whnf
            refine ⟨(by (try simp only [true_and, and_true, Nat.sub_zero, Nat.zero_add, Int.toNat_natCast]) <;> omega), ?_⟩
            conv => whnf
            refine ⟨(by (try simp only [true_and, and_true, Nat.sub_zero, Nat.zero_add, Int.toNat_natCast]) <;> omega), ?_⟩
            conv => whnf
            first | refine callF s1 ⟨.refl _, trivial⟩ (by trivial) rfl ?_ | ((repeat (refine ⟨by kernel_rfl, ?_⟩; (conv => whnf))); refine callF s1 ⟨.refl _, trivial⟩ (by trivial) rfl ?_)
            conv => whnf
            refine splF hhu ?_
            conv => whnf
            exact ⟨_, _, _, rfl, .refl _, .inr ⟨rfl, hf (by rw [hcH]; rfl), _, rfl, rfl⟩⟩
      · obtain rfl : i = p.nc := by omega
        conv => whnf
        refine splF (by simp only [decide_eq_true_eq, decide_eq_false_iff_not, Bool.not_eq_true', Bool.not_eq_false', gt_iff_lt, ge_iff_le] <;> omega) ?_
        conv => whnf
        exact ⟨_, _, _, rfl, .refl _, .inl ⟨rfl, by rw [← hB, hall], rfl, rfl⟩⟩
    rintro μ _ _ ⟨i, hi, rfl, rfl, rfl⟩
    by_cases hik : i < p.nr
    · have m1 := qMul_ok (hy.ok i hik).is (hp.ok.r i hik).b.is (by have := hy.s i hik; have := Pr.rsz hik; have := hp.s; unfold Ro.sz at *; omega)
      have zm := ht1 i hik
      have a1 := qAdd_ok (isR_rat _ (hp1 i hi)) (isR_rat _ zm) (by omega)
      have hS : qsum (fun i => (y i).v * (p.r i).b.v) (i + 1) = qsum (fun i => (y i).v * (p.r i).b.v) i + (y i).v * (p.r i).b.v := rfl
      rw [← hS] at a1
      conv => whnf
      refine splT (by simp only [decide_eq_true_eq, decide_eq_false_iff_not, Bool.not_eq_true', Bool.not_eq_false', gt_iff_lt, ge_iff_le] <;> omega) ?_
      conv => whnf
      refine ⟨(by (try simp only [true_and, and_true, Nat.sub_zero, Nat.zero_add, Int.toNat_natCast]) <;> omega), ?_⟩
      conv => whnf
      refine ⟨(by (try simp only [true_and, and_true, Nat.sub_zero, Nat.zero_add, Int.toNat_natCast]) <;> omega), ?_⟩
      conv => whnf
      first | refine callF m1 ⟨.refl _, .refl _, trivial⟩ (by trivial) rfl ?_ | ((repeat (refine ⟨by kernel_rfl, ?_⟩; (conv => whnf))); refine callF m1 ⟨.refl _, .refl _, trivial⟩ (by trivial) rfl ?_)
      conv => whnf
      first | refine callF a1 ⟨.refl _, .refl _, trivial⟩ (by trivial) rfl ?_ | ((repeat (refine ⟨by kernel_rfl, ?_⟩; (conv => whnf))); refine callF a1 ⟨.refl _, .refl _, trivial⟩ (by trivial) rfl ?_)
      conv => whnf
      refine ⟨by kernel_rfl, ?_⟩
      conv => whnf
      refine fit64 (by omega) ?_
      conv => whnf
      refine ⟨_, ?_, _, _, _, rfl, .refl _, i + 1, hik, rfl, rfl, rfl⟩
      omega
    · obtain rfl : i = p.nr := by omega
      rw [← hY]
      conv => whnf
      refine splF (by simp only [decide_eq_true_eq, decide_eq_false_iff_not, Bool.not_eq_true', Bool.not_eq_false', gt_iff_lt, ge_iff_le] <;> omega) ?_
      conv => whnf
      exact ⟨_, _, _, rfl, .refl _, rfl, rfl, rfl⟩
theorem bnd_sz {p : Pr} (hp : p.H) {y : Nat → RR} {n : Nat} (hy : XH y n) (hb : p.bndOk y n = true) : rsz (p.bnd y) ≤ 618760568836 := by
  unfold Pr.bndOk Pr.sgnd at hb
  simp only [Bool.and_eq_true, decide_eq_true_eq] at hb
  obtain ⟨e1, e2⟩ := Pr.errS_zero.1 hb.1.1
  obtain ⟨b1, b2, _, _⟩ := Pr.err_facts e1
  subst e2
  have h1 := qpart_sz (f := fun i => (y i).v * (p.r i).b.v) (B := 8388608) (n := p.nr) (fun i hi => by
    have h1 := prod_sz (hy.ok i hi) (hp.ok.r i hi).b
    have h2 := Pr.rsz hi
    have h3 := hp.s
    have h4 := hy.s i hi
    unfold Ro.sz at h2
    omega) (Nat.le_refl _)
  have h2 := qpart_sz (fun j hj => colB_sz hp hy b2 hj) (Nat.le_refl _)
  have h3 : p.nr * (8388608 + 1) ≤ 16384 * (8388608 + 1) := Nat.mul_le_mul_right _ b2
  have h4 : p.nc * (29376515 + 1) ≤ 16384 * (29376515 + 1) := Nat.mul_le_mul_right _ b1
  have h5 := rsz_add h1 h2
  unfold Pr.bnd
  omega
theorem obj_sz {p : Pr} (hp : p.H) {x : Nat → RR} {n : Nat} (hx : XH x n) (he : p.err = 0) (hn : n = p.nc) : rsz (p.obj x) ≤ 137455730690 := by
  obtain ⟨b1, b2, _, _⟩ := Pr.err_facts he
  subst hn
  have h1 := qpart_sz (f := fun j => (p.c j).w.v * (x j).v) (B := 8388608) (n := p.nc) (fun j hj => by
    have h1 := prod_sz (hp.ok.c j hj).w (hx.ok j hj)
    have h2 := Pr.csz hj
    have h3 := hp.s
    have h4 := hx.s j hj
    unfold Co.sz at h2
    omega) (Nat.le_refl _)
  have h2 : p.nc * (8388608 + 1) ≤ 16384 * (8388608 + 1) := Nat.mul_le_mul_right _ b1
  unfold Pr.obj
  omega
end Go.Abs

/- The tape of choices: New, Next, Mod. -/
set_option autoImplicit false
set_option maxHeartbeats 4000000
set_option maxRecDepth 10000
set_option linter.unusedVariables false
set_option linter.unusedSimpArgs false
namespace Go.Abs
open Go Go.Proofs

theorem Mod_ok (v N : Int) (h1 : 1 ≤ N) (h2 : N ≤ 9223372036854775807) : ACall Tryz.prog 55 [.f (.int .i64 v), .f (.int .i64 N)] (.f (.int .i64 (tch v N))) := by
  obtain ⟨n, rfl⟩ : ∃ n : Nat, N = n := ⟨N.toNat, by omega⟩
  obtain ⟨a, ha⟩ : ∃ a : Nat, v % 18446744073709551616 = a := ⟨(v % 18446744073709551616).toNat, by omega⟩
  have hr : tch v n = ((a % n : Nat) : Int) := by unfold tch; rw [ha]; omega
  have hlt : a % n < n := Nat.mod_lt _ (by omega)
  rw [hr]
  refine acall_rule env [0, 1, 4] Tryz.func55 rfl rfl rfl rfl ?_
  conv => whnf
  refine modu64 a ha ?_
  conv => whnf
  refine sumu64 n rfl (by omega) ?_
  conv => whnf
  refine ⟨(by (try simp only [true_and, and_true, Nat.sub_zero, Nat.zero_add, Int.toNat_natCast]) <;> omega), ?_⟩
  conv => whnf
  refine remN ?_
  conv => whnf
  refine sumi64 (a % n) rfl (by omega) ?_
  conv => whnf
  (repeat (refine ⟨by kernel_rfl, ?_⟩; (conv => whnf)))
  refine ⟨(by (try simp only [true_and, and_true, Nat.sub_zero, Nat.zero_add, Int.toNat_natCast]) <;> omega), ?_⟩
  exact .refl _

/-- the tape's cells: the numbers, and how many are used -/
def tapeL (g : Nat → Int) (n i : Nat) : List AV := [.f (.sl 1 (fun j => [.int .i64 (g j)]) n none), .f (.int .i64 i)]
theorem gNew_ok (g : Nat → Int) (n : Nat) : RCall Tryz.prog 20 [.f (.sl 1 (fun j => [.int .i64 (g j)]) n none)] [] (.lptr 2000000 1 2 0 0) [(2000000, 1, .vr (tapeL g n 0))] := by
  refine rcall_rule env [.lptr 2000000 1 2 0 0] [0, 2] Tryz.func20 rfl rfl rfl rfl ?_
  conv => whnf
  refine ⟨[5], ?_⟩
  conv => whnf
  exact ⟨⟨⟨rfl, rfl⟩, trivial⟩, ⟨⟨.refl _, .refl _, trivial⟩, trivial⟩, rfl⟩
theorem gNext_ok (g : Nat → Int) (n i : Nat) (N : Int) (h1 : 1 ≤ N) (h2 : N ≤ 9223372036854775807) (hn : n ≤ 1099511627776) (hi : i ≤ n) :
    RCall Tryz.prog 21 [.lptr 1000000 1 2 0 0, .f (.int .i64 N)] [(1000000, 1, .vr (tapeL g n i))] (.f (.int .i64 (tnext g n i N))) [(1000000, 1, .vr (tapeL g n (tstep n i)))] := by
  unfold tnext tstep
  by_cases h : i < n
  · rw [if_pos h, if_pos h]
    have m1 := Mod_ok (g i) N h1 h2
    refine rcall_rule env [.f (.int .i64 (tch (g i) N))] [0, 1, 4, 14] Tryz.func21 rfl rfl rfl rfl ?_
    conv => whnf
    refine ⟨by kernel_rfl, ?_⟩
    conv => whnf
    refine splF (by simp only [decide_eq_true_eq, decide_eq_false_iff_not, Bool.not_eq_true', Bool.not_eq_false', gt_iff_lt, ge_iff_le] <;> omega) ?_
    conv => whnf
    refine sumi64 (i + 1) (by omega) (by omega) ?_
    conv => whnf
    refine sumi64 i (by omega) (by omega) ?_
    conv => whnf
    refine ⟨(by (try simp only [true_and, and_true, Nat.sub_zero, Nat.zero_add, Int.toNat_natCast]) <;> omega), ?_⟩
    conv => whnf
    first | refine callF m1 ⟨.refl _, .refl _, trivial⟩ (by trivial) rfl ?_ | ((repeat (refine ⟨by kernel_rfl, ?_⟩; (conv => whnf))); refine callF m1 ⟨.refl _, .refl _, trivial⟩ (by trivial) rfl ?_)
    conv => whnf
    refine ⟨by kernel_rfl, ?_⟩
    conv => whnf
    refine ⟨[1000000], ?_⟩
    conv => whnf
    exact ⟨⟨.refl _, trivial⟩, ⟨⟨.refl _, .refl _, trivial⟩, trivial⟩, rfl⟩
  · rw [if_neg h, if_neg h]
    refine rcall_rule env [.f (.int .i64 0)] [0, 1, 4, 14] Tryz.func21 rfl rfl rfl rfl ?_
    conv => whnf
    refine ⟨by kernel_rfl, ?_⟩
    conv => whnf
    refine splT (by simp only [decide_eq_true_eq, decide_eq_false_iff_not, Bool.not_eq_true', Bool.not_eq_false', gt_iff_lt, ge_iff_le] <;> omega) ?_
    conv => whnf
    refine ⟨[1000000], ?_⟩
    conv => whnf
    exact ⟨⟨.refl _, trivial⟩, ⟨⟨.refl _, .refl _, trivial⟩, trivial⟩, rfl⟩
end Go.Abs

/- The tape of choices: numbers, columns, rows, programs. -/
set_option autoImplicit false
set_option maxHeartbeats 4000000
set_option maxRecDepth 10000
set_option linter.unusedVariables false
set_option linter.unusedSimpArgs false
namespace Go.Abs
open Go Go.Proofs

abbrev tp : AV := .lptr 1000000 1 2 0 0
abbrev tb (g : Nat → Int) (n i : Nat) : Hl := [(1000000, 1, .vr (tapeL g n i))]
theorem gRat_ok (g : Nat → Int) (n i : Nat) (hn : n ≤ 1099511627776) (hi : i ≤ n) : RCall Tryz.prog 38 [tp] (tb g n i) (rat (tR g n i)) (tb g n (tN2 n i)) := by
  have t1 := gNext_ok g n i 13 (by decide) (by decide) hn hi
  have t2 := gNext_ok g n (tstep n i) 4 (by decide) (by decide) hn (tstep_le hi)
  obtain ⟨r1, r2⟩ := tnext_range g n i (N := 13) (by decide)
  obtain ⟨r3, r4⟩ := tnext_range g n (tstep n i) (N := 4) (by decide)
  have o1 := sOf_ok (tnext g n i 13 - 6) (1 + tnext g n (tstep n i) 4) (by omega) (by omega)
  unfold tR tN2
  generalize tnext g n i 13 = a at *
  generalize tnext g n (tstep n i) 4 = b at *
  refine rcall_rule env [rat (Rat.divInt (a - 6) (1 + b))] [0, 2] Tryz.func38 rfl rfl rfl rfl ?_
  conv => whnf
  refine callR [1000000] t1 ?_
  conv => whnf
  refine ⟨⟨⟨rfl, rfl⟩, .refl _, trivial⟩, ⟨⟨.refl _, .refl _, trivial⟩, trivial⟩, ?_⟩
  conv => whnf
  refine fit64 (by omega) ?_
  conv => whnf
  refine callR [1000000] t2 ?_
  conv => whnf
  refine ⟨⟨⟨rfl, rfl⟩, .refl _, trivial⟩, ⟨⟨.refl _, .refl _, trivial⟩, trivial⟩, ?_⟩
  conv => whnf
  refine fit64 (by omega) ?_
  conv => whnf
  first | refine callF o1 ⟨.refl _, .refl _, trivial⟩ (by trivial) rfl ?_ | ((repeat (refine ⟨by kernel_rfl, ?_⟩; (conv => whnf))); refine callF o1 ⟨.refl _, .refl _, trivial⟩ (by trivial) rfl ?_)
  conv => whnf
  refine ⟨[1000000], ?_⟩
  conv => whnf
  exact ⟨⟨⟨.refl _, .refl _, .refl _, trivial⟩, trivial⟩, ⟨⟨.refl _, .refl _, trivial⟩, trivial⟩, rfl⟩
theorem gNonzero_ok (g : Nat → Int) (n i : Nat) (hn : n ≤ 1099511627776) (hi : i ≤ n) : RCall Tryz.prog 128 [tp] (tb g n i) (rat (tNz g n i)) (tb g n (tN2 n i)) := by
  have t1 := gNext_ok g n i 12 (by decide) (by decide) hn hi
  have t2 := gNext_ok g n (tstep n i) 3 (by decide) (by decide) hn (tstep_le hi)
  obtain ⟨r1, r2⟩ := tnext_range g n i (N := 12) (by decide)
  obtain ⟨r3, r4⟩ := tnext_range g n (tstep n i) (N := 3) (by decide)
  have o1 := fun z (hz : -100 ≤ z ∧ z ≤ 100) => sOf_ok z (1 + tnext g n (tstep n i) 3) (by omega) (by omega)
  unfold tNz tN2 tNum
  generalize tnext g n i 12 = a at *
  generalize tnext g n (tstep n i) 3 = b at *
  by_cases h : 0 ≤ a - 6
  · rw [if_pos h]
    have o2 := o1 (a - 6 + 1) (by omega)
    refine rcall_rule env [rat (Rat.divInt (a - 6 + 1) (1 + b))] [0, 2, 3, 8] Tryz.func128 rfl rfl rfl rfl ?_
    conv => whnf
    refine callR [1000000] t1 ?_
    conv => whnf
    refine ⟨⟨⟨rfl, rfl⟩, .refl _, trivial⟩, ⟨⟨.refl _, .refl _, trivial⟩, trivial⟩, ?_⟩
    conv => whnf
    refine fit64 (by omega) ?_
    conv => whnf
    refine splT (by simp only [decide_eq_true_eq, decide_eq_false_iff_not, Bool.not_eq_true', Bool.not_eq_false', gt_iff_lt, ge_iff_le] <;> omega) ?_
    conv => whnf
    refine fit64 (by omega) ?_
    conv => whnf
    refine callR [1000000] t2 ?_
    conv => whnf
    refine ⟨⟨⟨rfl, rfl⟩, .refl _, trivial⟩, ⟨⟨.refl _, .refl _, trivial⟩, trivial⟩, ?_⟩
    conv => whnf
    refine fit64 (by omega) ?_
    conv => whnf
    first | refine callF o2 ⟨.refl _, .refl _, trivial⟩ (by trivial) rfl ?_ | ((repeat (refine ⟨by kernel_rfl, ?_⟩; (conv => whnf))); refine callF o2 ⟨.refl _, .refl _, trivial⟩ (by trivial) rfl ?_)
    conv => whnf
    refine ⟨[1000000], ?_⟩
    conv => whnf
    exact ⟨⟨⟨.refl _, .refl _, .refl _, trivial⟩, trivial⟩, ⟨⟨.refl _, .refl _, trivial⟩, trivial⟩, rfl⟩
  · rw [if_neg h]
    have o2 := o1 (a - 6) (by omega)
    refine rcall_rule env [rat (Rat.divInt (a - 6) (1 + b))] [0, 2, 3, 8] Tryz.func128 rfl rfl rfl rfl ?_
    conv => whnf
    refine callR [1000000] t1 ?_
    conv => whnf
    refine ⟨⟨⟨rfl, rfl⟩, .refl _, trivial⟩, ⟨⟨.refl _, .refl _, trivial⟩, trivial⟩, ?_⟩
    conv => whnf
    refine fit64 (by omega) ?_
    conv => whnf
    refine splF (by simp only [decide_eq_true_eq, decide_eq_false_iff_not, Bool.not_eq_true', Bool.not_eq_false', gt_iff_lt, ge_iff_le] <;> omega) ?_
    conv => whnf
    refine callR [1000000] t2 ?_
    conv => whnf
    refine ⟨⟨⟨rfl, rfl⟩, .refl _, trivial⟩, ⟨⟨.refl _, .refl _, trivial⟩, trivial⟩, ?_⟩
    conv => whnf
    refine fit64 (by omega) ?_
    conv => whnf
    first | refine callF o2 ⟨.refl _, .refl _, trivial⟩ (by trivial) rfl ?_ | ((repeat (refine ⟨by kernel_rfl, ?_⟩; (conv => whnf))); refine callF o2 ⟨.refl _, .refl _, trivial⟩ (by trivial) rfl ?_)
    conv => whnf
    refine ⟨[1000000], ?_⟩
    conv => whnf
    exact ⟨⟨⟨.refl _, .refl _, .refl _, trivial⟩, trivial⟩, ⟨⟨.refl _, .refl _, trivial⟩, trivial⟩, rfl⟩
theorem more_rr {f : Nat → RR} {i j : Nat} (hj : j < i + 1) {l : List FV} (hl : l = (f i).c) :
    All2 FVle (if j < i then (f (0 + j)).c else List.take 3 (List.drop ((0 + (j - i)) * 3) l)) (f j).c := by
  subst hl
  rw [Nat.zero_add]
  by_cases h2 : j < i
  · rw [if_pos h2]; exact .fle_rr _
  · obtain rfl : j = i := by omega
    rw [if_neg h2, Nat.sub_self]; exact .fle_rr _
theorem gRats_ok (g : Nat → Int) (n i k : Nat) (hn : n ≤ 1099511627776) (hi : i ≤ n) (hk : k ≤ 1099511627776) : RCall Tryz.prog 37 [tp, .f (.int .i64 k)] (tb g n i) (rats (tRats g n i) k) (tb g n (tpos n k i)) := by
  have t1 := fun j => gRat_ok g n (tpos n j i) hn (tpos_le hi j)
  refine rcall_rule env [rats (tRats g n i) k] [0, 1, 4, 5, 6, 9] Tryz.func37 rfl rfl rfl rfl ?_
  conv => whnf
  refine .weak (nil_weak 5 16 3 (by decide) rfl rfl) ?_
  refine loop_mod [0, 1, 5, 6] [1000000, 16] [5] [1000000, 16]
    (fun μ fr hp_ => ∃ j : Nat, j ≤ k ∧ fr = [(0, tp), (1, .f (.int .i64 k)), (5, .lsl 16 1 3 0 j none), (6, .f (.int .i64 j))] ∧ hp_ = [(1000000, 1, .vr (tapeL g n (tpos n j i))), (16, 1, .fa 3 j (fun q => (tRats g n i q).c))] ∧ μ = k - j)
    (fun e fr hp_ => e = .exit 0 ∧ fr = [(5, .lsl 16 1 3 0 k none)] ∧ hp_ = [(1000000, 1, .vr (tapeL g n (tpos n k i))), (16, 1, .fa 3 k (fun q => (tRats g n i q).c))])
    ⟨_, _, _, _, rfl, ?_, 0, Nat.zero_le _, rfl, rfl, rfl⟩ ?_ ?_
  · exact ⟨⟨rfl, rfl⟩, .refl _, ⟨rfl, rfl⟩, .fa fun j hj => absurd hj (Nat.not_lt_zero _), trivial⟩
  · rintro _ _ _ ⟨rfl, rfl, rfl⟩
    conv => whnf
    refine ⟨[1000000], ?_⟩
    conv => whnf
    exact ⟨⟨⟨by omega, .sl (fun j hj => by simp only [Nat.zero_add]; exact .fle_rr _) (.inl rfl)⟩, trivial⟩, ⟨⟨.refl _, .refl _, trivial⟩, trivial⟩, rfl⟩
  rintro μ _ _ ⟨j, hj, rfl, rfl, rfl⟩
  by_cases hjk : j < k
  · have t2 := t1 j
    conv => whnf
    refine splT (by simp only [decide_eq_true_eq, decide_eq_false_iff_not, Bool.not_eq_true', Bool.not_eq_false', gt_iff_lt, ge_iff_le] <;> omega) ?_
    conv => whnf
    refine callR [1000000] t2 ?_
    conv => whnf
    refine ⟨⟨⟨rfl, rfl⟩, trivial⟩, ⟨⟨.refl _, .refl _, trivial⟩, trivial⟩, ?_⟩
    conv => whnf
    refine ⟨⟨(show 1 ≤ 3 / 3 - 0 by decide), by omega, by omega, (show (j + 1) * 56 ≤ 140737488355328 by omega)⟩, ?_⟩
    conv => whnf
    refine fit64 (by omega) ?_
    conv => whnf
    refine ⟨_, ?_, _, _, [(1000000, 1, .vr (tapeL g n (tpos n (j + 1) i))), (16, 1, .fa 3 (j + 1) (fun q => (tRats g n i q).c))], rfl, ⟨⟨rfl, rfl⟩, .refl _, ⟨rfl, rfl⟩, .fa fun q hq => more_rr hq rfl, trivial⟩, j + 1, hjk, rfl, rfl, rfl⟩
    omega
  · obtain rfl : j = k := by omega
    conv => whnf
    refine splF (by simp only [decide_eq_true_eq, decide_eq_false_iff_not, Bool.not_eq_true', Bool.not_eq_false', gt_iff_lt, ge_iff_le] <;> omega) ?_
    conv => whnf
    exact ⟨_, _, _, rfl, .refl _, rfl, rfl, rfl⟩

/-- the cells of a number in a variable -/
def rrL (r : RR) : List AV := [.f (.bool r.neg), raw r.g r.n, raw r.h r.m]
def coL (c : Co) : List AV := rrL c.w ++ (.f (.bool c.hl) :: rrL c.lo) ++ (.f (.bool c.hu) :: rrL c.up)
theorem gColumn_ok (g : Nat → Int) (n i : Nat) (hn : n ≤ 1099511627776) (hi : i ≤ n) : RCall Tryz.prog 99 [tp] (tb g n i) (tCol g n i).a (tb g n (tColP g n i)) := by
  have t1 := gRat_ok g n i hn hi
  have t2 := gNext_ok g n (tN2 n i) 6 (by decide) (by decide) hn (tN2_le hi)
  have t3 := gRat_ok g n (tstep n (tN2 n i)) hn (tstep_le (tN2_le hi))
  have t4 := gNext_ok g n (tLoP g n i) 5 (by decide) (by decide) hn (tLoP_le hi)
  obtain ⟨r3, r4⟩ := tnext_range g n (tN2 n i) (N := 6) (by decide)
  obtain ⟨r5, r6⟩ := tnext_range g n (tLoP g n i) (N := 5) (by decide)
  have i1 := sFromInt_ok (tnext g n (tLoP g n i) 5) (by omega)
  have zi := rsz_int (tnext g n (tLoP g n i) 5) (s := 1) (isz_one (by omega)) (by omega)
  have zlo := tLo_ok g n i
  have a1 := sAdd_ok zlo.1.is (isR_rat _ zi) (by omega)
  have hup : (tLo g n i).v + (tnext g n (tLoP g n i) 5 : Int) = (tLo g n i).v + (tnext g n (tLoP g n i) 5 : Int) := rfl
  have e1 : tHl g n i = (!(decide (tK g n i = 2)) && !(decide (tK g n i = 3))) := rfl
  have e2 : tHu g n i = (decide (tK g n i = 1) || decide (tK g n i = 2) || decide (tK g n i = 4)) := rfl
  have e3 : tUp g n i = if tHu g n i then RR.of ((tLo g n i).v + (tnext g n (tLoP g n i) 5 : Int)) else RR.nil := rfl
  have e4 : tLo g n i = if 3 < tK g n i then RR.of (tR g n (tstep n (tN2 n i))) else RR.nil := rfl
  have e5 : tLoP g n i = if 3 < tK g n i then tN2 n (tstep n (tN2 n i)) else tstep n (tN2 n i) := rfl
  have e6 : tColP g n i = if tHu g n i then tstep n (tLoP g n i) else tLoP g n i := rfl
  have e7 : tnext g n (tN2 n i) 6 = tK g n i := rfl
  unfold tCol
  rw [e7] at t2 r3 r4
  generalize tR g n i = w at *
  generalize tR g n (tstep n (tN2 n i)) = q at *
  generalize tnext g n (tLoP g n i) 5 = u at *
  rw [e6]
  generalize tK g n i = K at *
  rw [e1, e2] 
  rw [e2] at e3
  rcases (show K = 0 ∨ K = 1 ∨ K = 2 ∨ K = 3 ∨ K = 4 ∨ K = 5 by omega) with rfl | rfl | rfl | rfl | rfl | rfl
  · have e4 : tLo g n i = RR.nil := e4
    rw [e4] at e3 a1
    have e3 : tUp g n i = RR.nil := e3
    have e5 : tLoP g n i = tstep n (tN2 n i) := e5
    rw [e5] at t4
    rw [e3, e4, e5]
    refine rcall_rule env [(⟨RR.of w, true, RR.nil, false, RR.nil⟩ : Co).a] [0, 2, 3, 4, 15, 18, 31] Tryz.func99 rfl rfl rfl rfl ?_
    conv => whnf
    refine callR [1000000] t1 ?_
    conv => whnf
    refine ⟨⟨⟨rfl, rfl⟩, trivial⟩, ⟨⟨.refl _, .refl _, trivial⟩, trivial⟩, ?_⟩
    conv => whnf
    refine callR [1000000] t2 ?_
    conv => whnf
    refine ⟨⟨⟨rfl, rfl⟩, .refl _, trivial⟩, ⟨⟨.refl _, .refl _, trivial⟩, trivial⟩, ?_⟩
    conv => whnf
    refine ⟨[1000000], ?_⟩
    conv => whnf
    exact ⟨⟨⟨.refl _, .refl _, .refl _, .refl _, .refl _, .nil, .nil, .refl _, .refl _, .nil, .nil, trivial⟩, trivial⟩, ⟨⟨.refl _, .refl _, trivial⟩, trivial⟩, rfl⟩
  · have e4 : tLo g n i = RR.nil := e4
    rw [e4] at e3 a1
    have e3 : tUp g n i = RR.of ((RR.nil).v + (u : Int)) := e3
    have e5 : tLoP g n i = tstep n (tN2 n i) := e5
    rw [e5] at t4
    rw [e3, e4, e5]
    refine rcall_rule env [(⟨RR.of w, true, RR.nil, true, RR.of ((RR.nil).v + (u : Int))⟩ : Co).a] [0, 2, 3, 4, 15, 18, 31] Tryz.func99 rfl rfl rfl rfl ?_
    conv => whnf
    refine callR [1000000] t1 ?_
    conv => whnf
    refine ⟨⟨⟨rfl, rfl⟩, trivial⟩, ⟨⟨.refl _, .refl _, trivial⟩, trivial⟩, ?_⟩
    conv => whnf
    refine callR [1000000] t2 ?_
    conv => whnf
    refine ⟨⟨⟨rfl, rfl⟩, .refl _, trivial⟩, ⟨⟨.refl _, .refl _, trivial⟩, trivial⟩, ?_⟩
    conv => whnf
    refine callR [1000000] t4 ?_
    conv => whnf
    refine ⟨⟨⟨rfl, rfl⟩, .refl _, trivial⟩, ⟨⟨.refl _, .refl _, trivial⟩, trivial⟩, ?_⟩
    conv => whnf
    first | refine callF i1 ⟨.refl _, trivial⟩ (by trivial) rfl ?_ | ((repeat (refine ⟨by kernel_rfl, ?_⟩; (conv => whnf))); refine callF i1 ⟨.refl _, trivial⟩ (by trivial) rfl ?_)
    conv => whnf
    refine callF a1 ⟨.agg ⟨.refl _, .f .nil, .f .nil, trivial⟩, .refl _, trivial⟩ (by trivial) rfl ?_
    conv => whnf
    refine ⟨by kernel_rfl, ?_⟩
    conv => whnf
    refine ⟨[1000000], ?_⟩
    conv => whnf
    exact ⟨⟨⟨.refl _, .refl _, .refl _, .refl _, .refl _, .nil, .nil, .refl _, .refl _, .refl _, .refl _, trivial⟩, trivial⟩, ⟨⟨.refl _, .refl _, trivial⟩, trivial⟩, rfl⟩
  · have e4 : tLo g n i = RR.nil := e4
    rw [e4] at e3 a1
    have e3 : tUp g n i = RR.of ((RR.nil).v + (u : Int)) := e3
    have e5 : tLoP g n i = tstep n (tN2 n i) := e5
    rw [e5] at t4
    rw [e3, e4, e5]
    refine rcall_rule env [(⟨RR.of w, false, RR.nil, true, RR.of ((RR.nil).v + (u : Int))⟩ : Co).a] [0, 2, 3, 4, 15, 18, 31] Tryz.func99 rfl rfl rfl rfl ?_
    conv => whnf
    refine callR [1000000] t1 ?_
    conv => whnf
    refine ⟨⟨⟨rfl, rfl⟩, trivial⟩, ⟨⟨.refl _, .refl _, trivial⟩, trivial⟩, ?_⟩
    conv => whnf
    refine callR [1000000] t2 ?_
    conv => whnf
    refine ⟨⟨⟨rfl, rfl⟩, .refl _, trivial⟩, ⟨⟨.refl _, .refl _, trivial⟩, trivial⟩, ?_⟩
    conv => whnf
    refine callR [1000000] t4 ?_
    conv => whnf
    refine ⟨⟨⟨rfl, rfl⟩, .refl _, trivial⟩, ⟨⟨.refl _, .refl _, trivial⟩, trivial⟩, ?_⟩
    conv => whnf
    first | refine callF i1 ⟨.refl _, trivial⟩ (by trivial) rfl ?_ | ((repeat (refine ⟨by kernel_rfl, ?_⟩; (conv => whnf))); refine callF i1 ⟨.refl _, trivial⟩ (by trivial) rfl ?_)
    conv => whnf
    refine callF a1 ⟨.agg ⟨.refl _, .f .nil, .f .nil, trivial⟩, .refl _, trivial⟩ (by trivial) rfl ?_
    conv => whnf
    refine ⟨by kernel_rfl, ?_⟩
    conv => whnf
    refine ⟨[1000000], ?_⟩
    conv => whnf
    exact ⟨⟨⟨.refl _, .refl _, .refl _, .refl _, .refl _, .nil, .nil, .refl _, .refl _, .refl _, .refl _, trivial⟩, trivial⟩, ⟨⟨.refl _, .refl _, trivial⟩, trivial⟩, rfl⟩
  · have e4 : tLo g n i = RR.nil := e4
    rw [e4] at e3 a1
    have e3 : tUp g n i = RR.nil := e3
    have e5 : tLoP g n i = tstep n (tN2 n i) := e5
    rw [e5] at t4
    rw [e3, e4, e5]
    refine rcall_rule env [(⟨RR.of w, false, RR.nil, false, RR.nil⟩ : Co).a] [0, 2, 3, 4, 15, 18, 31] Tryz.func99 rfl rfl rfl rfl ?_
    conv => whnf
    refine callR [1000000] t1 ?_
    conv => whnf
    refine ⟨⟨⟨rfl, rfl⟩, trivial⟩, ⟨⟨.refl _, .refl _, trivial⟩, trivial⟩, ?_⟩
    conv => whnf
    refine callR [1000000] t2 ?_
    conv => whnf
    refine ⟨⟨⟨rfl, rfl⟩, .refl _, trivial⟩, ⟨⟨.refl _, .refl _, trivial⟩, trivial⟩, ?_⟩
    conv => whnf
    refine ⟨[1000000], ?_⟩
    conv => whnf
    exact ⟨⟨⟨.refl _, .refl _, .refl _, .refl _, .refl _, .nil, .nil, .refl _, .refl _, .nil, .nil, trivial⟩, trivial⟩, ⟨⟨.refl _, .refl _, trivial⟩, trivial⟩, rfl⟩
  · have e4 : tLo g n i = RR.of q := e4
    rw [e4] at e3 a1
    have e3 : tUp g n i = RR.of ((RR.of q).v + (u : Int)) := e3
    have e5 : tLoP g n i = tN2 n (tstep n (tN2 n i)) := e5
    rw [e5] at t4
    rw [e3, e4, e5]
    refine rcall_rule env [(⟨RR.of w, true, RR.of q, true, RR.of ((RR.of q).v + (u : Int))⟩ : Co).a] [0, 2, 3, 4, 15, 18, 31] Tryz.func99 rfl rfl rfl rfl ?_
    conv => whnf
    refine callR [1000000] t1 ?_
    conv => whnf
    refine ⟨⟨⟨rfl, rfl⟩, trivial⟩, ⟨⟨.refl _, .refl _, trivial⟩, trivial⟩, ?_⟩
    conv => whnf
    refine callR [1000000] t2 ?_
    conv => whnf
    refine ⟨⟨⟨rfl, rfl⟩, .refl _, trivial⟩, ⟨⟨.refl _, .refl _, trivial⟩, trivial⟩, ?_⟩
    conv => whnf
    refine callR [1000000] t3 ?_
    conv => whnf
    refine ⟨⟨⟨rfl, rfl⟩, trivial⟩, ⟨⟨.refl _, .refl _, trivial⟩, trivial⟩, ?_⟩
    conv => whnf
    refine callR [1000000] t4 ?_
    conv => whnf
    refine ⟨⟨⟨rfl, rfl⟩, .refl _, trivial⟩, ⟨⟨.refl _, .refl _, trivial⟩, trivial⟩, ?_⟩
    conv => whnf
    first | refine callF i1 ⟨.refl _, trivial⟩ (by trivial) rfl ?_ | ((repeat (refine ⟨by kernel_rfl, ?_⟩; (conv => whnf))); refine callF i1 ⟨.refl _, trivial⟩ (by trivial) rfl ?_)
    conv => whnf
    first | refine callF a1 ⟨.refl _, .refl _, trivial⟩ (by trivial) rfl ?_ | ((repeat (refine ⟨by kernel_rfl, ?_⟩; (conv => whnf))); refine callF a1 ⟨.refl _, .refl _, trivial⟩ (by trivial) rfl ?_)
    conv => whnf
    refine ⟨by kernel_rfl, ?_⟩
    conv => whnf
    refine ⟨[1000000], ?_⟩
    conv => whnf
    exact ⟨⟨⟨.refl _, .refl _, .refl _, .refl _, .refl _, .refl _, .refl _, .refl _, .refl _, .refl _, .refl _, trivial⟩, trivial⟩, ⟨⟨.refl _, .refl _, trivial⟩, trivial⟩, rfl⟩
  · have e4 : tLo g n i = RR.of q := e4
    rw [e4] at e3 a1
    have e3 : tUp g n i = RR.nil := e3
    have e5 : tLoP g n i = tN2 n (tstep n (tN2 n i)) := e5
    rw [e5] at t4
    rw [e3, e4, e5]
    refine rcall_rule env [(⟨RR.of w, true, RR.of q, false, RR.nil⟩ : Co).a] [0, 2, 3, 4, 15, 18, 31] Tryz.func99 rfl rfl rfl rfl ?_
    conv => whnf
    refine callR [1000000] t1 ?_
    conv => whnf
    refine ⟨⟨⟨rfl, rfl⟩, trivial⟩, ⟨⟨.refl _, .refl _, trivial⟩, trivial⟩, ?_⟩
    conv => whnf
    refine callR [1000000] t2 ?_
    conv => whnf
    refine ⟨⟨⟨rfl, rfl⟩, .refl _, trivial⟩, ⟨⟨.refl _, .refl _, trivial⟩, trivial⟩, ?_⟩
    conv => whnf
    refine callR [1000000] t3 ?_
    conv => whnf
    refine ⟨⟨⟨rfl, rfl⟩, trivial⟩, ⟨⟨.refl _, .refl _, trivial⟩, trivial⟩, ?_⟩
    conv => whnf
    refine ⟨[1000000], ?_⟩
    conv => whnf
    exact ⟨⟨⟨.refl _, .refl _, .refl _, .refl _, .refl _, .refl _, .refl _, .refl _, .refl _, .nil, .nil, trivial⟩, trivial⟩, ⟨⟨.refl _, .refl _, trivial⟩, trivial⟩, rfl⟩
end Go.Abs
