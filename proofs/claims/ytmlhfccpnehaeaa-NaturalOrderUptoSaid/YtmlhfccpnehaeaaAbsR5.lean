/- The reference's natural numbers: Mul. -/
import Derived.Test.YtmlhfccpnehaeaaAbsR4
set_option autoImplicit false
set_option maxHeartbeats 4000000
set_option linter.unusedVariables false
set_option linter.unusedSimpArgs false
namespace Go.Abs
open Go Go.Proofs

theorem mul_zero_at2 {h : Nat → Nat} {A B i m N : Nat} (hB : size B ≤ m) (hd : Dig h N) (e : nval h N = A % pw i * B) (hi : i + m < N) : h (i + m) = 0 := by
  have h1 := digit_nval hd (i + m)
  rw [if_pos hi, e] at h1
  rw [← h1]
  apply digit_zero_of_size
  apply size_le
  rw [pw_add]
  have h2 : A % pw i < pw i := Nat.mod_lt _ (pw_pos i)
  have h3 := Nat.lt_of_lt_of_le (lt_pw_size B) (pw_le hB)
  exact Nat.lt_of_le_of_lt (Nat.mul_le_mul_left _ (Nat.le_of_lt h3)) (Nat.mul_lt_mul_of_pos_right h2 (pw_pos _))
theorem mul_outer2 {h : Nat → Nat} {A B c i m N : Nat} (hB : size B ≤ m) (hi : i + m < N) (hz : h (i + m) = 0) (e : nval h N + c * pw (i + m) = A % pw i * B + digit A i * (B % pw m) * pw i) :
    nval (fun j => if j = i + m then c else h j) N = A % pw (i + 1) * B := by
  have h1 := nval_setg h (i + m) c N hi
  rw [mod_step]
  rw [mod_size hB] at e
  rw [hz] at h1
  grind

theorem refMul_aux (A B n m : Nat) (hA : size A ≤ n) (hB : size B ≤ m) (hn : n + m ≤ 4398046511104) :
    ACall Try.prog 31 [raw (digit A) n, raw (digit B) m] (nat (A * B)) := by
  refine acall_rule env [0, 1, 4, 5, 6, 7, 8, 18, 24] Try.func31 rfl rfl rfl rfl ?_
  conv => whnf
  refine sumi64 (n + m) (by omega) (by omega) ?_
  conv => whnf
  refine ⟨(by (try simp only [true_and, and_true, Nat.sub_zero, Nat.zero_add, Int.toNat_natCast]) <;> omega), ?_⟩
  conv => whnf
  refine loop_mod [0, 1, 5, 6] [14] [5] [14]
    (fun μ fr hp => ∃ (h : Nat → Nat) (i : Nat), fr = [(0, raw (digit A) n), (1, raw (digit B) m), (5, .lsl 14 1 1 0 (n + m) (some (n + m))), (6, .f (.int .i64 i))] ∧ hp = [(14, 1, .fa 1 (n + m) (fun j => [.int .u32 (h j : Nat)]))] ∧ μ = n - i ∧ i ≤ n ∧ Dig h (n + m) ∧ nval h (n + m) = A % pw i * B)
    (fun e fr hp => e = .exit 0 ∧ ∃ h : Nat → Nat, fr = [(5, .lsl 14 1 1 0 (n + m) (some (n + m)))] ∧ hp = [(14, 1, .fa 1 (n + m) (fun j => [.int .u32 (h j : Nat)]))] ∧ Dig h (n + m) ∧ nval h (n + m) = A * B)
    ⟨_, _, _, _, rfl, .refl _, fun _ => 0, 0, rfl, rfl, rfl, Nat.zero_le _, fun j hj => by simp, ?_⟩ ?_ ?_
  · have : ∀ n, nval (fun _ => 0) n = 0 := fun n => by induction n with | zero => rfl | succ n ih => rw [nval_succ, ih, Nat.zero_mul]
    simp [pw_zero, Nat.mod_one, this]
  · rintro _ _ _ ⟨rfl, h, rfl, rfl, g2, g3⟩
    have hv := refTrim_ok _ (n + m) g2 (by omega)
    rw [g3] at hv
    conv => whnf
    refine callF hv ⟨.raw_refl, trivial⟩ (by (try simp only [true_and, and_true, Nat.sub_zero, Nat.zero_add, Int.toNat_natCast]) <;> omega) rfl ?_
    conv => whnf
    refine ⟨(by (try simp only [true_and, and_true, Nat.sub_zero, Nat.zero_add, Int.toNat_natCast]) <;> omega), ?_⟩
    exact .refl _
  rintro _ _ _ ⟨h, i, rfl, rfl, rfl, g1, g2, g3⟩
  conv => whnf
  refine spl (fun h3 => ?_) (fun h3 => ?_) <;> simp only [decide_eq_true_eq, decide_eq_false_iff_not, Bool.not_eq_true', Bool.not_eq_false', gt_iff_lt, ge_iff_le] at h3
  · have hx := digit_lt A i
    have hz := mul_zero_at2 hB g2 g3 (by omega)
    conv => whnf
    refine loop_mod [0, 1, 5, 6, 7, 8] [14] [0, 1, 5, 6, 7] [14]
      (fun μ fr hp => ∃ (f : Nat → Nat) (c k : Nat), fr = [(0, raw (digit A) n), (1, raw (digit B) m), (5, .lsl 14 1 1 0 (n + m) (some (n + m))), (6, .f (.int .i64 i)), (7, .f (.int .u64 c)), (8, .f (.int .i64 k))] ∧ hp = [(14, 1, .fa 1 (n + m) (fun j => [.int .u32 (f j : Nat)]))] ∧
        μ = m - k ∧ k ≤ m ∧ Dig f (n + m) ∧ c < 4294967296 ∧ f (i + m) = 0 ∧ nval f (n + m) + c * pw (i + k) = A % pw i * B + digit A i * (B % pw k) * pw i)
      (fun e fr hp => e = .exit 2 ∧ ∃ (f : Nat → Nat) (c : Nat), fr = [(0, raw (digit A) n), (1, raw (digit B) m), (5, .lsl 14 1 1 0 (n + m) (some (n + m))), (6, .f (.int .i64 i)), (7, .f (.int .u64 c))] ∧ hp = [(14, 1, .fa 1 (n + m) (fun j => [.int .u32 (f j : Nat)]))] ∧
        Dig f (n + m) ∧ c < 4294967296 ∧ f (i + m) = 0 ∧ nval f (n + m) + c * pw (i + m) = A % pw i * B + digit A i * (B % pw m) * pw i)
      ⟨_, _, _, _, rfl, .refl _, h, 0, 0, rfl, rfl, rfl, Nat.zero_le _, g2, by simp, hz, by simp [pw_zero, Nat.mod_one, g3]⟩ ?_ ?_
    · rintro _ _ _ ⟨rfl, f, c, rfl, rfl, f2, f3, f4, f5⟩
      have hstep := mul_outer2 (h := f) (A := A) (c := c) hB (by omega) f4 f5
      conv => whnf
      refine sumi64 (i + m) (by omega) (by omega) ?_
      conv => whnf
      refine sumu32 c rfl (by omega) ?_
      conv => whnf
      refine ⟨(by (try simp only [true_and, and_true, Nat.sub_zero, Nat.zero_add, Int.toNat_natCast]) <;> omega), ?_⟩
      conv => whnf
      refine ⟨(by (try simp only [true_and, and_true, Nat.sub_zero, Nat.zero_add, Int.toNat_natCast]) <;> omega), ?_⟩
      conv => whnf
      refine sumi64 (i + 1) (by omega) (by omega) ?_
      conv => whnf
      refine ⟨_, ?_, _, _, _, rfl, ?_, fun j => if j = i + m then c else f j, i + 1, rfl, rfl, rfl, by omega, Dig_set f2 f3, hstep⟩
      · omega
      · exact ⟨⟨rfl, rfl⟩, .set (by omega) rfl, trivial⟩
    rintro _ _ _ ⟨f, c, k, rfl, rfl, rfl, f1, f2, f3, f4, f5⟩
    conv => whnf
    refine spl (fun h4 => ?_) (fun h4 => ?_) <;> simp only [decide_eq_true_eq, decide_eq_false_iff_not, Bool.not_eq_true', Bool.not_eq_false', gt_iff_lt, ge_iff_le] at h4
    · have hy := digit_lt B k
      have hw := f2 (i + k) (by omega)
      have hb := mul_bound hx hy hw f3
      have hb2 := mul_bound2 hx hy
      conv => whnf
      refine sumi64 (i + k) (by omega) (by omega) ?_
      conv => whnf
      refine ⟨(by (try simp only [true_and, and_true, Nat.sub_zero, Nat.zero_add, Int.toNat_natCast]) <;> omega), ?_⟩
      conv => whnf
      refine ⟨(by (try simp only [true_and, and_true, Nat.sub_zero, Nat.zero_add, Int.toNat_natCast]) <;> omega), ?_⟩
      conv => whnf
      refine sumu64 (f (i + k)) (congrArg (fun t => ((f t : Nat) : Int)) (by omega)) (by omega) ?_
      conv => whnf
      refine ⟨(by (try simp only [true_and, and_true, Nat.sub_zero, Nat.zero_add, Int.toNat_natCast]) <;> omega), ?_⟩
      conv => whnf
      refine sumu64 (digit A i) rfl (by omega) ?_
      conv => whnf
      refine ⟨(by (try simp only [true_and, and_true, Nat.sub_zero, Nat.zero_add, Int.toNat_natCast]) <;> omega), ?_⟩
      conv => whnf
      refine sumu64 (digit B k) rfl (by omega) ?_
      conv => whnf
      refine sumu64 (digit A i * digit B k) (by rw [Int.natCast_mul]) (by omega) ?_
      conv => whnf
      refine sumu64 (f (i + k) + digit A i * digit B k) (by omega) (by omega) ?_
      conv => whnf
      refine sumu64 (c + (f (i + k) + digit A i * digit B k)) (by omega) (by omega) ?_
      conv => whnf
      refine ⟨by kernel_rfl, ?_⟩
      have hstep := mul_inner (h := f) (B := B) (c := c) (i := i) (k := k) (N := n + m) (x := digit A i) (by omega) f5 (s := c + (f (i + k) + digit A i * digit B k)) (by omega)
      generalize hs : c + (f (i + k) + digit A i * digit B k) = s at hstep ⊢
      conv => whnf
      refine sumi64 (i + k) (by omega) (by omega) ?_
      conv => whnf
      refine lowu32 ?_
      conv => whnf
      refine ⟨(by (try simp only [true_and, and_true, Nat.sub_zero, Nat.zero_add, Int.toNat_natCast]) <;> omega), ?_⟩
      conv => whnf
      refine ⟨(by (try simp only [true_and, and_true, Nat.sub_zero, Nat.zero_add, Int.toNat_natCast]) <;> omega), ?_⟩
      conv => whnf
      refine ⟨(by (try simp only [true_and, and_true, Nat.sub_zero, Nat.zero_add, Int.toNat_natCast]) <;> omega), ?_⟩
      conv => whnf
      refine shr32 (by decide) ?_
      conv => whnf
      refine sumi64 (k + 1) (by omega) (by omega) ?_
      conv => whnf
      refine ⟨_, ?_, _, _, _, rfl, ?_, fun j => if j = i + k then s % 4294967296 else f j, s / 4294967296, k + 1, rfl, rfl, rfl, by omega, Dig_set f2 (Nat.mod_lt _ (by decide)), by omega, (if_neg (by omega)).trans f4, hstep⟩
      · omega
      · exact ⟨⟨rfl, rfl⟩, .set (by omega) rfl, trivial⟩
    · have hk : k = m := by omega
      subst hk
      conv => whnf
      exact ⟨_, _, _, rfl, .refl _, rfl, f, c, rfl, rfl, f2, f3, f4, f5⟩
  · have hk : i = n := by omega
    subst hk
    rw [mod_size hA] at g3
    conv => whnf
    exact ⟨_, _, _, rfl, .refl _, rfl, h, rfl, rfl, g2, g3⟩

theorem refMul_ok (g h : Nat → Nat) (n m : Nat) (hg : Dig g n) (hh : Dig h m) (hn : n + m ≤ 4398046511104) :
    ACall Try.prog 31 [raw g n, raw h m] (nat (nval g n * nval h m)) :=
  (refMul_aux _ _ n m (size_nval hg) (size_nval hh) hn).args ⟨raw_le hg, raw_le hh, trivial⟩
end Go.Abs
