/- The reference's natural numbers: Add, Sub. -/
import Derived.Test.YtmlhfccpnehaeaaAbsR2
import Derived.Test.YtmlhfccpnehaeaaAbsK3
set_option autoImplicit false
set_option maxHeartbeats 4000000
set_option linter.unusedVariables false
set_option linter.unusedSimpArgs false
namespace Go.Abs
open Go Go.Proofs

theorem raw_le {g : Nat → Nat} {n : Nat} (hg : Dig g n) : AVle (raw g n) (raw (digit (nval g n)) n) :=
  .f (.limbs fun j hj => by rw [digit_nval hg, if_pos hj])
theorem add_end {h : Nat → Nat} {A B c n m : Nat} (hA : size A ≤ n) (hB : size B ≤ m) (hd : Dig h (max n m + 1)) (e : nval h (max n m + 1) + c * pw (max n m + 1) = A % pw (max n m + 1) + B % pw (max n m + 1)) : nval h (max n m + 1) = A + B := by
  rw [mod_size (by omega), mod_size (by omega)] at e
  have h1 := Nat.lt_of_lt_of_le (lt_pw_size A) (pw_le (show size A ≤ max n m by omega))
  have h2 := Nat.lt_of_lt_of_le (lt_pw_size B) (pw_le (show size B ≤ max n m by omega))
  rw [pw_succ] at e
  rcases Nat.eq_zero_or_pos c with rfl | hc
  · omega
  · have := Nat.le_mul_of_pos_left (pw (max n m) * 4294967296) hc; omega


theorem refAdd_aux (A B n m : Nat) (hA : size A ≤ n) (hB : size B ≤ m) (hn : n < 4398046511104) (hm : m < 4398046511104) :
    ACall Try.prog 27 [raw (digit A) n, raw (digit B) m] (nat (A + B)) := by
  refine acall_rule env [0, 1, 4, 5, 6, 7, 18, 24, 35] Try.func27 rfl rfl rfl rfl ?_
  conv => whnf
  refine sumi64 (max n m + 1) (by split <;> omega) (by omega) ?_
  conv => whnf
  refine ⟨(by (try simp only [true_and, and_true, Nat.sub_zero, Nat.zero_add, Int.toNat_natCast]) <;> omega), ?_⟩
  conv => whnf
  refine loop_mod [0, 1, 5, 6, 7] [14] [5] [14]
    (fun μ fr hp => ∃ (h : Nat → Nat) (c k : Nat), fr = [(0, raw (digit A) n), (1, raw (digit B) m), (5, .lsl 14 1 1 0 (max n m + 1) (some (max n m + 1))), (6, .f (.int .u64 c)), (7, .f (.int .i64 k))] ∧ hp = [(14, 1, .fa 1 (max n m + 1) (fun j => [.int .u32 (h j : Nat)]))] ∧ μ = max n m + 1 - k ∧
      k ≤ max n m + 1 ∧ Dig h k ∧ c < 2 ∧ nval h k + c * pw k = A % pw k + B % pw k)
    (fun e fr hp => e = .exit 0 ∧ ∃ h : Nat → Nat, fr = [(5, .lsl 14 1 1 0 (max n m + 1) (some (max n m + 1)))] ∧ hp = [(14, 1, .fa 1 (max n m + 1) (fun j => [.int .u32 (h j : Nat)]))] ∧ Dig h (max n m + 1) ∧ nval h (max n m + 1) = A + B)
    ⟨_, _, _, _, rfl, .refl _, fun _ => 0, 0, 0, rfl, rfl, rfl, Nat.zero_le _, fun j hj => absurd hj (by simp), by simp, by simp [pw_zero, Nat.mod_one, nval_zero]⟩ ?_ ?_
  · rintro _ _ _ ⟨rfl, h, rfl, rfl, h2, h4⟩
    have hv := refTrim_ok _ _ h2 (by omega)
    rw [h4] at hv
    conv => whnf
    refine callF hv ⟨.raw_refl, trivial⟩ (by (try simp only [true_and, and_true, Nat.sub_zero, Nat.zero_add, Int.toNat_natCast]) <;> omega) rfl ?_
    conv => whnf
    refine ⟨(by (try simp only [true_and, and_true, Nat.sub_zero, Nat.zero_add, Int.toNat_natCast]) <;> omega), ?_⟩
    exact .refl _
  rintro _ _ _ ⟨h, c, k, rfl, rfl, rfl, h1, h2, h3, h4⟩
  have hd := digit_lt A k
  have hd2 := digit_lt B k
  conv => whnf
  refine spl (fun h5 => ?_) (fun h5 => ?_) <;> simp only [decide_eq_true_eq, decide_eq_false_iff_not, Bool.not_eq_true', Bool.not_eq_false', gt_iff_lt, ge_iff_le] at h5
  · conv => whnf
    refine spl (fun h6 => ?_) (fun h6 => ?_) <;> simp only [decide_eq_true_eq, decide_eq_false_iff_not, Bool.not_eq_true', Bool.not_eq_false', gt_iff_lt, ge_iff_le] at h6
    · conv => whnf
      refine ⟨(by (try simp only [true_and, and_true, Nat.sub_zero, Nat.zero_add, Int.toNat_natCast]) <;> omega), ?_⟩
      conv => whnf
      refine sumu64 (digit A k) rfl (by omega) ?_
      conv => whnf
      refine sumu64 (c + digit A k) (by omega) (by omega) ?_
      conv => whnf
      refine spl (fun h7 => ?_) (fun h7 => ?_) <;> simp only [decide_eq_true_eq, decide_eq_false_iff_not, Bool.not_eq_true', Bool.not_eq_false', gt_iff_lt, ge_iff_le] at h7
      · conv => whnf
        refine ⟨(by (try simp only [true_and, and_true, Nat.sub_zero, Nat.zero_add, Int.toNat_natCast]) <;> omega), ?_⟩
        conv => whnf
        refine sumu64 (digit B k) rfl (by omega) ?_
        conv => whnf
        refine sumu64 (c + digit A k + digit B k) (by omega) (by omega) ?_
        conv => whnf
        have hstep := add_step h4 (s := c + digit A k + digit B k) (by omega)
        generalize hs : c + digit A k + digit B k = s at hstep ⊢
        refine lowu32 ?_
        conv => whnf
        refine ⟨(by (try simp only [true_and, and_true, Nat.sub_zero, Nat.zero_add, Int.toNat_natCast]) <;> omega), ?_⟩
        conv => whnf
        refine ⟨(by (try simp only [true_and, and_true, Nat.sub_zero, Nat.zero_add, Int.toNat_natCast]) <;> omega), ?_⟩
        conv => whnf
        refine ⟨(by (try simp only [true_and, and_true, Nat.sub_zero, Nat.zero_add, Int.toNat_natCast]) <;> omega), ?_⟩
        conv => whnf
        refine shr32 (by decide) ?_
        conv => whnf
        refine sumi64 (k + 1) (by omega) (by omega) ?_
        conv => whnf
        refine ⟨_, ?_, _, _, _, rfl, ?_, fun j => if j = k then s % 4294967296 else h j, s / 4294967296, k + 1, rfl, rfl, rfl, by omega, Dig_set1 h2 (Nat.mod_lt _ (by decide)), by omega, hstep⟩
        · omega
        · exact ⟨⟨rfl, rfl⟩, .set (by omega) rfl, trivial⟩
      · have hz2 : digit B k = 0 := digit_zero_of_size (by omega)
        conv => whnf
        have hstep := add_step h4 (s := c + digit A k) (by omega)
        generalize hs : c + digit A k = s at hstep ⊢
        refine lowu32 ?_
        conv => whnf
        refine ⟨(by (try simp only [true_and, and_true, Nat.sub_zero, Nat.zero_add, Int.toNat_natCast]) <;> omega), ?_⟩
        conv => whnf
        refine ⟨(by (try simp only [true_and, and_true, Nat.sub_zero, Nat.zero_add, Int.toNat_natCast]) <;> omega), ?_⟩
        conv => whnf
        refine ⟨(by (try simp only [true_and, and_true, Nat.sub_zero, Nat.zero_add, Int.toNat_natCast]) <;> omega), ?_⟩
        conv => whnf
        refine shr32 (by decide) ?_
        conv => whnf
        refine sumi64 (k + 1) (by omega) (by omega) ?_
        conv => whnf
        refine ⟨_, ?_, _, _, _, rfl, ?_, fun j => if j = k then s % 4294967296 else h j, s / 4294967296, k + 1, rfl, rfl, rfl, by omega, Dig_set1 h2 (Nat.mod_lt _ (by decide)), by omega, hstep⟩
        · omega
        · exact ⟨⟨rfl, rfl⟩, .set (by omega) rfl, trivial⟩
    · have hz : digit A k = 0 := digit_zero_of_size (by omega)
      conv => whnf
      refine spl (fun h7 => ?_) (fun h7 => ?_) <;> simp only [decide_eq_true_eq, decide_eq_false_iff_not, Bool.not_eq_true', Bool.not_eq_false', gt_iff_lt, ge_iff_le] at h7
      · conv => whnf
        refine ⟨(by (try simp only [true_and, and_true, Nat.sub_zero, Nat.zero_add, Int.toNat_natCast]) <;> omega), ?_⟩
        conv => whnf
        refine sumu64 (digit B k) rfl (by omega) ?_
        conv => whnf
        refine sumu64 (c + digit B k) (by omega) (by omega) ?_
        conv => whnf
        have hstep := add_step h4 (s := c + digit B k) (by omega)
        generalize hs : c + digit B k = s at hstep ⊢
        refine lowu32 ?_
        conv => whnf
        refine ⟨(by (try simp only [true_and, and_true, Nat.sub_zero, Nat.zero_add, Int.toNat_natCast]) <;> omega), ?_⟩
        conv => whnf
        refine ⟨(by (try simp only [true_and, and_true, Nat.sub_zero, Nat.zero_add, Int.toNat_natCast]) <;> omega), ?_⟩
        conv => whnf
        refine ⟨(by (try simp only [true_and, and_true, Nat.sub_zero, Nat.zero_add, Int.toNat_natCast]) <;> omega), ?_⟩
        conv => whnf
        refine shr32 (by decide) ?_
        conv => whnf
        refine sumi64 (k + 1) (by omega) (by omega) ?_
        conv => whnf
        refine ⟨_, ?_, _, _, _, rfl, ?_, fun j => if j = k then s % 4294967296 else h j, s / 4294967296, k + 1, rfl, rfl, rfl, by omega, Dig_set1 h2 (Nat.mod_lt _ (by decide)), by omega, hstep⟩
        · omega
        · exact ⟨⟨rfl, rfl⟩, .set (by omega) rfl, trivial⟩
      · have hz2 : digit B k = 0 := digit_zero_of_size (by omega)
        conv => whnf
        have hstep := add_step h4 (s := c) (by omega)
        generalize hs : c = s at hstep ⊢
        refine lowu32 ?_
        conv => whnf
        refine ⟨(by (try simp only [true_and, and_true, Nat.sub_zero, Nat.zero_add, Int.toNat_natCast]) <;> omega), ?_⟩
        conv => whnf
        refine ⟨(by (try simp only [true_and, and_true, Nat.sub_zero, Nat.zero_add, Int.toNat_natCast]) <;> omega), ?_⟩
        conv => whnf
        refine ⟨(by (try simp only [true_and, and_true, Nat.sub_zero, Nat.zero_add, Int.toNat_natCast]) <;> omega), ?_⟩
        conv => whnf
        refine shr32 (by decide) ?_
        conv => whnf
        refine sumi64 (k + 1) (by omega) (by omega) ?_
        conv => whnf
        refine ⟨_, ?_, _, _, _, rfl, ?_, fun j => if j = k then s % 4294967296 else h j, s / 4294967296, k + 1, rfl, rfl, rfl, by omega, Dig_set1 h2 (Nat.mod_lt _ (by decide)), by omega, hstep⟩
        · omega
        · exact ⟨⟨rfl, rfl⟩, .set (by omega) rfl, trivial⟩
  · have hk : k = max n m + 1 := by omega
    subst hk
    conv => whnf
    exact ⟨_, _, _, rfl, .refl _, rfl, h, rfl, rfl, h2, add_end hA hB h2 h4⟩

theorem refAdd_ok (g h : Nat → Nat) (n m : Nat) (hg : Dig g n) (hh : Dig h m) (hn : n < 4398046511104) (hm : m < 4398046511104) :
    ACall Try.prog 27 [raw g n, raw h m] (nat (nval g n + nval h m)) :=
  (refAdd_aux _ _ n m (size_nval hg) (size_nval hh) hn hm).args ⟨raw_le hg, raw_le hh, trivial⟩
end Go.Abs
