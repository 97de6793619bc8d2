/- The reference's natural numbers: Sub, Mul. -/
import Derived.Test.YtmlhfccpnehaeaaAbsR3
import Derived.Test.YtmlhfccpnehaeaaAbsK5
set_option autoImplicit false
set_option maxHeartbeats 4000000
set_option linter.unusedVariables false
set_option linter.unusedSimpArgs false
namespace Go.Abs
open Go Go.Proofs

theorem sub_stepg {h : Nat → Nat} {A B c k r q : Nat} (e : nval h k + B % pw k = A % pw k + c * pw k) (hr : r + digit B k + c = digit A k + q * 4294967296) :
    nval (fun j => if j = k then r else h j) (k + 1) + B % pw (k + 1) = A % pw (k + 1) + q * pw (k + 1) := by
  rw [nval_set, mod_step, mod_step, pw_succ]
  grind


theorem refSub_ok (g h : Nat → Nat) (n m : Nat) (hg : Dig g n) (hh : Dig h m) (hn : n ≤ 4398046511104) (hm : m ≤ 4398046511104) :
    ACall Try.prog 25 [raw g n, raw h m] (if nval g n < nval h m then .tup [nat 0, .f (.bool false)] else .tup [nat (nval g n - nval h m), .f (.bool true)]) := by
  have hA := size_nval hg
  have hB := size_nval hh
  have va := refTrim_ok g n hg hn
  have vb := refTrim_ok h m hh hm
  have hc := refCompare_ok g h n m hg hh hn hm
  generalize nval g n = A at hA va hc ⊢
  generalize nval h m = B at hB vb hc ⊢
  refine acall_rule env [0, 1, 4, 5, 6, 7, 8, 9, 10, 14, 25, 32, 47] Try.func25 rfl rfl rfl rfl ?_
  conv => whnf
  refine callF hc ⟨.refl _, .refl _, trivial⟩ (by trivial) rfl ?_
  conv => whnf
  refine spl (fun h1 => ?_) (fun h1 => ?_) <;> simp only [decide_eq_true_eq, decide_eq_false_iff_not, Bool.not_eq_true', Bool.not_eq_false', gt_iff_lt, ge_iff_le] at h1
  · rw [if_pos (cmp_lt.1 h1)]
    conv => whnf
    refine ⟨(by (try simp only [true_and, and_true, Nat.sub_zero, Nat.zero_add, Int.toNat_natCast]) <;> omega), ?_⟩
    exact .tup ⟨.nil_nat, .refl _, trivial⟩
  have hle : B ≤ A := by have := mt cmp_lt.2 h1; omega
  have hsz := size_mono hle
  rw [if_neg (by omega)]
  conv => whnf
  refine callF va ⟨.refl _, trivial⟩ (by trivial) rfl ?_
  conv => whnf
  refine callF vb ⟨.refl _, trivial⟩ (by trivial) rfl ?_
  conv => whnf
  refine ⟨(by (try simp only [true_and, and_true, Nat.sub_zero, Nat.zero_add, Int.toNat_natCast]) <;> omega), ?_⟩
  conv => whnf
  refine loop_mod [0, 1, 6, 7, 8] [21] [6] [21]
    (fun μ fr hp => ∃ (h : Nat → Nat) (c k : Nat), fr = [(0, nat A), (1, nat B), (6, .lsl 21 1 1 0 (size A) (some (size A))), (7, .f (.int .u64 c)), (8, .f (.int .i64 k))] ∧ hp = [(21, 1, .fa 1 (size A) (fun j => [.int .u32 (h j : Nat)]))] ∧ μ = size A - k ∧
      k ≤ size A ∧ Dig h k ∧ c < 2 ∧ nval h k + B % pw k = A % pw k + c * pw k)
    (fun e fr hp => e = .exit 0 ∧ ∃ h : Nat → Nat, fr = [(6, .lsl 21 1 1 0 (size A) (some (size A)))] ∧ hp = [(21, 1, .fa 1 (size A) (fun j => [.int .u32 (h j : Nat)]))] ∧ Dig h (size A) ∧ nval h (size A) = A - B)
    ⟨_, _, _, _, rfl, .refl _, fun _ => 0, 0, 0, rfl, rfl, rfl, Nat.zero_le _, fun j hj => absurd hj (by simp), by simp, by simp [pw_zero, Nat.mod_one, nval_zero]⟩ ?_ ?_
  · rintro _ _ _ ⟨rfl, h, rfl, rfl, h2, h4⟩
    have hv := refTrim_ok _ _ h2 (by omega)
    rw [h4] at hv
    conv => whnf
    refine callF hv ⟨.raw_refl, trivial⟩ (by (try simp only [true_and, and_true, Nat.sub_zero, Nat.zero_add, Int.toNat_natCast]) <;> omega) rfl ?_
    conv => whnf
    refine ⟨(by (try simp only [true_and, and_true, Nat.sub_zero, Nat.zero_add, Int.toNat_natCast]) <;> omega), ?_⟩
    exact .refl _
  rintro _ _ _ ⟨h, c, k, rfl, rfl, rfl, h1, h2, h3, h4⟩
  have hd := digit_lt A k
  have hd2 := digit_lt B k
  conv => whnf
  refine spl (fun h5 => ?_) (fun h5 => ?_) <;> simp only [decide_eq_true_eq, decide_eq_false_iff_not, Bool.not_eq_true', Bool.not_eq_false', gt_iff_lt, ge_iff_le] at h5
  · conv => whnf
    refine spl (fun h6 => ?_) (fun h6 => ?_) <;> simp only [decide_eq_true_eq, decide_eq_false_iff_not, Bool.not_eq_true', Bool.not_eq_false', gt_iff_lt, ge_iff_le] at h6
    · conv => whnf
      refine ⟨(by (try simp only [true_and, and_true, Nat.sub_zero, Nat.zero_add, Int.toNat_natCast]) <;> omega), ?_⟩
      conv => whnf
      refine sumu64 (digit B k) rfl (by omega) ?_
      conv => whnf
      refine sumu64 (c + digit B k) (by omega) (by omega) ?_
      conv => whnf
      refine ⟨(by (try simp only [true_and, and_true, Nat.sub_zero, Nat.zero_add, Int.toNat_natCast]) <;> omega), ?_⟩
      conv => whnf
      refine sumu64 (digit A k) rfl (by omega) ?_
      conv => whnf
      refine spl (fun h7 => ?_) (fun h7 => ?_) <;> simp only [decide_eq_true_eq, decide_eq_false_iff_not, Bool.not_eq_true', Bool.not_eq_false', gt_iff_lt, ge_iff_le] at h7
      · replace h7 : ((digit A k : Nat) : Int) < ((c + digit B k : Nat) : Int) := h7
        conv => whnf
        refine sumu64 (digit A k + 4294967296) (by omega) (by omega) ?_
        conv => whnf
        have hstep := sub_stepg h4 (r := (digit A k + 4294967296 - (c + digit B k)) % 4294967296) (q := 1) (by omega)
        have hlt : (digit A k + 4294967296 - (c + digit B k)) % 4294967296 < 4294967296 := Nat.mod_lt _ (by decide)
        refine sumu64 (digit A k + 4294967296 - (c + digit B k)) (by omega) (by omega) ?_
        conv => whnf
        refine lowu32 ?_
        conv => whnf
        refine ⟨(by (try simp only [true_and, and_true, Nat.sub_zero, Nat.zero_add, Int.toNat_natCast]) <;> omega), ?_⟩
        conv => whnf
        refine ⟨(by (try simp only [true_and, and_true, Nat.sub_zero, Nat.zero_add, Int.toNat_natCast]) <;> omega), ?_⟩
        conv => whnf
        refine sumi64 (k + 1) (by omega) (by omega) ?_
        conv => whnf
        refine ⟨_, ?_, _, _, _, rfl, ?_, fun j => if j = k then (digit A k + 4294967296 - (c + digit B k)) % 4294967296 else h j, 1, k + 1, rfl, rfl, rfl, by omega, Dig_set1 h2 hlt, by omega, hstep⟩
        · omega
        · exact ⟨⟨rfl, rfl⟩, .set (by omega) rfl, trivial⟩
      · replace h7 : ¬ ((digit A k : Nat) : Int) < ((c + digit B k : Nat) : Int) := h7
        conv => whnf
        have hstep := sub_stepg h4 (r := (digit A k - (c + digit B k)) % 4294967296) (q := 0) (by omega)
        have hlt : (digit A k - (c + digit B k)) % 4294967296 < 4294967296 := Nat.mod_lt _ (by decide)
        refine sumu64 (digit A k - (c + digit B k)) (by omega) (by omega) ?_
        conv => whnf
        refine lowu32 ?_
        conv => whnf
        refine ⟨(by (try simp only [true_and, and_true, Nat.sub_zero, Nat.zero_add, Int.toNat_natCast]) <;> omega), ?_⟩
        conv => whnf
        refine ⟨(by (try simp only [true_and, and_true, Nat.sub_zero, Nat.zero_add, Int.toNat_natCast]) <;> omega), ?_⟩
        conv => whnf
        refine sumi64 (k + 1) (by omega) (by omega) ?_
        conv => whnf
        refine ⟨_, ?_, _, _, _, rfl, ?_, fun j => if j = k then (digit A k - (c + digit B k)) % 4294967296 else h j, 0, k + 1, rfl, rfl, rfl, by omega, Dig_set1 h2 hlt, by omega, hstep⟩
        · omega
        · exact ⟨⟨rfl, rfl⟩, .set (by omega) rfl, trivial⟩
    · have hz : digit B k = 0 := digit_zero_of_size (by omega)
      conv => whnf
      refine ⟨(by (try simp only [true_and, and_true, Nat.sub_zero, Nat.zero_add, Int.toNat_natCast]) <;> omega), ?_⟩
      conv => whnf
      refine sumu64 (digit A k) rfl (by omega) ?_
      conv => whnf
      refine spl (fun h7 => ?_) (fun h7 => ?_) <;> simp only [decide_eq_true_eq, decide_eq_false_iff_not, Bool.not_eq_true', Bool.not_eq_false', gt_iff_lt, ge_iff_le] at h7
      · replace h7 : ((digit A k : Nat) : Int) < ((c : Nat) : Int) := h7
        conv => whnf
        refine sumu64 (digit A k + 4294967296) (by omega) (by omega) ?_
        conv => whnf
        have hstep := sub_stepg h4 (r := (digit A k + 4294967296 - (c)) % 4294967296) (q := 1) (by omega)
        have hlt : (digit A k + 4294967296 - (c)) % 4294967296 < 4294967296 := Nat.mod_lt _ (by decide)
        refine sumu64 (digit A k + 4294967296 - (c)) (by omega) (by omega) ?_
        conv => whnf
        refine lowu32 ?_
        conv => whnf
        refine ⟨(by (try simp only [true_and, and_true, Nat.sub_zero, Nat.zero_add, Int.toNat_natCast]) <;> omega), ?_⟩
        conv => whnf
        refine ⟨(by (try simp only [true_and, and_true, Nat.sub_zero, Nat.zero_add, Int.toNat_natCast]) <;> omega), ?_⟩
        conv => whnf
        refine sumi64 (k + 1) (by omega) (by omega) ?_
        conv => whnf
        refine ⟨_, ?_, _, _, _, rfl, ?_, fun j => if j = k then (digit A k + 4294967296 - (c)) % 4294967296 else h j, 1, k + 1, rfl, rfl, rfl, by omega, Dig_set1 h2 hlt, by omega, hstep⟩
        · omega
        · exact ⟨⟨rfl, rfl⟩, .set (by omega) rfl, trivial⟩
      · replace h7 : ¬ ((digit A k : Nat) : Int) < ((c : Nat) : Int) := h7
        conv => whnf
        have hstep := sub_stepg h4 (r := (digit A k - (c)) % 4294967296) (q := 0) (by omega)
        have hlt : (digit A k - (c)) % 4294967296 < 4294967296 := Nat.mod_lt _ (by decide)
        refine sumu64 (digit A k - (c)) (by omega) (by omega) ?_
        conv => whnf
        refine lowu32 ?_
        conv => whnf
        refine ⟨(by (try simp only [true_and, and_true, Nat.sub_zero, Nat.zero_add, Int.toNat_natCast]) <;> omega), ?_⟩
        conv => whnf
        refine ⟨(by (try simp only [true_and, and_true, Nat.sub_zero, Nat.zero_add, Int.toNat_natCast]) <;> omega), ?_⟩
        conv => whnf
        refine sumi64 (k + 1) (by omega) (by omega) ?_
        conv => whnf
        refine ⟨_, ?_, _, _, _, rfl, ?_, fun j => if j = k then (digit A k - (c)) % 4294967296 else h j, 0, k + 1, rfl, rfl, rfl, by omega, Dig_set1 h2 hlt, by omega, hstep⟩
        · omega
        · exact ⟨⟨rfl, rfl⟩, .set (by omega) rfl, trivial⟩
  · have hk : k = size A := by omega
    subst hk
    rw [mod_size (Nat.le_refl _), mod_size hsz] at h4
    conv => whnf
    exact ⟨_, _, _, rfl, .refl _, rfl, h, rfl, rfl, h2, sub_end h2 h4 h3 hle⟩
end Go.Abs
