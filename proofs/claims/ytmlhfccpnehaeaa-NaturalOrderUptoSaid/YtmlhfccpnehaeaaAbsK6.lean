/- Natural numbers: short, DivMod but for the long division. -/
import Derived.Test.YtmlhfccpnehaeaaAbsK4
set_option autoImplicit false
set_option maxHeartbeats 4000000
set_option linter.unusedVariables false
set_option linter.unusedSimpArgs false
namespace Go.Abs
open Go Go.Proofs

theorem short_step (A i : Nat) {d : Nat} (hd : 0 < d) :
    (A / pw (i + 1) % d * 4294967296 + digit A i) / d = digit (A / d) i ∧ (A / pw (i + 1) % d * 4294967296 + digit A i) % d = A / pw i % d := by
  have hx := digit_lt A i
  have e1 := div_step A i
  have e2 : digit (A / d) i = A / pw i / d % 4294967296 := by rw [digit, Nat.div_div_eq_div_mul, Nat.div_div_eq_div_mul, Nat.mul_comm]
  rw [e2, e1]
  generalize A / pw (i + 1) = a
  generalize digit A i = x at *
  have e3 := Nat.div_add_mod a d
  have hr : a % d < d := Nat.mod_lt _ hd
  generalize a / d = q at *
  generalize a % d = r at *
  have e4 : a * 4294967296 + x = d * (q * 4294967296) + (r * 4294967296 + x) := by rw [← e3]; grind
  have hlt : (r * 4294967296 + x) / d < 4294967296 := by
    rw [Nat.div_lt_iff_lt_mul hd]
    have := Nat.mul_le_mul_right 4294967296 (show r + 1 ≤ d by omega)
    omega
  constructor
  · rw [e4, Nat.mul_add_div hd, Nat.mul_comm q, Nat.mul_add_mod, Nat.mod_eq_of_lt hlt]
  · rw [e4, Nat.mul_add_mod]

theorem short_ok (A d : Nat) (hd : 0 < d) (hd2 : d < 4294967296) (hA : size A ≤ 4398046511104) :
    ACall Try.prog 44 [nat A, .f (.int .u32 d)] (.tup [nat (A / d), .f (.int .u32 (A % d : Nat))]) := by
  have hq : size (A / d) ≤ size A := size_mono (Nat.div_le_self _ _)
  refine acall_rule env [0, 1, 4, 5, 6, 7, 8, 9, 17] Try.func44 rfl rfl rfl rfl ?_
  conv => whnf
  refine ⟨(by (try simp only [true_and, and_true, Nat.sub_zero, Nat.zero_add, Int.toNat_natCast]) <;> omega), ?_⟩
  conv => whnf
  refine fit64 (by omega) ?_
  conv => whnf
  refine loop_mod [0, 1, 6, 7, 8] [12] [6, 7] [12]
    (fun μ fr hp => ∃ (i : Int) (r : Nat), fr = [(0, nat A), (1, .f (.int .u32 d)), (6, .lsl 12 1 1 0 (size A) (some (size A))), (7, .f (.int .u64 r)), (8, .f (.int .i64 i))] ∧ hp = [(12, 1, .fa 1 (size A) (fun j => [.int .u32 ((if i < j then digit (A / d) j else 0 : Nat) : Int)]))] ∧ μ = (i + 1).toNat ∧
      -1 ≤ i ∧ i < size A ∧ r = A / pw (i + 1).toNat % d)
    (fun e fr hp => e = .exit 0 ∧ fr = [(6, .lsl 12 1 1 0 (size A) (some (size A))), (7, .f (.int .u64 (A % d : Nat)))] ∧ hp = [(12, 1, .fa 1 (size A) (fun j => [.int .u32 (digit (A / d) j : Nat)]))])
    ⟨_, _, _, _, rfl, ?_, (size A : Int) - 1, 0, rfl, rfl, rfl, by omega, by omega, ?_⟩ ?_ ?_
  · refine ⟨⟨rfl, rfl⟩, .fa fun j hj => ?_, trivial⟩
    rw [if_neg (by omega)]; exact .one (.refl _)
  · rw [show ((size A : Int) - 1 + 1).toNat = size A by omega, div_size, Nat.zero_mod]
  · rintro _ _ _ ⟨rfl, rfl, rfl⟩
    have hv := view_ok _ (size A) (digit_Dig (A / d) (size A)) (by omega)
    rw [nval_digit, mod_size hq] at hv
    have hr : A % d < d := Nat.mod_lt _ hd
    conv => whnf
    refine callF hv ⟨.raw_refl, trivial⟩ (by (try simp only [true_and, and_true, Nat.sub_zero, Nat.zero_add, Int.toNat_natCast]) <;> omega) rfl ?_
    conv => whnf
    refine sumu32 (A % d) rfl (by omega) ?_
    conv => whnf
    refine ⟨(by (try simp only [true_and, and_true, Nat.sub_zero, Nat.zero_add, Int.toNat_natCast]) <;> omega), ?_⟩
    exact .refl _
  rintro _ _ _ ⟨i, r, rfl, rfl, rfl, h1, h2, h3⟩
  conv => whnf
  refine spl (fun h4 => ?_) (fun h4 => ?_) <;> simp only [decide_eq_true_eq, decide_eq_false_iff_not, Bool.not_eq_true', Bool.not_eq_false', gt_iff_lt, ge_iff_le] at h4
  · have e1 : (i + 1).toNat = i.toNat + 1 := by omega
    rw [e1] at h3
    have hx := digit_lt A i.toNat
    have hs := short_step A i.toNat hd
    rw [← h3] at hs
    have hr : r < d := by rw [h3]; exact Nat.mod_lt _ hd
    have hq2 := digit_lt (A / d) i.toNat
    conv => whnf
    refine ⟨(by (try simp only [true_and, and_true, Nat.sub_zero, Nat.zero_add, Int.toNat_natCast]) <;> omega), ?_⟩
    conv => whnf
    refine shl32 (r * 4294967296) (by omega) ?_
    conv => whnf
    refine ⟨(by (try simp only [true_and, and_true, Nat.sub_zero, Nat.zero_add, Int.toNat_natCast]) <;> omega), ?_⟩
    conv => whnf
    refine sumu64 (digit A i.toNat) rfl (by omega) ?_
    conv => whnf
    refine or32 (by omega) hx ?_
    conv => whnf
    refine sumu64 d rfl (by omega) ?_
    conv => whnf
    refine ⟨(by (try simp only [true_and, and_true, Nat.sub_zero, Nat.zero_add, Int.toNat_natCast]) <;> omega), ?_⟩
    conv => whnf
    refine quou64 (by omega) ?_
    conv => whnf
    rw [hs.1]
    refine sumu32 (digit (A / d) i.toNat) rfl (by omega) ?_
    conv => whnf
    refine ⟨(by (try simp only [true_and, and_true, Nat.sub_zero, Nat.zero_add, Int.toNat_natCast]) <;> omega), ?_⟩
    conv => whnf
    refine ⟨(by (try simp only [true_and, and_true, Nat.sub_zero, Nat.zero_add, Int.toNat_natCast]) <;> omega), ?_⟩
    conv => whnf
    refine sumu64 d rfl (by omega) ?_
    conv => whnf
    refine ⟨(by (try simp only [true_and, and_true, Nat.sub_zero, Nat.zero_add, Int.toNat_natCast]) <;> omega), ?_⟩
    conv => whnf
    refine remN ?_
    conv => whnf
    rw [hs.2]
    refine fit64 (by omega) ?_
    conv => whnf
    refine ⟨_, ?_, _, _, _, rfl, ?_, i - 1, A / pw i.toNat % d, rfl, rfl, rfl, by omega, by omega, by rw [show (i - 1 + 1).toNat = i.toNat by omega]⟩
    · omega
    · refine ⟨⟨rfl, rfl⟩, .fa fun j hj => ?_, trivial⟩
      rw [upd_set (fun j => if i < (j : Int) then digit (A / d) j else 0) _ _ _ rfl]
      refine .one (.int_of ?_)
      by_cases e : j = i.toNat
      · subst e; rw [if_pos (by omega), if_pos (by omega)]
      · rw [if_neg (by omega)]
        by_cases e2 : i < (j : Int)
        · rw [if_pos e2, if_pos (by omega)]
        · rw [if_neg e2, if_neg (by omega)]
  · have : i = -1 := by omega
    subst this
    have h3 : r = A / pw 0 % d := h3
    rw [pw_zero, Nat.div_one] at h3
    subst h3
    conv => whnf
    refine ⟨_, _, _, rfl, ?_, rfl, rfl, rfl⟩
    refine ⟨⟨rfl, rfl⟩, .fa fun j hj => ?_, trivial⟩
    rw [if_pos (by omega)]; exact .one (.refl _)

/-- what DivMod answers -/
def divRes (A B : Nat) : AV := if B = 0 then .tup [nat 0, nat 0, .f (.bool false)] else .tup [nat (A / B), nat (A % B), .f (.bool true)]

theorem DivMod_gen (g h : Nat → Nat) (n m : Nat) (hg : Dig g n) (hh : Dig h m) (hn : n ≤ 4398046511104) (hm : m ≤ 4398046511104)
    (hlong : 2 ≤ size (nval h m) → nval h m ≤ nval g n → ACall Try.prog 45 [nat (nval g n), nat (nval h m)] (.tup [nat (nval g n / nval h m), nat (nval g n % nval h m)])) :
    ACall Try.prog 28 [raw g n, raw h m] (divRes (nval g n) (nval h m)) := by
  have hA := size_nval hg
  have hB := size_nval hh
  have va := view_ok g n hg hn
  have vb := view_ok h m hh hm
  generalize nval g n = A at hA va hlong ⊢
  generalize nval h m = B at hB vb hlong ⊢
  unfold divRes
  refine acall_rule env [0, 1, 4, 5, 6, 7, 8, 13, 17, 24] Try.func28 rfl rfl rfl rfl ?_
  conv => whnf
  refine callF va ⟨.refl _, trivial⟩ (by trivial) rfl ?_
  conv => whnf
  refine callF vb ⟨.refl _, trivial⟩ (by trivial) rfl ?_
  conv => whnf
  refine spl (fun h1 => ?_) (fun h1 => ?_) <;> simp only [decide_eq_true_eq, decide_eq_false_iff_not, Bool.not_eq_true', Bool.not_eq_false', gt_iff_lt, ge_iff_le] at h1
  · rw [if_pos (size_eq_zero.1 (by omega))]
    conv => whnf
    refine ⟨(by (try simp only [true_and, and_true, Nat.sub_zero, Nat.zero_add, Int.toNat_natCast]) <;> omega), ?_⟩
    exact .tup ⟨.nil_nat, .nil_nat, .refl _, trivial⟩
  have hB0 : 0 < B := by
    rcases Nat.eq_zero_or_pos B with h | h
    · exact absurd (size_eq_zero.2 h) (by omega)
    · exact h
  rw [if_neg (by omega)]
  conv => whnf
  have hc := Compare_ok (digit A) (digit B) (size A) (size B) (digit_Dig _ _) (digit_Dig _ _) (by omega) (by omega)
  rw [nval_digit_size, nval_digit_size] at hc
  refine callF hc ⟨.refl _, .refl _, trivial⟩ (by trivial) rfl ?_
  conv => whnf
  refine spl (fun h2 => ?_) (fun h2 => ?_) <;> simp only [decide_eq_true_eq, decide_eq_false_iff_not, Bool.not_eq_true', Bool.not_eq_false', gt_iff_lt, ge_iff_le] at h2
  · have hlt := cmp_lt.1 h2
    rw [Nat.div_eq_of_lt hlt, Nat.mod_eq_of_lt hlt]
    have ht := Trim_ok (digit A) (size A) (digit_Dig _ _) (by omega)
    rw [nval_digit_size] at ht
    conv => whnf
    refine callF ht ⟨.refl _, trivial⟩ (by trivial) rfl ?_
    conv => whnf
    refine ⟨(by (try simp only [true_and, and_true, Nat.sub_zero, Nat.zero_add, Int.toNat_natCast]) <;> omega), ?_⟩
    exact .tup ⟨.nil_nat, .refl _, .refl _, trivial⟩
  have hle : B ≤ A := by have := mt cmp_lt.2 h2; omega
  conv => whnf
  refine spl (fun h3 => ?_) (fun h3 => ?_) <;> simp only [decide_eq_true_eq, decide_eq_false_iff_not, Bool.not_eq_true', Bool.not_eq_false', gt_iff_lt, ge_iff_le] at h3
  · have hB1 : B < 4294967296 := by have := lt_pw_size B; rw [show size B = 1 by omega] at this; exact this
    have hd : digit B 0 = B := by rw [digit, pw_zero, Nat.div_one, Nat.mod_eq_of_lt hB1]
    have hr : A % B < B := Nat.mod_lt _ hB0
    have hs := short_ok A B hB0 hB1 (by omega)
    have hf := FromUint64_ok (A % B) (by omega)
    conv => whnf
    refine ⟨(by (try simp only [true_and, and_true, Nat.sub_zero, Nat.zero_add, Int.toNat_natCast]) <;> omega), ?_⟩
    conv => whnf
    refine callF hs ⟨.refl _, .int_of (congrArg _ hd), trivial⟩ (by trivial) rfl ?_
    conv => whnf
    refine sumu64 (A % B) rfl (by omega) ?_
    conv => whnf
    refine callF hf ⟨.refl _, trivial⟩ (by trivial) rfl ?_
    conv => whnf
    refine ⟨(by (try simp only [true_and, and_true, Nat.sub_zero, Nat.zero_add, Int.toNat_natCast]) <;> omega), ?_⟩
    exact .refl _
  · have hl := hlong (by omega) hle
    conv => whnf
    refine callF hl ⟨.refl _, .refl _, trivial⟩ (by trivial) rfl ?_
    conv => whnf
    refine ⟨(by (try simp only [true_and, and_true, Nat.sub_zero, Nat.zero_add, Int.toNat_natCast]) <;> omega), ?_⟩
    exact .refl _
end Go.Abs
