/- Natural numbers: GCD. -/
import Derived.Test.YtmlhfccpnehaeaaAbsK6
set_option autoImplicit false
set_option maxHeartbeats 4000000
set_option linter.unusedVariables false
set_option linter.unusedSimpArgs false
namespace Go.Abs
open Go Go.Proofs

theorem gcd_step (a b : Nat) : Nat.gcd b (a % b) = Nat.gcd a b := by rw [Nat.gcd_comm b, ← Nat.gcd_rec, Nat.gcd_comm]
theorem lt64 {a : Nat} (h : size a ≤ 2) : a < 18446744073709551616 := Nat.lt_of_lt_of_le (lt_pw_size a) (pw_le (j := 2) h)


theorem GCD_gen (g h : Nat → Nat) (n m M : Nat) (hg : Dig g n) (hh : Dig h m) (hn : n ≤ M) (hm : m ≤ M) (hM : M ≤ 4398046511104)
    (hdiv : ∀ a b, size a ≤ M → size b ≤ M → (2 < size b ∨ 2 < size a) → 0 < b → ACall Try.prog 28 [nat a, nat b] (divRes a b)) :
    ACall Try.prog 33 [raw g n, raw h m] (nat (Nat.gcd (nval g n) (nval h m))) := by
  have hA := size_nval hg
  have hB := size_nval hh
  have va := Trim_ok g n hg (by omega)
  have vb := Trim_ok h m hh (by omega)
  generalize nval g n = A at hA va ⊢
  generalize nval h m = B at hB vb ⊢
  refine acall_rule env [0, 1, 4, 6, 8, 10, 28, 40, 53] Try.func33 rfl rfl rfl rfl ?_
  conv => whnf
  refine callF va ⟨.refl _, trivial⟩ (by trivial) rfl ?_
  conv => whnf
  refine callF vb ⟨.refl _, trivial⟩ (by trivial) rfl ?_
  conv => whnf
  refine loop_mod [0, 1] [] [0, 1] []
    (fun μ fr hp => ∃ a b : Nat, fr = [(0, nat a), (1, nat b)] ∧ hp = [] ∧ μ = b + 1 ∧ size a ≤ M ∧ size b ≤ M ∧ Nat.gcd a b = Nat.gcd A B)
    (fun e fr hp => e = .exit 0 ∧ ∃ a b : Nat, fr = [(0, nat a), (1, nat b)] ∧ hp = [] ∧ (b = 0 ∨ size a ≤ 2 ∧ size b ≤ 2) ∧ size a ≤ M ∧ Nat.gcd a b = Nat.gcd A B)
    ⟨_, _, _, _, rfl, .refl _, A, B, rfl, rfl, rfl, by omega, by omega, rfl⟩ ?_ ?_
  · rintro _ _ _ ⟨rfl, a, b, rfl, rfl, h1, h3, h2⟩
    rw [← h2]
    conv => whnf
    refine spl (fun h4 => ?_) (fun h4 => ?_) <;> simp only [decide_eq_true_eq, decide_eq_false_iff_not, Bool.not_eq_true', Bool.not_eq_false', gt_iff_lt, ge_iff_le] at h4
    · have : b = 0 := size_eq_zero.1 (by omega)
      subst this
      rw [Nat.gcd_zero_right]
      conv => whnf
      refine ⟨(by (try simp only [true_and, and_true, Nat.sub_zero, Nat.zero_add, Int.toNat_natCast]) <;> omega), ?_⟩
      exact .refl _
    have hb : b ≠ 0 := fun e => h4 (by rw [e]; rfl)
    have hs : size a ≤ 2 ∧ size b ≤ 2 := h1.resolve_left hb
    have ha64 := lt64 hs.1
    have hb64 := lt64 hs.2
    have ua := Uint64_ok (digit a) (size a) (digit_Dig _ _) (by omega)
    have ub := Uint64_ok (digit b) (size b) (digit_Dig _ _) (by omega)
    rw [nval_digit_size, if_pos ha64] at ua
    rw [nval_digit_size, if_pos hb64] at ub
    conv => whnf
    refine callF ua ⟨.refl _, trivial⟩ (by trivial) rfl ?_
    conv => whnf
    refine callF ub ⟨.refl _, trivial⟩ (by trivial) rfl ?_
    conv => whnf
    refine loop_mod [8, 10] [] [8] []
      (fun μ fr hp => ∃ x y : Nat, fr = [(8, .f (.int .u64 x)), (10, .f (.int .u64 y))] ∧ hp = [] ∧ μ = y + 1 ∧ x < 18446744073709551616 ∧ y < 18446744073709551616 ∧ Nat.gcd x y = Nat.gcd a b)
      (fun e fr hp => e = .exit 2 ∧ fr = [(8, .f (.int .u64 (Nat.gcd a b)))] ∧ hp = [] ∧ Nat.gcd a b < 18446744073709551616)
      ⟨_, _, _, _, rfl, .refl _, a, b, rfl, rfl, rfl, ha64, hb64, rfl⟩ ?_ ?_
    · rintro _ _ _ ⟨rfl, rfl, rfl, hG⟩
      conv => whnf
      refine callF (FromUint64_ok _ hG) ⟨.refl _, trivial⟩ (by trivial) rfl ?_
      conv => whnf
      refine ⟨(by (try simp only [true_and, and_true, Nat.sub_zero, Nat.zero_add, Int.toNat_natCast]) <;> omega), ?_⟩
      exact .refl _
    rintro _ _ _ ⟨x, y, rfl, rfl, rfl, g1, g2, g3⟩
    conv => whnf
    refine spl (fun h5 => ?_) (fun h5 => ?_) <;> simp only [decide_eq_true_eq, decide_eq_false_iff_not, Bool.not_eq_true', Bool.not_eq_false', gt_iff_lt, ge_iff_le] at h5
    · have hlt : x % y < y := Nat.mod_lt _ (by omega)
      conv => whnf
      refine ⟨(by (try simp only [true_and, and_true, Nat.sub_zero, Nat.zero_add, Int.toNat_natCast]) <;> omega), ?_⟩
      conv => whnf
      refine remN ?_
      conv => whnf
      refine ⟨by kernel_rfl, ?_⟩
      conv => whnf
      exact ⟨_, Nat.succ_lt_succ hlt, _, _, _, rfl, .refl _, y, x % y, rfl, rfl, rfl, g2, by omega, by rw [gcd_step]; exact g3⟩
    · have : y = 0 := by omega
      subst this
      rw [Nat.gcd_zero_right] at g3
      conv => whnf
      exact ⟨_, _, _, congrArg (fun t => some ([(8, AV.f (.int .u64 t))], [])) (congrArg _ g3), .refl _, rfl, rfl, rfl, by omega⟩
  rintro _ _ _ ⟨a, b, rfl, rfl, rfl, h1, h2, h3⟩
  conv => whnf
  refine spl (fun h4 => ?_) (fun h4 => ?_) <;> simp only [decide_eq_true_eq, decide_eq_false_iff_not, Bool.not_eq_true', Bool.not_eq_false', gt_iff_lt, ge_iff_le] at h4
  · conv => whnf
    conv => whnf
    have hb0 : 0 < b := by
      rcases Nat.eq_zero_or_pos b with h | h
      · exact absurd (size_eq_zero.2 h) (by omega)
      · exact h
    have hd := hdiv a b h1 h2 (by omega) hb0
    rw [divRes, if_neg (by omega)] at hd
    have hlt : a % b < b := Nat.mod_lt _ hb0
    refine callF hd ⟨.refl _, .refl _, trivial⟩ (by trivial) rfl ?_
    conv => whnf
    exact ⟨_, Nat.succ_lt_succ hlt, _, _, _, rfl, .refl _, b, a % b, rfl, rfl, rfl, h2, Nat.le_trans (size_mono (Nat.le_of_lt hlt)) h2, by rw [gcd_step]; exact h3⟩
  conv => whnf
  refine spl (fun h5 => ?_) (fun h5 => ?_) <;> simp only [decide_eq_true_eq, decide_eq_false_iff_not, Bool.not_eq_true', Bool.not_eq_false', gt_iff_lt, ge_iff_le] at h5
  · conv => whnf
    refine spl (fun h6 => ?_) (fun h6 => ?_) <;> simp only [decide_eq_true_eq, decide_eq_false_iff_not, Bool.not_eq_true', Bool.not_eq_false', gt_iff_lt, ge_iff_le] at h6
    · conv => whnf
      have hb0 : 0 < b := by
        rcases Nat.eq_zero_or_pos b with h | h
        · exact absurd (size_eq_zero.2 h) (by omega)
        · exact h
      have hd := hdiv a b h1 h2 (by omega) hb0
      rw [divRes, if_neg (by omega)] at hd
      have hlt : a % b < b := Nat.mod_lt _ hb0
      refine callF hd ⟨.refl _, .refl _, trivial⟩ (by trivial) rfl ?_
      conv => whnf
      exact ⟨_, Nat.succ_lt_succ hlt, _, _, _, rfl, .refl _, b, a % b, rfl, rfl, rfl, h2, Nat.le_trans (size_mono (Nat.le_of_lt hlt)) h2, by rw [gcd_step]; exact h3⟩
    · conv => whnf
      exact ⟨_, _, _, rfl, .refl _, rfl, a, b, rfl, rfl, .inl (size_eq_zero.1 (by omega)), h1, h3⟩
  · conv => whnf
    exact ⟨_, _, _, rfl, .refl _, rfl, a, b, rfl, rfl, .inr ⟨by omega, by omega⟩, h1, h3⟩
end Go.Abs
