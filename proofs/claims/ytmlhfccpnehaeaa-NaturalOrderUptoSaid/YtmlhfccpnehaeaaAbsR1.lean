/- The reference's natural numbers: Trim, Equal, FromUint64, Uint64, Compare. -/
import Derived.Test.YtmlhfccpnehaeaaAbsK4
set_option autoImplicit false
set_option maxHeartbeats 4000000
set_option linter.unusedVariables false
set_option linter.unusedSimpArgs false
namespace Go.Abs
open Go Go.Proofs

theorem refTrim_ok (g : Nat → Nat) (n : Nat) (hg : Dig g n) (hn : n ≤ 4398046511104) : ACall Try.prog 20 [raw g n] (nat (nval g n)) := by
  refine acall_rule env [0, 2, 3, 15] Try.func20 rfl rfl rfl rfl ?_
  conv => whnf
  refine loop_mod [0, 3] [] [0, 3] []
    (fun μ fr hp => ∃ s : Int, fr = [(0, raw g n), (3, .f (.int .i64 s))] ∧ hp = [] ∧ μ = s.toNat ∧ 0 ≤ s ∧ s ≤ n ∧ trimLen g s.toNat = trimLen g n)
    (fun e fr hp => e = .exit 0 ∧ fr = [(0, raw g n), (3, .f (.int .i64 (trimLen g n : Nat)))] ∧ hp = [])
    ⟨_, _, _, _, rfl, .refl _, n, rfl, rfl, rfl, by omega, Int.le_refl _, rfl⟩ ?_ ?_
  · rintro _ _ _ ⟨rfl, rfl, rfl⟩
    have hle : trimLen g n ≤ n := by rw [trimLen_eq hg]; exact size_nval hg
    conv => whnf
    refine ⟨(by (try simp only [true_and, and_true, Nat.sub_zero, Nat.zero_add, Int.toNat_natCast]) <;> omega), ?_⟩
    conv => whnf
    refine ⟨⟨(by (try simp only [true_and, and_true, Nat.sub_zero, Nat.zero_add, Int.toNat_natCast]) <;> omega), (by (try simp only [true_and, and_true, Nat.sub_zero, Nat.zero_add, Int.toNat_natCast]) <;> omega), (by (try simp only [true_and, and_true, Nat.sub_zero, Nat.zero_add, Int.toNat_natCast]) <;> omega), room_any (by simp only; omega)⟩, ?_⟩
    conv => whnf
    refine ⟨(by (try simp only [true_and, and_true, Nat.sub_zero, Nat.zero_add, Int.toNat_natCast]) <;> omega), ?_⟩
    exact (AVle.raw_ofn (g := g) (n := trimLen g n) (by omega) (fun j hj => by simp)).trans (nat_of_trim hg)
  rintro _ _ _ ⟨s, rfl, rfl, rfl, h0, hs, hI⟩
  conv => whnf
  refine spl (fun h1 => ?_) (fun h1 => ?_) <;> simp only [decide_eq_true_eq, decide_eq_false_iff_not, Bool.not_eq_true', Bool.not_eq_false', gt_iff_lt, ge_iff_le] at h1
  · conv => whnf
    refine fit64 (by omega) ?_
    conv => whnf
    refine ⟨(by (try simp only [true_and, and_true, Nat.sub_zero, Nat.zero_add, Int.toNat_natCast]) <;> omega), ?_⟩
    conv => whnf
    have ht : trimLen g s.toNat = if g (s - 1).toNat = 0 then trimLen g (s - 1).toNat else s.toNat := by
      rw [show s.toNat = (s - 1).toNat + 1 by omega]; rfl
    refine spl (fun h2 => ?_) (fun h2 => ?_) <;> simp only [decide_eq_true_eq, decide_eq_false_iff_not, Bool.not_eq_true', Bool.not_eq_false', gt_iff_lt, ge_iff_le] at h2
    · conv => whnf
      refine fit64 (by omega) ?_
      conv => whnf
      exact ⟨_, by omega, _, _, _, rfl, .refl _, s - 1, rfl, rfl, rfl, by omega, by omega, by rw [← hI, ht, if_pos (by omega)]⟩
    · conv => whnf
      rw [if_neg (by omega)] at ht
      rw [ht] at hI
      rw [← hI]
      exact ⟨_, _, _, congrArg (fun t => some ([(0, raw g n), (3, AV.f (.int .i64 t))], [])) (show s = (s.toNat : Int) by omega), .refl _, rfl, rfl, rfl⟩
  · conv => whnf
    have : s = 0 := by omega
    subst this
    exact ⟨_, _, _, congrArg (fun t => some ([(0, raw g n), (3, AV.f (.int .i64 t))], [])) (show (0 : Int) = (trimLen g n : Int) by rw [← hI]; rfl), .refl _, rfl, rfl, rfl⟩

theorem refEqual_ok (g h : Nat → Nat) (n m : Nat) (hg : Dig g n) (hh : Dig h m) (hn : n ≤ 4398046511104) :
    ACall Try.prog 18 [raw g n, raw h m] (.f (.bool (decide (n = m ∧ nval g n = nval h m)))) := by
  refine acall_rule env [0, 1, 4, 5, 10, 14, 25] Try.func18 rfl rfl rfl rfl ?_
  conv => whnf
  refine spl (fun h1 => ?_) (fun h1 => ?_) <;> simp only [decide_eq_true_eq, decide_eq_false_iff_not, Bool.not_eq_true', Bool.not_eq_false', gt_iff_lt, ge_iff_le] at h1
  · conv => whnf
    refine ⟨(by (try simp only [true_and, and_true, Nat.sub_zero, Nat.zero_add, Int.toNat_natCast]) <;> omega), ?_⟩
    exact .bool_of (by rw [decide_eq_false]; omega)
  have h1 : n = m := by omega
  subst h1
  conv => whnf
  refine loop_mod [0, 1, 5] [] [4] []
    (fun μ fr hp => ∃ k : Nat, fr = [(0, raw g n), (1, raw h n), (5, .f (.int .i64 k))] ∧ hp = [] ∧ μ = n - k ∧ k ≤ n ∧ ∀ j, j < k → g j = h j)
    (fun e fr hp => (e = .exit 0 ∧ fr = [(4, .top)] ∧ hp = [] ∧ ∀ j, j < n → g j = h j) ∨ (e = .ret ∧ fr = [(4, .f (.bool false))] ∧ hp = [] ∧ nval g n ≠ nval h n))
    ⟨_, _, _, _, rfl, .refl _, 0, rfl, rfl, rfl, by omega, by simp⟩ ?_ ?_
  · rintro _ _ _ (⟨rfl, rfl, rfl, he⟩ | ⟨rfl, rfl, rfl, hne⟩)
    · conv => whnf
      refine ⟨(by (try simp only [true_and, and_true, Nat.sub_zero, Nat.zero_add, Int.toNat_natCast]) <;> omega), ?_⟩
      exact .bool_of (by rw [decide_eq_true]; exact ⟨rfl, nval_congr he⟩)
    · conv => whnf
      refine ⟨(by (try simp only [true_and, and_true, Nat.sub_zero, Nat.zero_add, Int.toNat_natCast]) <;> omega), ?_⟩
      exact .bool_of (by rw [decide_eq_false]; exact fun h => hne h.2)
  rintro _ _ _ ⟨k, rfl, rfl, rfl, hk, he⟩
  conv => whnf
  refine spl (fun h2 => ?_) (fun h2 => ?_) <;> simp only [decide_eq_true_eq, decide_eq_false_iff_not, Bool.not_eq_true', Bool.not_eq_false', gt_iff_lt, ge_iff_le] at h2
  · conv => whnf
    refine ⟨(by (try simp only [true_and, and_true, Nat.sub_zero, Nat.zero_add, Int.toNat_natCast]) <;> omega), ?_⟩
    conv => whnf
    refine ⟨(by (try simp only [true_and, and_true, Nat.sub_zero, Nat.zero_add, Int.toNat_natCast]) <;> omega), ?_⟩
    conv => whnf
    refine ⟨by kernel_rfl, ?_⟩
    conv => whnf
    refine spl (fun h3 => ?_) (fun h3 => ?_) <;> simp only [decide_eq_true_eq, decide_eq_false_iff_not, Bool.not_eq_true', Bool.not_eq_false', gt_iff_lt, ge_iff_le] at h3
    · replace h3 : ¬ ((g k : Nat) : Int) = (h k : Nat) := h3
      conv => whnf
      exact ⟨_, _, _, rfl, .refl _, .inr ⟨rfl, rfl, rfl, fun e => h3 (by rw [nval_inj hg hh e k (by omega)])⟩⟩
    · replace h3 : ((g k : Nat) : Int) = (h k : Nat) := h3
      conv => whnf
      refine sumi64 (k + 1) (by omega) (by omega) ?_
      conv => whnf
      refine ⟨_, ?_, _, _, _, rfl, .refl _, k + 1, rfl, rfl, rfl, by omega, fun j hj => ?_⟩
      · omega
      · by_cases e : j = k
        · subst e; omega
        · exact he j (by omega)
  · conv => whnf
    have : k = n := by omega
    subst this
    exact ⟨_, _, _, rfl, .refl _, .inl ⟨rfl, rfl, rfl, he⟩⟩
end Go.Abs
