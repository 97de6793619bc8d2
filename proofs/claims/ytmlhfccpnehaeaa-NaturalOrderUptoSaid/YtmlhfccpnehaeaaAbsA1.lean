/- awake, and Equal of canonical lists. -/
import Derived.Test.YtmlhfccpnehaeaaAbsK7
import Derived.Test.YtmlhfccpnehaeaaAbsR3
set_option autoImplicit false
set_option maxHeartbeats 4000000
set_option linter.unusedVariables false
set_option linter.unusedSimpArgs false
namespace Go.Abs
open Go Go.Proofs

def lim (l : List Nat) (j : Nat) : Nat := l.getD j 0

theorem refEqual_nn (A B : Nat) (h : size A ≤ 4398046511104) : ACall Try.prog 18 [nat A, nat B] (.f (.bool (decide (A = B)))) := by
  have := refEqual_ok (digit A) (digit B) (size A) (size B) (digit_Dig _ _) (digit_Dig _ _) h
  rw [nval_digit_size, nval_digit_size] at this
  refine this.res (.bool_of ?_)
  by_cases e : A = B
  · subst e; simp
  · simp [e]
theorem refEqual_same (A : Nat) (h : size A ≤ 4398046511104) : ACall Try.prog 18 [nat A, nat A] (.f (.bool true)) := by
  have := refEqual_nn A A h
  rwa [decide_eq_true rfl] at this
theorem refEqual_lit (N n : Nat) (l : List Nat) (hs : size N = n) (hg : Dig (lim l) n) (e : nval (lim l) n = N) (h : n ≤ 4398046511104) : ACall Try.prog 18 [nat N, raw (lim l) n] (.f (.bool true)) := by
  have := refEqual_ok (digit N) (lim l) (size N) n (digit_Dig _ _) hg (by omega)
  rw [nval_digit_size, e, decide_eq_true ⟨hs, rfl⟩] at this
  exact this

theorem awake_ok : ACall Try.prog 17 [] (.f (.bool true)) := by
  have s1 := Sub_ok (lim [0, 1]) (lim [1, 0, 0]) 2 3 (by unfold Dig; decide) (by unfold Dig; decide) (by omega) (by omega)
  rw [show nval (lim [0, 1]) 2 = 4294967296 by decide, show nval (lim [1, 0, 0]) 3 = 1 by decide, if_neg (by decide)] at s1
  have s2 := DivMod_gen (lim [0, 0, 1]) (lim [3]) 3 1 (by unfold Dig; decide) (by unfold Dig; decide) (by omega) (by omega) (fun h => absurd (size_nval (g := lim [3]) (n := 1) (by unfold Dig; decide)) (by omega))
  rw [show nval (lim [0, 0, 1]) 3 = 18446744073709551616 by decide, show nval (lim [3]) 1 = 3 by decide, divRes, if_neg (by decide)] at s2
  have s3 := Add_ok (lim [4294967295]) (lim [1]) 1 1 (by unfold Dig; decide) (by unfold Dig; decide) (by omega) (by omega)
  rw [show nval (lim [4294967295]) 1 = 4294967295 by decide, show nval (lim [1]) 1 = 1 by decide] at s3
  have s4 := GCD_gen (lim [12]) (lim [18, 0]) 1 2 2 (by unfold Dig; decide) (by unfold Dig; decide) (by omega) (by omega) (by omega) (fun a b h1 h2 h3 => by omega)
  rw [show nval (lim [12]) 1 = 12 by decide, show nval (lim [18, 0]) 2 = 18 by decide, show Nat.gcd 12 18 = 6 by decide] at s4
  have e1 := refEqual_lit (4294967295 + 1) 2 [0, 1] (size_eq (n := 1) (by decide) (by decide)) (by unfold Dig; decide) (by decide) (by omega)
  have e2 := refEqual_lit (4294967296 - 1) 1 [4294967295] (size_eq (n := 0) (by decide) (by decide)) (by unfold Dig; decide) (by decide) (by omega)
  have e3 := refEqual_lit (18446744073709551616 / 3) 2 [1431655765, 1431655765] (size_eq (n := 1) (by decide) (by decide)) (by unfold Dig; decide) (by decide) (by omega)
  have e4 := refEqual_lit (18446744073709551616 % 3) 1 [1] (size_eq (n := 0) (by decide) (by decide)) (by unfold Dig; decide) (by decide) (by omega)
  have e5 := refEqual_lit 6 1 [6] (size_eq (n := 0) (by decide) (by decide)) (by unfold Dig; decide) (by decide) (by omega)
  refine acall_rule env [0, 1, 2, 3, 4, 5] Try.func17 rfl rfl rfl rfl ?_
  conv => whnf
  refine callF s1 ⟨(.raw_of fun j hj => match j, hj with | 0, _ => rfl | 1, _ => rfl), (.raw_of fun j hj => match j, hj with | 0, _ => rfl | 1, _ => rfl | 2, _ => rfl), trivial⟩ (by simp) rfl ?_
  conv => whnf
  refine callF s2 ⟨(.raw_of fun j hj => match j, hj with | 0, _ => rfl | 1, _ => rfl | 2, _ => rfl), (.raw_of fun j hj => match j, hj with | 0, _ => rfl), trivial⟩ (by simp) rfl ?_
  conv => whnf
  refine callF s3 ⟨(.raw_of fun j hj => match j, hj with | 0, _ => rfl), (.raw_of fun j hj => match j, hj with | 0, _ => rfl), trivial⟩ (by simp) rfl ?_
  conv => whnf
  refine callF e1 ⟨.refl _, (.raw_of fun j hj => match j, hj with | 0, _ => rfl | 1, _ => rfl), trivial⟩ (by simp) rfl ?_
  conv => whnf
  refine callF e2 ⟨.refl _, (.raw_of fun j hj => match j, hj with | 0, _ => rfl), trivial⟩ (by simp) rfl ?_
  conv => whnf
  refine callF e3 ⟨.refl _, (.raw_of fun j hj => match j, hj with | 0, _ => rfl | 1, _ => rfl), trivial⟩ (by simp) rfl ?_
  conv => whnf
  refine callF e4 ⟨.refl _, (.raw_of fun j hj => match j, hj with | 0, _ => rfl), trivial⟩ (by simp) rfl ?_
  conv => whnf
  refine callF s4 ⟨(.raw_of fun j hj => match j, hj with | 0, _ => rfl), (.raw_of fun j hj => match j, hj with | 0, _ => rfl | 1, _ => rfl), trivial⟩ (by simp) rfl ?_
  conv => whnf
  refine callF e5 ⟨.refl _, (.raw_of fun j hj => match j, hj with | 0, _ => rfl), trivial⟩ (by simp) rfl ?_
  conv => whnf
  refine ⟨(by (try simp only [true_and, and_true, Nat.sub_zero, Nat.zero_add, Int.toNat_natCast]) <;> omega), ?_⟩
  exact .refl _
end Go.Abs
