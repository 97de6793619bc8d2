/- The laws of natural numbers, as contracts: Ring. -/
import Derived.Test.YtmlhfccpnehaeaaAbsL1
set_option autoImplicit false
set_option maxHeartbeats 4000000
set_option linter.unusedVariables false
set_option linter.unusedSimpArgs false
namespace Go.Abs
open Go Go.Proofs

theorem size_add {A B N : Nat} (hA : size A ≤ N) (hB : size B ≤ N) : size (A + B) ≤ N + 1 := by
  apply size_le
  have h1 := Nat.lt_of_lt_of_le (lt_pw_size A) (pw_le hA)
  have h2 := Nat.lt_of_lt_of_le (lt_pw_size B) (pw_le hB)
  rw [pw_succ]; omega
theorem size_mul {A B n m : Nat} (hA : size A ≤ n) (hB : size B ≤ m) : size (A * B) ≤ n + m := by
  apply size_le
  have h1 := Nat.lt_of_lt_of_le (lt_pw_size A) (pw_le hA)
  have h2 := Nat.lt_of_lt_of_le (lt_pw_size B) (pw_le hB)
  rw [pw_add]
  exact Nat.lt_of_le_of_lt (Nat.mul_le_mul_left _ (Nat.le_of_lt h2)) (Nat.mul_lt_mul_of_pos_right h1 (pw_pos m))

theorem Add_nr (A : Nat) (h : Nat → Nat) (m : Nat) (hA : size A < 4398046511104) (hh : Dig h m) (hm : m < 4398046511104) : ACall Try.prog 26 [nat A, raw h m] (nat (A + nval h m)) := by
  have := Add_ok (digit A) h (size A) m (digit_Dig _ _) hh hA hm
  rw [nval_digit_size] at this; exact this
theorem Add_rn (B : Nat) (g : Nat → Nat) (n : Nat) (hg : Dig g n) (hn : n < 4398046511104) (hB : size B < 4398046511104) : ACall Try.prog 26 [raw g n, nat B] (nat (nval g n + B)) := by
  have := Add_ok g (digit B) n (size B) hg (digit_Dig _ _) hn hB
  rw [nval_digit_size] at this; exact this
theorem Add_nn (A B : Nat) (hA : size A < 4398046511104) (hB : size B < 4398046511104) : ACall Try.prog 26 [nat A, nat B] (nat (A + B)) := by
  have := Add_nr A (digit B) (size B) hA (digit_Dig _ _) hB
  rw [nval_digit_size] at this; exact this
theorem Mul_nr (A : Nat) (h : Nat → Nat) (m : Nat) (hh : Dig h m) (hm : size A + m ≤ 4398046511104) : ACall Try.prog 30 [nat A, raw h m] (nat (A * nval h m)) := by
  have := Mul_ok (digit A) h (size A) m (digit_Dig _ _) hh hm
  rw [nval_digit_size] at this; exact this
theorem Mul_rn (B : Nat) (g : Nat → Nat) (n : Nat) (hg : Dig g n) (hn : n + size B ≤ 4398046511104) : ACall Try.prog 30 [raw g n, nat B] (nat (nval g n * B)) := by
  have := Mul_ok g (digit B) n (size B) hg (digit_Dig _ _) hn
  rw [nval_digit_size] at this; exact this

theorem NaturalRing_ok (g h f : Nat → Nat) (n m k : Nat) (hg : Dig g n) (hh : Dig h m) (hf : Dig f k) (hn : n ≤ 1099511627776) (hm : m ≤ 1099511627776) (hk : k ≤ 1099511627776) :
    ACall Try.prog 6 [raw g n, raw h m, raw f k] (.f (.bool true)) := by
  have hA := size_nval hg
  have hB := size_nval hh
  have hC := size_nval hf
  have a1 := Add_ok g h n m hg hh (by omega) (by omega)
  have a2 := Add_ok h g m n hh hg (by omega) (by omega)
  have sab := size_add (N := 1099511627776) (Nat.le_trans hA hn) (Nat.le_trans hB hm)
  have sbc := size_add (N := 1099511627776) (Nat.le_trans hB hm) (Nat.le_trans hC hk)
  have sabc := size_add (N := 1099511627777) sab (Nat.le_trans hC (by omega))
  have mab := size_mul (Nat.le_trans hA hn) (Nat.le_trans hB hm)
  have mbc := size_mul (Nat.le_trans hB hm) (Nat.le_trans hC hk)
  have mac := size_mul (Nat.le_trans hA hn) (Nat.le_trans hC hk)
  have mabc := size_mul mab (Nat.le_trans hC hk)
  have mabc2 := size_mul (Nat.le_trans hA hn) sbc
  have e1 := refEqual_same (nval g n + nval h m) (by omega)
  have m1 := Mul_ok g h n m hg hh (by omega)
  have m2 := Mul_ok h g m n hh hg (by omega)
  have e2 := refEqual_same (nval g n * nval h m) (by omega)
  have a3 := Add_nr (nval g n + nval h m) f k (by omega) hf (by omega)
  have a4 := Add_ok h f m k hh hf (by omega) (by omega)
  have a5 := Add_rn (nval h m + nval f k) g n hg (by omega) (by omega)
  have e3 := refEqual_same (nval g n + nval h m + nval f k) (by omega)
  have m3 := Mul_nr (nval g n * nval h m) f k hf (by omega)
  have m4 := Mul_ok h f m k hh hf (by omega)
  have m5 := Mul_rn (nval h m * nval f k) g n hg (by omega)
  have e4 := refEqual_same (nval g n * nval h m * nval f k) (by omega)
  have m6 := Mul_rn (nval h m + nval f k) g n hg (by omega)
  have m7 := Mul_ok g f n k hg hf (by omega)
  have a6 := Add_nn (nval g n * nval h m) (nval g n * nval f k) (by omega) (by omega)
  have e5 := refEqual_same (nval g n * (nval h m + nval f k)) (by omega)
  rw [Nat.add_comm (nval h m) (nval g n)] at a2
  rw [Nat.mul_comm (nval h m) (nval g n)] at m2
  rw [← Nat.add_assoc] at a5
  rw [← Nat.mul_assoc] at m5
  rw [← Nat.mul_add] at a6
  refine acall_rule env [0, 1, 2, 6] Try.func6 rfl rfl rfl rfl ?_
  conv => whnf
  refine callF awake_ok trivial (by trivial) rfl ?_
  conv => whnf
  refine callF a1 ⟨.refl _, .refl _, trivial⟩ (by trivial) rfl ?_
  conv => whnf
  refine callF a2 ⟨.refl _, .refl _, trivial⟩ (by trivial) rfl ?_
  conv => whnf
  refine callF e1 ⟨.refl _, .refl _, trivial⟩ (by trivial) rfl ?_
  conv => whnf
  refine callF m1 ⟨.refl _, .refl _, trivial⟩ (by trivial) rfl ?_
  conv => whnf
  refine callF m2 ⟨.refl _, .refl _, trivial⟩ (by trivial) rfl ?_
  conv => whnf
  refine callF e2 ⟨.refl _, .refl _, trivial⟩ (by trivial) rfl ?_
  conv => whnf
  refine callF a1 ⟨.refl _, .refl _, trivial⟩ (by trivial) rfl ?_
  conv => whnf
  refine callF a3 ⟨.refl _, .refl _, trivial⟩ (by trivial) rfl ?_
  conv => whnf
  refine callF a4 ⟨.refl _, .refl _, trivial⟩ (by trivial) rfl ?_
  conv => whnf
  refine callF a5 ⟨.refl _, .refl _, trivial⟩ (by trivial) rfl ?_
  conv => whnf
  refine callF e3 ⟨.refl _, .refl _, trivial⟩ (by trivial) rfl ?_
  conv => whnf
  refine callF m1 ⟨.refl _, .refl _, trivial⟩ (by trivial) rfl ?_
  conv => whnf
  refine callF m3 ⟨.refl _, .refl _, trivial⟩ (by trivial) rfl ?_
  conv => whnf
  refine callF m4 ⟨.refl _, .refl _, trivial⟩ (by trivial) rfl ?_
  conv => whnf
  refine callF m5 ⟨.refl _, .refl _, trivial⟩ (by trivial) rfl ?_
  conv => whnf
  refine callF e4 ⟨.refl _, .refl _, trivial⟩ (by trivial) rfl ?_
  conv => whnf
  refine callF a4 ⟨.refl _, .refl _, trivial⟩ (by trivial) rfl ?_
  conv => whnf
  refine callF m6 ⟨.refl _, .refl _, trivial⟩ (by trivial) rfl ?_
  conv => whnf
  refine callF m1 ⟨.refl _, .refl _, trivial⟩ (by trivial) rfl ?_
  conv => whnf
  refine callF m7 ⟨.refl _, .refl _, trivial⟩ (by trivial) rfl ?_
  conv => whnf
  refine callF a6 ⟨.refl _, .refl _, trivial⟩ (by trivial) rfl ?_
  conv => whnf
  refine callF e5 ⟨.refl _, .refl _, trivial⟩ (by trivial) rfl ?_
  conv => whnf
  refine ⟨(by (try simp only [true_and, and_true, Nat.sub_zero, Nat.zero_add, Int.toNat_natCast]) <;> omega), ?_⟩
  exact .refl _
end Go.Abs
