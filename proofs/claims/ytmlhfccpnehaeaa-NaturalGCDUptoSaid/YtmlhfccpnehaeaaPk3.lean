/- Contracts of the functions that the law calls, and the logic in which they are proved: part 3. -/
import Derived.Test.YtmlhfccpnehaeaaPk2
/- Natural numbers: left, right. -/
set_option autoImplicit false
set_option maxHeartbeats 4000000
set_option linter.unusedVariables false
set_option linter.unusedSimpArgs false
namespace Go.Abs
open Go Go.Proofs

theorem left_ok (A s : Nat) (hs : s < 32) (hA : size A ≤ 4398046511104) :
    RCall Try.prog 48 [nat A, .f (.int .u64 s)] [] (.lsl 2000000 1 1 0 (size A + 1) (some (size A + 1))) [(2000000, 1, .fa 1 (size A + 1) (fun j => [.int .u32 (digit (A * 2 ^ s) j : Nat)]))] := by
  refine rcall_rule env [.lsl 2000000 1 1 0 (size A + 1) (some (size A + 1))] [0, 1, 4, 5, 6, 7, 8, 13, 14, 15, 16] Try.func48 rfl rfl rfl rfl ?_
  conv => whnf
  refine sumi64 (size A + 1) (by omega) (by omega) ?_
  conv => whnf
  refine ⟨(by (try simp only [true_and, and_true, Nat.sub_zero, Nat.zero_add, Int.toNat_natCast]) <;> omega), ?_⟩
  conv => whnf
  refine loop_rule2 [0, 1, 5, 13, 14, 15] [12] (fun k : Nat => ([(0, nat A), (1, .f (.int .u64 s)), (5, .lsl 12 1 1 0 (size A + 1) (some (size A + 1))), (13, nat A), (14, .f (.int .i64 (size A : Nat))), (15, .f (.int .i64 k))], [(12, 1, .fa 1 (size A + 1) (fun j => [.int .u32 (digit ((A % pw k) * 2 ^ s) j : Nat)]))])) (fun k => k ≤ size A) (fun k => size A - k) 0 ⟨_, rfl, ⟨rfl, rfl⟩, .fa fun j hj => ?_, trivial⟩ (Nat.zero_le _) ?_
  · rw [pw_zero, Nat.mod_one, Nat.zero_mul, show digit 0 j = 0 by simp [digit]]; exact .one (.refl _)
  intro k hk
  conv => whnf
  refine spl (fun h1 => ?_) (fun h1 => ?_) <;> simp only [decide_eq_true_eq, decide_eq_false_iff_not, Bool.not_eq_true', Bool.not_eq_false', gt_iff_lt, ge_iff_le] at h1
  · have hx := digit_lt A k
    have h32 := two_pow_le (show s ≤ 32 by omega)
    have hv : digit A k * 2 ^ s < 4294967296 * 4294967296 := Nat.lt_of_le_of_lt (Nat.mul_le_mul_left _ h32) ((Nat.mul_lt_mul_right (by decide)).2 hx)
    obtain ⟨ho, hlt⟩ := shl_or (digit A k) s _ (show s ≤ 32 by omega) (left_low A s k)
    have hdi : digit ((A % pw k) * 2 ^ s) k = (A % pw k) * 2 ^ s / pw k := by rw [digit, Nat.mod_eq_of_lt (Nat.lt_of_lt_of_le (left_low A s k) h32)]
    have hd := digit_lt ((A % pw k) * 2 ^ s) k
    rw [← hdi] at ho hlt
    conv => whnf
    refine ⟨(by (try simp only [true_and, and_true, Nat.sub_zero, Nat.zero_add, Int.toNat_natCast]) <;> omega), ?_⟩
    conv => whnf
    refine sumu64 (digit A k) rfl (by omega) ?_
    conv => whnf
    refine ⟨(by (try simp only [true_and, and_true, Nat.sub_zero, Nat.zero_add, Int.toNat_natCast]) <;> omega), ?_⟩
    conv => whnf
    refine shlN (n := s) (digit A k * 2 ^ s) rfl (by omega) (Nat.mod_eq_of_lt (by omega)) ?_
    conv => whnf
    refine ⟨(by (try simp only [true_and, and_true, Nat.sub_zero, Nat.zero_add, Int.toNat_natCast]) <;> omega), ?_⟩
    conv => whnf
    refine ⟨(by (try simp only [true_and, and_true, Nat.sub_zero, Nat.zero_add, Int.toNat_natCast]) <;> omega), ?_⟩
    conv => whnf
    refine lowu32 ?_
    conv => whnf
    refine orN (digit ((A % pw k) * 2 ^ s) k + digit A k * 2 ^ s % 4294967296) rfl (show _ < 4294967296 by simpa using hd) (show _ < 4294967296 by omega) (by simpa using ho) ?_
    conv => whnf
    refine ⟨(by (try simp only [true_and, and_true, Nat.sub_zero, Nat.zero_add, Int.toNat_natCast]) <;> omega), ?_⟩
    conv => whnf
    refine ⟨(by (try simp only [true_and, and_true, Nat.sub_zero, Nat.zero_add, Int.toNat_natCast]) <;> omega), ?_⟩
    conv => whnf
    refine sumi64 (k + 1) (by omega) (by omega) ?_
    conv => whnf
    refine ⟨(by (try simp only [true_and, and_true, Nat.sub_zero, Nat.zero_add, Int.toNat_natCast]) <;> omega), ?_⟩
    conv => whnf
    refine shr32 (by decide) ?_
    conv => whnf
    refine lowu32 ?_
    conv => whnf
    refine ⟨(by (try simp only [true_and, and_true, Nat.sub_zero, Nat.zero_add, Int.toNat_natCast]) <;> omega), ?_⟩
    conv => whnf
    refine ⟨(by (try simp only [true_and, and_true, Nat.sub_zero, Nat.zero_add, Int.toNat_natCast]) <;> omega), ?_⟩
    conv => whnf
    refine sumi64 (k + 1) (by omega) (by omega) ?_
    conv => whnf
    refine ⟨k + 1, _, rfl, ⟨⟨rfl, rfl⟩, .fa fun j hj => ?_, trivial⟩, by omega, by omega⟩
    rw [upd_set (fun j => digit ((A % pw k) * 2 ^ s) j) _ _ _ rfl, upd_set (fun j => if j = (0 + Int.toNat k) then _ else _) _ _ _ rfl]
    refine .one (.int_of ?_)
    rw [left_digits A s k j hs]
    simp only [Nat.zero_add, Int.toNat_natCast]
    rw [Nat.mod_eq_of_lt (show digit A k * 2 ^ s / 4294967296 < 4294967296 by omega)]
    by_cases e1 : j = k
    · rw [if_neg (by omega), if_pos e1, if_pos e1]
    · rw [if_neg e1, if_neg e1]
  · conv => whnf
    have hk : k = size A := by omega
    subst hk
    refine ⟨[12], ?_⟩
    conv => whnf
    refine ⟨⟨⟨rfl, rfl, .inr rfl⟩, trivial⟩, ⟨⟨(by (try simp only [true_and, and_true, Nat.sub_zero, Nat.zero_add, Int.toNat_natCast]) <;> omega), fun j hj => ?_⟩, trivial⟩, rfl⟩
    rw [mod_size (Nat.le_refl _)]
    refine .one (.int_of ?_)
    rw [Nat.zero_add]


theorem right_ok (A s : Nat) (hs : s < 32) (hA : size A ≤ 4398046511104) :
    ACall Try.prog 49 [nat A, .f (.int .u64 s)] (nat (A / 2 ^ s)) := by
  have hle : size (A / 2 ^ s) ≤ size A := size_mono (Nat.div_le_self _ _)
  have hv := view_ok (digit (A / 2 ^ s)) (size A) (digit_Dig _ _) hA
  rw [nval_digit, mod_size hle] at hv
  refine acall_rule env [0, 1, 4, 5, 6, 7, 8, 12, 13, 14, 15, 25] Try.func49 rfl rfl rfl rfl ?_
  conv => whnf
  refine ⟨(by (try simp only [true_and, and_true, Nat.sub_zero, Nat.zero_add, Int.toNat_natCast]) <;> omega), ?_⟩
  conv => whnf
  refine loop_rule2 [0, 1, 5, 12, 13, 14] [11] (fun k : Nat => ([(0, nat A), (1, .f (.int .u64 s)), (5, .lsl 11 1 1 0 (size A) (some (size A))), (12, nat A), (13, .f (.int .i64 (size A : Nat))), (14, .f (.int .i64 k))], [(11, 1, .fa 1 (size A) (fun j => [.int .u32 ((if j < k then digit (A / 2 ^ s) j else 0 : Nat) : Int)]))])) (fun k => k ≤ size A) (fun k => size A - k) 0 ⟨_, rfl, ⟨rfl, rfl⟩, .fa fun j hj => ?_, trivial⟩ (Nat.zero_le _) ?_
  · rw [if_neg (by omega)]; exact .one (.refl _)
  intro k hk
  conv => whnf
  refine spl (fun h1 => ?_) (fun h1 => ?_) <;> simp only [decide_eq_true_eq, decide_eq_false_iff_not, Bool.not_eq_true', Bool.not_eq_false', gt_iff_lt, ge_iff_le] at h1
  · have hx := digit_lt A k
    have hy := digit_lt A (k + 1)
    have hr := right_digit A s k hs
    conv => whnf
    refine ⟨(by (try simp only [true_and, and_true, Nat.sub_zero, Nat.zero_add, Int.toNat_natCast]) <;> omega), ?_⟩
    conv => whnf
    refine sumu64 (digit A k) rfl (by omega) ?_
    conv => whnf
    refine sumi64 (k + 1) (by omega) (by omega) ?_
    conv => whnf
    refine spl (fun h2 => ?_) (fun h2 => ?_) <;> simp only [decide_eq_true_eq, decide_eq_false_iff_not, Bool.not_eq_true', Bool.not_eq_false', gt_iff_lt, ge_iff_le] at h2
    · conv => whnf
      refine sumi64 (k + 1) (by omega) (by omega) ?_
      conv => whnf
      refine ⟨(by (try simp only [true_and, and_true, Nat.sub_zero, Nat.zero_add, Int.toNat_natCast]) <;> omega), ?_⟩
      conv => whnf
      refine sumu64 (digit A (k + 1)) rfl (by omega) ?_
      conv => whnf
      refine ⟨(by (try simp only [true_and, and_true, Nat.sub_zero, Nat.zero_add, Int.toNat_natCast]) <;> omega), ?_⟩
      conv => whnf
      refine shl32 (digit A (k + 1) * 4294967296) (by omega) ?_
      conv => whnf
      refine orN (digit A k + digit A (k + 1) * 4294967296) rfl (show _ < 18446744073709551616 by omega) (show _ < 18446744073709551616 by omega) (by rw [Nat.or_comm, or_add (n := 32) hx, Nat.add_comm]) ?_
      conv => whnf
      refine ⟨(by (try simp only [true_and, and_true, Nat.sub_zero, Nat.zero_add, Int.toNat_natCast]) <;> omega), ?_⟩
      conv => whnf
      refine shrN (n := s) rfl (by show s ≤ 64; omega) ?_
      conv => whnf
      refine lowu32 ?_
      conv => whnf
      rw [← hr]
      refine ⟨(by (try simp only [true_and, and_true, Nat.sub_zero, Nat.zero_add, Int.toNat_natCast]) <;> omega), ?_⟩
      conv => whnf
      refine ⟨(by (try simp only [true_and, and_true, Nat.sub_zero, Nat.zero_add, Int.toNat_natCast]) <;> omega), ?_⟩
      conv => whnf
      refine sumi64 (k + 1) (by omega) (by omega) ?_
      conv => whnf
      refine ⟨k + 1, _, rfl, ⟨⟨rfl, rfl⟩, .fa fun j hj => ?_, trivial⟩, by omega, by omega⟩
      rw [upd_set (fun j => if j < k then digit (A / 2 ^ s) j else 0) _ _ _ rfl]
      refine .one (.int_of ?_)
      simp only [Nat.zero_add, Int.toNat_natCast]
      by_cases e1 : j = k
      · subst e1; rw [if_pos rfl, if_pos (by omega)]
      · rw [if_neg e1]
        by_cases e2 : j < k
        · rw [if_pos e2, if_pos (by omega)]
        · rw [if_neg e2, if_neg (by omega)]
    · conv => whnf
      have hz : digit A (k + 1) = 0 := digit_zero_of_size (by omega)
      rw [hz, Nat.zero_mul, Nat.add_zero] at hr
      refine ⟨(by (try simp only [true_and, and_true, Nat.sub_zero, Nat.zero_add, Int.toNat_natCast]) <;> omega), ?_⟩
      conv => whnf
      refine shrN (n := s) rfl (by show s ≤ 64; omega) ?_
      conv => whnf
      refine lowu32 ?_
      conv => whnf
      rw [← hr]
      refine ⟨(by (try simp only [true_and, and_true, Nat.sub_zero, Nat.zero_add, Int.toNat_natCast]) <;> omega), ?_⟩
      conv => whnf
      refine ⟨(by (try simp only [true_and, and_true, Nat.sub_zero, Nat.zero_add, Int.toNat_natCast]) <;> omega), ?_⟩
      conv => whnf
      refine sumi64 (k + 1) (by omega) (by omega) ?_
      conv => whnf
      refine ⟨k + 1, _, rfl, ⟨⟨rfl, rfl⟩, .fa fun j hj => ?_, trivial⟩, by omega, by omega⟩
      rw [upd_set (fun j => if j < k then digit (A / 2 ^ s) j else 0) _ _ _ rfl]
      refine .one (.int_of ?_)
      simp only [Nat.zero_add, Int.toNat_natCast]
      by_cases e1 : j = k
      · subst e1; rw [if_pos rfl, if_pos (by omega)]
      · rw [if_neg e1]
        by_cases e2 : j < k
        · rw [if_pos e2, if_pos (by omega)]
        · rw [if_neg e2, if_neg (by omega)]
  · conv => whnf
    have hk : k = size A := by omega
    subst hk
    refine callF hv ⟨.f (.limbs fun j hj => ?_), trivial⟩ (by (try simp only [true_and, and_true, Nat.sub_zero, Nat.zero_add, Int.toNat_natCast]) <;> omega) rfl ?_
    conv => whnf
    rotate_left
    · refine ⟨(by (try simp only [true_and, and_true, Nat.sub_zero, Nat.zero_add, Int.toNat_natCast]) <;> omega), ?_⟩
      exact .refl _
    · simp [hj]
end Go.Abs

/- Natural numbers: estimate, subtract, restore. -/
set_option autoImplicit false
set_option maxHeartbeats 4000000
set_option linter.unusedVariables false
set_option linter.unusedSimpArgs false
namespace Go.Abs
open Go Go.Proofs

theorem digit_cast {W k : Nat} {i : Int} (h : i = (k : Int)) : ((digit W i.toNat : Nat) : Int) = ((digit W k : Nat) : Int) := by subst h; rfl
theorem or32v {a b c v : Nat} {K : Int → Prop} (hc : a * 4294967296 = c) (ha : a < 4294967296) (hb : b < 4294967296) (hv : c + b = v) (hk : K (v : Int)) : LetI (intBitsA .or .u64 (c : Int) (b : Int)) K := by
  subst hc; subst hv; exact or32 ha hb hk
theorem fin_succ (t s2 u0 g rest : Nat) : fin t s2 u0 (g + 1) rest = if 4294967296 ≤ g + 1 ∨ rest * 4294967296 + u0 < (g + 1) * s2 then (if 4294967296 ≤ rest + t then g else fin t s2 u0 g (rest + t)) else g + 1 := rfl
theorem fin_stop {t s2 u0 g rest : Nat} (h : ¬ (4294967296 ≤ g)) (h2 : ¬ (rest * 4294967296 + u0 < g * s2)) : fin t s2 u0 g rest = g := by
  cases g with
  | zero => rfl
  | succ g => rw [fin_succ, if_neg (fun hc => hc.elim h h2)]
theorem fin_go {t s2 u0 g rest : Nat} (hg : 0 < g) (h : 4294967296 ≤ g ∨ rest * 4294967296 + u0 < g * s2) : fin t s2 u0 g rest = if 4294967296 ≤ rest + t then g - 1 else fin t s2 u0 (g - 1) (rest + t) := by
  cases g with
  | zero => omega
  | succ g => rw [fin_succ, if_pos h]; rfl


theorem estimate_ok (V W n : Nat) (hn : n < 4398046511104) (ht : 2147483648 ≤ digit V (n + 1)) (hle : digit W (n + 2) ≤ digit V (n + 1)) :
    ACall Try.prog 52 [raw (digit W) (n + 3), raw (digit V) (n + 2)] (.f (.int .u64 (guess V W n : Nat))) := by
  have ht2 := digit_lt V (n + 1); have hs2 := digit_lt V n; have hu0 := digit_lt W n; have hu1 := digit_lt W (n + 1); have hu2 := digit_lt W (n + 2)
  have e1 : (n + 2 : Nat) - 1 = n + 1 := by omega
  have hnum : (digit W (n + 2) * 4294967296 + digit W (n + 1)) / digit V (n + 1) < 4294967298 := by
    rw [Nat.div_lt_iff_lt_mul (by omega)]; omega
  have hmod : (digit W (n + 2) * 4294967296 + digit W (n + 1)) % digit V (n + 1) < digit V (n + 1) := Nat.mod_lt _ (by omega)
  refine acall_rule env [0, 1, 4, 5, 6, 7, 8, 9, 10, 61, 69] Try.func52 rfl rfl rfl rfl ?_
  conv => whnf
  refine sumi64 (n + 1) (by omega) (by omega) ?_
  conv => whnf
  refine ⟨(by (try simp only [true_and, and_true, Nat.sub_zero, Nat.zero_add, Int.toNat_natCast]) <;> omega), ?_⟩
  conv => whnf
  refine sumu64 (digit V (n + 1)) (digit_cast (by omega)) (by omega) ?_
  conv => whnf
  refine sumi64 n (by omega) (by omega) ?_
  conv => whnf
  refine ⟨(by (try simp only [true_and, and_true, Nat.sub_zero, Nat.zero_add, Int.toNat_natCast]) <;> omega), ?_⟩
  conv => whnf
  refine sumu64 (digit V n) (digit_cast (by omega)) (by omega) ?_
  conv => whnf
  refine ⟨by kernel_rfl, ?_⟩
  conv => whnf
  refine ⟨(by (try simp only [true_and, and_true, Nat.sub_zero, Nat.zero_add, Int.toNat_natCast]) <;> omega), ?_⟩
  conv => whnf
  refine sumu64 (digit W (n + 2)) (digit_cast (by omega)) (by omega) ?_
  conv => whnf
  refine ⟨(by (try simp only [true_and, and_true, Nat.sub_zero, Nat.zero_add, Int.toNat_natCast]) <;> omega), ?_⟩
  conv => whnf
  refine shl32 (digit W (n + 2) * 4294967296) (by omega) ?_
  conv => whnf
  refine sumi64 (n + 1) (by omega) (by omega) ?_
  conv => whnf
  refine ⟨(by (try simp only [true_and, and_true, Nat.sub_zero, Nat.zero_add, Int.toNat_natCast]) <;> omega), ?_⟩
  conv => whnf
  refine sumu64 (digit W (n + 1)) (digit_cast (by omega)) (by omega) ?_
  conv => whnf
  refine or32 (by omega) (by omega) ?_
  conv => whnf
  refine ⟨by kernel_rfl, ?_⟩
  conv => whnf
  refine ⟨(by (try simp only [true_and, and_true, Nat.sub_zero, Nat.zero_add, Int.toNat_natCast]) <;> omega), ?_⟩
  conv => whnf
  refine quou64 (by omega) ?_
  conv => whnf
  refine ⟨(by (try simp only [true_and, and_true, Nat.sub_zero, Nat.zero_add, Int.toNat_natCast]) <;> omega), ?_⟩
  conv => whnf
  refine remN ?_
  conv => whnf
  refine ⟨by kernel_rfl, ?_⟩
  conv => whnf
  generalize hG : guess V W n = G
  unfold guess at hG
  simp only at hG
  refine loop_rule2 [0, 1, 5, 6, 7, 9, 10] [] (fun s : Nat × Nat => ([(0, raw (digit W) (n + 3)), (1, raw (digit V) (n + 2)), (5, .f (.int .i64 ((n + 2 : Nat) : Int))), (6, .f (.int .u64 (digit V (n + 1) : Nat))), (7, .f (.int .u64 (digit V n : Nat))), (9, .f (.int .u64 (s.1 : Nat))), (10, .f (.int .u64 (s.2 : Nat)))], [])) (fun s => fin (digit V (n + 1)) (digit V n) (digit W n) s.1 s.2 = G ∧ s.1 < 4294967298 ∧ s.2 < 4294967296) (fun s => s.1) (_, _) ⟨_, rfl, .refl _⟩ ⟨hG, hnum, by omega⟩ ?_
  rintro ⟨g, rest⟩ ⟨hI, hg, hr⟩
  simp only at hI hg hr ⊢
  conv => whnf
  refine ⟨(by (try simp only [true_and, and_true, Nat.sub_zero, Nat.zero_add, Int.toNat_natCast]) <;> omega), ?_⟩
  conv => whnf
  refine shr32 (by decide) ?_
  conv => whnf
  refine spl (fun h1 => ?_) (fun h1 => ?_) <;> simp only [decide_eq_true_eq, decide_eq_false_iff_not, Bool.not_eq_true', Bool.not_eq_false', gt_iff_lt, ge_iff_le] at h1
  · have hg1 : 0 < g := by omega
    have hf := fin_go (t := digit V (n + 1)) (s2 := digit V n) (u0 := digit W n) (rest := rest) hg1 (.inl (by omega))
    rw [hI] at hf
    conv => whnf
    refine sumu64 (g - 1) (by omega) (by omega) ?_
    conv => whnf
    obtain ⟨r2, hr2⟩ : ∃ r2, rest + digit V (n + 1) = r2 := ⟨_, rfl⟩
    rw [hr2] at hf
    refine sumu64 r2 (by omega) (by omega) ?_
    conv => whnf
    refine ⟨(by (try simp only [true_and, and_true, Nat.sub_zero, Nat.zero_add, Int.toNat_natCast]) <;> omega), ?_⟩
    conv => whnf
    refine shr32 (by decide) ?_
    conv => whnf
    refine spl (fun h4 => ?_) (fun h4 => ?_) <;> simp only [decide_eq_true_eq, decide_eq_false_iff_not, Bool.not_eq_true', Bool.not_eq_false', gt_iff_lt, ge_iff_le] at h4
    · rw [if_pos (by omega)] at hf
      conv => whnf
      refine ⟨(by (try simp only [true_and, and_true, Nat.sub_zero, Nat.zero_add, Int.toNat_natCast]) <;> omega), ?_⟩
      exact .int_of (by rw [hf])
    · rw [if_neg (by omega)] at hf
      conv => whnf
      exact ⟨(g - 1, r2), _, rfl, .refl _, ⟨hf.symm, by simp only; omega, by simp only; omega⟩, by simp only; omega⟩
  · have hg2 : g < 4294967296 := by omega
    have hm : g * digit V n ≤ 4294967295 * 4294967295 := Nat.mul_le_mul (by omega) (by omega)
    obtain ⟨gm, hgm⟩ : ∃ gm, g * digit V n = gm := ⟨_, rfl⟩
    obtain ⟨r4, hr4⟩ : ∃ r4, rest * 4294967296 = r4 := ⟨_, rfl⟩
    obtain ⟨r5, hr5⟩ : ∃ r5, r4 + digit W n = r5 := ⟨_, rfl⟩
    have hstop := fin_stop (t := digit V (n + 1)) (s2 := digit V n) (u0 := digit W n) (g := g) (rest := rest)
    have hgo := fin_go (t := digit V (n + 1)) (s2 := digit V n) (u0 := digit W n) (g := g) (rest := rest)
    rw [hr4, hr5, hgm, hI] at hstop hgo
    rw [hgm] at hm
    conv => whnf
    refine sumu64 gm (by rw [← hgm]; simp) (by omega) ?_
    conv => whnf
    refine ⟨(by (try simp only [true_and, and_true, Nat.sub_zero, Nat.zero_add, Int.toNat_natCast]) <;> omega), ?_⟩
    conv => whnf
    refine shl32 r4 (by omega) ?_
    conv => whnf
    refine sumi64 n (by omega) (by omega) ?_
    conv => whnf
    refine ⟨(by (try simp only [true_and, and_true, Nat.sub_zero, Nat.zero_add, Int.toNat_natCast]) <;> omega), ?_⟩
    conv => whnf
    refine sumu64 (digit W n) (digit_cast (by omega)) (by omega) ?_
    conv => whnf
    refine or32v hr4 (by omega) (by omega) hr5 ?_
    conv => whnf
    refine spl (fun h2 => ?_) (fun h2 => ?_) <;> simp only [decide_eq_true_eq, decide_eq_false_iff_not, Bool.not_eq_true', Bool.not_eq_false', gt_iff_lt, ge_iff_le] at h2
    · have h3 := Int.ofNat_lt.1 h2
      have hg1 : 0 < g := by
        rcases Nat.eq_zero_or_pos g with h | h
        · subst h; rw [Nat.zero_mul] at hgm; omega
        · exact h
      have hf := hgo hg1 (.inr h3)
      clear hgo hstop
      conv => whnf
      refine sumu64 (g - 1) (by omega) (by omega) ?_
      conv => whnf
      obtain ⟨r2, hr2⟩ : ∃ r2, rest + digit V (n + 1) = r2 := ⟨_, rfl⟩
      rw [hr2] at hf
      refine sumu64 r2 (by omega) (by omega) ?_
      conv => whnf
      refine ⟨(by (try simp only [true_and, and_true, Nat.sub_zero, Nat.zero_add, Int.toNat_natCast]) <;> omega), ?_⟩
      conv => whnf
      refine shr32 (by decide) ?_
      conv => whnf
      refine spl (fun h4 => ?_) (fun h4 => ?_) <;> simp only [decide_eq_true_eq, decide_eq_false_iff_not, Bool.not_eq_true', Bool.not_eq_false', gt_iff_lt, ge_iff_le] at h4
      · rw [if_pos (by omega)] at hf
        conv => whnf
        refine ⟨(by (try simp only [true_and, and_true, Nat.sub_zero, Nat.zero_add, Int.toNat_natCast]) <;> omega), ?_⟩
        exact .int_of (by rw [hf])
      · rw [if_neg (by omega)] at hf
        conv => whnf
        exact ⟨(g - 1, r2), _, rfl, .refl _, ⟨hf.symm, by simp only; omega, by simp only; omega⟩, by simp only; omega⟩
    · have h3 := hstop (by omega) (fun h => h2 (Int.ofNat_lt.2 h))
      conv => whnf
      refine ⟨(by (try simp only [true_and, and_true, Nat.sub_zero, Nat.zero_add, Int.toNat_natCast]) <;> omega), ?_⟩
      exact .int_of (by rw [h3])
end Go.Abs

/- Natural numbers: subtract, restore. -/
set_option autoImplicit false
set_option maxHeartbeats 4000000
set_option linter.unusedVariables false
set_option linter.unusedSimpArgs false
namespace Go.Abs
open Go Go.Proofs
theorem FVle.bool_of {a b : Bool} (h : a = b) : FVle (.bool a) (.bool b) := h ▸ .refl _

theorem subtract_ok (f : Nat → Nat) (L i V W g n : Nat) (hi : i + n + 1 ≤ L) (hL : L ≤ 4398046511104) (hf : ∀ k, k ≤ n → f (i + k) = digit W k) (hg : g ≤ 4294967296) (hV : V < pw n) (hW : W < pw (n + 1)) :
    RCall Try.prog 53 [.lsl 1000000 1 1 i (n + 1) none, raw (digit V) n, .f (.int .u64 g)] [(1000000, 1, .fa 1 L (fun j => [.int .u32 (f j : Nat)]))]
      (.f (.bool (decide (W < g * V)))) [(1000000, 1, .fa 1 L (fun j => [.int .u32 (wput f i (n + 1) (subW V W g n) j : Nat)]))] := by
  refine rcall_rule env [.f (.bool (decide (W < g * V)))] [0, 1, 2, 6, 7, 8, 9, 10, 11, 12, 13, 14, 15, 16, 17, 18] Try.func53 rfl rfl rfl rfl ?_
  conv => whnf
  refine loop_rule2 [0, 1, 2, 7, 8, 15, 16, 17] [1000000] (fun s : Nat × Nat × Nat × Nat => ([(0, .lsl 1000000 1 1 i (n + 1) none), (1, raw (digit V) n), (2, .f (.int .u64 g)), (7, .f (.int .u64 (s.2.1 : Nat))), (8, .f (.int .u64 (s.2.2.1 : Nat))), (15, raw (digit V) n), (16, .f (.int .i64 (n : Nat))), (17, .f (.int .i64 (s.1 : Nat)))], [(1000000, 1, .fa 1 L (fun j => [.int .u32 (wput f i s.1 s.2.2.2 j : Nat)]))]))
    (fun s => s.1 ≤ n ∧ s.2.1 < 4294967296 ∧ s.2.2.1 < 2 ∧ s.2.2.2 < pw s.1 ∧ s.2.2.2 + g * (V % pw s.1) = W % pw s.1 + (s.2.1 + s.2.2.1) * pw s.1) (fun s => n - s.1) (0, 0, 0, 0) ⟨_, rfl, ⟨rfl, rfl⟩, .fa fun j hj => ?_, trivial⟩ ⟨Nat.zero_le _, by simp, by simp, by simp [pw_zero], by simp [pw_zero, Nat.mod_one]⟩ ?_
  · rw [wput_zero]; exact .one (.refl _)
  rintro ⟨k, cc, b, z⟩ ⟨h1, h2, h3, h4, h5⟩
  simp only at h1 h2 h3 h4 h5 ⊢
  conv => whnf
  refine spl (fun h6 => ?_) (fun h6 => ?_) <;> simp only [decide_eq_true_eq, decide_eq_false_iff_not, Bool.not_eq_true', Bool.not_eq_false', gt_iff_lt, ge_iff_le] at h6
  · have hv := digit_lt V k
    have hx := digit_lt W k
    have hm : g * digit V k ≤ 4294967296 * 4294967295 := Nat.mul_le_mul hg (by omega)
    have hfk : wput f i k z (i + k) = digit W k := by rw [wput_get (Nat.le_refl _), hf k h1]
    obtain ⟨p, hp⟩ : ∃ p, g * digit V k + cc = p := ⟨_, rfl⟩
    obtain ⟨pl, hpl⟩ : ∃ pl, p % 4294967296 = pl := ⟨_, rfl⟩
    obtain ⟨d, hd⟩ : ∃ d, (digit W k + 18446744073709551616 - pl - b) % 18446744073709551616 = d := ⟨_, rfl⟩
    obtain ⟨pr, hpr⟩ : ∃ pr, g * digit V k = pr := ⟨_, rfl⟩
    have hst := subw_step2 (W := W) (V := V) (g := g) (k := k) (c := cc) (b := b) h4 h5 hp hpl hd h3 h2
    rw [hpr] at hm hp
    conv => whnf
    refine ⟨(by (try simp only [true_and, and_true, Nat.sub_zero, Nat.zero_add, Int.toNat_natCast]) <;> omega), ?_⟩
    conv => whnf
    refine sumu64 (digit V k) (by simp) (by omega) ?_
    conv => whnf
    refine sumu64 pr (by rw [← hpr]; simp) (by omega) ?_
    conv => whnf
    refine sumu64 p (by omega) (by omega) ?_
    conv => whnf
    refine ⟨(by (try simp only [true_and, and_true, Nat.sub_zero, Nat.zero_add, Int.toNat_natCast]) <;> omega), ?_⟩
    conv => whnf
    refine shr32 (by decide) ?_
    conv => whnf
    refine ⟨(by (try simp only [true_and, and_true, Nat.sub_zero, Nat.zero_add, Int.toNat_natCast]) <;> omega), ?_⟩
    conv => whnf
    refine ⟨(by (try simp only [true_and, and_true, Nat.sub_zero, Nat.zero_add, Int.toNat_natCast]) <;> omega), ?_⟩
    conv => whnf
    rw [show (i + Int.toNat (k : Nat)) = i + k by omega, hfk]
    refine sumu64 (digit W k) rfl (by omega) ?_
    conv => whnf
    refine lowu32 ?_
    conv => whnf
    rw [hpl]
    refine sumu64 pl rfl (by omega) ?_
    conv => whnf
    obtain ⟨d1, hd1⟩ : ∃ d1, (digit W k + 18446744073709551616 - pl) % 18446744073709551616 = d1 := ⟨_, rfl⟩
    refine modu64 d1 (by omega) ?_
    conv => whnf
    refine modu64 d (by omega) ?_
    conv => whnf
    refine lowu32 ?_
    conv => whnf
    refine ⟨(by (try simp only [true_and, and_true, Nat.sub_zero, Nat.zero_add, Int.toNat_natCast]) <;> omega), ?_⟩
    conv => whnf
    refine ⟨(by (try simp only [true_and, and_true, Nat.sub_zero, Nat.zero_add, Int.toNat_natCast]) <;> omega), ?_⟩
    conv => whnf
    refine ⟨(by (try simp only [true_and, and_true, Nat.sub_zero, Nat.zero_add, Int.toNat_natCast]) <;> omega), ?_⟩
    conv => whnf
    refine shr63 ?_
    conv => whnf
    refine sumi64 (k + 1) (by omega) (by omega) ?_
    conv => whnf
    refine ⟨(k + 1, p / 4294967296, d / 9223372036854775808, z + d % 4294967296 * pw k), _, rfl, ⟨⟨rfl, rfl⟩, .fa fun j hj => ?_, trivial⟩, ⟨by simp only; omega, by simp only; omega, hst.2.2, hst.1, hst.2.1⟩, by simp only; omega⟩
    rw [upd_set (fun j => wput f i k z j) _ _ _ rfl]
    refine .one (.int_of ?_)
    simp only [wput_step h4 (Nat.mod_lt d (show 0 < 4294967296 by decide)), Int.toNat_natCast]
  · have hk : k = n := by omega
    subst hk
    have hx := digit_lt W k
    have hfk : wput f i k z (i + k) = digit W k := by rw [wput_get (Nat.le_refl _), hf k h1]
    obtain ⟨d, hd⟩ : ∃ d, (digit W k + 18446744073709551616 - cc - b) % 18446744073709551616 = d := ⟨_, rfl⟩
    obtain ⟨d1, hd1⟩ : ∃ d1, (digit W k + 18446744073709551616 - cc) % 18446744073709551616 = d1 := ⟨_, rfl⟩
    have hend := subw_end hV hW h4 h5 h3 h2 hd.symm
    conv => whnf
    refine ⟨(by (try simp only [true_and, and_true, Nat.sub_zero, Nat.zero_add, Int.toNat_natCast]) <;> omega), ?_⟩
    conv => whnf
    refine ⟨(by (try simp only [true_and, and_true, Nat.sub_zero, Nat.zero_add, Int.toNat_natCast]) <;> omega), ?_⟩
    conv => whnf
    rw [show (i + Int.toNat (k : Nat)) = i + k by omega, hfk]
    refine sumu64 (digit W k) rfl (by omega) ?_
    conv => whnf
    refine modu64 d1 (by omega) ?_
    conv => whnf
    refine modu64 d (by omega) ?_
    conv => whnf
    refine lowu32 ?_
    conv => whnf
    refine ⟨(by (try simp only [true_and, and_true, Nat.sub_zero, Nat.zero_add, Int.toNat_natCast]) <;> omega), ?_⟩
    conv => whnf
    refine ⟨(by (try simp only [true_and, and_true, Nat.sub_zero, Nat.zero_add, Int.toNat_natCast]) <;> omega), ?_⟩
    conv => whnf
    refine ⟨(by (try simp only [true_and, and_true, Nat.sub_zero, Nat.zero_add, Int.toNat_natCast]) <;> omega), ?_⟩
    conv => whnf
    refine shr63 ?_
    conv => whnf
    refine ⟨[1000000], ?_⟩
    conv => whnf
    refine ⟨⟨?_, trivial⟩, ⟨⟨(by (try simp only [true_and, and_true, Nat.sub_zero, Nat.zero_add, Int.toNat_natCast]) <;> omega), fun j hj => ?_⟩, trivial⟩, rfl⟩
    · refine .bool_of ?_
      by_cases hq : 9223372036854775808 ≤ d
      · rw [decide_eq_true (hend.1.1 hq), decide_eq_false (show ¬ ((d / 9223372036854775808 : Nat) : Int) = 0 by omega)]; rfl
      · rw [decide_eq_false (fun h => hq (hend.1.2 h)), decide_eq_true (show ((d / 9223372036854775808 : Nat) : Int) = 0 by omega)]; rfl
    · simp only [Nat.zero_add]
      rw [upd_set (fun j => wput f i k z j) _ _ _ rfl]
      refine .one (.int_of ?_)
      simp only [← hend.2, wput_step h4 (Nat.mod_lt d (show 0 < 4294967296 by decide)), Int.toNat_natCast]

theorem restore_ok (f : Nat → Nat) (L i V Z n : Nat) (hi : i + n + 1 ≤ L) (hL : L ≤ 4398046511104) (hf : ∀ k, k ≤ n → f (i + k) = digit Z k) (hV : V < pw n) (hZ : Z < pw (n + 1)) :
    RCall Try.prog 54 [.lsl 1000000 1 1 i (n + 1) none, raw (digit V) n] [(1000000, 1, .fa 1 L (fun j => [.int .u32 (f j : Nat)]))]
      (.tup []) [(1000000, 1, .fa 1 L (fun j => [.int .u32 (wput f i (n + 1) ((Z + V) % pw (n + 1)) j : Nat)]))] := by
  refine rcall_rule env [] [0, 1, 4, 5, 6, 7, 8, 9, 10, 11] Try.func54 rfl rfl rfl rfl ?_
  conv => whnf
  refine loop_rule2 [0, 1, 4, 8, 9, 10] [1000000] (fun s : Nat × Nat × Nat => ([(0, .lsl 1000000 1 1 i (n + 1) none), (1, raw (digit V) n), (4, .f (.int .u64 (s.2.1 : Nat))), (8, raw (digit V) n), (9, .f (.int .i64 (n : Nat))), (10, .f (.int .i64 (s.1 : Nat)))], [(1000000, 1, .fa 1 L (fun j => [.int .u32 (wput f i s.1 s.2.2 j : Nat)]))]))
    (fun s => s.1 ≤ n ∧ s.2.1 < 2 ∧ s.2.2 < pw s.1 ∧ s.2.2 + s.2.1 * pw s.1 = Z % pw s.1 + V % pw s.1) (fun s => n - s.1) (0, 0, 0) ⟨_, rfl, ⟨rfl, rfl⟩, .fa fun j hj => ?_, trivial⟩ ⟨Nat.zero_le _, by simp, by simp [pw_zero], by simp [pw_zero, Nat.mod_one]⟩ ?_
  · rw [wput_zero]; exact .one (.refl _)
  rintro ⟨k, cc, z⟩ ⟨h1, h2, h4, h5⟩
  simp only at h1 h2 h4 h5 ⊢
  conv => whnf
  refine spl (fun h6 => ?_) (fun h6 => ?_) <;> simp only [decide_eq_true_eq, decide_eq_false_iff_not, Bool.not_eq_true', Bool.not_eq_false', gt_iff_lt, ge_iff_le] at h6
  · have hv := digit_lt V k
    have hx := digit_lt Z k
    have hfk : wput f i k z (i + k) = digit Z k := by rw [wput_get (Nat.le_refl _), hf k h1]
    obtain ⟨s, hs⟩ : ∃ s, digit Z k + digit V k + cc = s := ⟨_, rfl⟩
    have hst := addr_step2 (Z := Z) (V := V) h4 h5 hs
    conv => whnf
    refine ⟨(by (try simp only [true_and, and_true, Nat.sub_zero, Nat.zero_add, Int.toNat_natCast]) <;> omega), ?_⟩
    conv => whnf
    refine ⟨(by (try simp only [true_and, and_true, Nat.sub_zero, Nat.zero_add, Int.toNat_natCast]) <;> omega), ?_⟩
    conv => whnf
    refine ⟨(by (try simp only [true_and, and_true, Nat.sub_zero, Nat.zero_add, Int.toNat_natCast]) <;> omega), ?_⟩
    conv => whnf
    rw [show (i + Int.toNat (k : Nat)) = i + k by omega, hfk]
    refine sumu64 (digit Z k) rfl (by omega) ?_
    conv => whnf
    refine sumu64 (digit V k) (by simp) (by omega) ?_
    conv => whnf
    refine sumu64 (digit Z k + digit V k) (by omega) (by omega) ?_
    conv => whnf
    refine sumu64 s (by omega) (by omega) ?_
    conv => whnf
    refine lowu32 ?_
    conv => whnf
    refine ⟨(by (try simp only [true_and, and_true, Nat.sub_zero, Nat.zero_add, Int.toNat_natCast]) <;> omega), ?_⟩
    conv => whnf
    refine ⟨(by (try simp only [true_and, and_true, Nat.sub_zero, Nat.zero_add, Int.toNat_natCast]) <;> omega), ?_⟩
    conv => whnf
    refine ⟨(by (try simp only [true_and, and_true, Nat.sub_zero, Nat.zero_add, Int.toNat_natCast]) <;> omega), ?_⟩
    conv => whnf
    refine shr32 (by decide) ?_
    conv => whnf
    refine sumi64 (k + 1) (by omega) (by omega) ?_
    conv => whnf
    refine ⟨(k + 1, s / 4294967296, z + s % 4294967296 * pw k), _, rfl, ⟨⟨rfl, rfl⟩, .fa fun j hj => ?_, trivial⟩, ⟨by simp only; omega, by simp only; omega, hst.1, hst.2⟩, by simp only; omega⟩
    rw [upd_set (fun j => wput f i k z j) _ _ _ rfl]
    refine .one (.int_of ?_)
    simp only [wput_step h4 (Nat.mod_lt s (show 0 < 4294967296 by decide)), Int.toNat_natCast]
  · have hk : k = n := by omega
    subst hk
    have hx := digit_lt Z k
    have hfk : wput f i k z (i + k) = digit Z k := by rw [wput_get (Nat.le_refl _), hf k h1]
    have hend := addr_end hV hZ h4 h5 h2
    conv => whnf
    refine ⟨(by (try simp only [true_and, and_true, Nat.sub_zero, Nat.zero_add, Int.toNat_natCast]) <;> omega), ?_⟩
    conv => whnf
    refine ⟨(by (try simp only [true_and, and_true, Nat.sub_zero, Nat.zero_add, Int.toNat_natCast]) <;> omega), ?_⟩
    conv => whnf
    rw [show (i + Int.toNat (k : Nat)) = i + k by omega, hfk]
    refine lowu32 ?_
    conv => whnf
    rw [Nat.mod_eq_of_lt (show cc < 4294967296 by omega)]
    refine modu32 ((digit Z k + cc) % 4294967296) (by omega) ?_
    conv => whnf
    refine ⟨(by (try simp only [true_and, and_true, Nat.sub_zero, Nat.zero_add, Int.toNat_natCast]) <;> omega), ?_⟩
    conv => whnf
    refine ⟨(by (try simp only [true_and, and_true, Nat.sub_zero, Nat.zero_add, Int.toNat_natCast]) <;> omega), ?_⟩
    conv => whnf
    refine ⟨[1000000], ?_⟩
    conv => whnf
    refine ⟨trivial, ⟨⟨(by (try simp only [true_and, and_true, Nat.sub_zero, Nat.zero_add, Int.toNat_natCast]) <;> omega), fun j hj => ?_⟩, trivial⟩, rfl⟩
    simp only [Nat.zero_add]
    rw [upd_set (fun j => wput f i k z j) _ _ _ rfl]
    refine .one (.int_of ?_)
    simp only [← hend, wput_step h4 (Nat.mod_lt _ (show 0 < 4294967296 by decide)), Int.toNat_natCast]

theorem LeadingZeros32_ok (x : Nat) (hx : x < 4294967296) : ACall Try.prog 51 [.f (.int .u32 x)] (.f (.int .i64 ((32 - bitlen x : Nat) : Int))) := by
  have hle := bitlen_le (N := x) (k := 32) hx
  refine acall_rule env [0, 2] Try.func51 rfl rfl rfl rfl ?_
  conv => whnf
  refine callF (Len32_ok x hx) ⟨.refl _, trivial⟩ (by trivial) rfl ?_
  conv => whnf
  refine sumi64 (32 - bitlen x) (by omega) (by omega) ?_
  conv => whnf
  refine ⟨(by (try simp only [true_and, and_true, Nat.sub_zero, Nat.zero_add, Int.toNat_natCast]) <;> omega), ?_⟩
  exact .refl _
end Go.Abs

/- Natural numbers: the long division. -/
set_option autoImplicit false
set_option maxHeartbeats 4000000
set_option linter.unusedVariables false
set_option linter.unusedSimpArgs false
namespace Go.Abs
open Go Go.Proofs


theorem long_ok (A B : Nat) (h2 : 2 ≤ size B) (hle : B ≤ A) (hA : size A ≤ 4398046511000) : ACall Try.prog 45 [nat A, nat B] (.tup [nat (A / B), nat (A % B)]) := by
  have hm := size_mono hle
  obtain ⟨n, hn⟩ : ∃ n, size B = n + 2 := ⟨size B - 2, by omega⟩
  obtain ⟨m, hmA⟩ : ∃ m, size A = m := ⟨_, rfl⟩
  have hd := digit_lt B (n + 1)
  have hd0 := digit_top hn
  have hlz := LeadingZeros32_ok (digit B (n + 1)) hd
  have hb : bitlen (digit B (n + 1)) = (digit B (n + 1)).log2 + 1 := by unfold bitlen; rw [if_neg hd0]
  have hb32 := bitlen_le (N := digit B (n + 1)) (k := 32) hd
  obtain ⟨s, hs⟩ : ∃ s, 32 - bitlen (digit B (n + 1)) = s := ⟨_, rfl⟩
  rw [hs] at hlz
  obtain ⟨f1, f2, f3, f4⟩ := long_facts (s := s) hn hmA (by omega) _ (digit B (n + 1)).log2 rfl (Nat.log2_self_le hd0) (Nat.lt_log2_self) (by omega) (by omega)
  have lB := left_ok B s (by omega) (by omega)
  have lA := left_ok A s (by omega) (by omega)
  rw [hmA] at lA
  rw [hn] at lB
  obtain ⟨V, hV⟩ : ∃ V, B * 2 ^ s = V := ⟨_, rfl⟩
  obtain ⟨N, hN⟩ : ∃ N, A * 2 ^ s = N := ⟨_, rfl⟩
  rw [hV] at f1 f2 f3 lB
  rw [hN] at f3 f4 lA
  have eAB : N / V = A / B := by rw [← hN, ← hV, Nat.mul_div_mul_right _ _ (Nat.two_pow_pos s)]
  have eR : N % V / 2 ^ s = A % B := by rw [← hN, ← hV, Nat.mul_mod_mul_right, Nat.mul_div_cancel _ (Nat.two_pow_pos s)]
  have eB : nat B = raw (digit B) (n + 2) := by rw [nat_eq, hn]
  have eA : nat A = raw (digit A) m := by rw [nat_eq, hmA]
  rw [eB] at lB ⊢
  rw [eA] at lA ⊢
  have hnm : n + 2 ≤ m := by omega
  have hN1 : size N ≤ m + 1 := size_le f4
  have hV0 : 0 < V := Nat.lt_of_le_of_lt (Nat.zero_le _) f3
  refine acall_rule env [0, 1, 4, 5, 6, 7, 8, 9, 10, 11, 12, 13, 38, 39, 40, 64] Try.func45 rfl rfl rfl rfl ?_
  conv => whnf
  refine sumi64 (n + 1) (by omega) (by omega) ?_
  conv => whnf
  refine ⟨(by (try simp only [true_and, and_true, Nat.sub_zero, Nat.zero_add, Int.toNat_natCast]) <;> omega), ?_⟩
  conv => whnf
  refine callF hlz ⟨.int_of (digit_cast (by omega)), trivial⟩ (by trivial) rfl ?_
  conv => whnf
  refine sumu64 s rfl (by omega) ?_
  conv => whnf
  refine callR [] lB ?_
  conv => whnf
  refine ⟨⟨.refl _, .refl _, trivial⟩, trivial, ?_⟩
  conv => whnf
  refine ⟨(by (try simp only [true_and, and_true, Nat.sub_zero, Nat.zero_add, Int.toNat_natCast]) <;> omega), ?_⟩
  conv => whnf
  refine callR [] lA ?_
  conv => whnf
  refine ⟨⟨.refl _, .refl _, trivial⟩, trivial, ?_⟩
  conv => whnf
  refine sumi64 (m - (n + 2)) (by omega) (by omega) ?_
  conv => whnf
  refine sumi64 (m - (n + 2) + 1) (by omega) (by omega) ?_
  conv => whnf
  refine ⟨(by (try simp only [true_and, and_true, Nat.sub_zero, Nat.zero_add, Int.toNat_natCast]) <;> omega), ?_⟩
  conv => whnf
  obtain ⟨D, hD⟩ : ∃ D, m - (n + 2) + 1 = D := ⟨_, rfl⟩
  rw [hD] at f3 ⊢
  refine .weak (freeze_weak 25 1 _ rfl) ?_
  refine loop_rule2 [4, 6, 7, 8, 9, 10, 38, 39] [25, 30, 37] (fun i : Nat => ([(4, .lsl 37 1 1 0 D (some D)), (6, .f (.int .i64 ((n + 2 : Nat) : Int))), (7, .f (.int .u64 s)), (8, .lsl 25 1 1 0 (n + 2) (some (n + 2 + 1))), (9, .lsl 30 1 1 0 (m + 1) (some (m + 1))), (10, .f (.int .i64 D)), (38, .f (.int .i64 D)), (39, .f (.int .i64 i))],
    [(25, 1, .fz 1 (n + 2 + 1) (fun j => [.int .u32 (digit V j : Nat)])), (30, 1, .fa 1 (m + 1) (fun j => [.int .u32 (ubuf N V (D - i) j : Nat)])), (37, 1, .fa 1 D (fun j => [.int .u32 ((if D - i ≤ j then digit (N / V) j else 0 : Nat) : Int)]))]))
    (fun i => i ≤ D) (fun i => D - i) 0 ⟨_, rfl, ⟨rfl, rfl⟩, .refl _, ⟨rfl, rfl⟩, .fa fun j hj => ?_, ⟨rfl, rfl⟩, .fa fun j hj => ?_, trivial⟩ (Nat.zero_le _) ?_
  · rw [Nat.sub_zero, ubuf_start f3]; exact .one (.refl _)
  · rw [if_neg (by omega)]; exact .one (.refl _)
  intro i hi
  conv => whnf
  refine spl (fun h1 => ?_) (fun h1 => ?_) <;> simp only [decide_eq_true_eq, decide_eq_false_iff_not, Bool.not_eq_true', Bool.not_eq_false', gt_iff_lt, ge_iff_le] at h1
  · obtain ⟨j, hj⟩ : ∃ j, D - i = j + 1 := ⟨D - i - 1, by omega⟩
    rw [hj]
    conv => whnf
    refine sumi64 (D - 1) (by omega) (by omega) ?_
    conv => whnf
    refine sumi64 j (by omega) (by omega) ?_
    conv => whnf
    refine sumi64 (j + (n + 2)) (by omega) (by omega) ?_
    conv => whnf
    refine sumi64 (j + (n + 2) + 1) (by omega) (by omega) ?_
    conv => whnf
    refine ⟨(by (try simp only [true_and, and_true, Nat.sub_zero, Nat.zero_add, Int.toNat_natCast]) <;> omega), ?_⟩
    conv => whnf
    obtain ⟨W, hW⟩ : ∃ W, (N / pw (j + 1) % V) * 4294967296 + digit N j = W := ⟨_, rfl⟩
    have hRV : N / pw (j + 1) % V < V := Nat.mod_lt _ hV0
    have hdN := digit_lt N j
    have hWV : W < V * 4294967296 := by
      have := Nat.mul_le_mul_right 4294967296 (show N / pw (j + 1) % V + 1 ≤ V by omega)
      rw [Nat.add_mul] at this; rw [← hW]; omega
    have hWp : W < pw (n + 2 + 1) := by rw [pw_succ]; exact Nat.lt_of_lt_of_le hWV (Nat.mul_le_mul_right _ (Nat.le_of_lt f1))
    have hwin : ∀ k, k ≤ n + 2 → ubuf N V (j + 1) (j + k) = digit W k := fun k hk => by rw [← hW]; exact ubuf_win f1 hk
    obtain ⟨g1, g2, g3, g4⟩ := guess_spec f1 f2 hWV
    have hest := estimate_ok V W n (by omega) f2 (win_top f1 hWV)
    have hsub := subtract_ok (ubuf N V (j + 1)) (m + 1) j V W (guess V W n) (n + 2) (by omega) (by omega) hwin g3 f1 hWp
    obtain ⟨d1, d2⟩ := digit_right hV0 f1 hWV g1 g2
    obtain ⟨g, hg⟩ : ∃ g, guess V W n = g := ⟨_, rfl⟩
    have hqd : W / V = digit (N / V) j := by rw [← hW]; exact (short_step N j hV0).1
    have hput : ∀ k, k < m + 1 → wput (ubuf N V (j + 1)) j (n + 2 + 1) (W % V) k = ubuf N V j k := fun k hk => by rw [← hW]; exact ubuf_put hV0 f1 hk (by omega)
    rw [hg] at hest hsub d1 d2 g2 g3
    refine callB hest ⟨.raw_ofn (by omega) (fun k hk => by show [FV.int IntKind.u32 _] = _; rw [show 0 + Int.toNat (j : Nat) + k = j + k by omega, hwin k (by omega)]), .raw_of (fun k hk => by rw [Nat.zero_add]), trivial⟩ (by (try simp only [true_and, and_true, Nat.sub_zero, Nat.zero_add, Int.toNat_natCast]) <;> omega) rfl ?_
    conv => whnf
    refine sumi64 (j + (n + 2)) (by omega) (by omega) ?_
    conv => whnf
    refine sumi64 (j + (n + 2) + 1) (by omega) (by omega) ?_
    conv => whnf
    refine ⟨(by (try simp only [true_and, and_true, Nat.sub_zero, Nat.zero_add, Int.toNat_natCast]) <;> omega), ?_⟩
    conv => whnf
    refine callR [30] hsub ?_
    conv => whnf
    refine ⟨⟨⟨by omega, by omega, .inl rfl⟩, ⟨(by (try simp only [true_and, and_true, Nat.sub_zero, Nat.zero_add, Int.toNat_natCast]) <;> omega), .limbs fun k hk => by rw [Nat.zero_add]⟩, .refl _, trivial⟩, ⟨⟨by omega, fun k hk => by simp only [Nat.zero_add]; exact .one (.refl _)⟩, trivial⟩, ?_⟩
    conv => whnf
    refine spl (fun h3 => ?_) (fun h3 => ?_) <;> simp only [decide_eq_true_eq, decide_eq_false_iff_not, Bool.not_eq_true', Bool.not_eq_false', gt_iff_lt, ge_iff_le] at h3
    · obtain ⟨d3, d4⟩ := d1 h3
      conv => whnf
      have hres := restore_ok (wput (ubuf N V (j + 1)) j (n + 2 + 1) (subW V W g (n + 2))) (m + 1) j V (subW V W g (n + 2)) (n + 2) (by omega) (by omega) (fun k hk => wput_in (by omega)) f1 (subW_lt hWp)
      rw [d4, wput_wput] at hres
      refine sumu64 (W / V) (by omega) (by omega) ?_
      conv => whnf
      refine sumi64 (j + (n + 2)) (by omega) (by omega) ?_
      conv => whnf
      refine sumi64 (j + (n + 2) + 1) (by omega) (by omega) ?_
      conv => whnf
      refine ⟨(by (try simp only [true_and, and_true, Nat.sub_zero, Nat.zero_add, Int.toNat_natCast]) <;> omega), ?_⟩
      conv => whnf
      refine callR [30] hres ?_
      conv => whnf
      refine ⟨⟨⟨by omega, by omega, .inl rfl⟩, ⟨(by (try simp only [true_and, and_true, Nat.sub_zero, Nat.zero_add, Int.toNat_natCast]) <;> omega), .limbs fun k hk => by rw [Nat.zero_add]⟩, trivial⟩, ⟨⟨by omega, fun k hk => by simp only [Nat.zero_add]; exact .one (.refl _)⟩, trivial⟩, ?_⟩
      conv => whnf
      refine lowu32 ?_
      conv => whnf
      refine ⟨(by (try simp only [true_and, and_true, Nat.sub_zero, Nat.zero_add, Int.toNat_natCast]) <;> omega), ?_⟩
      conv => whnf
      refine ⟨(by (try simp only [true_and, and_true, Nat.sub_zero, Nat.zero_add, Int.toNat_natCast]) <;> omega), ?_⟩
      conv => whnf
      refine sumi64 (i + 1) (by omega) (by omega) ?_
      conv => whnf
      refine ⟨i + 1, _, rfl, ⟨⟨rfl, rfl⟩, .refl _, ⟨rfl, rfl⟩, .fa fun k hk => ?_, ⟨rfl, rfl⟩, .fa fun k hk => ?_, trivial⟩, by omega, by omega⟩
      · rw [show D - (i + 1) = j by omega, hput k hk]; exact .one (.refl _)
      · rw [Nat.mod_eq_of_lt g4, hqd, upd_set (fun k => if j + 1 ≤ k then digit (N / V) k else 0) _ _ _ rfl]
        refine .one (.int_of ?_)
        simp only [Nat.zero_add, Int.toNat_natCast]
        rw [show D - (i + 1) = j by omega]
        by_cases e : k = j
        · subst e; rw [if_pos rfl, if_pos (Nat.le_refl _)]
        · rw [if_neg e]
          by_cases e2 : j + 1 ≤ k
          · rw [if_pos e2, if_pos (by omega)]
          · rw [if_neg e2, if_neg (by omega)]
    · obtain ⟨d3, d4⟩ := d2 h3
      rw [d4, d3]
      conv => whnf
      refine lowu32 ?_
      conv => whnf
      refine ⟨(by (try simp only [true_and, and_true, Nat.sub_zero, Nat.zero_add, Int.toNat_natCast]) <;> omega), ?_⟩
      conv => whnf
      refine ⟨(by (try simp only [true_and, and_true, Nat.sub_zero, Nat.zero_add, Int.toNat_natCast]) <;> omega), ?_⟩
      conv => whnf
      refine sumi64 (i + 1) (by omega) (by omega) ?_
      conv => whnf
      refine ⟨i + 1, _, rfl, ⟨⟨rfl, rfl⟩, .refl _, ⟨rfl, rfl⟩, .fa fun k hk => ?_, ⟨rfl, rfl⟩, .fa fun k hk => ?_, trivial⟩, by omega, by omega⟩
      · rw [show D - (i + 1) = j by omega, hput k hk]; exact .one (.refl _)
      · rw [Nat.mod_eq_of_lt g4, hqd, upd_set (fun k => if j + 1 ≤ k then digit (N / V) k else 0) _ _ _ rfl]
        refine .one (.int_of ?_)
        simp only [Nat.zero_add, Int.toNat_natCast]
        rw [show D - (i + 1) = j by omega]
        by_cases e : k = j
        · subst e; rw [if_pos rfl, if_pos (Nat.le_refl _)]
        · rw [if_neg e]
          by_cases e2 : j + 1 ≤ k
          · rw [if_pos e2, if_pos (by omega)]
          · rw [if_neg e2, if_neg (by omega)]
  · have hD0 : D - i = 0 := by omega
    rw [hD0]
    have v1 := view_ok (fun j => if 0 ≤ j then digit (N / V) j else 0) D (fun j hj => by show (if 0 ≤ j then _ else _) < _; rw [if_pos (Nat.zero_le _)]; exact digit_lt _ _) (by omega)
    have e1 : nval (fun j => if 0 ≤ j then digit (N / V) j else 0) D = N / V := by
      rw [nval_congr (h := digit (N / V)) (fun j _ => if_pos (Nat.zero_le _)), nval_digit, Nat.mod_eq_of_lt]
      rw [Nat.div_lt_iff_lt_mul hV0, Nat.mul_comm]
      exact (Nat.div_lt_iff_lt_mul (pw_pos _)).1 f3
    rw [e1] at v1
    rw [← eAB]
    have hNV : N % V < pw (n + 2) := Nat.lt_trans (Nat.mod_lt _ hV0) f1
    have v2 := view_ok (ubuf N V 0) (n + 2) (fun k hk => by rw [ubuf_end]; exact digit_lt _ _) (by omega)
    have e2 : nval (ubuf N V 0) (n + 2) = N % V := by
      rw [nval_congr (h := digit (N % V)) (fun j _ => ubuf_end), nval_digit, Nat.mod_eq_of_lt hNV]
    rw [e2] at v2
    have hr := right_ok (N % V) s (by omega) (by have := size_le hNV; omega)
    rw [eR] at hr
    conv => whnf
    refine callF v1 ⟨.raw_of (fun k hk => by rw [Nat.zero_add]), trivial⟩ (by (try simp only [true_and, and_true, Nat.sub_zero, Nat.zero_add, Int.toNat_natCast]) <;> omega) rfl ?_
    conv => whnf
    refine ⟨(by (try simp only [true_and, and_true, Nat.sub_zero, Nat.zero_add, Int.toNat_natCast]) <;> omega), ?_⟩
    conv => whnf
    refine callF v2 ⟨.raw_ofn (by omega) (fun k hk => by simp only [Nat.zero_add]), trivial⟩ (by (try simp only [true_and, and_true, Nat.sub_zero, Nat.zero_add, Int.toNat_natCast]) <;> omega) rfl ?_
    conv => whnf
    refine callF hr ⟨.refl _, .refl _, trivial⟩ (by (try simp only [true_and, and_true, Nat.sub_zero, Nat.zero_add, Int.toNat_natCast]) <;> omega) rfl ?_
    conv => whnf
    refine ⟨by kernel_rfl, ?_⟩
    conv => whnf
    refine ⟨(by (try simp only [true_and, and_true, Nat.sub_zero, Nat.zero_add, Int.toNat_natCast]) <;> omega), ?_⟩
    exact .refl _
end Go.Abs

/- Natural numbers: DivMod, GCD. -/
set_option autoImplicit false
set_option maxHeartbeats 4000000
set_option linter.unusedVariables false
set_option linter.unusedSimpArgs false
namespace Go.Abs
open Go Go.Proofs

theorem DivMod_ok (g h : Nat → Nat) (n m : Nat) (hg : Dig g n) (hh : Dig h m) (hn : n ≤ 4398046511000) (hm : m ≤ 4398046511000) :
    ACall Try.prog 28 [raw g n, raw h m] (divRes (nval g n) (nval h m)) :=
  DivMod_gen g h n m hg hh (by omega) (by omega) fun h2 hle => long_ok _ _ h2 hle (Nat.le_trans (size_nval hg) hn)
theorem DivMod_nn (A B : Nat) (hA : size A ≤ 4398046511000) (hB : size B ≤ 4398046511000) : ACall Try.prog 28 [nat A, nat B] (divRes A B) := by
  have := DivMod_ok (digit A) (digit B) (size A) (size B) (digit_Dig _ _) (digit_Dig _ _) hA hB
  rw [nval_digit_size, nval_digit_size] at this; exact this
theorem GCD_ok (g h : Nat → Nat) (n m : Nat) (hg : Dig g n) (hh : Dig h m) (hn : n ≤ 4398046511000) (hm : m ≤ 4398046511000) :
    ACall Try.prog 33 [raw g n, raw h m] (nat (Nat.gcd (nval g n) (nval h m))) :=
  GCD_gen g h n m 4398046511000 hg hh hn hm (by omega) fun a b ha hb _ _ => DivMod_nn a b ha hb
end Go.Abs

/- The reference's natural numbers: Trim, Equal, FromUint64, Uint64, Compare. -/
set_option autoImplicit false
set_option maxHeartbeats 4000000
set_option linter.unusedVariables false
set_option linter.unusedSimpArgs false
namespace Go.Abs
open Go Go.Proofs

theorem refTrim_ok (g : Nat → Nat) (n : Nat) (hg : Dig g n) (hn : n ≤ 4398046511104) : ACall Try.prog 20 [raw g n] (nat (nval g n)) := by
  refine acall_rule env [0, 2, 3, 15] Try.func20 rfl rfl rfl rfl ?_
  conv => whnf
  refine loop_mod [0, 3] [] [0, 3] []
    (fun μ fr hp => ∃ s : Int, fr = [(0, raw g n), (3, .f (.int .i64 s))] ∧ hp = [] ∧ μ = s.toNat ∧ 0 ≤ s ∧ s ≤ n ∧ trimLen g s.toNat = trimLen g n)
    (fun e fr hp => e = .exit 0 ∧ fr = [(0, raw g n), (3, .f (.int .i64 (trimLen g n : Nat)))] ∧ hp = [])
    ⟨_, _, _, _, rfl, .refl _, n, rfl, rfl, rfl, by omega, Int.le_refl _, rfl⟩ ?_ ?_
  · rintro _ _ _ ⟨rfl, rfl, rfl⟩
    have hle : trimLen g n ≤ n := by rw [trimLen_eq hg]; exact size_nval hg
    conv => whnf
    refine ⟨(by (try simp only [true_and, and_true, Nat.sub_zero, Nat.zero_add, Int.toNat_natCast]) <;> omega), ?_⟩
    conv => whnf
    refine ⟨⟨(by (try simp only [true_and, and_true, Nat.sub_zero, Nat.zero_add, Int.toNat_natCast]) <;> omega), (by (try simp only [true_and, and_true, Nat.sub_zero, Nat.zero_add, Int.toNat_natCast]) <;> omega), (by (try simp only [true_and, and_true, Nat.sub_zero, Nat.zero_add, Int.toNat_natCast]) <;> omega), room_any (by simp only; omega)⟩, ?_⟩
    conv => whnf
    refine ⟨(by (try simp only [true_and, and_true, Nat.sub_zero, Nat.zero_add, Int.toNat_natCast]) <;> omega), ?_⟩
    exact (AVle.raw_ofn (g := g) (n := trimLen g n) (by omega) (fun j hj => by simp)).trans (nat_of_trim hg)
  rintro _ _ _ ⟨s, rfl, rfl, rfl, h0, hs, hI⟩
  conv => whnf
  refine spl (fun h1 => ?_) (fun h1 => ?_) <;> simp only [decide_eq_true_eq, decide_eq_false_iff_not, Bool.not_eq_true', Bool.not_eq_false', gt_iff_lt, ge_iff_le] at h1
  · conv => whnf
    refine fit64 (by omega) ?_
    conv => whnf
    refine ⟨(by (try simp only [true_and, and_true, Nat.sub_zero, Nat.zero_add, Int.toNat_natCast]) <;> omega), ?_⟩
    conv => whnf
    have ht : trimLen g s.toNat = if g (s - 1).toNat = 0 then trimLen g (s - 1).toNat else s.toNat := by
      rw [show s.toNat = (s - 1).toNat + 1 by omega]; rfl
    refine spl (fun h2 => ?_) (fun h2 => ?_) <;> simp only [decide_eq_true_eq, decide_eq_false_iff_not, Bool.not_eq_true', Bool.not_eq_false', gt_iff_lt, ge_iff_le] at h2
    · conv => whnf
      refine fit64 (by omega) ?_
      conv => whnf
      exact ⟨_, by omega, _, _, _, rfl, .refl _, s - 1, rfl, rfl, rfl, by omega, by omega, by rw [← hI, ht, if_pos (by omega)]⟩
    · conv => whnf
      rw [if_neg (by omega)] at ht
      rw [ht] at hI
      rw [← hI]
      exact ⟨_, _, _, congrArg (fun t => some ([(0, raw g n), (3, AV.f (.int .i64 t))], [])) (show s = (s.toNat : Int) by omega), .refl _, rfl, rfl, rfl⟩
  · conv => whnf
    have : s = 0 := by omega
    subst this
    exact ⟨_, _, _, congrArg (fun t => some ([(0, raw g n), (3, AV.f (.int .i64 t))], [])) (show (0 : Int) = (trimLen g n : Int) by rw [← hI]; rfl), .refl _, rfl, rfl, rfl⟩

theorem refEqual_ok (g h : Nat → Nat) (n m : Nat) (hg : Dig g n) (hh : Dig h m) (hn : n ≤ 4398046511104) :
    ACall Try.prog 18 [raw g n, raw h m] (.f (.bool (decide (n = m ∧ nval g n = nval h m)))) := by
  refine acall_rule env [0, 1, 4, 5, 10, 14, 25] Try.func18 rfl rfl rfl rfl ?_
  conv => whnf
  refine spl (fun h1 => ?_) (fun h1 => ?_) <;> simp only [decide_eq_true_eq, decide_eq_false_iff_not, Bool.not_eq_true', Bool.not_eq_false', gt_iff_lt, ge_iff_le] at h1
  · conv => whnf
    refine ⟨(by (try simp only [true_and, and_true, Nat.sub_zero, Nat.zero_add, Int.toNat_natCast]) <;> omega), ?_⟩
    exact .bool_of (by rw [decide_eq_false]; omega)
  have h1 : n = m := by omega
  subst h1
  conv => whnf
  refine loop_mod [0, 1, 5] [] [4] []
    (fun μ fr hp => ∃ k : Nat, fr = [(0, raw g n), (1, raw h n), (5, .f (.int .i64 k))] ∧ hp = [] ∧ μ = n - k ∧ k ≤ n ∧ ∀ j, j < k → g j = h j)
    (fun e fr hp => (e = .exit 0 ∧ fr = [(4, .top)] ∧ hp = [] ∧ ∀ j, j < n → g j = h j) ∨ (e = .ret ∧ fr = [(4, .f (.bool false))] ∧ hp = [] ∧ nval g n ≠ nval h n))
    ⟨_, _, _, _, rfl, .refl _, 0, rfl, rfl, rfl, by omega, by simp⟩ ?_ ?_
  · rintro _ _ _ (⟨rfl, rfl, rfl, he⟩ | ⟨rfl, rfl, rfl, hne⟩)
    · conv => whnf
      refine ⟨(by (try simp only [true_and, and_true, Nat.sub_zero, Nat.zero_add, Int.toNat_natCast]) <;> omega), ?_⟩
      exact .bool_of (by rw [decide_eq_true]; exact ⟨rfl, nval_congr he⟩)
    · conv => whnf
      refine ⟨(by (try simp only [true_and, and_true, Nat.sub_zero, Nat.zero_add, Int.toNat_natCast]) <;> omega), ?_⟩
      exact .bool_of (by rw [decide_eq_false]; exact fun h => hne h.2)
  rintro _ _ _ ⟨k, rfl, rfl, rfl, hk, he⟩
  conv => whnf
  refine spl (fun h2 => ?_) (fun h2 => ?_) <;> simp only [decide_eq_true_eq, decide_eq_false_iff_not, Bool.not_eq_true', Bool.not_eq_false', gt_iff_lt, ge_iff_le] at h2
  · conv => whnf
    refine ⟨(by (try simp only [true_and, and_true, Nat.sub_zero, Nat.zero_add, Int.toNat_natCast]) <;> omega), ?_⟩
    conv => whnf
    refine ⟨(by (try simp only [true_and, and_true, Nat.sub_zero, Nat.zero_add, Int.toNat_natCast]) <;> omega), ?_⟩
    conv => whnf
    refine ⟨by kernel_rfl, ?_⟩
    conv => whnf
    refine spl (fun h3 => ?_) (fun h3 => ?_) <;> simp only [decide_eq_true_eq, decide_eq_false_iff_not, Bool.not_eq_true', Bool.not_eq_false', gt_iff_lt, ge_iff_le] at h3
    · replace h3 : ¬ ((g k : Nat) : Int) = (h k : Nat) := h3
      conv => whnf
      exact ⟨_, _, _, rfl, .refl _, .inr ⟨rfl, rfl, rfl, fun e => h3 (by rw [nval_inj hg hh e k (by omega)])⟩⟩
    · replace h3 : ((g k : Nat) : Int) = (h k : Nat) := h3
      conv => whnf
      refine sumi64 (k + 1) (by omega) (by omega) ?_
      conv => whnf
      refine ⟨_, ?_, _, _, _, rfl, .refl _, k + 1, rfl, rfl, rfl, by omega, fun j hj => ?_⟩
      · omega
      · by_cases e : j = k
        · subst e; omega
        · exact he j (by omega)
  · conv => whnf
    have : k = n := by omega
    subst this
    exact ⟨_, _, _, rfl, .refl _, .inl ⟨rfl, rfl, rfl, he⟩⟩
end Go.Abs

/- The reference's natural numbers: FromUint64, Uint64, Compare. -/
set_option autoImplicit false
set_option maxHeartbeats 4000000
set_option linter.unusedVariables false
set_option linter.unusedSimpArgs false
namespace Go.Abs
open Go Go.Proofs

theorem refFromUint64_ok (v : Nat) (hv : v < 18446744073709551616) : ACall Try.prog 21 [.f (.int .u64 v)] (nat v) := by
  have h2 : nval (digit v) 2 = v := by rw [nval_digit, Nat.mod_eq_of_lt]; exact hv
  have hv2 := refTrim_ok (digit v) 2 (digit_Dig v 2) (by omega)
  rw [h2] at hv2
  refine acall_rule env [0, 2] Try.func21 rfl rfl rfl rfl ?_
  conv => whnf
  refine lowu32 ?_
  conv => whnf
  refine ⟨(by (try simp only [true_and, and_true, Nat.sub_zero, Nat.zero_add, Int.toNat_natCast]) <;> omega), ?_⟩
  conv => whnf
  refine shr32 (by decide) ?_
  conv => whnf
  refine lowu32 ?_
  conv => whnf
  refine callF hv2 ⟨?_, trivial⟩ ⟨by simp, trivial⟩ rfl ?_
  · refine .f (.sl (fun i hi => ?_) (.inl rfl))
    match i, hi with
    | 0, _ => exact ⟨.int_of (by simp [digit, pw_zero]), trivial⟩
    | 1, _ => exact ⟨.int_of (by simp [digit, pw]), trivial⟩
  conv => whnf
  exact ⟨(by (try simp only [true_and, and_true, Nat.sub_zero, Nat.zero_add, Int.toNat_natCast]) <;> omega), .refl _⟩

theorem refUint64_ok (g : Nat → Nat) (n : Nat) (hg : Dig g n) (hn : n ≤ 4398046511104) : ACall Try.prog 15 [raw g n] (if nval g n < 18446744073709551616 then .tup [.f (.int .u64 (nval g n)), .f (.bool true)] else .tup [.f (.int .u64 0), .f (.bool false)]) := by
  have hs := size_nval hg
  have hv := refTrim_ok g n hg hn
  generalize nval g n = N at hs hv ⊢
  refine acall_rule env [0, 2, 3, 4, 5, 10, 15] Try.func15 rfl rfl rfl rfl ?_
  conv => whnf
  refine callF hv ⟨.refl _, trivial⟩ (by trivial) rfl ?_
  conv => whnf
  refine spl (fun h1 => ?_) (fun h1 => ?_) <;> simp only [decide_eq_true_eq, decide_eq_false_iff_not, Bool.not_eq_true', Bool.not_eq_false', gt_iff_lt, ge_iff_le] at h1
  · conv => whnf
    refine ⟨(by (try simp only [true_and, and_true, Nat.sub_zero, Nat.zero_add, Int.toNat_natCast]) <;> omega), ?_⟩
    rw [if_neg (by intro h; have := size_le (N := N) (n := 2) h; omega)]
    exact .refl _
  have hN : N < 18446744073709551616 := Nat.lt_of_lt_of_le (lt_pw_size N) (pw_le (j := 2) (by omega))
  rw [if_pos hN]
  conv => whnf
  refine fit64 (by omega) ?_
  conv => whnf
  refine loop_rule [0, 4, 5] [] (fun s : Nat × Int => ([(0, nat N), (4, .f (.int .u64 s.1)), (5, .f (.int .i64 s.2))], [])) (fun s => -1 ≤ s.2 ∧ s.2 < size N ∧ s.1 = N / pw (s.2 + 1).toNat) (fun s => (s.2 + 1).toNat) (0, (size N : Int) - 1) rfl ⟨by simp only; omega, by simp only; omega, ?_⟩ ?_
  · simp only
    rw [show ((size N : Int) - 1 + 1).toNat = size N by omega, div_size]
  rintro ⟨v, i⟩ ⟨h2, h3, h4⟩
  simp only at h2 h3 h4 ⊢
  conv => whnf
  refine spl (fun h5 => ?_) (fun h5 => ?_) <;> simp only [decide_eq_true_eq, decide_eq_false_iff_not, Bool.not_eq_true', Bool.not_eq_false', gt_iff_lt, ge_iff_le] at h5
  · conv => whnf
    have e1 : (i + 1).toNat = i.toNat + 1 := by omega
    have hv : v < 4294967296 := by
      rw [h4, e1, pw_succ, ← Nat.div_div_eq_div_mul]
      have := Nat.div_le_self N (pw i.toNat)
      omega
    have hd := digit_lt N i.toNat
    refine ⟨(by (try simp only [true_and, and_true, Nat.sub_zero, Nat.zero_add, Int.toNat_natCast]) <;> omega), ?_⟩
    conv => whnf
    refine shl32 (v * 4294967296) (by omega) ?_
    conv => whnf
    refine ⟨(by (try simp only [true_and, and_true, Nat.sub_zero, Nat.zero_add, Int.toNat_natCast]) <;> omega), ?_⟩
    conv => whnf
    refine fitu64 (by omega) ?_
    conv => whnf
    refine or32 hv hd ?_
    conv => whnf
    refine fit64 (by omega) ?_
    conv => whnf
    refine ⟨(_, _), rfl, ⟨by simp only; omega, by simp only; omega, ?_⟩, by simp only; omega⟩
    simp only
    rw [show (i - 1 + 1).toNat = i.toNat by omega, div_step, h4, e1]
  · conv => whnf
    refine ⟨(by (try simp only [true_and, and_true, Nat.sub_zero, Nat.zero_add, Int.toNat_natCast]) <;> omega), ?_⟩
    have : i = -1 := by omega
    subst this
    rw [h4]
    exact .tup ⟨.int_of (by simp [pw_zero]), .refl _, trivial⟩
theorem refCompare_ok (g h : Nat → Nat) (n m : Nat) (hg : Dig g n) (hh : Dig h m) (hn : n ≤ 4398046511104) (hm : m ≤ 4398046511104) :
    ACall Try.prog 23 [raw g n, raw h m] (.f (.int .i64 (cmp (nval g n) (nval h m)))) := by
  have hA := size_nval hg
  have hB := size_nval hh
  have va := refTrim_ok g n hg hn
  have vb := refTrim_ok h m hh hm
  generalize nval g n = A at hA va ⊢
  generalize nval h m = B at hB vb ⊢
  refine acall_rule env [0, 1, 4, 5, 14, 19, 24, 35, 44] Try.func23 rfl rfl rfl rfl ?_
  conv => whnf
  refine callF va ⟨.refl _, trivial⟩ (by trivial) rfl ?_
  conv => whnf
  refine callF vb ⟨.refl _, trivial⟩ (by trivial) rfl ?_
  conv => whnf
  refine spl (fun h1 => ?_) (fun h1 => ?_) <;> simp only [decide_eq_true_eq, decide_eq_false_iff_not, Bool.not_eq_true', Bool.not_eq_false', gt_iff_lt, ge_iff_le] at h1
  · conv => whnf
    refine spl (fun h2 => ?_) (fun h2 => ?_) <;> simp only [decide_eq_true_eq, decide_eq_false_iff_not, Bool.not_eq_true', Bool.not_eq_false', gt_iff_lt, ge_iff_le] at h2
    · conv => whnf
      refine ⟨(by (try simp only [true_and, and_true, Nat.sub_zero, Nat.zero_add, Int.toNat_natCast]) <;> omega), ?_⟩
      have := lt_of_size (A := A) (B := B) (by omega)
      exact .int_of (by simp [cmp, this])
    · conv => whnf
      refine ⟨(by (try simp only [true_and, and_true, Nat.sub_zero, Nat.zero_add, Int.toNat_natCast]) <;> omega), ?_⟩
      have := lt_of_size (A := B) (B := A) (by omega)
      exact .int_of (by unfold cmp; rw [if_neg (by omega), if_neg (by omega)])
  · conv => whnf
    have hs : size A = size B := by omega
    refine fit64 (by omega) ?_
    conv => whnf
    refine loop_rule [0, 1, 5] [] (fun s : Int => ([(0, nat A), (1, nat B), (5, .f (.int .i64 s))], [])) (fun s => -1 ≤ s ∧ s < size A ∧ A / pw (s + 1).toNat = B / pw (s + 1).toNat) (fun s => (s + 1).toNat) ((size A : Int) - 1) rfl ⟨by omega, by omega, ?_⟩ ?_
    · rw [show ((size A : Int) - 1 + 1).toNat = size A by omega, div_size, hs, div_size]
    rintro i ⟨h2, h3, h4⟩
    conv => whnf
    refine spl (fun h5 => ?_) (fun h5 => ?_) <;> simp only [decide_eq_true_eq, decide_eq_false_iff_not, Bool.not_eq_true', Bool.not_eq_false', gt_iff_lt, ge_iff_le] at h5
    · conv => whnf
      refine ⟨(by (try simp only [true_and, and_true, Nat.sub_zero, Nat.zero_add, Int.toNat_natCast]) <;> omega), ?_⟩
      conv => whnf
      refine ⟨(by (try simp only [true_and, and_true, Nat.sub_zero, Nat.zero_add, Int.toNat_natCast]) <;> omega), ?_⟩
      conv => whnf
      refine ⟨by kernel_rfl, ?_⟩
      have e1 : (i + 1).toNat = i.toNat + 1 := by omega
      rw [e1] at h4
      have da := div_step A i.toNat
      have db := div_step B i.toNat
      rw [h4] at da
      conv => whnf
      refine spl (fun h6 => ?_) (fun h6 => ?_) <;> simp only [decide_eq_true_eq, decide_eq_false_iff_not, Bool.not_eq_true', Bool.not_eq_false', gt_iff_lt, ge_iff_le] at h6
      · conv => whnf
        refine ⟨(by (try simp only [true_and, and_true, Nat.sub_zero, Nat.zero_add, Int.toNat_natCast]) <;> omega), ?_⟩
        have := lt_of_div (A := A) (B := B) (p := pw i.toNat) (by omega)
        exact .int_of (by simp [cmp, this])
      conv => whnf
      refine ⟨(by (try simp only [true_and, and_true, Nat.sub_zero, Nat.zero_add, Int.toNat_natCast]) <;> omega), ?_⟩
      conv => whnf
      refine ⟨(by (try simp only [true_and, and_true, Nat.sub_zero, Nat.zero_add, Int.toNat_natCast]) <;> omega), ?_⟩
      conv => whnf
      refine ⟨by kernel_rfl, ?_⟩
      conv => whnf
      refine spl (fun h7 => ?_) (fun h7 => ?_) <;> simp only [decide_eq_true_eq, decide_eq_false_iff_not, Bool.not_eq_true', Bool.not_eq_false', gt_iff_lt, ge_iff_le] at h7
      · conv => whnf
        refine ⟨(by (try simp only [true_and, and_true, Nat.sub_zero, Nat.zero_add, Int.toNat_natCast]) <;> omega), ?_⟩
        have := lt_of_div (A := B) (B := A) (p := pw i.toNat) (by omega)
        exact .int_of (by unfold cmp; rw [if_neg (by omega), if_neg (by omega)])
      · conv => whnf
        refine fit64 (by omega) ?_
        conv => whnf
        refine ⟨i - 1, rfl, ⟨by omega, by omega, ?_⟩, by omega⟩
        rw [show (i - 1 + 1).toNat = i.toNat by omega]
        omega
    · conv => whnf
      refine ⟨(by (try simp only [true_and, and_true, Nat.sub_zero, Nat.zero_add, Int.toNat_natCast]) <;> omega), ?_⟩
      have : i = -1 := by omega
      subst this
      have h4 : A / pw 0 = B / pw 0 := h4
      rw [pw_zero, Nat.div_one, Nat.div_one] at h4
      exact .int_of (by unfold cmp; rw [if_neg (by omega), if_pos h4])
end Go.Abs

/- The reference's natural numbers: Add, Sub. -/
set_option autoImplicit false
set_option maxHeartbeats 4000000
set_option linter.unusedVariables false
set_option linter.unusedSimpArgs false
namespace Go.Abs
open Go Go.Proofs

theorem raw_le {g : Nat → Nat} {n : Nat} (hg : Dig g n) : AVle (raw g n) (raw (digit (nval g n)) n) :=
  .f (.limbs fun j hj => by rw [digit_nval hg, if_pos hj])
theorem add_end {h : Nat → Nat} {A B c n m : Nat} (hA : size A ≤ n) (hB : size B ≤ m) (hd : Dig h (max n m + 1)) (e : nval h (max n m + 1) + c * pw (max n m + 1) = A % pw (max n m + 1) + B % pw (max n m + 1)) : nval h (max n m + 1) = A + B := by
  rw [mod_size (by omega), mod_size (by omega)] at e
  have h1 := Nat.lt_of_lt_of_le (lt_pw_size A) (pw_le (show size A ≤ max n m by omega))
  have h2 := Nat.lt_of_lt_of_le (lt_pw_size B) (pw_le (show size B ≤ max n m by omega))
  rw [pw_succ] at e
  rcases Nat.eq_zero_or_pos c with rfl | hc
  · omega
  · have := Nat.le_mul_of_pos_left (pw (max n m) * 4294967296) hc; omega


theorem refAdd_aux (A B n m : Nat) (hA : size A ≤ n) (hB : size B ≤ m) (hn : n < 4398046511104) (hm : m < 4398046511104) :
    ACall Try.prog 27 [raw (digit A) n, raw (digit B) m] (nat (A + B)) := by
  refine acall_rule env [0, 1, 4, 5, 6, 7, 18, 24, 35] Try.func27 rfl rfl rfl rfl ?_
  conv => whnf
  refine sumi64 (max n m + 1) (by split <;> omega) (by omega) ?_
  conv => whnf
  refine ⟨(by (try simp only [true_and, and_true, Nat.sub_zero, Nat.zero_add, Int.toNat_natCast]) <;> omega), ?_⟩
  conv => whnf
  refine loop_mod [0, 1, 5, 6, 7] [14] [5] [14]
    (fun μ fr hp => ∃ (h : Nat → Nat) (c k : Nat), fr = [(0, raw (digit A) n), (1, raw (digit B) m), (5, .lsl 14 1 1 0 (max n m + 1) (some (max n m + 1))), (6, .f (.int .u64 c)), (7, .f (.int .i64 k))] ∧ hp = [(14, 1, .fa 1 (max n m + 1) (fun j => [.int .u32 (h j : Nat)]))] ∧ μ = max n m + 1 - k ∧
      k ≤ max n m + 1 ∧ Dig h k ∧ c < 2 ∧ nval h k + c * pw k = A % pw k + B % pw k)
    (fun e fr hp => e = .exit 0 ∧ ∃ h : Nat → Nat, fr = [(5, .lsl 14 1 1 0 (max n m + 1) (some (max n m + 1)))] ∧ hp = [(14, 1, .fa 1 (max n m + 1) (fun j => [.int .u32 (h j : Nat)]))] ∧ Dig h (max n m + 1) ∧ nval h (max n m + 1) = A + B)
    ⟨_, _, _, _, rfl, .refl _, fun _ => 0, 0, 0, rfl, rfl, rfl, Nat.zero_le _, fun j hj => absurd hj (by simp), by simp, by simp [pw_zero, Nat.mod_one, nval_zero]⟩ ?_ ?_
  · rintro _ _ _ ⟨rfl, h, rfl, rfl, h2, h4⟩
    have hv := refTrim_ok _ _ h2 (by omega)
    rw [h4] at hv
    conv => whnf
    refine callF hv ⟨.raw_refl, trivial⟩ (by (try simp only [true_and, and_true, Nat.sub_zero, Nat.zero_add, Int.toNat_natCast]) <;> omega) rfl ?_
    conv => whnf
    refine ⟨(by (try simp only [true_and, and_true, Nat.sub_zero, Nat.zero_add, Int.toNat_natCast]) <;> omega), ?_⟩
    exact .refl _
  rintro _ _ _ ⟨h, c, k, rfl, rfl, rfl, h1, h2, h3, h4⟩
  have hd := digit_lt A k
  have hd2 := digit_lt B k
  conv => whnf
  refine spl (fun h5 => ?_) (fun h5 => ?_) <;> simp only [decide_eq_true_eq, decide_eq_false_iff_not, Bool.not_eq_true', Bool.not_eq_false', gt_iff_lt, ge_iff_le] at h5
  · conv => whnf
    refine spl (fun h6 => ?_) (fun h6 => ?_) <;> simp only [decide_eq_true_eq, decide_eq_false_iff_not, Bool.not_eq_true', Bool.not_eq_false', gt_iff_lt, ge_iff_le] at h6
    · conv => whnf
      refine ⟨(by (try simp only [true_and, and_true, Nat.sub_zero, Nat.zero_add, Int.toNat_natCast]) <;> omega), ?_⟩
      conv => whnf
      refine sumu64 (digit A k) rfl (by omega) ?_
      conv => whnf
      refine sumu64 (c + digit A k) (by omega) (by omega) ?_
      conv => whnf
      refine spl (fun h7 => ?_) (fun h7 => ?_) <;> simp only [decide_eq_true_eq, decide_eq_false_iff_not, Bool.not_eq_true', Bool.not_eq_false', gt_iff_lt, ge_iff_le] at h7
      · conv => whnf
        refine ⟨(by (try simp only [true_and, and_true, Nat.sub_zero, Nat.zero_add, Int.toNat_natCast]) <;> omega), ?_⟩
        conv => whnf
        refine sumu64 (digit B k) rfl (by omega) ?_
        conv => whnf
        refine sumu64 (c + digit A k + digit B k) (by omega) (by omega) ?_
        conv => whnf
        have hstep := add_step h4 (s := c + digit A k + digit B k) (by omega)
        generalize hs : c + digit A k + digit B k = s at hstep ⊢
        refine lowu32 ?_
        conv => whnf
        refine ⟨(by (try simp only [true_and, and_true, Nat.sub_zero, Nat.zero_add, Int.toNat_natCast]) <;> omega), ?_⟩
        conv => whnf
        refine ⟨(by (try simp only [true_and, and_true, Nat.sub_zero, Nat.zero_add, Int.toNat_natCast]) <;> omega), ?_⟩
        conv => whnf
        refine ⟨(by (try simp only [true_and, and_true, Nat.sub_zero, Nat.zero_add, Int.toNat_natCast]) <;> omega), ?_⟩
        conv => whnf
        refine shr32 (by decide) ?_
        conv => whnf
        refine sumi64 (k + 1) (by omega) (by omega) ?_
        conv => whnf
        refine ⟨_, ?_, _, _, _, rfl, ?_, fun j => if j = k then s % 4294967296 else h j, s / 4294967296, k + 1, rfl, rfl, rfl, by omega, Dig_set1 h2 (Nat.mod_lt _ (by decide)), by omega, hstep⟩
        · omega
        · exact ⟨⟨rfl, rfl⟩, .set (by omega) rfl, trivial⟩
      · have hz2 : digit B k = 0 := digit_zero_of_size (by omega)
        conv => whnf
        have hstep := add_step h4 (s := c + digit A k) (by omega)
        generalize hs : c + digit A k = s at hstep ⊢
        refine lowu32 ?_
        conv => whnf
        refine ⟨(by (try simp only [true_and, and_true, Nat.sub_zero, Nat.zero_add, Int.toNat_natCast]) <;> omega), ?_⟩
        conv => whnf
        refine ⟨(by (try simp only [true_and, and_true, Nat.sub_zero, Nat.zero_add, Int.toNat_natCast]) <;> omega), ?_⟩
        conv => whnf
        refine ⟨(by (try simp only [true_and, and_true, Nat.sub_zero, Nat.zero_add, Int.toNat_natCast]) <;> omega), ?_⟩
        conv => whnf
        refine shr32 (by decide) ?_
        conv => whnf
        refine sumi64 (k + 1) (by omega) (by omega) ?_
        conv => whnf
        refine ⟨_, ?_, _, _, _, rfl, ?_, fun j => if j = k then s % 4294967296 else h j, s / 4294967296, k + 1, rfl, rfl, rfl, by omega, Dig_set1 h2 (Nat.mod_lt _ (by decide)), by omega, hstep⟩
        · omega
        · exact ⟨⟨rfl, rfl⟩, .set (by omega) rfl, trivial⟩
    · have hz : digit A k = 0 := digit_zero_of_size (by omega)
      conv => whnf
      refine spl (fun h7 => ?_) (fun h7 => ?_) <;> simp only [decide_eq_true_eq, decide_eq_false_iff_not, Bool.not_eq_true', Bool.not_eq_false', gt_iff_lt, ge_iff_le] at h7
      · conv => whnf
        refine ⟨(by (try simp only [true_and, and_true, Nat.sub_zero, Nat.zero_add, Int.toNat_natCast]) <;> omega), ?_⟩
        conv => whnf
        refine sumu64 (digit B k) rfl (by omega) ?_
        conv => whnf
        refine sumu64 (c + digit B k) (by omega) (by omega) ?_
        conv => whnf
        have hstep := add_step h4 (s := c + digit B k) (by omega)
        generalize hs : c + digit B k = s at hstep ⊢
        refine lowu32 ?_
        conv => whnf
        refine ⟨(by (try simp only [true_and, and_true, Nat.sub_zero, Nat.zero_add, Int.toNat_natCast]) <;> omega), ?_⟩
        conv => whnf
        refine ⟨(by (try simp only [true_and, and_true, Nat.sub_zero, Nat.zero_add, Int.toNat_natCast]) <;> omega), ?_⟩
        conv => whnf
        refine ⟨(by (try simp only [true_and, and_true, Nat.sub_zero, Nat.zero_add, Int.toNat_natCast]) <;> omega), ?_⟩
        conv => whnf
        refine shr32 (by decide) ?_
        conv => whnf
        refine sumi64 (k + 1) (by omega) (by omega) ?_
        conv => whnf
        refine ⟨_, ?_, _, _, _, rfl, ?_, fun j => if j = k then s % 4294967296 else h j, s / 4294967296, k + 1, rfl, rfl, rfl, by omega, Dig_set1 h2 (Nat.mod_lt _ (by decide)), by omega, hstep⟩
        · omega
        · exact ⟨⟨rfl, rfl⟩, .set (by omega) rfl, trivial⟩
      · have hz2 : digit B k = 0 := digit_zero_of_size (by omega)
        conv => whnf
        have hstep := add_step h4 (s := c) (by omega)
        generalize hs : c = s at hstep ⊢
        refine lowu32 ?_
        conv => whnf
        refine ⟨(by (try simp only [true_and, and_true, Nat.sub_zero, Nat.zero_add, Int.toNat_natCast]) <;> omega), ?_⟩
        conv => whnf
        refine ⟨(by (try simp only [true_and, and_true, Nat.sub_zero, Nat.zero_add, Int.toNat_natCast]) <;> omega), ?_⟩
        conv => whnf
        refine ⟨(by (try simp only [true_and, and_true, Nat.sub_zero, Nat.zero_add, Int.toNat_natCast]) <;> omega), ?_⟩
        conv => whnf
        refine shr32 (by decide) ?_
        conv => whnf
        refine sumi64 (k + 1) (by omega) (by omega) ?_
        conv => whnf
        refine ⟨_, ?_, _, _, _, rfl, ?_, fun j => if j = k then s % 4294967296 else h j, s / 4294967296, k + 1, rfl, rfl, rfl, by omega, Dig_set1 h2 (Nat.mod_lt _ (by decide)), by omega, hstep⟩
        · omega
        · exact ⟨⟨rfl, rfl⟩, .set (by omega) rfl, trivial⟩
  · have hk : k = max n m + 1 := by omega
    subst hk
    conv => whnf
    exact ⟨_, _, _, rfl, .refl _, rfl, h, rfl, rfl, h2, add_end hA hB h2 h4⟩

theorem refAdd_ok (g h : Nat → Nat) (n m : Nat) (hg : Dig g n) (hh : Dig h m) (hn : n < 4398046511104) (hm : m < 4398046511104) :
    ACall Try.prog 27 [raw g n, raw h m] (nat (nval g n + nval h m)) :=
  (refAdd_aux _ _ n m (size_nval hg) (size_nval hh) hn hm).args ⟨raw_le hg, raw_le hh, trivial⟩
end Go.Abs

/- The reference's natural numbers: Sub, Mul. -/
set_option autoImplicit false
set_option maxHeartbeats 4000000
set_option linter.unusedVariables false
set_option linter.unusedSimpArgs false
namespace Go.Abs
open Go Go.Proofs

theorem sub_stepg {h : Nat → Nat} {A B c k r q : Nat} (e : nval h k + B % pw k = A % pw k + c * pw k) (hr : r + digit B k + c = digit A k + q * 4294967296) :
    nval (fun j => if j = k then r else h j) (k + 1) + B % pw (k + 1) = A % pw (k + 1) + q * pw (k + 1) := by
  rw [nval_set, mod_step, mod_step, pw_succ]
  grind


theorem refSub_ok (g h : Nat → Nat) (n m : Nat) (hg : Dig g n) (hh : Dig h m) (hn : n ≤ 4398046511104) (hm : m ≤ 4398046511104) :
    ACall Try.prog 25 [raw g n, raw h m] (if nval g n < nval h m then .tup [nat 0, .f (.bool false)] else .tup [nat (nval g n - nval h m), .f (.bool true)]) := by
  have hA := size_nval hg
  have hB := size_nval hh
  have va := refTrim_ok g n hg hn
  have vb := refTrim_ok h m hh hm
  have hc := refCompare_ok g h n m hg hh hn hm
  generalize nval g n = A at hA va hc ⊢
  generalize nval h m = B at hB vb hc ⊢
  refine acall_rule env [0, 1, 4, 5, 6, 7, 8, 9, 10, 14, 25, 32, 47] Try.func25 rfl rfl rfl rfl ?_
  conv => whnf
  refine callF hc ⟨.refl _, .refl _, trivial⟩ (by trivial) rfl ?_
  conv => whnf
  refine spl (fun h1 => ?_) (fun h1 => ?_) <;> simp only [decide_eq_true_eq, decide_eq_false_iff_not, Bool.not_eq_true', Bool.not_eq_false', gt_iff_lt, ge_iff_le] at h1
  · rw [if_pos (cmp_lt.1 h1)]
    conv => whnf
    refine ⟨(by (try simp only [true_and, and_true, Nat.sub_zero, Nat.zero_add, Int.toNat_natCast]) <;> omega), ?_⟩
    exact .tup ⟨.nil_nat, .refl _, trivial⟩
  have hle : B ≤ A := by have := mt cmp_lt.2 h1; omega
  have hsz := size_mono hle
  rw [if_neg (by omega)]
  conv => whnf
  refine callF va ⟨.refl _, trivial⟩ (by trivial) rfl ?_
  conv => whnf
  refine callF vb ⟨.refl _, trivial⟩ (by trivial) rfl ?_
  conv => whnf
  refine ⟨(by (try simp only [true_and, and_true, Nat.sub_zero, Nat.zero_add, Int.toNat_natCast]) <;> omega), ?_⟩
  conv => whnf
  refine loop_mod [0, 1, 6, 7, 8] [21] [6] [21]
    (fun μ fr hp => ∃ (h : Nat → Nat) (c k : Nat), fr = [(0, nat A), (1, nat B), (6, .lsl 21 1 1 0 (size A) (some (size A))), (7, .f (.int .u64 c)), (8, .f (.int .i64 k))] ∧ hp = [(21, 1, .fa 1 (size A) (fun j => [.int .u32 (h j : Nat)]))] ∧ μ = size A - k ∧
      k ≤ size A ∧ Dig h k ∧ c < 2 ∧ nval h k + B % pw k = A % pw k + c * pw k)
    (fun e fr hp => e = .exit 0 ∧ ∃ h : Nat → Nat, fr = [(6, .lsl 21 1 1 0 (size A) (some (size A)))] ∧ hp = [(21, 1, .fa 1 (size A) (fun j => [.int .u32 (h j : Nat)]))] ∧ Dig h (size A) ∧ nval h (size A) = A - B)
    ⟨_, _, _, _, rfl, .refl _, fun _ => 0, 0, 0, rfl, rfl, rfl, Nat.zero_le _, fun j hj => absurd hj (by simp), by simp, by simp [pw_zero, Nat.mod_one, nval_zero]⟩ ?_ ?_
  · rintro _ _ _ ⟨rfl, h, rfl, rfl, h2, h4⟩
    have hv := refTrim_ok _ _ h2 (by omega)
    rw [h4] at hv
    conv => whnf
    refine callF hv ⟨.raw_refl, trivial⟩ (by (try simp only [true_and, and_true, Nat.sub_zero, Nat.zero_add, Int.toNat_natCast]) <;> omega) rfl ?_
    conv => whnf
    refine ⟨(by (try simp only [true_and, and_true, Nat.sub_zero, Nat.zero_add, Int.toNat_natCast]) <;> omega), ?_⟩
    exact .refl _
  rintro _ _ _ ⟨h, c, k, rfl, rfl, rfl, h1, h2, h3, h4⟩
  have hd := digit_lt A k
  have hd2 := digit_lt B k
  conv => whnf
  refine spl (fun h5 => ?_) (fun h5 => ?_) <;> simp only [decide_eq_true_eq, decide_eq_false_iff_not, Bool.not_eq_true', Bool.not_eq_false', gt_iff_lt, ge_iff_le] at h5
  · conv => whnf
    refine spl (fun h6 => ?_) (fun h6 => ?_) <;> simp only [decide_eq_true_eq, decide_eq_false_iff_not, Bool.not_eq_true', Bool.not_eq_false', gt_iff_lt, ge_iff_le] at h6
    · conv => whnf
      refine ⟨(by (try simp only [true_and, and_true, Nat.sub_zero, Nat.zero_add, Int.toNat_natCast]) <;> omega), ?_⟩
      conv => whnf
      refine sumu64 (digit B k) rfl (by omega) ?_
      conv => whnf
      refine sumu64 (c + digit B k) (by omega) (by omega) ?_
      conv => whnf
      refine ⟨(by (try simp only [true_and, and_true, Nat.sub_zero, Nat.zero_add, Int.toNat_natCast]) <;> omega), ?_⟩
      conv => whnf
      refine sumu64 (digit A k) rfl (by omega) ?_
      conv => whnf
      refine spl (fun h7 => ?_) (fun h7 => ?_) <;> simp only [decide_eq_true_eq, decide_eq_false_iff_not, Bool.not_eq_true', Bool.not_eq_false', gt_iff_lt, ge_iff_le] at h7
      · replace h7 : ((digit A k : Nat) : Int) < ((c + digit B k : Nat) : Int) := h7
        conv => whnf
        refine sumu64 (digit A k + 4294967296) (by omega) (by omega) ?_
        conv => whnf
        have hstep := sub_stepg h4 (r := (digit A k + 4294967296 - (c + digit B k)) % 4294967296) (q := 1) (by omega)
        have hlt : (digit A k + 4294967296 - (c + digit B k)) % 4294967296 < 4294967296 := Nat.mod_lt _ (by decide)
        refine sumu64 (digit A k + 4294967296 - (c + digit B k)) (by omega) (by omega) ?_
        conv => whnf
        refine lowu32 ?_
        conv => whnf
        refine ⟨(by (try simp only [true_and, and_true, Nat.sub_zero, Nat.zero_add, Int.toNat_natCast]) <;> omega), ?_⟩
        conv => whnf
        refine ⟨(by (try simp only [true_and, and_true, Nat.sub_zero, Nat.zero_add, Int.toNat_natCast]) <;> omega), ?_⟩
        conv => whnf
        refine sumi64 (k + 1) (by omega) (by omega) ?_
        conv => whnf
        refine ⟨_, ?_, _, _, _, rfl, ?_, fun j => if j = k then (digit A k + 4294967296 - (c + digit B k)) % 4294967296 else h j, 1, k + 1, rfl, rfl, rfl, by omega, Dig_set1 h2 hlt, by omega, hstep⟩
        · omega
        · exact ⟨⟨rfl, rfl⟩, .set (by omega) rfl, trivial⟩
      · replace h7 : ¬ ((digit A k : Nat) : Int) < ((c + digit B k : Nat) : Int) := h7
        conv => whnf
        have hstep := sub_stepg h4 (r := (digit A k - (c + digit B k)) % 4294967296) (q := 0) (by omega)
        have hlt : (digit A k - (c + digit B k)) % 4294967296 < 4294967296 := Nat.mod_lt _ (by decide)
        refine sumu64 (digit A k - (c + digit B k)) (by omega) (by omega) ?_
        conv => whnf
        refine lowu32 ?_
        conv => whnf
        refine ⟨(by (try simp only [true_and, and_true, Nat.sub_zero, Nat.zero_add, Int.toNat_natCast]) <;> omega), ?_⟩
        conv => whnf
        refine ⟨(by (try simp only [true_and, and_true, Nat.sub_zero, Nat.zero_add, Int.toNat_natCast]) <;> omega), ?_⟩
        conv => whnf
        refine sumi64 (k + 1) (by omega) (by omega) ?_
        conv => whnf
        refine ⟨_, ?_, _, _, _, rfl, ?_, fun j => if j = k then (digit A k - (c + digit B k)) % 4294967296 else h j, 0, k + 1, rfl, rfl, rfl, by omega, Dig_set1 h2 hlt, by omega, hstep⟩
        · omega
        · exact ⟨⟨rfl, rfl⟩, .set (by omega) rfl, trivial⟩
    · have hz : digit B k = 0 := digit_zero_of_size (by omega)
      conv => whnf
      refine ⟨(by (try simp only [true_and, and_true, Nat.sub_zero, Nat.zero_add, Int.toNat_natCast]) <;> omega), ?_⟩
      conv => whnf
      refine sumu64 (digit A k) rfl (by omega) ?_
      conv => whnf
      refine spl (fun h7 => ?_) (fun h7 => ?_) <;> simp only [decide_eq_true_eq, decide_eq_false_iff_not, Bool.not_eq_true', Bool.not_eq_false', gt_iff_lt, ge_iff_le] at h7
      · replace h7 : ((digit A k : Nat) : Int) < ((c : Nat) : Int) := h7
        conv => whnf
        refine sumu64 (digit A k + 4294967296) (by omega) (by omega) ?_
        conv => whnf
        have hstep := sub_stepg h4 (r := (digit A k + 4294967296 - (c)) % 4294967296) (q := 1) (by omega)
        have hlt : (digit A k + 4294967296 - (c)) % 4294967296 < 4294967296 := Nat.mod_lt _ (by decide)
        refine sumu64 (digit A k + 4294967296 - (c)) (by omega) (by omega) ?_
        conv => whnf
        refine lowu32 ?_
        conv => whnf
        refine ⟨(by (try simp only [true_and, and_true, Nat.sub_zero, Nat.zero_add, Int.toNat_natCast]) <;> omega), ?_⟩
        conv => whnf
        refine ⟨(by (try simp only [true_and, and_true, Nat.sub_zero, Nat.zero_add, Int.toNat_natCast]) <;> omega), ?_⟩
        conv => whnf
        refine sumi64 (k + 1) (by omega) (by omega) ?_
        conv => whnf
        refine ⟨_, ?_, _, _, _, rfl, ?_, fun j => if j = k then (digit A k + 4294967296 - (c)) % 4294967296 else h j, 1, k + 1, rfl, rfl, rfl, by omega, Dig_set1 h2 hlt, by omega, hstep⟩
        · omega
        · exact ⟨⟨rfl, rfl⟩, .set (by omega) rfl, trivial⟩
      · replace h7 : ¬ ((digit A k : Nat) : Int) < ((c : Nat) : Int) := h7
        conv => whnf
        have hstep := sub_stepg h4 (r := (digit A k - (c)) % 4294967296) (q := 0) (by omega)
        have hlt : (digit A k - (c)) % 4294967296 < 4294967296 := Nat.mod_lt _ (by decide)
        refine sumu64 (digit A k - (c)) (by omega) (by omega) ?_
        conv => whnf
        refine lowu32 ?_
        conv => whnf
        refine ⟨(by (try simp only [true_and, and_true, Nat.sub_zero, Nat.zero_add, Int.toNat_natCast]) <;> omega), ?_⟩
        conv => whnf
        refine ⟨(by (try simp only [true_and, and_true, Nat.sub_zero, Nat.zero_add, Int.toNat_natCast]) <;> omega), ?_⟩
        conv => whnf
        refine sumi64 (k + 1) (by omega) (by omega) ?_
        conv => whnf
        refine ⟨_, ?_, _, _, _, rfl, ?_, fun j => if j = k then (digit A k - (c)) % 4294967296 else h j, 0, k + 1, rfl, rfl, rfl, by omega, Dig_set1 h2 hlt, by omega, hstep⟩
        · omega
        · exact ⟨⟨rfl, rfl⟩, .set (by omega) rfl, trivial⟩
  · have hk : k = size A := by omega
    subst hk
    rw [mod_size (Nat.le_refl _), mod_size hsz] at h4
    conv => whnf
    exact ⟨_, _, _, rfl, .refl _, rfl, h, rfl, rfl, h2, sub_end h2 h4 h3 hle⟩
end Go.Abs

/- The reference's natural numbers: Mul. -/
set_option autoImplicit false
set_option maxHeartbeats 4000000
set_option linter.unusedVariables false
set_option linter.unusedSimpArgs false
namespace Go.Abs
open Go Go.Proofs

theorem mul_zero_at2 {h : Nat → Nat} {A B i m N : Nat} (hB : size B ≤ m) (hd : Dig h N) (e : nval h N = A % pw i * B) (hi : i + m < N) : h (i + m) = 0 := by
  have h1 := digit_nval hd (i + m)
  rw [if_pos hi, e] at h1
  rw [← h1]
  apply digit_zero_of_size
  apply size_le
  rw [pw_add]
  have h2 : A % pw i < pw i := Nat.mod_lt _ (pw_pos i)
  have h3 := Nat.lt_of_lt_of_le (lt_pw_size B) (pw_le hB)
  exact Nat.lt_of_le_of_lt (Nat.mul_le_mul_left _ (Nat.le_of_lt h3)) (Nat.mul_lt_mul_of_pos_right h2 (pw_pos _))
theorem mul_outer2 {h : Nat → Nat} {A B c i m N : Nat} (hB : size B ≤ m) (hi : i + m < N) (hz : h (i + m) = 0) (e : nval h N + c * pw (i + m) = A % pw i * B + digit A i * (B % pw m) * pw i) :
    nval (fun j => if j = i + m then c else h j) N = A % pw (i + 1) * B := by
  have h1 := nval_setg h (i + m) c N hi
  rw [mod_step]
  rw [mod_size hB] at e
  rw [hz] at h1
  grind

theorem refMul_aux (A B n m : Nat) (hA : size A ≤ n) (hB : size B ≤ m) (hn : n + m ≤ 4398046511104) :
    ACall Try.prog 31 [raw (digit A) n, raw (digit B) m] (nat (A * B)) := by
  refine acall_rule env [0, 1, 4, 5, 6, 7, 8, 18, 24] Try.func31 rfl rfl rfl rfl ?_
  conv => whnf
  refine sumi64 (n + m) (by omega) (by omega) ?_
  conv => whnf
  refine ⟨(by (try simp only [true_and, and_true, Nat.sub_zero, Nat.zero_add, Int.toNat_natCast]) <;> omega), ?_⟩
  conv => whnf
  refine loop_mod [0, 1, 5, 6] [14] [5] [14]
    (fun μ fr hp => ∃ (h : Nat → Nat) (i : Nat), fr = [(0, raw (digit A) n), (1, raw (digit B) m), (5, .lsl 14 1 1 0 (n + m) (some (n + m))), (6, .f (.int .i64 i))] ∧ hp = [(14, 1, .fa 1 (n + m) (fun j => [.int .u32 (h j : Nat)]))] ∧ μ = n - i ∧ i ≤ n ∧ Dig h (n + m) ∧ nval h (n + m) = A % pw i * B)
    (fun e fr hp => e = .exit 0 ∧ ∃ h : Nat → Nat, fr = [(5, .lsl 14 1 1 0 (n + m) (some (n + m)))] ∧ hp = [(14, 1, .fa 1 (n + m) (fun j => [.int .u32 (h j : Nat)]))] ∧ Dig h (n + m) ∧ nval h (n + m) = A * B)
    ⟨_, _, _, _, rfl, .refl _, fun _ => 0, 0, rfl, rfl, rfl, Nat.zero_le _, fun j hj => by simp, ?_⟩ ?_ ?_
  · have : ∀ n, nval (fun _ => 0) n = 0 := fun n => by induction n with | zero => rfl | succ n ih => rw [nval_succ, ih, Nat.zero_mul]
    simp [pw_zero, Nat.mod_one, this]
  · rintro _ _ _ ⟨rfl, h, rfl, rfl, g2, g3⟩
    have hv := refTrim_ok _ (n + m) g2 (by omega)
    rw [g3] at hv
    conv => whnf
    refine callF hv ⟨.raw_refl, trivial⟩ (by (try simp only [true_and, and_true, Nat.sub_zero, Nat.zero_add, Int.toNat_natCast]) <;> omega) rfl ?_
    conv => whnf
    refine ⟨(by (try simp only [true_and, and_true, Nat.sub_zero, Nat.zero_add, Int.toNat_natCast]) <;> omega), ?_⟩
    exact .refl _
  rintro _ _ _ ⟨h, i, rfl, rfl, rfl, g1, g2, g3⟩
  conv => whnf
  refine spl (fun h3 => ?_) (fun h3 => ?_) <;> simp only [decide_eq_true_eq, decide_eq_false_iff_not, Bool.not_eq_true', Bool.not_eq_false', gt_iff_lt, ge_iff_le] at h3
  · have hx := digit_lt A i
    have hz := mul_zero_at2 hB g2 g3 (by omega)
    conv => whnf
    refine loop_mod [0, 1, 5, 6, 7, 8] [14] [0, 1, 5, 6, 7] [14]
      (fun μ fr hp => ∃ (f : Nat → Nat) (c k : Nat), fr = [(0, raw (digit A) n), (1, raw (digit B) m), (5, .lsl 14 1 1 0 (n + m) (some (n + m))), (6, .f (.int .i64 i)), (7, .f (.int .u64 c)), (8, .f (.int .i64 k))] ∧ hp = [(14, 1, .fa 1 (n + m) (fun j => [.int .u32 (f j : Nat)]))] ∧
        μ = m - k ∧ k ≤ m ∧ Dig f (n + m) ∧ c < 4294967296 ∧ f (i + m) = 0 ∧ nval f (n + m) + c * pw (i + k) = A % pw i * B + digit A i * (B % pw k) * pw i)
      (fun e fr hp => e = .exit 2 ∧ ∃ (f : Nat → Nat) (c : Nat), fr = [(0, raw (digit A) n), (1, raw (digit B) m), (5, .lsl 14 1 1 0 (n + m) (some (n + m))), (6, .f (.int .i64 i)), (7, .f (.int .u64 c))] ∧ hp = [(14, 1, .fa 1 (n + m) (fun j => [.int .u32 (f j : Nat)]))] ∧
        Dig f (n + m) ∧ c < 4294967296 ∧ f (i + m) = 0 ∧ nval f (n + m) + c * pw (i + m) = A % pw i * B + digit A i * (B % pw m) * pw i)
      ⟨_, _, _, _, rfl, .refl _, h, 0, 0, rfl, rfl, rfl, Nat.zero_le _, g2, by simp, hz, by simp [pw_zero, Nat.mod_one, g3]⟩ ?_ ?_
    · rintro _ _ _ ⟨rfl, f, c, rfl, rfl, f2, f3, f4, f5⟩
      have hstep := mul_outer2 (h := f) (A := A) (c := c) hB (by omega) f4 f5
      conv => whnf
      refine sumi64 (i + m) (by omega) (by omega) ?_
      conv => whnf
      refine sumu32 c rfl (by omega) ?_
      conv => whnf
      refine ⟨(by (try simp only [true_and, and_true, Nat.sub_zero, Nat.zero_add, Int.toNat_natCast]) <;> omega), ?_⟩
      conv => whnf
      refine ⟨(by (try simp only [true_and, and_true, Nat.sub_zero, Nat.zero_add, Int.toNat_natCast]) <;> omega), ?_⟩
      conv => whnf
      refine sumi64 (i + 1) (by omega) (by omega) ?_
      conv => whnf
      refine ⟨_, ?_, _, _, _, rfl, ?_, fun j => if j = i + m then c else f j, i + 1, rfl, rfl, rfl, by omega, Dig_set f2 f3, hstep⟩
      · omega
      · exact ⟨⟨rfl, rfl⟩, .set (by omega) rfl, trivial⟩
    rintro _ _ _ ⟨f, c, k, rfl, rfl, rfl, f1, f2, f3, f4, f5⟩
    conv => whnf
    refine spl (fun h4 => ?_) (fun h4 => ?_) <;> simp only [decide_eq_true_eq, decide_eq_false_iff_not, Bool.not_eq_true', Bool.not_eq_false', gt_iff_lt, ge_iff_le] at h4
    · have hy := digit_lt B k
      have hw := f2 (i + k) (by omega)
      have hb := mul_bound hx hy hw f3
      have hb2 := mul_bound2 hx hy
      conv => whnf
      refine sumi64 (i + k) (by omega) (by omega) ?_
      conv => whnf
      refine ⟨(by (try simp only [true_and, and_true, Nat.sub_zero, Nat.zero_add, Int.toNat_natCast]) <;> omega), ?_⟩
      conv => whnf
      refine ⟨(by (try simp only [true_and, and_true, Nat.sub_zero, Nat.zero_add, Int.toNat_natCast]) <;> omega), ?_⟩
      conv => whnf
      refine sumu64 (f (i + k)) (congrArg (fun t => ((f t : Nat) : Int)) (by omega)) (by omega) ?_
      conv => whnf
      refine ⟨(by (try simp only [true_and, and_true, Nat.sub_zero, Nat.zero_add, Int.toNat_natCast]) <;> omega), ?_⟩
      conv => whnf
      refine sumu64 (digit A i) rfl (by omega) ?_
      conv => whnf
      refine ⟨(by (try simp only [true_and, and_true, Nat.sub_zero, Nat.zero_add, Int.toNat_natCast]) <;> omega), ?_⟩
      conv => whnf
      refine sumu64 (digit B k) rfl (by omega) ?_
      conv => whnf
      refine sumu64 (digit A i * digit B k) (by rw [Int.natCast_mul]) (by omega) ?_
      conv => whnf
      refine sumu64 (f (i + k) + digit A i * digit B k) (by omega) (by omega) ?_
      conv => whnf
      refine sumu64 (c + (f (i + k) + digit A i * digit B k)) (by omega) (by omega) ?_
      conv => whnf
      refine ⟨by kernel_rfl, ?_⟩
      have hstep := mul_inner (h := f) (B := B) (c := c) (i := i) (k := k) (N := n + m) (x := digit A i) (by omega) f5 (s := c + (f (i + k) + digit A i * digit B k)) (by omega)
      generalize hs : c + (f (i + k) + digit A i * digit B k) = s at hstep ⊢
      conv => whnf
      refine sumi64 (i + k) (by omega) (by omega) ?_
      conv => whnf
      refine lowu32 ?_
      conv => whnf
      refine ⟨(by (try simp only [true_and, and_true, Nat.sub_zero, Nat.zero_add, Int.toNat_natCast]) <;> omega), ?_⟩
      conv => whnf
      refine ⟨(by (try simp only [true_and, and_true, Nat.sub_zero, Nat.zero_add, Int.toNat_natCast]) <;> omega), ?_⟩
      conv => whnf
      refine ⟨(by (try simp only [true_and, and_true, Nat.sub_zero, Nat.zero_add, Int.toNat_natCast]) <;> omega), ?_⟩
      conv => whnf
      refine shr32 (by decide) ?_
      conv => whnf
      refine sumi64 (k + 1) (by omega) (by omega) ?_
      conv => whnf
      refine ⟨_, ?_, _, _, _, rfl, ?_, fun j => if j = i + k then s % 4294967296 else f j, s / 4294967296, k + 1, rfl, rfl, rfl, by omega, Dig_set f2 (Nat.mod_lt _ (by decide)), by omega, (if_neg (by omega)).trans f4, hstep⟩
      · omega
      · exact ⟨⟨rfl, rfl⟩, .set (by omega) rfl, trivial⟩
    · have hk : k = m := by omega
      subst hk
      conv => whnf
      exact ⟨_, _, _, rfl, .refl _, rfl, f, c, rfl, rfl, f2, f3, f4, f5⟩
  · have hk : i = n := by omega
    subst hk
    rw [mod_size hA] at g3
    conv => whnf
    exact ⟨_, _, _, rfl, .refl _, rfl, h, rfl, rfl, g2, g3⟩

theorem refMul_ok (g h : Nat → Nat) (n m : Nat) (hg : Dig g n) (hh : Dig h m) (hn : n + m ≤ 4398046511104) :
    ACall Try.prog 31 [raw g n, raw h m] (nat (nval g n * nval h m)) :=
  (refMul_aux _ _ n m (size_nval hg) (size_nval hh) hn).args ⟨raw_le hg, raw_le hh, trivial⟩
end Go.Abs

/- The reference's natural numbers: bit, Bits, DivMod, GCD. -/
set_option autoImplicit false
set_option maxHeartbeats 4000000
set_option linter.unusedVariables false
set_option linter.unusedSimpArgs false
namespace Go.Abs
open Go Go.Proofs

theorem refbit_ok (g : Nat → Nat) (n i : Nat) (hg : Dig g n) (hi : i < 4611686018427387904) : ACall Try.prog 46 [raw g n, .f (.int .i64 i)] (.f (.int .u32 (nval g n / 2 ^ i % 2 : Nat))) := by
  have hA := nval_lt hg
  have hdg := digit_nval hg
  refine acall_rule env [0, 1, 4, 9] Try.func46 rfl rfl rfl rfl ?_
  conv => whnf
  refine ⟨(by (try simp only [true_and, and_true, Nat.sub_zero, Nat.zero_add, Int.toNat_natCast]) <;> omega), ?_⟩
  conv => whnf
  refine quoi64 (b := 32) (by omega) ?_
  conv => whnf
  refine spl (fun h1 => ?_) (fun h1 => ?_) <;> simp only [decide_eq_true_eq, decide_eq_false_iff_not, Bool.not_eq_true', Bool.not_eq_false', gt_iff_lt, ge_iff_le] at h1
  · conv => whnf
    refine ⟨(by (try simp only [true_and, and_true, Nat.sub_zero, Nat.zero_add, Int.toNat_natCast]) <;> omega), ?_⟩
    refine .int_of ?_
    rw [bit_high hA (by omega)]; rfl
  · have h2 : i / 32 < n := by omega
    have e := bit_digit (nval g n) i
    rw [hdg, if_pos h2] at e
    have hgi := hg _ h2
    conv => whnf
    refine ⟨(by (try simp only [true_and, and_true, Nat.sub_zero, Nat.zero_add, Int.toNat_natCast]) <;> omega), ?_⟩
    conv => whnf
    refine quoi64 (b := 32) (by omega) ?_
    conv => whnf
    refine ⟨(by (try simp only [true_and, and_true, Nat.sub_zero, Nat.zero_add, Int.toNat_natCast]) <;> omega), ?_⟩
    conv => whnf
    refine ⟨(by (try simp only [true_and, and_true, Nat.sub_zero, Nat.zero_add, Int.toNat_natCast]) <;> omega), ?_⟩
    conv => whnf
    refine remN (b := 32) ?_
    conv => whnf
    refine sumu64 (i % 32) rfl (by omega) ?_
    conv => whnf
    refine ⟨(by (try simp only [true_and, and_true, Nat.sub_zero, Nat.zero_add, Int.toNat_natCast]) <;> omega), ?_⟩
    conv => whnf
    refine shrN (n := i % 32) rfl (show i % 32 ≤ 32 by omega) ?_
    conv => whnf
    have hle : g (i / 32) / 2 ^ (i % 32) ≤ g (i / 32) := Nat.div_le_self _ _
    refine andN (a := g (i / 32) / 2 ^ (i % 32)) (b := 1) (g (i / 32) / 2 ^ (i % 32) % 2) rfl (show _ < 4294967296 by omega) (by decide) (Nat.and_one_is_mod _) ?_
    conv => whnf
    refine ⟨(by (try simp only [true_and, and_true, Nat.sub_zero, Nat.zero_add, Int.toNat_natCast]) <;> omega), ?_⟩
    refine .int_of ?_
    rw [e]

theorem bitlen_half {v : Nat} (h : 0 < v) : bitlen v = bitlen (v / 2) + 1 := by
  rcases Nat.lt_or_ge v 2 with h1 | h1
  · have : v = 1 := by omega
    subst this; decide
  · exact bitlen_div 1 (by omega)

theorem refBits_ok (g : Nat → Nat) (n : Nat) (hg : Dig g n) (hn : n ≤ 4398046511104) : ACall Try.prog 39 [raw g n] (.f (.int .i64 (bitlen (nval g n)))) := by
  have hA := size_nval hg
  have va := refTrim_ok g n hg hn
  generalize nval g n = A at hA va ⊢
  refine acall_rule env [0, 2, 3, 4, 9, 21] Try.func39 rfl rfl rfl rfl ?_
  conv => whnf
  refine callF va ⟨.refl _, trivial⟩ (by trivial) rfl ?_
  conv => whnf
  refine spl (fun h1 => ?_) (fun h1 => ?_) <;> simp only [decide_eq_true_eq, decide_eq_false_iff_not, Bool.not_eq_true', Bool.not_eq_false', gt_iff_lt, ge_iff_le] at h1
  · have : A = 0 := size_eq_zero.1 (by omega)
    subst this
    conv => whnf
    refine ⟨(by (try simp only [true_and, and_true, Nat.sub_zero, Nat.zero_add, Int.toNat_natCast]) <;> omega), ?_⟩
    exact .refl _
  obtain ⟨k, hk⟩ : ∃ k, size A = k + 1 := ⟨size A - 1, by omega⟩
  have hb := bitlen_size hk
  have hd := digit_lt A k
  have hle := bitlen_le (N := digit A k) (k := 32) hd
  conv => whnf
  refine sumi64 k (by omega) (by omega) ?_
  conv => whnf
  refine sumi64 (32 * k) (by omega) (by omega) ?_
  conv => whnf
  refine sumi64 k (by omega) (by omega) ?_
  conv => whnf
  refine ⟨(by (try simp only [true_and, and_true, Nat.sub_zero, Nat.zero_add, Int.toNat_natCast]) <;> omega), ?_⟩
  conv => whnf
  refine loop_rule2 [3, 4] [] (fun s : Nat × Nat => ([(3, .f (.int .i64 (s.1 : Nat))), (4, .f (.int .u32 (s.2 : Nat)))], [])) (fun s => s.1 + bitlen s.2 = bitlen A ∧ s.2 < 4294967296) (fun s => s.2) (32 * k, digit A k) ⟨_, rfl, .refl _⟩ ⟨hb.symm, hd⟩ ?_
  rintro ⟨c, v⟩ ⟨i1, i2⟩
  simp only at i1 i2 ⊢
  conv => whnf
  refine spl (fun h2 => ?_) (fun h2 => ?_) <;> simp only [decide_eq_true_eq, decide_eq_false_iff_not, Bool.not_eq_true', Bool.not_eq_false', gt_iff_lt, ge_iff_le] at h2
  · have hh := bitlen_half (v := v) (by omega)
    have hv2 := bitlen_le (N := v) (k := 32) i2
    conv => whnf
    refine sumi64 (c + 1) (by omega) (by omega) ?_
    conv => whnf
    refine ⟨(by (try simp only [true_and, and_true, Nat.sub_zero, Nat.zero_add, Int.toNat_natCast]) <;> omega), ?_⟩
    conv => whnf
    refine shrN (n := 1) rfl (by decide) ?_
    conv => whnf
    exact ⟨(c + 1, v / 2 ^ 1), _, rfl, .refl _, ⟨by simp only [Nat.pow_one]; omega, by simp only [Nat.pow_one]; omega⟩, by simp only [Nat.pow_one]; omega⟩
  · have : v = 0 := by omega
    subst this
    conv => whnf
    refine ⟨(by (try simp only [true_and, and_true, Nat.sub_zero, Nat.zero_add, Int.toNat_natCast]) <;> omega), ?_⟩
    refine .int_of ?_
    have : bitlen 0 = 0 := rfl
    omega
end Go.Abs

/- awake, and Equal of canonical lists. -/
set_option autoImplicit false
set_option maxHeartbeats 4000000
set_option linter.unusedVariables false
set_option linter.unusedSimpArgs false
namespace Go.Abs
open Go Go.Proofs

def lim (l : List Nat) (j : Nat) : Nat := l.getD j 0

theorem refEqual_nn (A B : Nat) (h : size A ≤ 4398046511104) : ACall Try.prog 18 [nat A, nat B] (.f (.bool (decide (A = B)))) := by
  have := refEqual_ok (digit A) (digit B) (size A) (size B) (digit_Dig _ _) (digit_Dig _ _) h
  rw [nval_digit_size, nval_digit_size] at this
  refine this.res (.bool_of ?_)
  by_cases e : A = B
  · subst e; simp
  · simp [e]
theorem refEqual_same (A : Nat) (h : size A ≤ 4398046511104) : ACall Try.prog 18 [nat A, nat A] (.f (.bool true)) := by
  have := refEqual_nn A A h
  rwa [decide_eq_true rfl] at this
theorem refEqual_lit (N n : Nat) (l : List Nat) (hs : size N = n) (hg : Dig (lim l) n) (e : nval (lim l) n = N) (h : n ≤ 4398046511104) : ACall Try.prog 18 [nat N, raw (lim l) n] (.f (.bool true)) := by
  have := refEqual_ok (digit N) (lim l) (size N) n (digit_Dig _ _) hg (by omega)
  rw [nval_digit_size, e, decide_eq_true ⟨hs, rfl⟩] at this
  exact this

theorem awake_ok : ACall Try.prog 17 [] (.f (.bool true)) := by
  have s1 := Sub_ok (lim [0, 1]) (lim [1, 0, 0]) 2 3 (by unfold Dig; decide) (by unfold Dig; decide) (by omega) (by omega)
  rw [show nval (lim [0, 1]) 2 = 4294967296 by decide, show nval (lim [1, 0, 0]) 3 = 1 by decide, if_neg (by decide)] at s1
  have s2 := DivMod_gen (lim [0, 0, 1]) (lim [3]) 3 1 (by unfold Dig; decide) (by unfold Dig; decide) (by omega) (by omega) (fun h => absurd (size_nval (g := lim [3]) (n := 1) (by unfold Dig; decide)) (by omega))
  rw [show nval (lim [0, 0, 1]) 3 = 18446744073709551616 by decide, show nval (lim [3]) 1 = 3 by decide, divRes, if_neg (by decide)] at s2
  have s3 := Add_ok (lim [4294967295]) (lim [1]) 1 1 (by unfold Dig; decide) (by unfold Dig; decide) (by omega) (by omega)
  rw [show nval (lim [4294967295]) 1 = 4294967295 by decide, show nval (lim [1]) 1 = 1 by decide] at s3
  have s4 := GCD_gen (lim [12]) (lim [18, 0]) 1 2 2 (by unfold Dig; decide) (by unfold Dig; decide) (by omega) (by omega) (by omega) (fun a b h1 h2 h3 => by omega)
  rw [show nval (lim [12]) 1 = 12 by decide, show nval (lim [18, 0]) 2 = 18 by decide, show Nat.gcd 12 18 = 6 by decide] at s4
  have e1 := refEqual_lit (4294967295 + 1) 2 [0, 1] (size_eq (n := 1) (by decide) (by decide)) (by unfold Dig; decide) (by decide) (by omega)
  have e2 := refEqual_lit (4294967296 - 1) 1 [4294967295] (size_eq (n := 0) (by decide) (by decide)) (by unfold Dig; decide) (by decide) (by omega)
  have e3 := refEqual_lit (18446744073709551616 / 3) 2 [1431655765, 1431655765] (size_eq (n := 1) (by decide) (by decide)) (by unfold Dig; decide) (by decide) (by omega)
  have e4 := refEqual_lit (18446744073709551616 % 3) 1 [1] (size_eq (n := 0) (by decide) (by decide)) (by unfold Dig; decide) (by decide) (by omega)
  have e5 := refEqual_lit 6 1 [6] (size_eq (n := 0) (by decide) (by decide)) (by unfold Dig; decide) (by decide) (by omega)
  refine acall_rule env [0, 1, 2, 3, 4, 5] Try.func17 rfl rfl rfl rfl ?_
  conv => whnf
  refine callF s1 ⟨(.raw_of fun j hj => match j, hj with | 0, _ => rfl | 1, _ => rfl), (.raw_of fun j hj => match j, hj with | 0, _ => rfl | 1, _ => rfl | 2, _ => rfl), trivial⟩ (by simp) rfl ?_
  conv => whnf
  refine callF s2 ⟨(.raw_of fun j hj => match j, hj with | 0, _ => rfl | 1, _ => rfl | 2, _ => rfl), (.raw_of fun j hj => match j, hj with | 0, _ => rfl), trivial⟩ (by simp) rfl ?_
  conv => whnf
  refine callF s3 ⟨(.raw_of fun j hj => match j, hj with | 0, _ => rfl), (.raw_of fun j hj => match j, hj with | 0, _ => rfl), trivial⟩ (by simp) rfl ?_
  conv => whnf
  refine callF e1 ⟨.refl _, (.raw_of fun j hj => match j, hj with | 0, _ => rfl | 1, _ => rfl), trivial⟩ (by simp) rfl ?_
  conv => whnf
  refine callF e2 ⟨.refl _, (.raw_of fun j hj => match j, hj with | 0, _ => rfl), trivial⟩ (by simp) rfl ?_
  conv => whnf
  refine callF e3 ⟨.refl _, (.raw_of fun j hj => match j, hj with | 0, _ => rfl | 1, _ => rfl), trivial⟩ (by simp) rfl ?_
  conv => whnf
  refine callF e4 ⟨.refl _, (.raw_of fun j hj => match j, hj with | 0, _ => rfl), trivial⟩ (by simp) rfl ?_
  conv => whnf
  refine callF s4 ⟨(.raw_of fun j hj => match j, hj with | 0, _ => rfl), (.raw_of fun j hj => match j, hj with | 0, _ => rfl | 1, _ => rfl), trivial⟩ (by simp) rfl ?_
  conv => whnf
  refine callF e5 ⟨.refl _, (.raw_of fun j hj => match j, hj with | 0, _ => rfl), trivial⟩ (by simp) rfl ?_
  conv => whnf
  refine ⟨(by (try simp only [true_and, and_true, Nat.sub_zero, Nat.zero_add, Int.toNat_natCast]) <;> omega), ?_⟩
  exact .refl _
end Go.Abs

/- The laws of natural numbers, as contracts: Values, Sums, Ring. -/
set_option autoImplicit false
set_option maxHeartbeats 4000000
set_option linter.unusedVariables false
set_option linter.unusedSimpArgs false
namespace Go.Abs
open Go Go.Proofs


theorem nat_call {f : FuncId} {A : Nat} {r : AV} (h : ∀ (g : Nat → Nat) (n : Nat), Dig g n → size (nval g n) = n → n = size A → nval g n = A → ACall Try.prog f [raw g n] r) : ACall Try.prog f [nat A] r :=
  h (digit A) (size A) (digit_Dig _ _) (by rw [nval_digit_size]) rfl (nval_digit_size A)

theorem NaturalValues_ok (g h : Nat → Nat) (n m v : Nat) (hg : Dig g n) (hh : Dig h m) (hn : n ≤ 1099511627776) (hm : m ≤ 1099511627776) (hv : v < 18446744073709551616) :
    ACall Try.prog 3 [raw g n, raw h m, .f (.int .u64 v)] (.f (.bool true)) := by
  have hA := size_nval hg
  have u1 := Uint64_ok g n hg (by omega)
  have u2 := refUint64_ok g n hg (by omega)
  have f1 := FromUint64_ok v hv
  have hsv : size v ≤ 2 := size_le (n := 2) hv
  have u3 := Uint64_ok (digit v) (size v) (digit_Dig _ _) (by omega)
  rw [nval_digit_size, if_pos hv] at u3
  have t1 := Trim_ok g n hg (by omega)
  have t2 := refTrim_ok g n hg (by omega)
  have e1 := refEqual_same (nval g n) (by omega)
  have f2 := refFromUint64_ok v hv
  have e2 := refEqual_same v (by omega)
  have c1 := Compare_ok g h n m hg hh (by omega) (by omega)
  have c2 := refCompare_ok g h n m hg hh (by omega) (by omega)
  by_cases hx : nval g n < 18446744073709551616
  · rw [if_pos hx] at u1 u2
    refine acall_rule env [0, 1, 2, 6, 7, 8, 9, 10, 11, 12] Try.func3 rfl rfl rfl rfl ?_
    conv => whnf
    refine callF u1 ⟨.refl _, trivial⟩ (by trivial) rfl ?_
    conv => whnf
    refine callF u2 ⟨.refl _, trivial⟩ (by trivial) rfl ?_
    conv => whnf
    refine callF f1 ⟨.refl _, trivial⟩ (by trivial) rfl ?_
    conv => whnf
    refine callF u3 ⟨.refl _, trivial⟩ (by trivial) rfl ?_
    conv => whnf
    refine callF awake_ok trivial (by trivial) rfl ?_
    conv => whnf
    refine callF t1 ⟨.refl _, trivial⟩ (by trivial) rfl ?_
    conv => whnf
    refine callF t2 ⟨.refl _, trivial⟩ (by trivial) rfl ?_
    conv => whnf
    refine callF e1 ⟨.refl _, .refl _, trivial⟩ (by trivial) rfl ?_
    conv => whnf
    refine callF f1 ⟨.refl _, trivial⟩ (by trivial) rfl ?_
    conv => whnf
    refine callF f2 ⟨.refl _, trivial⟩ (by trivial) rfl ?_
    conv => whnf
    refine callF e2 ⟨.refl _, .refl _, trivial⟩ (by trivial) rfl ?_
    conv => whnf
    refine splT (by simp) ?_
    conv => whnf
    refine splT (by simp) ?_
    conv => whnf
    refine callF c1 ⟨.refl _, .refl _, trivial⟩ (by trivial) rfl ?_
    conv => whnf
    refine callF c2 ⟨.refl _, .refl _, trivial⟩ (by trivial) rfl ?_
    conv => whnf
    refine ⟨(by (try simp only [true_and, and_true, Nat.sub_zero, Nat.zero_add, Int.toNat_natCast]) <;> omega), ?_⟩
    exact .bool_of (by simp)
  · rw [if_neg hx] at u1 u2
    refine acall_rule env [0, 1, 2, 6, 7, 8, 9, 10, 11, 12] Try.func3 rfl rfl rfl rfl ?_
    conv => whnf
    refine callF u1 ⟨.refl _, trivial⟩ (by trivial) rfl ?_
    conv => whnf
    refine callF u2 ⟨.refl _, trivial⟩ (by trivial) rfl ?_
    conv => whnf
    refine callF f1 ⟨.refl _, trivial⟩ (by trivial) rfl ?_
    conv => whnf
    refine callF u3 ⟨.refl _, trivial⟩ (by trivial) rfl ?_
    conv => whnf
    refine callF awake_ok trivial (by trivial) rfl ?_
    conv => whnf
    refine callF t1 ⟨.refl _, trivial⟩ (by trivial) rfl ?_
    conv => whnf
    refine callF t2 ⟨.refl _, trivial⟩ (by trivial) rfl ?_
    conv => whnf
    refine callF e1 ⟨.refl _, .refl _, trivial⟩ (by trivial) rfl ?_
    conv => whnf
    refine callF f1 ⟨.refl _, trivial⟩ (by trivial) rfl ?_
    conv => whnf
    refine callF f2 ⟨.refl _, trivial⟩ (by trivial) rfl ?_
    conv => whnf
    refine callF e2 ⟨.refl _, .refl _, trivial⟩ (by trivial) rfl ?_
    conv => whnf
    skip
    refine splT (by simp) ?_
    conv => whnf
    refine callF c1 ⟨.refl _, .refl _, trivial⟩ (by trivial) rfl ?_
    conv => whnf
    refine callF c2 ⟨.refl _, .refl _, trivial⟩ (by trivial) rfl ?_
    conv => whnf
    refine ⟨(by (try simp only [true_and, and_true, Nat.sub_zero, Nat.zero_add, Int.toNat_natCast]) <;> omega), ?_⟩
    exact .bool_of (by simp)

theorem NaturalSums_ok (g h : Nat → Nat) (n m : Nat) (hg : Dig g n) (hh : Dig h m) (hn : n ≤ 1099511627776) (hm : m ≤ 1099511627776) :
    ACall Try.prog 4 [raw g n, raw h m] (.f (.bool true)) := by
  have hA := size_nval hg
  have hB := size_nval hh
  have s1 := Sub_ok g h n m hg hh (by omega) (by omega)
  have s2 := refSub_ok g h n m hg hh (by omega) (by omega)
  have a1 := Add_ok g h n m hg hh (by omega) (by omega)
  have a2 := refAdd_ok g h n m hg hh (by omega) (by omega)
  have hs : size (nval g n + nval h m) ≤ max n m + 1 := by
    apply size_le
    have h1 := Nat.lt_of_lt_of_le (nval_lt hg) (pw_le (show n ≤ max n m by omega))
    have h2 := Nat.lt_of_lt_of_le (nval_lt hh) (pw_le (show m ≤ max n m by omega))
    rw [pw_succ]; omega
  have e1 := refEqual_same (nval g n + nval h m) (by omega)
  have e2 := refEqual_same (nval g n - nval h m) (Nat.le_trans (size_mono (Nat.sub_le _ _)) (by omega))
  have e3 := refEqual_same 0 (by decide)
  have c1 := refCompare_ok g h n m hg hh (by omega) (by omega)
  have hc := cmp_lt (A := nval g n) (B := nval h m)
  by_cases hx : nval g n < nval h m
  · rw [if_pos hx] at s1 s2
    refine acall_rule env [0, 1, 4, 5, 6, 7, 8] Try.func4 rfl rfl rfl rfl ?_
    conv => whnf
    refine callF s1 ⟨.refl _, .refl _, trivial⟩ (by trivial) rfl ?_
    conv => whnf
    refine callF s2 ⟨.refl _, .refl _, trivial⟩ (by trivial) rfl ?_
    conv => whnf
    refine callF awake_ok trivial (by trivial) rfl ?_
    conv => whnf
    refine callF a1 ⟨.refl _, .refl _, trivial⟩ (by trivial) rfl ?_
    conv => whnf
    refine callF a2 ⟨.refl _, .refl _, trivial⟩ (by trivial) rfl ?_
    conv => whnf
    refine callF e1 ⟨.refl _, .refl _, trivial⟩ (by trivial) rfl ?_
    conv => whnf
    refine callF e3 ⟨.refl _, .refl _, trivial⟩ (by trivial) rfl ?_
    conv => whnf
    refine callF c1 ⟨.refl _, .refl _, trivial⟩ (by trivial) rfl ?_
    conv => whnf
    refine ⟨(by (try simp only [true_and, and_true, Nat.sub_zero, Nat.zero_add, Int.toNat_natCast]) <;> omega), ?_⟩
    exact .bool_of (by rw [decide_eq_false (by have := hc.2 hx; omega)]; rfl)
  · rw [if_neg hx] at s1 s2
    refine acall_rule env [0, 1, 4, 5, 6, 7, 8] Try.func4 rfl rfl rfl rfl ?_
    conv => whnf
    refine callF s1 ⟨.refl _, .refl _, trivial⟩ (by trivial) rfl ?_
    conv => whnf
    refine callF s2 ⟨.refl _, .refl _, trivial⟩ (by trivial) rfl ?_
    conv => whnf
    refine callF awake_ok trivial (by trivial) rfl ?_
    conv => whnf
    refine callF a1 ⟨.refl _, .refl _, trivial⟩ (by trivial) rfl ?_
    conv => whnf
    refine callF a2 ⟨.refl _, .refl _, trivial⟩ (by trivial) rfl ?_
    conv => whnf
    refine callF e1 ⟨.refl _, .refl _, trivial⟩ (by trivial) rfl ?_
    conv => whnf
    refine callF e2 ⟨.refl _, .refl _, trivial⟩ (by trivial) rfl ?_
    conv => whnf
    refine callF c1 ⟨.refl _, .refl _, trivial⟩ (by trivial) rfl ?_
    conv => whnf
    refine ⟨(by (try simp only [true_and, and_true, Nat.sub_zero, Nat.zero_add, Int.toNat_natCast]) <;> omega), ?_⟩
    exact .bool_of (by rw [decide_eq_true (by have := mt hc.1 hx; omega)]; rfl)
end Go.Abs

/- The laws of natural numbers, as contracts: Ring. -/
set_option autoImplicit false
set_option maxHeartbeats 4000000
set_option linter.unusedVariables false
set_option linter.unusedSimpArgs false
namespace Go.Abs
open Go Go.Proofs

theorem size_add {A B N : Nat} (hA : size A ≤ N) (hB : size B ≤ N) : size (A + B) ≤ N + 1 := by
  apply size_le
  have h1 := Nat.lt_of_lt_of_le (lt_pw_size A) (pw_le hA)
  have h2 := Nat.lt_of_lt_of_le (lt_pw_size B) (pw_le hB)
  rw [pw_succ]; omega
theorem size_mul {A B n m : Nat} (hA : size A ≤ n) (hB : size B ≤ m) : size (A * B) ≤ n + m := by
  apply size_le
  have h1 := Nat.lt_of_lt_of_le (lt_pw_size A) (pw_le hA)
  have h2 := Nat.lt_of_lt_of_le (lt_pw_size B) (pw_le hB)
  rw [pw_add]
  exact Nat.lt_of_le_of_lt (Nat.mul_le_mul_left _ (Nat.le_of_lt h2)) (Nat.mul_lt_mul_of_pos_right h1 (pw_pos m))

theorem Add_nr (A : Nat) (h : Nat → Nat) (m : Nat) (hA : size A < 4398046511104) (hh : Dig h m) (hm : m < 4398046511104) : ACall Try.prog 26 [nat A, raw h m] (nat (A + nval h m)) := by
  have := Add_ok (digit A) h (size A) m (digit_Dig _ _) hh hA hm
  rw [nval_digit_size] at this; exact this
theorem Add_rn (B : Nat) (g : Nat → Nat) (n : Nat) (hg : Dig g n) (hn : n < 4398046511104) (hB : size B < 4398046511104) : ACall Try.prog 26 [raw g n, nat B] (nat (nval g n + B)) := by
  have := Add_ok g (digit B) n (size B) hg (digit_Dig _ _) hn hB
  rw [nval_digit_size] at this; exact this
theorem Add_nn (A B : Nat) (hA : size A < 4398046511104) (hB : size B < 4398046511104) : ACall Try.prog 26 [nat A, nat B] (nat (A + B)) := by
  have := Add_nr A (digit B) (size B) hA (digit_Dig _ _) hB
  rw [nval_digit_size] at this; exact this
theorem Mul_nr (A : Nat) (h : Nat → Nat) (m : Nat) (hh : Dig h m) (hm : size A + m ≤ 4398046511104) : ACall Try.prog 30 [nat A, raw h m] (nat (A * nval h m)) := by
  have := Mul_ok (digit A) h (size A) m (digit_Dig _ _) hh hm
  rw [nval_digit_size] at this; exact this
theorem Mul_rn (B : Nat) (g : Nat → Nat) (n : Nat) (hg : Dig g n) (hn : n + size B ≤ 4398046511104) : ACall Try.prog 30 [raw g n, nat B] (nat (nval g n * B)) := by
  have := Mul_ok g (digit B) n (size B) hg (digit_Dig _ _) hn
  rw [nval_digit_size] at this; exact this

theorem NaturalRing_ok (g h f : Nat → Nat) (n m k : Nat) (hg : Dig g n) (hh : Dig h m) (hf : Dig f k) (hn : n ≤ 1099511627776) (hm : m ≤ 1099511627776) (hk : k ≤ 1099511627776) :
    ACall Try.prog 6 [raw g n, raw h m, raw f k] (.f (.bool true)) := by
  have hA := size_nval hg
  have hB := size_nval hh
  have hC := size_nval hf
  have a1 := Add_ok g h n m hg hh (by omega) (by omega)
  have a2 := Add_ok h g m n hh hg (by omega) (by omega)
  have sab := size_add (N := 1099511627776) (Nat.le_trans hA hn) (Nat.le_trans hB hm)
  have sbc := size_add (N := 1099511627776) (Nat.le_trans hB hm) (Nat.le_trans hC hk)
  have sabc := size_add (N := 1099511627777) sab (Nat.le_trans hC (by omega))
  have mab := size_mul (Nat.le_trans hA hn) (Nat.le_trans hB hm)
  have mbc := size_mul (Nat.le_trans hB hm) (Nat.le_trans hC hk)
  have mac := size_mul (Nat.le_trans hA hn) (Nat.le_trans hC hk)
  have mabc := size_mul mab (Nat.le_trans hC hk)
  have mabc2 := size_mul (Nat.le_trans hA hn) sbc
  have e1 := refEqual_same (nval g n + nval h m) (by omega)
  have m1 := Mul_ok g h n m hg hh (by omega)
  have m2 := Mul_ok h g m n hh hg (by omega)
  have e2 := refEqual_same (nval g n * nval h m) (by omega)
  have a3 := Add_nr (nval g n + nval h m) f k (by omega) hf (by omega)
  have a4 := Add_ok h f m k hh hf (by omega) (by omega)
  have a5 := Add_rn (nval h m + nval f k) g n hg (by omega) (by omega)
  have e3 := refEqual_same (nval g n + nval h m + nval f k) (by omega)
  have m3 := Mul_nr (nval g n * nval h m) f k hf (by omega)
  have m4 := Mul_ok h f m k hh hf (by omega)
  have m5 := Mul_rn (nval h m * nval f k) g n hg (by omega)
  have e4 := refEqual_same (nval g n * nval h m * nval f k) (by omega)
  have m6 := Mul_rn (nval h m + nval f k) g n hg (by omega)
  have m7 := Mul_ok g f n k hg hf (by omega)
  have a6 := Add_nn (nval g n * nval h m) (nval g n * nval f k) (by omega) (by omega)
  have e5 := refEqual_same (nval g n * (nval h m + nval f k)) (by omega)
  rw [Nat.add_comm (nval h m) (nval g n)] at a2
  rw [Nat.mul_comm (nval h m) (nval g n)] at m2
  rw [← Nat.add_assoc] at a5
  rw [← Nat.mul_assoc] at m5
  rw [← Nat.mul_add] at a6
  refine acall_rule env [0, 1, 2, 6] Try.func6 rfl rfl rfl rfl ?_
  conv => whnf
  refine callF awake_ok trivial (by trivial) rfl ?_
  conv => whnf
  refine callF a1 ⟨.refl _, .refl _, trivial⟩ (by trivial) rfl ?_
  conv => whnf
  refine callF a2 ⟨.refl _, .refl _, trivial⟩ (by trivial) rfl ?_
  conv => whnf
  refine callF e1 ⟨.refl _, .refl _, trivial⟩ (by trivial) rfl ?_
  conv => whnf
  refine callF m1 ⟨.refl _, .refl _, trivial⟩ (by trivial) rfl ?_
  conv => whnf
  refine callF m2 ⟨.refl _, .refl _, trivial⟩ (by trivial) rfl ?_
  conv => whnf
  refine callF e2 ⟨.refl _, .refl _, trivial⟩ (by trivial) rfl ?_
  conv => whnf
  refine callF a1 ⟨.refl _, .refl _, trivial⟩ (by trivial) rfl ?_
  conv => whnf
  refine callF a3 ⟨.refl _, .refl _, trivial⟩ (by trivial) rfl ?_
  conv => whnf
  refine callF a4 ⟨.refl _, .refl _, trivial⟩ (by trivial) rfl ?_
  conv => whnf
  refine callF a5 ⟨.refl _, .refl _, trivial⟩ (by trivial) rfl ?_
  conv => whnf
  refine callF e3 ⟨.refl _, .refl _, trivial⟩ (by trivial) rfl ?_
  conv => whnf
  refine callF m1 ⟨.refl _, .refl _, trivial⟩ (by trivial) rfl ?_
  conv => whnf
  refine callF m3 ⟨.refl _, .refl _, trivial⟩ (by trivial) rfl ?_
  conv => whnf
  refine callF m4 ⟨.refl _, .refl _, trivial⟩ (by trivial) rfl ?_
  conv => whnf
  refine callF m5 ⟨.refl _, .refl _, trivial⟩ (by trivial) rfl ?_
  conv => whnf
  refine callF e4 ⟨.refl _, .refl _, trivial⟩ (by trivial) rfl ?_
  conv => whnf
  refine callF a4 ⟨.refl _, .refl _, trivial⟩ (by trivial) rfl ?_
  conv => whnf
  refine callF m6 ⟨.refl _, .refl _, trivial⟩ (by trivial) rfl ?_
  conv => whnf
  refine callF m1 ⟨.refl _, .refl _, trivial⟩ (by trivial) rfl ?_
  conv => whnf
  refine callF m7 ⟨.refl _, .refl _, trivial⟩ (by trivial) rfl ?_
  conv => whnf
  refine callF a6 ⟨.refl _, .refl _, trivial⟩ (by trivial) rfl ?_
  conv => whnf
  refine callF e5 ⟨.refl _, .refl _, trivial⟩ (by trivial) rfl ?_
  conv => whnf
  refine ⟨(by (try simp only [true_and, and_true, Nat.sub_zero, Nat.zero_add, Int.toNat_natCast]) <;> omega), ?_⟩
  exact .refl _
end Go.Abs

/- The reference's natural numbers: DivMod, GCD. -/
set_option autoImplicit false
set_option maxHeartbeats 4000000
set_option linter.unusedVariables false
set_option linter.unusedSimpArgs false
namespace Go.Abs
open Go Go.Proofs

theorem refAdd_nn (A B : Nat) (hA : size A < 4398046511104) (hB : size B < 4398046511104) : ACall Try.prog 27 [nat A, nat B] (nat (A + B)) := by
  have := refAdd_ok (digit A) (digit B) (size A) (size B) (digit_Dig _ _) (digit_Dig _ _) hA hB
  rw [nval_digit_size, nval_digit_size] at this; exact this
theorem refSub_nn (A B : Nat) (hA : size A ≤ 4398046511104) (hB : size B ≤ 4398046511104) : ACall Try.prog 25 [nat A, nat B] (if A < B then .tup [nat 0, .f (.bool false)] else .tup [nat (A - B), .f (.bool true)]) := by
  have := refSub_ok (digit A) (digit B) (size A) (size B) (digit_Dig _ _) (digit_Dig _ _) hA hB
  rw [nval_digit_size, nval_digit_size] at this; exact this
theorem refUint64_nn (A : Nat) (hA : size A ≤ 4398046511104) : ACall Try.prog 15 [nat A] (if A < 18446744073709551616 then .tup [.f (.int .u64 A), .f (.bool true)] else .tup [.f (.int .u64 0), .f (.bool false)]) := by
  have := refUint64_ok (digit A) (size A) (digit_Dig _ _) hA
  rw [nval_digit_size] at this; exact this
theorem refTrim_nn (A : Nat) (hA : size A ≤ 4398046511104) : ACall Try.prog 20 [nat A] (nat A) := by
  have := refTrim_ok (digit A) (size A) (digit_Dig _ _) hA
  rw [nval_digit_size] at this; exact this
theorem size_two {A : Nat} (h : A < 18446744073709551616) : size A ≤ 2 := size_le h

theorem ALe.of_eq {x y : AV} (h : x = y) : ALe x y := h ▸ .refl _
theorem lt_two_bitlen (A : Nat) : A < 2 ^ bitlen A := by
  unfold bitlen; split
  · rename_i h; subst h; decide
  · exact Nat.lt_log2_self


theorem refDivMod_ok (g h : Nat → Nat) (n m : Nat) (hg : Dig g n) (hh : Dig h m) (hn : n ≤ 4398046511000) (hm : m ≤ 4398046511000) :
    ACall Try.prog 29 [raw g n, raw h m] (divRes (nval g n) (nval h m)) := by
  have hA := size_nval hg
  have hB := size_nval hh
  have vb := refTrim_ok h m hh (by omega)
  have ua := refUint64_ok g n hg (by omega)
  have ba := refBits_ok g n hg (by omega)
  have bit := fun i hi => refbit_ok g n i hg hi
  have hAp := nval_lt hg
  have hbl := bitlen_le (N := nval g n) (k := 32 * n) (by rw [← pw_two]; exact hAp)
  generalize nval g n = A at *
  generalize nval h m = B at *
  have ub := refUint64_nn B (by omega)
  unfold divRes
  refine acall_rule env [0, 1, 4, 5, 6, 7, 8, 9, 10, 11, 12, 13, 18, 32, 48, 57, 67] Try.func29 rfl rfl rfl rfl ?_
  conv => whnf
  refine callF vb ⟨.refl _, trivial⟩ (by trivial) rfl ?_
  conv => whnf
  refine spl (fun h1 => ?_) (fun h1 => ?_) <;> simp only [decide_eq_true_eq, decide_eq_false_iff_not, Bool.not_eq_true', Bool.not_eq_false', gt_iff_lt, ge_iff_le] at h1
  · rw [if_pos (size_eq_zero.1 (by omega))]
    conv => whnf
    refine ⟨(by (try simp only [true_and, and_true, Nat.sub_zero, Nat.zero_add, Int.toNat_natCast]) <;> omega), ?_⟩
    exact .tup ⟨.nil_nat, .nil_nat, .refl _, trivial⟩
  have hB0 : 0 < B := by
    rcases Nat.eq_zero_or_pos B with h | h
    · exact absurd (size_eq_zero.2 h) (by omega)
    · exact h
  rw [if_neg (by omega)]
  by_cases a64 : A < 18446744073709551616
  · rw [if_pos a64] at ua
    by_cases b64 : B < 18446744073709551616
    · rw [if_pos b64] at ub
      have hq : A / B ≤ A := Nat.div_le_self _ _
      have hr : A % B < B := Nat.mod_lt _ hB0
      have fq := refFromUint64_ok (A / B) (by omega)
      have fr := refFromUint64_ok (A % B) (by omega)
      conv => whnf
      refine callF ua ⟨.refl _, trivial⟩ (by trivial) rfl ?_
      conv => whnf
      refine callF ub ⟨.refl _, trivial⟩ (by trivial) rfl ?_
      conv => whnf
      refine ⟨(by (try simp only [true_and, and_true, Nat.sub_zero, Nat.zero_add, Int.toNat_natCast]) <;> omega), ?_⟩
      conv => whnf
      refine quou64 (by omega) ?_
      conv => whnf
      refine callF fq ⟨.refl _, trivial⟩ (by trivial) rfl ?_
      conv => whnf
      refine ⟨(by (try simp only [true_and, and_true, Nat.sub_zero, Nat.zero_add, Int.toNat_natCast]) <;> omega), ?_⟩
      conv => whnf
      refine remN ?_
      conv => whnf
      refine callF fr ⟨.refl _, trivial⟩ (by trivial) rfl ?_
      conv => whnf
      refine ⟨by kernel_rfl, ?_⟩
      conv => whnf
      refine ⟨(by (try simp only [true_and, and_true, Nat.sub_zero, Nat.zero_add, Int.toNat_natCast]) <;> omega), ?_⟩
      exact .refl _
    · rw [if_neg b64] at ub
      conv => whnf
      refine callF ua ⟨.refl _, trivial⟩ (by trivial) rfl ?_
      conv => whnf
      refine callF ub ⟨.refl _, trivial⟩ (by trivial) rfl ?_
      conv => whnf
      refine ⟨(by (try simp only [true_and, and_true, Nat.sub_zero, Nat.zero_add, Int.toNat_natCast]) <;> omega), ?_⟩
      conv => whnf
      refine callB ba ⟨.refl _, trivial⟩ (by trivial) rfl ?_
      conv => whnf
      refine fit64 (by omega) ?_
      conv => whnf
      refine loop_ruleF [0, 1, 4, 5, 11] [43] (fun c : Nat => ([(0, raw g n), (1, nat B), (4, .lsl 43 1 1 0 n (some n)), (5, nat (A / 2 ^ c % B)), (11, .f (.int .i64 ((c : Int) - 1)))], [(43, 1, .fa 1 n (fun k => [.int .u32 (digit (A / 2 ^ c / B * 2 ^ c) k : Nat)]))])) (fun c => c ≤ bitlen A) (fun c => c) (bitlen A)
        ⟨_, _, rfl, ⟨rfl, .refl _, rfl, .refl _, rfl, .refl _, rfl, .f ?_, rfl, .refl _, trivial⟩, ⟨⟨rfl, rfl⟩, .fa fun k hk => ?_, trivial⟩⟩ (Nat.le_refl _) ?_
      · rw [Nat.div_eq_of_lt (lt_two_bitlen A), Nat.zero_mod]; exact .nil
      · rw [Nat.div_eq_of_lt (lt_two_bitlen A), Nat.zero_div, Nat.zero_mul]
        refine .one (.int_of ?_)
        simp [digit]
      intro c hc
      conv => whnf
      refine spl (fun h3 => ?_) (fun h3 => ?_) <;> simp only [decide_eq_true_eq, decide_eq_false_iff_not, Bool.not_eq_true', Bool.not_eq_false', gt_iff_lt, ge_iff_le] at h3
      · obtain ⟨e, he⟩ : ∃ e, c = e + 1 := ⟨c - 1, by omega⟩
        subst he
        have hstep := bin_step A B e hB0
        obtain ⟨R, hR⟩ : ∃ R, A / 2 ^ (e + 1) % B = R := ⟨_, rfl⟩
        obtain ⟨Q, hQ⟩ : ∃ Q, A / 2 ^ (e + 1) / B = Q := ⟨_, rfl⟩
        obtain ⟨b, hb⟩ : ∃ b, A / 2 ^ e % 2 = b := ⟨_, rfl⟩
        have hb2 : b < 2 := by rw [← hb]; exact Nat.mod_lt _ (by decide)
        have hRB : R < B := by rw [← hR]; exact Nat.mod_lt _ hB0
        have sR : size R ≤ size B := size_mono (Nat.le_of_lt hRB)
        have sR2 : size (R + R) ≤ size B + 1 := Nat.le_trans (size_mono (show R + R ≤ B + B by omega)) (size_add (Nat.le_refl _) (Nat.le_refl _))
        have ad := refAdd_nn R R (by omega) (by omega)
        have bt := bit e (by omega)
        rw [hb] at bt
        rw [hR, hQ, hb] at hstep
        rw [hR, hQ, show ((e + 1 : Nat) : Int) - 1 = (e : Int) by omega]
        have sb := set_bit Q e
        conv => whnf
        refine callF ad ⟨.refl _, .refl _, trivial⟩ (by trivial) rfl ?_
        conv => whnf
        refine callB bt ⟨.refl _, .int_of (by omega), trivial⟩ (by trivial) rfl ?_
        conv => whnf
        refine spl (fun h4 => ?_) (fun h4 => ?_) <;> simp only [decide_eq_true_eq, decide_eq_false_iff_not, Bool.not_eq_true', Bool.not_eq_false', gt_iff_lt, ge_iff_le] at h4
        · have hb1 : b = 1 := by omega
          subst hb1
          have ad1 := refAdd_ok (digit (R + R)) (lim [1]) (size (R + R)) 1 (digit_Dig _ _) (by unfold Dig; decide) (by omega) (by omega)
          rw [nval_digit_size, show nval (lim [1]) 1 = 1 by decide] at ad1
          have sR3 : size (R + R + 1) ≤ size B + 1 := Nat.le_trans (size_mono (show R + R + 1 ≤ B + B by omega)) (size_add (Nat.le_refl _) (Nat.le_refl _))
          have su := refSub_nn (R + R + 1) B (by omega) (by omega)
          conv => whnf
          refine callF ad1 ⟨.refl _, (.raw_of fun j hj => match j, hj with | 0, _ => rfl), trivial⟩ (by simp) rfl ?_
          conv => whnf
          by_cases hlt : R + R + 1 < B
          · rw [if_pos hlt] at su
            obtain ⟨q1, q2⟩ := hstep.2 (by omega)
            conv => whnf
            refine callF su ⟨.refl _, .refl _, trivial⟩ (by trivial) rfl ?_
            conv => whnf
            refine fit64 (by omega) ?_
            conv => whnf
            refine ⟨e, _, _, rfl, ⟨rfl, .refl _, rfl, .refl _, rfl, .refl _, rfl, ALe.of_eq (congrArg nat (by rw [q1]; omega)), rfl, .refl _, trivial⟩, ⟨⟨rfl, rfl⟩, .fa fun k hk => ?_, trivial⟩, by omega, by omega⟩
            rw [q2]; exact .one (.refl _)
          · rw [if_neg hlt] at su
            obtain ⟨q1, q2⟩ := hstep.1 (by omega)
            have hd := digit_lt (Q * 2 ^ (e + 1)) (e / 32)
            have hp2 : 2 ^ (e % 32) < 4294967296 := Nat.pow_lt_pow_right (show 1 < 2 by decide) (show e % 32 < 32 by omega)
            conv => whnf
            refine callF su ⟨.refl _, .refl _, trivial⟩ (by trivial) rfl ?_
            conv => whnf
            refine ⟨(by (try simp only [true_and, and_true, Nat.sub_zero, Nat.zero_add, Int.toNat_natCast]) <;> omega), ?_⟩
            conv => whnf
            refine quoi64 (b := 32) (by omega) ?_
            conv => whnf
            refine ⟨(by (try simp only [true_and, and_true, Nat.sub_zero, Nat.zero_add, Int.toNat_natCast]) <;> omega), ?_⟩
            conv => whnf
            refine ⟨(by (try simp only [true_and, and_true, Nat.sub_zero, Nat.zero_add, Int.toNat_natCast]) <;> omega), ?_⟩
            conv => whnf
            refine ⟨(by (try simp only [true_and, and_true, Nat.sub_zero, Nat.zero_add, Int.toNat_natCast]) <;> omega), ?_⟩
            conv => whnf
            refine remN (b := 32) ?_
            conv => whnf
            refine sumu64 (e % 32) rfl (by omega) ?_
            conv => whnf
            refine ⟨(by (try simp only [true_and, and_true, Nat.sub_zero, Nat.zero_add, Int.toNat_natCast]) <;> omega), ?_⟩
            conv => whnf
            rw [show 0 + Int.toNat ((e / 32 : Nat) : Int) = e / 32 by omega]
            refine shlN32 (a := 1) (n := e % 32) (2 ^ (e % 32)) rfl (by omega) (by rw [Nat.one_mul, Nat.mod_eq_of_lt hp2]) ?_
            conv => whnf
            refine orN (a := digit (Q * 2 ^ (e + 1)) (e / 32)) (digit (Q * 2 ^ (e + 1)) (e / 32) ||| 2 ^ (e % 32)) rfl (show _ < 4294967296 from hd) (show _ < 4294967296 from hp2) rfl ?_
            conv => whnf
            refine ⟨(by (try simp only [true_and, and_true, Nat.sub_zero, Nat.zero_add, Int.toNat_natCast]) <;> omega), ?_⟩
            conv => whnf
            refine ⟨(by (try simp only [true_and, and_true, Nat.sub_zero, Nat.zero_add, Int.toNat_natCast]) <;> omega), ?_⟩
            conv => whnf
            refine fit64 (by omega) ?_
            conv => whnf
            refine ⟨e, _, _, rfl, ⟨rfl, .refl _, rfl, .refl _, rfl, .refl _, rfl, ALe.of_eq (congrArg nat (by rw [q1]; omega)), rfl, .refl _, trivial⟩, ⟨⟨rfl, rfl⟩, .fa fun k hk => ?_, trivial⟩, by omega, by omega⟩
            rw [q2, upd_set (fun k => digit (Q * 2 ^ (e + 1)) k) _ _ _ rfl, sb k]
            refine .one (.int_of ?_)
            simp only [Nat.zero_add, Int.toNat_natCast]
        · have hb0 : b = 0 := by omega
          subst hb0
          have su := refSub_nn (R + R) B (by omega) (by omega)
          conv => whnf
          by_cases hlt : R + R < B
          · rw [if_pos hlt] at su
            obtain ⟨q1, q2⟩ := hstep.2 (by omega)
            conv => whnf
            refine callF su ⟨.refl _, .refl _, trivial⟩ (by trivial) rfl ?_
            conv => whnf
            refine fit64 (by omega) ?_
            conv => whnf
            refine ⟨e, _, _, rfl, ⟨rfl, .refl _, rfl, .refl _, rfl, .refl _, rfl, ALe.of_eq (congrArg nat (by rw [q1]; omega)), rfl, .refl _, trivial⟩, ⟨⟨rfl, rfl⟩, .fa fun k hk => ?_, trivial⟩, by omega, by omega⟩
            rw [q2]; exact .one (.refl _)
          · rw [if_neg hlt] at su
            obtain ⟨q1, q2⟩ := hstep.1 (by omega)
            have hd := digit_lt (Q * 2 ^ (e + 1)) (e / 32)
            have hp2 : 2 ^ (e % 32) < 4294967296 := Nat.pow_lt_pow_right (show 1 < 2 by decide) (show e % 32 < 32 by omega)
            conv => whnf
            refine callF su ⟨.refl _, .refl _, trivial⟩ (by trivial) rfl ?_
            conv => whnf
            refine ⟨(by (try simp only [true_and, and_true, Nat.sub_zero, Nat.zero_add, Int.toNat_natCast]) <;> omega), ?_⟩
            conv => whnf
            refine quoi64 (b := 32) (by omega) ?_
            conv => whnf
            refine ⟨(by (try simp only [true_and, and_true, Nat.sub_zero, Nat.zero_add, Int.toNat_natCast]) <;> omega), ?_⟩
            conv => whnf
            refine ⟨(by (try simp only [true_and, and_true, Nat.sub_zero, Nat.zero_add, Int.toNat_natCast]) <;> omega), ?_⟩
            conv => whnf
            refine ⟨(by (try simp only [true_and, and_true, Nat.sub_zero, Nat.zero_add, Int.toNat_natCast]) <;> omega), ?_⟩
            conv => whnf
            refine remN (b := 32) ?_
            conv => whnf
            refine sumu64 (e % 32) rfl (by omega) ?_
            conv => whnf
            refine ⟨(by (try simp only [true_and, and_true, Nat.sub_zero, Nat.zero_add, Int.toNat_natCast]) <;> omega), ?_⟩
            conv => whnf
            rw [show 0 + Int.toNat ((e / 32 : Nat) : Int) = e / 32 by omega]
            refine shlN32 (a := 1) (n := e % 32) (2 ^ (e % 32)) rfl (by omega) (by rw [Nat.one_mul, Nat.mod_eq_of_lt hp2]) ?_
            conv => whnf
            refine orN (a := digit (Q * 2 ^ (e + 1)) (e / 32)) (digit (Q * 2 ^ (e + 1)) (e / 32) ||| 2 ^ (e % 32)) rfl (show _ < 4294967296 from hd) (show _ < 4294967296 from hp2) rfl ?_
            conv => whnf
            refine ⟨(by (try simp only [true_and, and_true, Nat.sub_zero, Nat.zero_add, Int.toNat_natCast]) <;> omega), ?_⟩
            conv => whnf
            refine ⟨(by (try simp only [true_and, and_true, Nat.sub_zero, Nat.zero_add, Int.toNat_natCast]) <;> omega), ?_⟩
            conv => whnf
            refine fit64 (by omega) ?_
            conv => whnf
            refine ⟨e, _, _, rfl, ⟨rfl, .refl _, rfl, .refl _, rfl, .refl _, rfl, ALe.of_eq (congrArg nat (by rw [q1]; omega)), rfl, .refl _, trivial⟩, ⟨⟨rfl, rfl⟩, .fa fun k hk => ?_, trivial⟩, by omega, by omega⟩
            rw [q2, upd_set (fun k => digit (Q * 2 ^ (e + 1)) k) _ _ _ rfl, sb k]
            refine .one (.int_of ?_)
            simp only [Nat.zero_add, Int.toNat_natCast]
      · have : c = 0 := by omega
        subst this
        have v1 := refTrim_ok (digit (A / 2 ^ 0 / B * 2 ^ 0)) n (digit_Dig _ _) (by omega)
        have hq : size (A / B) ≤ n := Nat.le_trans (size_mono (Nat.div_le_self _ _)) hA
        have hr : size (A % B) ≤ size A := size_mono (Nat.mod_le _ _)
        rw [nval_digit, Nat.pow_zero, Nat.div_one, Nat.mul_one, mod_size hq] at v1
        have v2 := refTrim_nn (A % B) (by omega)
        rw [Nat.pow_zero, Nat.div_one, Nat.mul_one]
        conv => whnf
        refine callF v1 ⟨.raw_of (fun k hk => by simp only [Nat.zero_add]), trivial⟩ (by (try simp only [true_and, and_true, Nat.sub_zero, Nat.zero_add, Int.toNat_natCast]) <;> omega) rfl ?_
        conv => whnf
        refine callF v2 ⟨.refl _, trivial⟩ (by trivial) rfl ?_
        conv => whnf
        refine ⟨(by (try simp only [true_and, and_true, Nat.sub_zero, Nat.zero_add, Int.toNat_natCast]) <;> omega), ?_⟩
        exact .refl _
  · rw [if_neg a64] at ua
    by_cases b64 : B < 18446744073709551616
    · rw [if_pos b64] at ub
      conv => whnf
      refine callF ua ⟨.refl _, trivial⟩ (by trivial) rfl ?_
      conv => whnf
      refine callF ub ⟨.refl _, trivial⟩ (by trivial) rfl ?_
      conv => whnf
      refine ⟨(by (try simp only [true_and, and_true, Nat.sub_zero, Nat.zero_add, Int.toNat_natCast]) <;> omega), ?_⟩
      conv => whnf
      refine callB ba ⟨.refl _, trivial⟩ (by trivial) rfl ?_
      conv => whnf
      refine fit64 (by omega) ?_
      conv => whnf
      refine loop_ruleF [0, 1, 4, 5, 11] [43] (fun c : Nat => ([(0, raw g n), (1, nat B), (4, .lsl 43 1 1 0 n (some n)), (5, nat (A / 2 ^ c % B)), (11, .f (.int .i64 ((c : Int) - 1)))], [(43, 1, .fa 1 n (fun k => [.int .u32 (digit (A / 2 ^ c / B * 2 ^ c) k : Nat)]))])) (fun c => c ≤ bitlen A) (fun c => c) (bitlen A)
        ⟨_, _, rfl, ⟨rfl, .refl _, rfl, .refl _, rfl, .refl _, rfl, .f ?_, rfl, .refl _, trivial⟩, ⟨⟨rfl, rfl⟩, .fa fun k hk => ?_, trivial⟩⟩ (Nat.le_refl _) ?_
      · rw [Nat.div_eq_of_lt (lt_two_bitlen A), Nat.zero_mod]; exact .nil
      · rw [Nat.div_eq_of_lt (lt_two_bitlen A), Nat.zero_div, Nat.zero_mul]
        refine .one (.int_of ?_)
        simp [digit]
      intro c hc
      conv => whnf
      refine spl (fun h3 => ?_) (fun h3 => ?_) <;> simp only [decide_eq_true_eq, decide_eq_false_iff_not, Bool.not_eq_true', Bool.not_eq_false', gt_iff_lt, ge_iff_le] at h3
      · obtain ⟨e, he⟩ : ∃ e, c = e + 1 := ⟨c - 1, by omega⟩
        subst he
        have hstep := bin_step A B e hB0
        obtain ⟨R, hR⟩ : ∃ R, A / 2 ^ (e + 1) % B = R := ⟨_, rfl⟩
        obtain ⟨Q, hQ⟩ : ∃ Q, A / 2 ^ (e + 1) / B = Q := ⟨_, rfl⟩
        obtain ⟨b, hb⟩ : ∃ b, A / 2 ^ e % 2 = b := ⟨_, rfl⟩
        have hb2 : b < 2 := by rw [← hb]; exact Nat.mod_lt _ (by decide)
        have hRB : R < B := by rw [← hR]; exact Nat.mod_lt _ hB0
        have sR : size R ≤ size B := size_mono (Nat.le_of_lt hRB)
        have sR2 : size (R + R) ≤ size B + 1 := Nat.le_trans (size_mono (show R + R ≤ B + B by omega)) (size_add (Nat.le_refl _) (Nat.le_refl _))
        have ad := refAdd_nn R R (by omega) (by omega)
        have bt := bit e (by omega)
        rw [hb] at bt
        rw [hR, hQ, hb] at hstep
        rw [hR, hQ, show ((e + 1 : Nat) : Int) - 1 = (e : Int) by omega]
        have sb := set_bit Q e
        conv => whnf
        refine callF ad ⟨.refl _, .refl _, trivial⟩ (by trivial) rfl ?_
        conv => whnf
        refine callB bt ⟨.refl _, .int_of (by omega), trivial⟩ (by trivial) rfl ?_
        conv => whnf
        refine spl (fun h4 => ?_) (fun h4 => ?_) <;> simp only [decide_eq_true_eq, decide_eq_false_iff_not, Bool.not_eq_true', Bool.not_eq_false', gt_iff_lt, ge_iff_le] at h4
        · have hb1 : b = 1 := by omega
          subst hb1
          have ad1 := refAdd_ok (digit (R + R)) (lim [1]) (size (R + R)) 1 (digit_Dig _ _) (by unfold Dig; decide) (by omega) (by omega)
          rw [nval_digit_size, show nval (lim [1]) 1 = 1 by decide] at ad1
          have sR3 : size (R + R + 1) ≤ size B + 1 := Nat.le_trans (size_mono (show R + R + 1 ≤ B + B by omega)) (size_add (Nat.le_refl _) (Nat.le_refl _))
          have su := refSub_nn (R + R + 1) B (by omega) (by omega)
          conv => whnf
          refine callF ad1 ⟨.refl _, (.raw_of fun j hj => match j, hj with | 0, _ => rfl), trivial⟩ (by simp) rfl ?_
          conv => whnf
          by_cases hlt : R + R + 1 < B
          · rw [if_pos hlt] at su
            obtain ⟨q1, q2⟩ := hstep.2 (by omega)
            conv => whnf
            refine callF su ⟨.refl _, .refl _, trivial⟩ (by trivial) rfl ?_
            conv => whnf
            refine fit64 (by omega) ?_
            conv => whnf
            refine ⟨e, _, _, rfl, ⟨rfl, .refl _, rfl, .refl _, rfl, .refl _, rfl, ALe.of_eq (congrArg nat (by rw [q1]; omega)), rfl, .refl _, trivial⟩, ⟨⟨rfl, rfl⟩, .fa fun k hk => ?_, trivial⟩, by omega, by omega⟩
            rw [q2]; exact .one (.refl _)
          · rw [if_neg hlt] at su
            obtain ⟨q1, q2⟩ := hstep.1 (by omega)
            have hd := digit_lt (Q * 2 ^ (e + 1)) (e / 32)
            have hp2 : 2 ^ (e % 32) < 4294967296 := Nat.pow_lt_pow_right (show 1 < 2 by decide) (show e % 32 < 32 by omega)
            conv => whnf
            refine callF su ⟨.refl _, .refl _, trivial⟩ (by trivial) rfl ?_
            conv => whnf
            refine ⟨(by (try simp only [true_and, and_true, Nat.sub_zero, Nat.zero_add, Int.toNat_natCast]) <;> omega), ?_⟩
            conv => whnf
            refine quoi64 (b := 32) (by omega) ?_
            conv => whnf
            refine ⟨(by (try simp only [true_and, and_true, Nat.sub_zero, Nat.zero_add, Int.toNat_natCast]) <;> omega), ?_⟩
            conv => whnf
            refine ⟨(by (try simp only [true_and, and_true, Nat.sub_zero, Nat.zero_add, Int.toNat_natCast]) <;> omega), ?_⟩
            conv => whnf
            refine ⟨(by (try simp only [true_and, and_true, Nat.sub_zero, Nat.zero_add, Int.toNat_natCast]) <;> omega), ?_⟩
            conv => whnf
            refine remN (b := 32) ?_
            conv => whnf
            refine sumu64 (e % 32) rfl (by omega) ?_
            conv => whnf
            refine ⟨(by (try simp only [true_and, and_true, Nat.sub_zero, Nat.zero_add, Int.toNat_natCast]) <;> omega), ?_⟩
            conv => whnf
            rw [show 0 + Int.toNat ((e / 32 : Nat) : Int) = e / 32 by omega]
            refine shlN32 (a := 1) (n := e % 32) (2 ^ (e % 32)) rfl (by omega) (by rw [Nat.one_mul, Nat.mod_eq_of_lt hp2]) ?_
            conv => whnf
            refine orN (a := digit (Q * 2 ^ (e + 1)) (e / 32)) (digit (Q * 2 ^ (e + 1)) (e / 32) ||| 2 ^ (e % 32)) rfl (show _ < 4294967296 from hd) (show _ < 4294967296 from hp2) rfl ?_
            conv => whnf
            refine ⟨(by (try simp only [true_and, and_true, Nat.sub_zero, Nat.zero_add, Int.toNat_natCast]) <;> omega), ?_⟩
            conv => whnf
            refine ⟨(by (try simp only [true_and, and_true, Nat.sub_zero, Nat.zero_add, Int.toNat_natCast]) <;> omega), ?_⟩
            conv => whnf
            refine fit64 (by omega) ?_
            conv => whnf
            refine ⟨e, _, _, rfl, ⟨rfl, .refl _, rfl, .refl _, rfl, .refl _, rfl, ALe.of_eq (congrArg nat (by rw [q1]; omega)), rfl, .refl _, trivial⟩, ⟨⟨rfl, rfl⟩, .fa fun k hk => ?_, trivial⟩, by omega, by omega⟩
            rw [q2, upd_set (fun k => digit (Q * 2 ^ (e + 1)) k) _ _ _ rfl, sb k]
            refine .one (.int_of ?_)
            simp only [Nat.zero_add, Int.toNat_natCast]
        · have hb0 : b = 0 := by omega
          subst hb0
          have su := refSub_nn (R + R) B (by omega) (by omega)
          conv => whnf
          by_cases hlt : R + R < B
          · rw [if_pos hlt] at su
            obtain ⟨q1, q2⟩ := hstep.2 (by omega)
            conv => whnf
            refine callF su ⟨.refl _, .refl _, trivial⟩ (by trivial) rfl ?_
            conv => whnf
            refine fit64 (by omega) ?_
            conv => whnf
            refine ⟨e, _, _, rfl, ⟨rfl, .refl _, rfl, .refl _, rfl, .refl _, rfl, ALe.of_eq (congrArg nat (by rw [q1]; omega)), rfl, .refl _, trivial⟩, ⟨⟨rfl, rfl⟩, .fa fun k hk => ?_, trivial⟩, by omega, by omega⟩
            rw [q2]; exact .one (.refl _)
          · rw [if_neg hlt] at su
            obtain ⟨q1, q2⟩ := hstep.1 (by omega)
            have hd := digit_lt (Q * 2 ^ (e + 1)) (e / 32)
            have hp2 : 2 ^ (e % 32) < 4294967296 := Nat.pow_lt_pow_right (show 1 < 2 by decide) (show e % 32 < 32 by omega)
            conv => whnf
            refine callF su ⟨.refl _, .refl _, trivial⟩ (by trivial) rfl ?_
            conv => whnf
            refine ⟨(by (try simp only [true_and, and_true, Nat.sub_zero, Nat.zero_add, Int.toNat_natCast]) <;> omega), ?_⟩
            conv => whnf
            refine quoi64 (b := 32) (by omega) ?_
            conv => whnf
            refine ⟨(by (try simp only [true_and, and_true, Nat.sub_zero, Nat.zero_add, Int.toNat_natCast]) <;> omega), ?_⟩
            conv => whnf
            refine ⟨(by (try simp only [true_and, and_true, Nat.sub_zero, Nat.zero_add, Int.toNat_natCast]) <;> omega), ?_⟩
            conv => whnf
            refine ⟨(by (try simp only [true_and, and_true, Nat.sub_zero, Nat.zero_add, Int.toNat_natCast]) <;> omega), ?_⟩
            conv => whnf
            refine remN (b := 32) ?_
            conv => whnf
            refine sumu64 (e % 32) rfl (by omega) ?_
            conv => whnf
            refine ⟨(by (try simp only [true_and, and_true, Nat.sub_zero, Nat.zero_add, Int.toNat_natCast]) <;> omega), ?_⟩
            conv => whnf
            rw [show 0 + Int.toNat ((e / 32 : Nat) : Int) = e / 32 by omega]
            refine shlN32 (a := 1) (n := e % 32) (2 ^ (e % 32)) rfl (by omega) (by rw [Nat.one_mul, Nat.mod_eq_of_lt hp2]) ?_
            conv => whnf
            refine orN (a := digit (Q * 2 ^ (e + 1)) (e / 32)) (digit (Q * 2 ^ (e + 1)) (e / 32) ||| 2 ^ (e % 32)) rfl (show _ < 4294967296 from hd) (show _ < 4294967296 from hp2) rfl ?_
            conv => whnf
            refine ⟨(by (try simp only [true_and, and_true, Nat.sub_zero, Nat.zero_add, Int.toNat_natCast]) <;> omega), ?_⟩
            conv => whnf
            refine ⟨(by (try simp only [true_and, and_true, Nat.sub_zero, Nat.zero_add, Int.toNat_natCast]) <;> omega), ?_⟩
            conv => whnf
            refine fit64 (by omega) ?_
            conv => whnf
            refine ⟨e, _, _, rfl, ⟨rfl, .refl _, rfl, .refl _, rfl, .refl _, rfl, ALe.of_eq (congrArg nat (by rw [q1]; omega)), rfl, .refl _, trivial⟩, ⟨⟨rfl, rfl⟩, .fa fun k hk => ?_, trivial⟩, by omega, by omega⟩
            rw [q2, upd_set (fun k => digit (Q * 2 ^ (e + 1)) k) _ _ _ rfl, sb k]
            refine .one (.int_of ?_)
            simp only [Nat.zero_add, Int.toNat_natCast]
      · have : c = 0 := by omega
        subst this
        have v1 := refTrim_ok (digit (A / 2 ^ 0 / B * 2 ^ 0)) n (digit_Dig _ _) (by omega)
        have hq : size (A / B) ≤ n := Nat.le_trans (size_mono (Nat.div_le_self _ _)) hA
        have hr : size (A % B) ≤ size A := size_mono (Nat.mod_le _ _)
        rw [nval_digit, Nat.pow_zero, Nat.div_one, Nat.mul_one, mod_size hq] at v1
        have v2 := refTrim_nn (A % B) (by omega)
        rw [Nat.pow_zero, Nat.div_one, Nat.mul_one]
        conv => whnf
        refine callF v1 ⟨.raw_of (fun k hk => by simp only [Nat.zero_add]), trivial⟩ (by (try simp only [true_and, and_true, Nat.sub_zero, Nat.zero_add, Int.toNat_natCast]) <;> omega) rfl ?_
        conv => whnf
        refine callF v2 ⟨.refl _, trivial⟩ (by trivial) rfl ?_
        conv => whnf
        refine ⟨(by (try simp only [true_and, and_true, Nat.sub_zero, Nat.zero_add, Int.toNat_natCast]) <;> omega), ?_⟩
        exact .refl _
    · rw [if_neg b64] at ub
      conv => whnf
      refine callF ua ⟨.refl _, trivial⟩ (by trivial) rfl ?_
      conv => whnf
      refine callF ub ⟨.refl _, trivial⟩ (by trivial) rfl ?_
      conv => whnf
      refine ⟨(by (try simp only [true_and, and_true, Nat.sub_zero, Nat.zero_add, Int.toNat_natCast]) <;> omega), ?_⟩
      conv => whnf
      refine callB ba ⟨.refl _, trivial⟩ (by trivial) rfl ?_
      conv => whnf
      refine fit64 (by omega) ?_
      conv => whnf
      refine loop_ruleF [0, 1, 4, 5, 11] [43] (fun c : Nat => ([(0, raw g n), (1, nat B), (4, .lsl 43 1 1 0 n (some n)), (5, nat (A / 2 ^ c % B)), (11, .f (.int .i64 ((c : Int) - 1)))], [(43, 1, .fa 1 n (fun k => [.int .u32 (digit (A / 2 ^ c / B * 2 ^ c) k : Nat)]))])) (fun c => c ≤ bitlen A) (fun c => c) (bitlen A)
        ⟨_, _, rfl, ⟨rfl, .refl _, rfl, .refl _, rfl, .refl _, rfl, .f ?_, rfl, .refl _, trivial⟩, ⟨⟨rfl, rfl⟩, .fa fun k hk => ?_, trivial⟩⟩ (Nat.le_refl _) ?_
      · rw [Nat.div_eq_of_lt (lt_two_bitlen A), Nat.zero_mod]; exact .nil
      · rw [Nat.div_eq_of_lt (lt_two_bitlen A), Nat.zero_div, Nat.zero_mul]
        refine .one (.int_of ?_)
        simp [digit]
      intro c hc
      conv => whnf
      refine spl (fun h3 => ?_) (fun h3 => ?_) <;> simp only [decide_eq_true_eq, decide_eq_false_iff_not, Bool.not_eq_true', Bool.not_eq_false', gt_iff_lt, ge_iff_le] at h3
      · obtain ⟨e, he⟩ : ∃ e, c = e + 1 := ⟨c - 1, by omega⟩
        subst he
        have hstep := bin_step A B e hB0
        obtain ⟨R, hR⟩ : ∃ R, A / 2 ^ (e + 1) % B = R := ⟨_, rfl⟩
        obtain ⟨Q, hQ⟩ : ∃ Q, A / 2 ^ (e + 1) / B = Q := ⟨_, rfl⟩
        obtain ⟨b, hb⟩ : ∃ b, A / 2 ^ e % 2 = b := ⟨_, rfl⟩
        have hb2 : b < 2 := by rw [← hb]; exact Nat.mod_lt _ (by decide)
        have hRB : R < B := by rw [← hR]; exact Nat.mod_lt _ hB0
        have sR : size R ≤ size B := size_mono (Nat.le_of_lt hRB)
        have sR2 : size (R + R) ≤ size B + 1 := Nat.le_trans (size_mono (show R + R ≤ B + B by omega)) (size_add (Nat.le_refl _) (Nat.le_refl _))
        have ad := refAdd_nn R R (by omega) (by omega)
        have bt := bit e (by omega)
        rw [hb] at bt
        rw [hR, hQ, hb] at hstep
        rw [hR, hQ, show ((e + 1 : Nat) : Int) - 1 = (e : Int) by omega]
        have sb := set_bit Q e
        conv => whnf
        refine callF ad ⟨.refl _, .refl _, trivial⟩ (by trivial) rfl ?_
        conv => whnf
        refine callB bt ⟨.refl _, .int_of (by omega), trivial⟩ (by trivial) rfl ?_
        conv => whnf
        refine spl (fun h4 => ?_) (fun h4 => ?_) <;> simp only [decide_eq_true_eq, decide_eq_false_iff_not, Bool.not_eq_true', Bool.not_eq_false', gt_iff_lt, ge_iff_le] at h4
        · have hb1 : b = 1 := by omega
          subst hb1
          have ad1 := refAdd_ok (digit (R + R)) (lim [1]) (size (R + R)) 1 (digit_Dig _ _) (by unfold Dig; decide) (by omega) (by omega)
          rw [nval_digit_size, show nval (lim [1]) 1 = 1 by decide] at ad1
          have sR3 : size (R + R + 1) ≤ size B + 1 := Nat.le_trans (size_mono (show R + R + 1 ≤ B + B by omega)) (size_add (Nat.le_refl _) (Nat.le_refl _))
          have su := refSub_nn (R + R + 1) B (by omega) (by omega)
          conv => whnf
          refine callF ad1 ⟨.refl _, (.raw_of fun j hj => match j, hj with | 0, _ => rfl), trivial⟩ (by simp) rfl ?_
          conv => whnf
          by_cases hlt : R + R + 1 < B
          · rw [if_pos hlt] at su
            obtain ⟨q1, q2⟩ := hstep.2 (by omega)
            conv => whnf
            refine callF su ⟨.refl _, .refl _, trivial⟩ (by trivial) rfl ?_
            conv => whnf
            refine fit64 (by omega) ?_
            conv => whnf
            refine ⟨e, _, _, rfl, ⟨rfl, .refl _, rfl, .refl _, rfl, .refl _, rfl, ALe.of_eq (congrArg nat (by rw [q1]; omega)), rfl, .refl _, trivial⟩, ⟨⟨rfl, rfl⟩, .fa fun k hk => ?_, trivial⟩, by omega, by omega⟩
            rw [q2]; exact .one (.refl _)
          · rw [if_neg hlt] at su
            obtain ⟨q1, q2⟩ := hstep.1 (by omega)
            have hd := digit_lt (Q * 2 ^ (e + 1)) (e / 32)
            have hp2 : 2 ^ (e % 32) < 4294967296 := Nat.pow_lt_pow_right (show 1 < 2 by decide) (show e % 32 < 32 by omega)
            conv => whnf
            refine callF su ⟨.refl _, .refl _, trivial⟩ (by trivial) rfl ?_
            conv => whnf
            refine ⟨(by (try simp only [true_and, and_true, Nat.sub_zero, Nat.zero_add, Int.toNat_natCast]) <;> omega), ?_⟩
            conv => whnf
            refine quoi64 (b := 32) (by omega) ?_
            conv => whnf
            refine ⟨(by (try simp only [true_and, and_true, Nat.sub_zero, Nat.zero_add, Int.toNat_natCast]) <;> omega), ?_⟩
            conv => whnf
            refine ⟨(by (try simp only [true_and, and_true, Nat.sub_zero, Nat.zero_add, Int.toNat_natCast]) <;> omega), ?_⟩
            conv => whnf
            refine ⟨(by (try simp only [true_and, and_true, Nat.sub_zero, Nat.zero_add, Int.toNat_natCast]) <;> omega), ?_⟩
            conv => whnf
            refine remN (b := 32) ?_
            conv => whnf
            refine sumu64 (e % 32) rfl (by omega) ?_
            conv => whnf
            refine ⟨(by (try simp only [true_and, and_true, Nat.sub_zero, Nat.zero_add, Int.toNat_natCast]) <;> omega), ?_⟩
            conv => whnf
            rw [show 0 + Int.toNat ((e / 32 : Nat) : Int) = e / 32 by omega]
            refine shlN32 (a := 1) (n := e % 32) (2 ^ (e % 32)) rfl (by omega) (by rw [Nat.one_mul, Nat.mod_eq_of_lt hp2]) ?_
            conv => whnf
            refine orN (a := digit (Q * 2 ^ (e + 1)) (e / 32)) (digit (Q * 2 ^ (e + 1)) (e / 32) ||| 2 ^ (e % 32)) rfl (show _ < 4294967296 from hd) (show _ < 4294967296 from hp2) rfl ?_
            conv => whnf
            refine ⟨(by (try simp only [true_and, and_true, Nat.sub_zero, Nat.zero_add, Int.toNat_natCast]) <;> omega), ?_⟩
            conv => whnf
            refine ⟨(by (try simp only [true_and, and_true, Nat.sub_zero, Nat.zero_add, Int.toNat_natCast]) <;> omega), ?_⟩
            conv => whnf
            refine fit64 (by omega) ?_
            conv => whnf
            refine ⟨e, _, _, rfl, ⟨rfl, .refl _, rfl, .refl _, rfl, .refl _, rfl, ALe.of_eq (congrArg nat (by rw [q1]; omega)), rfl, .refl _, trivial⟩, ⟨⟨rfl, rfl⟩, .fa fun k hk => ?_, trivial⟩, by omega, by omega⟩
            rw [q2, upd_set (fun k => digit (Q * 2 ^ (e + 1)) k) _ _ _ rfl, sb k]
            refine .one (.int_of ?_)
            simp only [Nat.zero_add, Int.toNat_natCast]
        · have hb0 : b = 0 := by omega
          subst hb0
          have su := refSub_nn (R + R) B (by omega) (by omega)
          conv => whnf
          by_cases hlt : R + R < B
          · rw [if_pos hlt] at su
            obtain ⟨q1, q2⟩ := hstep.2 (by omega)
            conv => whnf
            refine callF su ⟨.refl _, .refl _, trivial⟩ (by trivial) rfl ?_
            conv => whnf
            refine fit64 (by omega) ?_
            conv => whnf
            refine ⟨e, _, _, rfl, ⟨rfl, .refl _, rfl, .refl _, rfl, .refl _, rfl, ALe.of_eq (congrArg nat (by rw [q1]; omega)), rfl, .refl _, trivial⟩, ⟨⟨rfl, rfl⟩, .fa fun k hk => ?_, trivial⟩, by omega, by omega⟩
            rw [q2]; exact .one (.refl _)
          · rw [if_neg hlt] at su
            obtain ⟨q1, q2⟩ := hstep.1 (by omega)
            have hd := digit_lt (Q * 2 ^ (e + 1)) (e / 32)
            have hp2 : 2 ^ (e % 32) < 4294967296 := Nat.pow_lt_pow_right (show 1 < 2 by decide) (show e % 32 < 32 by omega)
            conv => whnf
            refine callF su ⟨.refl _, .refl _, trivial⟩ (by trivial) rfl ?_
            conv => whnf
            refine ⟨(by (try simp only [true_and, and_true, Nat.sub_zero, Nat.zero_add, Int.toNat_natCast]) <;> omega), ?_⟩
            conv => whnf
            refine quoi64 (b := 32) (by omega) ?_
            conv => whnf
            refine ⟨(by (try simp only [true_and, and_true, Nat.sub_zero, Nat.zero_add, Int.toNat_natCast]) <;> omega), ?_⟩
            conv => whnf
            refine ⟨(by (try simp only [true_and, and_true, Nat.sub_zero, Nat.zero_add, Int.toNat_natCast]) <;> omega), ?_⟩
            conv => whnf
            refine ⟨(by (try simp only [true_and, and_true, Nat.sub_zero, Nat.zero_add, Int.toNat_natCast]) <;> omega), ?_⟩
            conv => whnf
            refine remN (b := 32) ?_
            conv => whnf
            refine sumu64 (e % 32) rfl (by omega) ?_
            conv => whnf
            refine ⟨(by (try simp only [true_and, and_true, Nat.sub_zero, Nat.zero_add, Int.toNat_natCast]) <;> omega), ?_⟩
            conv => whnf
            rw [show 0 + Int.toNat ((e / 32 : Nat) : Int) = e / 32 by omega]
            refine shlN32 (a := 1) (n := e % 32) (2 ^ (e % 32)) rfl (by omega) (by rw [Nat.one_mul, Nat.mod_eq_of_lt hp2]) ?_
            conv => whnf
            refine orN (a := digit (Q * 2 ^ (e + 1)) (e / 32)) (digit (Q * 2 ^ (e + 1)) (e / 32) ||| 2 ^ (e % 32)) rfl (show _ < 4294967296 from hd) (show _ < 4294967296 from hp2) rfl ?_
            conv => whnf
            refine ⟨(by (try simp only [true_and, and_true, Nat.sub_zero, Nat.zero_add, Int.toNat_natCast]) <;> omega), ?_⟩
            conv => whnf
            refine ⟨(by (try simp only [true_and, and_true, Nat.sub_zero, Nat.zero_add, Int.toNat_natCast]) <;> omega), ?_⟩
            conv => whnf
            refine fit64 (by omega) ?_
            conv => whnf
            refine ⟨e, _, _, rfl, ⟨rfl, .refl _, rfl, .refl _, rfl, .refl _, rfl, ALe.of_eq (congrArg nat (by rw [q1]; omega)), rfl, .refl _, trivial⟩, ⟨⟨rfl, rfl⟩, .fa fun k hk => ?_, trivial⟩, by omega, by omega⟩
            rw [q2, upd_set (fun k => digit (Q * 2 ^ (e + 1)) k) _ _ _ rfl, sb k]
            refine .one (.int_of ?_)
            simp only [Nat.zero_add, Int.toNat_natCast]
      · have : c = 0 := by omega
        subst this
        have v1 := refTrim_ok (digit (A / 2 ^ 0 / B * 2 ^ 0)) n (digit_Dig _ _) (by omega)
        have hq : size (A / B) ≤ n := Nat.le_trans (size_mono (Nat.div_le_self _ _)) hA
        have hr : size (A % B) ≤ size A := size_mono (Nat.mod_le _ _)
        rw [nval_digit, Nat.pow_zero, Nat.div_one, Nat.mul_one, mod_size hq] at v1
        have v2 := refTrim_nn (A % B) (by omega)
        rw [Nat.pow_zero, Nat.div_one, Nat.mul_one]
        conv => whnf
        refine callF v1 ⟨.raw_of (fun k hk => by simp only [Nat.zero_add]), trivial⟩ (by (try simp only [true_and, and_true, Nat.sub_zero, Nat.zero_add, Int.toNat_natCast]) <;> omega) rfl ?_
        conv => whnf
        refine callF v2 ⟨.refl _, trivial⟩ (by trivial) rfl ?_
        conv => whnf
        refine ⟨(by (try simp only [true_and, and_true, Nat.sub_zero, Nat.zero_add, Int.toNat_natCast]) <;> omega), ?_⟩
        exact .refl _

theorem refDivMod_nn (A B : Nat) (hA : size A ≤ 4398046511000) (hB : size B ≤ 4398046511000) : ACall Try.prog 29 [nat A, nat B] (divRes A B) := by
  have := refDivMod_ok (digit A) (digit B) (size A) (size B) (digit_Dig _ _) (digit_Dig _ _) hA hB
  rw [nval_digit_size, nval_digit_size] at this; exact this

theorem refGCD_ok (g h : Nat → Nat) (n m : Nat) (hg : Dig g n) (hh : Dig h m) (hn : n ≤ 4398046511000) (hm : m ≤ 4398046511000) :
    ACall Try.prog 34 [raw g n, raw h m] (nat (Nat.gcd (nval g n) (nval h m))) := by
  have hA := size_nval hg
  have hB := size_nval hh
  have va := refTrim_ok g n hg (by omega)
  have vb := refTrim_ok h m hh (by omega)
  generalize nval g n = A at *
  generalize nval h m = B at *
  refine acall_rule env [0, 1, 4, 6, 14] Try.func34 rfl rfl rfl rfl ?_
  conv => whnf
  refine callF va ⟨.refl _, trivial⟩ (by trivial) rfl ?_
  conv => whnf
  refine callF vb ⟨.refl _, trivial⟩ (by trivial) rfl ?_
  conv => whnf
  refine loop_rule2 [0, 1] [] (fun s : Nat × Nat => ([(0, nat s.1), (1, nat s.2)], [])) (fun s => size s.1 ≤ 4398046511000 ∧ size s.2 ≤ 4398046511000 ∧ Nat.gcd s.1 s.2 = Nat.gcd A B) (fun s => s.2) (A, B) ⟨_, rfl, .refl _⟩ ⟨by simp only; omega, by simp only; omega, rfl⟩ ?_
  rintro ⟨a, b⟩ ⟨h1, h2, h3⟩
  simp only at h1 h2 h3 ⊢
  conv => whnf
  refine spl (fun h4 => ?_) (fun h4 => ?_) <;> simp only [decide_eq_true_eq, decide_eq_false_iff_not, Bool.not_eq_true', Bool.not_eq_false', gt_iff_lt, ge_iff_le] at h4
  · have hb : 0 < b := by
      rcases Nat.eq_zero_or_pos b with h | h
      · subst h; rw [size_zero] at h4; omega
      · exact h
    have dv := refDivMod_nn a b h1 h2
    rw [divRes, if_neg (by omega)] at dv
    have hlt : a % b < b := Nat.mod_lt _ hb
    conv => whnf
    refine callF dv ⟨.refl _, .refl _, trivial⟩ (by trivial) rfl ?_
    conv => whnf
    exact ⟨(b, a % b), _, rfl, .refl _, ⟨h2, by have := size_mono (Nat.le_of_lt hlt); simp only; omega, by rw [← h3]; exact gcd_step _ _⟩, hlt⟩
  · have hb : b = 0 := size_eq_zero.1 (by omega)
    subst hb
    rw [Nat.gcd_zero_right] at h3
    subst h3
    conv => whnf
    refine ⟨(by (try simp only [true_and, and_true, Nat.sub_zero, Nat.zero_add, Int.toNat_natCast]) <;> omega), ?_⟩
    exact .refl _
end Go.Abs

/- The laws of natural numbers, as contracts: Order. -/
set_option autoImplicit false
set_option maxHeartbeats 4000000
set_option linter.unusedVariables false
set_option linter.unusedSimpArgs false
namespace Go.Abs
open Go Go.Proofs

theorem cmp_of_lt {A B : Nat} (h : A < B) : cmp A B = -1 := if_pos h
theorem cmp_of_eq {A B : Nat} (h : A = B) : cmp A B = 0 := by unfold cmp; rw [if_neg (by omega), if_pos h]
theorem cmp_of_gt {A B : Nat} (h : B < A) : cmp A B = 1 := by unfold cmp; rw [if_neg (by omega), if_neg (by omega)]
theorem Compare_nn (A B : Nat) (hA : size A ≤ 4398046511104) (hB : size B ≤ 4398046511104) : ACall Try.prog 22 [nat A, nat B] (.f (.int .i64 (cmp A B))) := by
  have := Compare_ok (digit A) (digit B) (size A) (size B) (digit_Dig _ _) (digit_Dig _ _) hA hB
  rw [nval_digit_size, nval_digit_size] at this; exact this


theorem NaturalOrder_ok (g h f : Nat → Nat) (n m k : Nat) (hg : Dig g n) (hh : Dig h m) (hf : Dig f k) (hn : n ≤ 1099511627776) (hm : m ≤ 1099511627776) (hk : k ≤ 1099511627776) :
    ACall Try.prog 9 [raw g n, raw h m, raw f k] (.f (.bool true)) := by
  have hA := size_nval hg
  have hB := size_nval hh
  have hC := size_nval hf
  have c1 := Compare_ok g h n m hg hh (by omega) (by omega)
  have c2 := Compare_ok h g m n hh hg (by omega) (by omega)
  have s1 := Sub_ok g h n m hg hh (by omega) (by omega)
  have a1 := Add_ok g f n k hg hf (by omega) (by omega)
  have a2 := Add_ok h f m k hh hf (by omega) (by omega)
  have sac := size_add (N := 1099511627776) (Nat.le_trans hA hn) (Nat.le_trans hC hk)
  have sbc := size_add (N := 1099511627776) (Nat.le_trans hB hm) (Nat.le_trans hC hk)
  have mac := size_mul (Nat.le_trans hA hn) (Nat.le_trans hC hk)
  have mbc := size_mul (Nat.le_trans hB hm) (Nat.le_trans hC hk)
  have c3 := Compare_nn (nval g n + nval f k) (nval h m + nval f k) (by omega) (by omega)
  have b1 := Bits_ok f k hf (by omega)
  have m1 := Mul_ok g f n k hg hf (by omega)
  have m2 := Mul_ok h f m k hh hf (by omega)
  have c4 : 0 < nval f k → ACall Try.prog 22 [nat (nval g n * nval f k), nat (nval h m * nval f k)] (.f (.int .i64 (cmp (nval g n) (nval h m)))) := by
    intro hp
    have := Compare_nn (nval g n * nval f k) (nval h m * nval f k) (by omega) (by omega)
    have e : cmp (nval g n * nval f k) (nval h m * nval f k) = cmp (nval g n) (nval h m) := by
      rcases Nat.lt_trichotomy (nval g n) (nval h m) with h | h | h
      · rw [cmp_of_lt h, cmp_of_lt (Nat.mul_lt_mul_of_pos_right h hp)]
      · rw [cmp_of_eq h, cmp_of_eq (by rw [h])]
      · rw [cmp_of_gt h, cmp_of_gt (Nat.mul_lt_mul_of_pos_right h hp)]
    rwa [e] at this
  rcases Nat.lt_trichotomy (nval g n) (nval h m) with hlt | hlt | hlt
  · rw [cmp_of_lt hlt] at c1 c4
    rw [cmp_of_gt hlt] at c2
    rw [if_pos hlt] at s1
    rw [cmp_of_lt (by omega)] at c3
    refine acall_rule env [0, 1, 2, 6, 7, 9, 45] Try.func9 rfl rfl rfl rfl ?_
    conv => whnf
    refine callF c1 ⟨.refl _, .refl _, trivial⟩ (by trivial) rfl ?_
    conv => whnf
    refine callF s1 ⟨.refl _, .refl _, trivial⟩ (by trivial) rfl ?_
    conv => whnf
    refine callF awake_ok trivial (by trivial) rfl ?_
    conv => whnf
    refine callF c2 ⟨.refl _, .refl _, trivial⟩ (by trivial) rfl ?_
    conv => whnf
    refine fit64 (by decide) ?_
    conv => whnf
    refine callF a1 ⟨.refl _, .refl _, trivial⟩ (by trivial) rfl ?_
    conv => whnf
    refine callF a2 ⟨.refl _, .refl _, trivial⟩ (by trivial) rfl ?_
    conv => whnf
    refine callF c3 ⟨.refl _, .refl _, trivial⟩ (by trivial) rfl ?_
    conv => whnf
    refine callF b1 ⟨.refl _, trivial⟩ (by trivial) rfl ?_
    conv => whnf
    refine spl (fun hc0 => ?_) (fun hc0 => ?_) <;> simp only [decide_eq_true_eq, decide_eq_false_iff_not, Bool.not_eq_true', Bool.not_eq_false', gt_iff_lt, ge_iff_le] at hc0
    · conv => whnf
      refine ⟨(by (try simp only [true_and, and_true, Nat.sub_zero, Nat.zero_add, Int.toNat_natCast]) <;> omega), ?_⟩
      exact .refl _
    have hC0 : 0 < nval f k := by
      rcases Nat.eq_zero_or_pos (nval f k) with h | h
      · exact absurd (by rw [h]; rfl) hc0
      · exact h
    have c4 := c4 hC0
    conv => whnf
    refine callF m1 ⟨.refl _, .refl _, trivial⟩ (by trivial) rfl ?_
    conv => whnf
    refine callF m2 ⟨.refl _, .refl _, trivial⟩ (by trivial) rfl ?_
    conv => whnf
    refine callF c4 ⟨.refl _, .refl _, trivial⟩ (by trivial) rfl ?_
    conv => whnf
    refine ⟨(by (try simp only [true_and, and_true, Nat.sub_zero, Nat.zero_add, Int.toNat_natCast]) <;> omega), ?_⟩
    exact .refl _
  · rw [cmp_of_eq hlt] at c1 c4
    rw [cmp_of_eq hlt.symm] at c2
    rw [if_neg (by omega)] at s1
    rw [cmp_of_eq (by omega)] at c3
    refine acall_rule env [0, 1, 2, 6, 7, 9, 45] Try.func9 rfl rfl rfl rfl ?_
    conv => whnf
    refine callF c1 ⟨.refl _, .refl _, trivial⟩ (by trivial) rfl ?_
    conv => whnf
    refine callF s1 ⟨.refl _, .refl _, trivial⟩ (by trivial) rfl ?_
    conv => whnf
    refine callF awake_ok trivial (by trivial) rfl ?_
    conv => whnf
    refine callF c2 ⟨.refl _, .refl _, trivial⟩ (by trivial) rfl ?_
    conv => whnf
    refine fit64 (by decide) ?_
    conv => whnf
    refine callF a1 ⟨.refl _, .refl _, trivial⟩ (by trivial) rfl ?_
    conv => whnf
    refine callF a2 ⟨.refl _, .refl _, trivial⟩ (by trivial) rfl ?_
    conv => whnf
    refine callF c3 ⟨.refl _, .refl _, trivial⟩ (by trivial) rfl ?_
    conv => whnf
    refine callF b1 ⟨.refl _, trivial⟩ (by trivial) rfl ?_
    conv => whnf
    refine spl (fun hc0 => ?_) (fun hc0 => ?_) <;> simp only [decide_eq_true_eq, decide_eq_false_iff_not, Bool.not_eq_true', Bool.not_eq_false', gt_iff_lt, ge_iff_le] at hc0
    · conv => whnf
      refine ⟨(by (try simp only [true_and, and_true, Nat.sub_zero, Nat.zero_add, Int.toNat_natCast]) <;> omega), ?_⟩
      exact .refl _
    have hC0 : 0 < nval f k := by
      rcases Nat.eq_zero_or_pos (nval f k) with h | h
      · exact absurd (by rw [h]; rfl) hc0
      · exact h
    have c4 := c4 hC0
    conv => whnf
    refine callF m1 ⟨.refl _, .refl _, trivial⟩ (by trivial) rfl ?_
    conv => whnf
    refine callF m2 ⟨.refl _, .refl _, trivial⟩ (by trivial) rfl ?_
    conv => whnf
    refine callF c4 ⟨.refl _, .refl _, trivial⟩ (by trivial) rfl ?_
    conv => whnf
    refine ⟨(by (try simp only [true_and, and_true, Nat.sub_zero, Nat.zero_add, Int.toNat_natCast]) <;> omega), ?_⟩
    exact .refl _
  · rw [cmp_of_gt hlt] at c1 c4
    rw [cmp_of_lt hlt] at c2
    rw [if_neg (by omega)] at s1
    rw [cmp_of_gt (by omega)] at c3
    refine acall_rule env [0, 1, 2, 6, 7, 9, 45] Try.func9 rfl rfl rfl rfl ?_
    conv => whnf
    refine callF c1 ⟨.refl _, .refl _, trivial⟩ (by trivial) rfl ?_
    conv => whnf
    refine callF s1 ⟨.refl _, .refl _, trivial⟩ (by trivial) rfl ?_
    conv => whnf
    refine callF awake_ok trivial (by trivial) rfl ?_
    conv => whnf
    refine callF c2 ⟨.refl _, .refl _, trivial⟩ (by trivial) rfl ?_
    conv => whnf
    refine fit64 (by decide) ?_
    conv => whnf
    refine callF a1 ⟨.refl _, .refl _, trivial⟩ (by trivial) rfl ?_
    conv => whnf
    refine callF a2 ⟨.refl _, .refl _, trivial⟩ (by trivial) rfl ?_
    conv => whnf
    refine callF c3 ⟨.refl _, .refl _, trivial⟩ (by trivial) rfl ?_
    conv => whnf
    refine callF b1 ⟨.refl _, trivial⟩ (by trivial) rfl ?_
    conv => whnf
    refine spl (fun hc0 => ?_) (fun hc0 => ?_) <;> simp only [decide_eq_true_eq, decide_eq_false_iff_not, Bool.not_eq_true', Bool.not_eq_false', gt_iff_lt, ge_iff_le] at hc0
    · conv => whnf
      refine ⟨(by (try simp only [true_and, and_true, Nat.sub_zero, Nat.zero_add, Int.toNat_natCast]) <;> omega), ?_⟩
      exact .refl _
    have hC0 : 0 < nval f k := by
      rcases Nat.eq_zero_or_pos (nval f k) with h | h
      · exact absurd (by rw [h]; rfl) hc0
      · exact h
    have c4 := c4 hC0
    conv => whnf
    refine callF m1 ⟨.refl _, .refl _, trivial⟩ (by trivial) rfl ?_
    conv => whnf
    refine callF m2 ⟨.refl _, .refl _, trivial⟩ (by trivial) rfl ?_
    conv => whnf
    refine callF c4 ⟨.refl _, .refl _, trivial⟩ (by trivial) rfl ?_
    conv => whnf
    refine ⟨(by (try simp only [true_and, and_true, Nat.sub_zero, Nat.zero_add, Int.toNat_natCast]) <;> omega), ?_⟩
    exact .refl _
end Go.Abs

/- The laws of natural numbers, as contracts: Products, Divides, GCD. -/
set_option autoImplicit false
set_option maxHeartbeats 4000000
set_option linter.unusedVariables false
set_option linter.unusedSimpArgs false
namespace Go.Abs
open Go Go.Proofs

theorem Compare_nr (A : Nat) (h : Nat → Nat) (m : Nat) (hA : size A ≤ 4398046511104) (hh : Dig h m) (hm : m ≤ 4398046511104) : ACall Try.prog 22 [nat A, raw h m] (.f (.int .i64 (cmp A (nval h m)))) := by
  have := Compare_ok (digit A) h (size A) m (digit_Dig _ _) hh hA hm
  rw [nval_digit_size] at this; exact this
theorem DivMod_rn (B : Nat) (g : Nat → Nat) (n : Nat) (hg : Dig g n) (hn : n ≤ 4398046511000) (hB : size B ≤ 4398046511000) : ACall Try.prog 28 [raw g n, nat B] (divRes (nval g n) B) := by
  have := DivMod_ok g (digit B) n (size B) hg (digit_Dig _ _) hn hB
  rw [nval_digit_size] at this; exact this
theorem GCD_nn (A B : Nat) (hA : size A ≤ 4398046511000) (hB : size B ≤ 4398046511000) : ACall Try.prog 33 [nat A, nat B] (nat (Nat.gcd A B)) := by
  have := GCD_ok (digit A) (digit B) (size A) (size B) (digit_Dig _ _) (digit_Dig _ _) hA hB
  rw [nval_digit_size, nval_digit_size] at this; exact this
theorem size_le_of {A B N : Nat} (h : A ≤ B) (hB : size B ≤ N) : size A ≤ N := Nat.le_trans (size_mono h) hB
theorem size_gcd_left {A B N : Nat} (hA : size A ≤ N) (hB : size B ≤ N) : size (Nat.gcd A B) ≤ N := by
  rcases Nat.eq_zero_or_pos A with h | h
  · subst h; rw [Nat.gcd_zero_left]; exact hB
  · exact size_le_of (Nat.gcd_le_left _ h) hA

theorem NaturalProducts_ok (g h : Nat → Nat) (n m : Nat) (hg : Dig g n) (hh : Dig h m) (hn : n ≤ 1099511627776) (hm : m ≤ 1099511627776) :
    ACall Try.prog 5 [raw g n, raw h m] (.f (.bool true)) := by
  have hA := size_nval hg
  have hB := size_nval hh
  have d1 := DivMod_ok g h n m hg hh (by omega) (by omega)
  have d2 := refDivMod_ok g h n m hg hh (by omega) (by omega)
  have m1 := Mul_ok g h n m hg hh (by omega)
  have m2 := refMul_ok g h n m hg hh (by omega)
  have sm := size_mul (Nat.le_trans hA hn) (Nat.le_trans hB hm)
  have e1 := refEqual_same (nval g n * nval h m) (by omega)
  have e2 := refEqual_same (nval g n / nval h m) (size_le_of (Nat.div_le_self _ _) (by omega))
  have e3 := refEqual_same (nval g n % nval h m) (size_le_of (Nat.mod_le _ _) (by omega))
  have e0 := refEqual_same 0 (by simp [size_zero])
  unfold divRes at d1 d2
  by_cases h0 : nval h m = 0
  · rw [if_pos h0] at d1 d2
    refine acall_rule env [0, 1, 4, 5, 6, 7, 8, 9, 10] Try.func5 rfl rfl rfl rfl ?_
    conv => whnf
    refine callF d1 ⟨.refl _, .refl _, trivial⟩ (by trivial) rfl ?_
    conv => whnf
    refine callF d2 ⟨.refl _, .refl _, trivial⟩ (by trivial) rfl ?_
    conv => whnf
    refine callF awake_ok trivial (by trivial) rfl ?_
    conv => whnf
    refine callF m1 ⟨.refl _, .refl _, trivial⟩ (by trivial) rfl ?_
    conv => whnf
    refine callF m2 ⟨.refl _, .refl _, trivial⟩ (by trivial) rfl ?_
    conv => whnf
    refine callF e1 ⟨.refl _, .refl _, trivial⟩ (by trivial) rfl ?_
    conv => whnf
    refine callF e0 ⟨.refl _, .refl _, trivial⟩ (by trivial) rfl ?_
    conv => whnf
    refine callF e0 ⟨.refl _, .refl _, trivial⟩ (by trivial) rfl ?_
    conv => whnf
    refine ⟨(by (try simp only [true_and, and_true, Nat.sub_zero, Nat.zero_add, Int.toNat_natCast]) <;> omega), ?_⟩
    exact .refl _
  · rw [if_neg h0] at d1 d2
    refine acall_rule env [0, 1, 4, 5, 6, 7, 8, 9, 10] Try.func5 rfl rfl rfl rfl ?_
    conv => whnf
    refine callF d1 ⟨.refl _, .refl _, trivial⟩ (by trivial) rfl ?_
    conv => whnf
    refine callF d2 ⟨.refl _, .refl _, trivial⟩ (by trivial) rfl ?_
    conv => whnf
    refine callF awake_ok trivial (by trivial) rfl ?_
    conv => whnf
    refine callF m1 ⟨.refl _, .refl _, trivial⟩ (by trivial) rfl ?_
    conv => whnf
    refine callF m2 ⟨.refl _, .refl _, trivial⟩ (by trivial) rfl ?_
    conv => whnf
    refine callF e1 ⟨.refl _, .refl _, trivial⟩ (by trivial) rfl ?_
    conv => whnf
    refine callF e2 ⟨.refl _, .refl _, trivial⟩ (by trivial) rfl ?_
    conv => whnf
    refine callF e3 ⟨.refl _, .refl _, trivial⟩ (by trivial) rfl ?_
    conv => whnf
    refine ⟨(by (try simp only [true_and, and_true, Nat.sub_zero, Nat.zero_add, Int.toNat_natCast]) <;> omega), ?_⟩
    exact .refl _

theorem NaturalDivides_ok (g h : Nat → Nat) (n m : Nat) (hg : Dig g n) (hh : Dig h m) (hn : n ≤ 1099511627776) (hm : m ≤ 1099511627776) :
    ACall Try.prog 7 [raw g n, raw h m] (.f (.bool true)) := by
  have hA := size_nval hg
  have hB := size_nval hh
  have d1 := DivMod_ok g h n m hg hh (by omega) (by omega)
  have b1 := Bits_ok h m hh (by omega)
  have sq := size_le_of (Nat.div_le_self (nval g n) (nval h m)) hA
  have sr := size_le_of (Nat.mod_le (nval g n) (nval h m)) hA
  have m1 := Mul_nr (nval g n / nval h m) h m hh (by omega)
  have e := Nat.div_add_mod (nval g n) (nval h m)
  rw [Nat.mul_comm] at e
  have sm : size (nval g n / nval h m * nval h m) ≤ n := size_le_of (by omega) hA
  have a1 := Add_nn (nval g n / nval h m * nval h m) (nval g n % nval h m) (by omega) (by omega)
  rw [e] at a1
  have c1 := Compare_nr (nval g n) g n (by omega) hg (by omega)
  rw [cmp_of_eq rfl] at c1
  have c2 := Compare_nr (nval g n % nval h m) h m (by omega) hh (by omega)
  unfold divRes at d1
  by_cases h0 : nval h m = 0
  · rw [if_pos h0] at d1
    rw [h0, show bitlen 0 = 0 from rfl] at b1
    refine acall_rule env [0, 1, 4, 5, 6, 7, 16] Try.func7 rfl rfl rfl rfl ?_
    conv => whnf
    refine callF d1 ⟨.refl _, .refl _, trivial⟩ (by trivial) rfl ?_
    conv => whnf
    refine callF b1 ⟨.refl _, trivial⟩ (by trivial) rfl ?_
    conv => whnf
    refine callF awake_ok trivial (by trivial) rfl ?_
    conv => whnf
    refine ⟨(by (try simp only [true_and, and_true, Nat.sub_zero, Nat.zero_add, Int.toNat_natCast]) <;> omega), ?_⟩
    exact .refl _
  · rw [if_neg h0] at d1
    rw [cmp_of_lt (Nat.mod_lt _ (by omega))] at c2
    refine acall_rule env [0, 1, 4, 5, 6, 7, 16] Try.func7 rfl rfl rfl rfl ?_
    conv => whnf
    refine callF d1 ⟨.refl _, .refl _, trivial⟩ (by trivial) rfl ?_
    conv => whnf
    refine callF m1 ⟨.refl _, .refl _, trivial⟩ (by trivial) rfl ?_
    conv => whnf
    refine callF a1 ⟨.refl _, .refl _, trivial⟩ (by trivial) rfl ?_
    conv => whnf
    refine callF c1 ⟨.refl _, .refl _, trivial⟩ (by trivial) rfl ?_
    conv => whnf
    refine callF c2 ⟨.refl _, .refl _, trivial⟩ (by trivial) rfl ?_
    conv => whnf
    refine callF awake_ok trivial (by trivial) rfl ?_
    conv => whnf
    refine ⟨(by (try simp only [true_and, and_true, Nat.sub_zero, Nat.zero_add, Int.toNat_natCast]) <;> omega), ?_⟩
    exact .refl _

theorem NaturalGCD_ok (g h f : Nat → Nat) (n m k : Nat) (hg : Dig g n) (hh : Dig h m) (hf : Dig f k) (hn : n ≤ 1099511627776) (hm : m ≤ 1099511627776) (hk : k ≤ 1099511627776) :
    ACall Try.prog 8 [raw g n, raw h m, raw f k] (.f (.bool true)) := by
  have hA := size_nval hg
  have hB := size_nval hh
  have hC := size_nval hf
  have g1 := GCD_ok g h n m hg hh (by omega) (by omega)
  have g2 := refGCD_ok g h n m hg hh (by omega) (by omega)
  have sg : size (Nat.gcd (nval g n) (nval h m)) ≤ 1099511627776 := size_gcd_left (Nat.le_trans hA hn) (Nat.le_trans hB hm)
  have e1 := refEqual_same (Nat.gcd (nval g n) (nval h m)) (by omega)
  have m1 := Mul_ok g f n k hg hf (by omega)
  have m2 := Mul_ok h f m k hh hf (by omega)
  have sm1 := size_mul (Nat.le_trans hA hn) (Nat.le_trans hC hk)
  have sm2 := size_mul (Nat.le_trans hB hm) (Nat.le_trans hC hk)
  have g3 := GCD_nn (nval g n * nval f k) (nval h m * nval f k) (by omega) (by omega)
  rw [Nat.gcd_mul_right] at g3
  have m3 := Mul_nr (Nat.gcd (nval g n) (nval h m)) f k hf (by omega)
  have e2 := refEqual_same (Nat.gcd (nval g n) (nval h m) * nval f k) (Nat.le_trans (size_mul sg (Nat.le_trans hC hk)) (by omega))
  have d1 := DivMod_rn (Nat.gcd (nval g n) (nval h m)) g n hg (by omega) (by omega)
  have d2 := DivMod_rn (Nat.gcd (nval g n) (nval h m)) h m hh (by omega) (by omega)
  have b1 := Bits_ok g n hg (by omega)
  have b2 := Bits_ok h m hh (by omega)
  have sx := size_le_of (Nat.div_le_self (nval g n) (Nat.gcd (nval g n) (nval h m))) hA
  have sy := size_le_of (Nat.div_le_self (nval h m) (Nat.gcd (nval g n) (nval h m))) hB
  have g4 := GCD_nn (nval g n / Nat.gcd (nval g n) (nval h m)) (nval h m / Nat.gcd (nval g n) (nval h m)) (by omega) (by omega)
  have e3 := refEqual_lit 1 1 [1] (size_eq (n := 0) (by decide) (by decide)) (by unfold Dig; decide) (by decide) (by omega)
  unfold divRes at d1 d2
  by_cases h0 : Nat.gcd (nval g n) (nval h m) = 0
  · rw [if_pos h0] at d1 d2
    obtain ⟨z1, z2⟩ := Nat.gcd_eq_zero_iff.1 h0
    rw [z1, show bitlen 0 = 0 from rfl] at b1
    rw [z2, show bitlen 0 = 0 from rfl] at b2
    refine acall_rule env [0, 1, 2, 6, 7, 8, 9, 10, 11, 12, 40, 56] Try.func8 rfl rfl rfl rfl ?_
    conv => whnf
    refine callF g1 ⟨.refl _, .refl _, trivial⟩ (by trivial) rfl ?_
    conv => whnf
    refine callF awake_ok trivial (by trivial) rfl ?_
    conv => whnf
    refine callF g2 ⟨.refl _, .refl _, trivial⟩ (by trivial) rfl ?_
    conv => whnf
    refine callF e1 ⟨.refl _, .refl _, trivial⟩ (by trivial) rfl ?_
    conv => whnf
    refine callF m1 ⟨.refl _, .refl _, trivial⟩ (by trivial) rfl ?_
    conv => whnf
    refine callF m2 ⟨.refl _, .refl _, trivial⟩ (by trivial) rfl ?_
    conv => whnf
    refine callF g3 ⟨.refl _, .refl _, trivial⟩ (by trivial) rfl ?_
    conv => whnf
    refine callF m3 ⟨.refl _, .refl _, trivial⟩ (by trivial) rfl ?_
    conv => whnf
    refine callF e2 ⟨.refl _, .refl _, trivial⟩ (by trivial) rfl ?_
    conv => whnf
    refine callF d1 ⟨.refl _, .refl _, trivial⟩ (by trivial) rfl ?_
    conv => whnf
    refine callF d2 ⟨.refl _, .refl _, trivial⟩ (by trivial) rfl ?_
    conv => whnf
    refine callF b1 ⟨.refl _, trivial⟩ (by trivial) rfl ?_
    conv => whnf
    refine callF b2 ⟨.refl _, trivial⟩ (by trivial) rfl ?_
    conv => whnf
    refine ⟨(by (try simp only [true_and, and_true, Nat.sub_zero, Nat.zero_add, Int.toNat_natCast]) <;> omega), ?_⟩
    exact .refl _
  · rw [if_neg h0, Nat.mod_eq_zero_of_dvd (Nat.gcd_dvd_left _ _)] at d1
    rw [if_neg h0, Nat.mod_eq_zero_of_dvd (Nat.gcd_dvd_right _ _)] at d2
    rw [Nat.gcd_div (Nat.gcd_dvd_left _ _) (Nat.gcd_dvd_right _ _), Nat.div_self (by omega)] at g4
    refine acall_rule env [0, 1, 2, 6, 7, 8, 9, 10, 11, 12, 40, 56] Try.func8 rfl rfl rfl rfl ?_
    conv => whnf
    refine callF g1 ⟨.refl _, .refl _, trivial⟩ (by trivial) rfl ?_
    conv => whnf
    refine callF awake_ok trivial (by trivial) rfl ?_
    conv => whnf
    refine callF g2 ⟨.refl _, .refl _, trivial⟩ (by trivial) rfl ?_
    conv => whnf
    refine callF e1 ⟨.refl _, .refl _, trivial⟩ (by trivial) rfl ?_
    conv => whnf
    refine callF m1 ⟨.refl _, .refl _, trivial⟩ (by trivial) rfl ?_
    conv => whnf
    refine callF m2 ⟨.refl _, .refl _, trivial⟩ (by trivial) rfl ?_
    conv => whnf
    refine callF g3 ⟨.refl _, .refl _, trivial⟩ (by trivial) rfl ?_
    conv => whnf
    refine callF m3 ⟨.refl _, .refl _, trivial⟩ (by trivial) rfl ?_
    conv => whnf
    refine callF e2 ⟨.refl _, .refl _, trivial⟩ (by trivial) rfl ?_
    conv => whnf
    refine callF d1 ⟨.refl _, .refl _, trivial⟩ (by trivial) rfl ?_
    conv => whnf
    refine callF d2 ⟨.refl _, .refl _, trivial⟩ (by trivial) rfl ?_
    conv => whnf
    refine callF g4 ⟨.refl _, .refl _, trivial⟩ (by trivial) rfl ?_
    conv => whnf
    refine callF e3 ⟨.refl _, (.raw_of fun j hj => match j, hj with | 0, _ => rfl), trivial⟩ (by simp) rfl ?_
    conv => whnf
    refine ⟨(by (try simp only [true_and, and_true, Nat.sub_zero, Nat.zero_add, Int.toNat_natCast]) <;> omega), ?_⟩
    exact .refl _
end Go.Abs
