/- Contracts of the functions that the law calls, and the logic in which they are proved: part 3. -/
import Derived.JoinedCond
import Derived.OpenShut
import Derived.ProofKit
import Derived.Test.YtphneoieanklbaaGreatProg
import Derived.WalkKit
import Derived.Test.YtphneoieanklbaaGreatPr2
/- Generated programs: plain. -/
set_option autoImplicit false
set_option linter.unusedVariables false
set_option linter.unusedSimpArgs false
namespace Go.Abs

/-- a choice -/
def tch (v N : Int) : Int := v % 18446744073709551616 % N
theorem tch_range (v : Int) {N : Int} (h : 1 ≤ N) : 0 ≤ tch v N ∧ tch v N < N := ⟨Int.emod_nonneg _ (by omega), Int.emod_lt_of_pos _ (by omega)⟩
/-- what comes next, and how many are used then -/
def tnext (g : Nat → Int) (n i : Nat) (N : Int) : Int := if i < n then tch (g i) N else 0
def tstep (n i : Nat) : Nat := if i < n then i + 1 else i
theorem tnext_range (g : Nat → Int) (n i : Nat) {N : Int} (h : 1 ≤ N) : 0 ≤ tnext g n i N ∧ tnext g n i N < N := by
  unfold tnext
  split
  · exact tch_range _ h
  · omega
theorem tstep_le {n i : Nat} (h : i ≤ n) : tstep n i ≤ n := by unfold tstep; split <;> omega
def tN2 (n i : Nat) : Nat := tstep n (tstep n i)
theorem tN2_le {n i : Nat} (h : i ≤ n) : tN2 n i ≤ n := tstep_le (tstep_le h)
/-- a small number; one that is not 0 -/
def tR (g : Nat → Int) (n i : Nat) : Rat := Rat.divInt (tnext g n i 13 - 6) (1 + tnext g n (tstep n i) 4)
def tNum (a : Int) : Int := if 0 ≤ a then a + 1 else a
def tNz (g : Nat → Int) (n i : Nat) : Rat := Rat.divInt (tNum (tnext g n i 12 - 6)) (1 + tnext g n (tstep n i) 3)
theorem isz_one {a : Int} (h : -4294967296 < a ∧ a < 4294967296) : isz a ≤ 1 := by
  apply size_le
  show a.natAbs < 4294967296
  omega
theorem tR_sz (g : Nat → Int) (n i : Nat) : rsz (tR g n i) ≤ 1 := by
  have h1 := tnext_range g n i (N := 13) (by decide)
  have h2 := tnext_range g n (tstep n i) (N := 4) (by decide)
  exact rsz_divInt (isz_one (by omega)) (isz_one (by omega)) (Nat.le_refl _)
theorem tNz_sz (g : Nat → Int) (n i : Nat) : rsz (tNz g n i) ≤ 1 := by
  have h1 := tnext_range g n i (N := 12) (by decide)
  have h2 := tnext_range g n (tstep n i) (N := 3) (by decide)
  have h3 : -4294967296 < tNum (tnext g n i 12 - 6) ∧ tNum (tnext g n i 12 - 6) < 4294967296 := by unfold tNum; split <;> omega
  exact rsz_divInt (isz_one h3) (isz_one (by omega)) (Nat.le_refl _)
theorem divInt_ne {a b : Int} (ha : a ≠ 0) (hb : 0 < b) : Rat.divInt a b ≠ 0 := by
  intro h
  have e : Rat.divInt a b * (b : Rat) = a := by
    rw [Rat.divInt_eq_div]
    exact Rat.div_mul_cancel (fun h => by have := Rat.intCast_eq_zero_iff.1 h; omega)
  rw [h, Rat.zero_mul] at e
  exact ha (Rat.intCast_eq_zero_iff.1 e.symm)
theorem tNz_ne (g : Nat → Int) (n i : Nat) : tNz g n i ≠ 0 := by
  have h1 := tnext_range g n i (N := 12) (by decide)
  have h2 := tnext_range g n (tstep n i) (N := 3) (by decide)
  refine divInt_ne ?_ (by omega)
  unfold tNum; split <;> omega

/-- a list of small numbers -/
def tpos (n : Nat) : Nat → Nat → Nat
  | 0, i => i
  | k + 1, i => tN2 n (tpos n k i)
theorem tpos_le {n i : Nat} (h : i ≤ n) : ∀ k, tpos n k i ≤ n
  | 0 => h
  | k + 1 => tN2_le (tpos_le h k)
def tRats (g : Nat → Int) (n i : Nat) (k : Nat) : RR := RR.of (tR g n (tpos n k i))

/-- a column: the third choice says which bounds it has -/
def tK (g : Nat → Int) (n i : Nat) : Int := tnext g n (tN2 n i) 6
def tLoP (g : Nat → Int) (n i : Nat) : Nat := if 3 < tK g n i then tN2 n (tstep n (tN2 n i)) else tstep n (tN2 n i)
def tLo (g : Nat → Int) (n i : Nat) : RR := if 3 < tK g n i then RR.of (tR g n (tstep n (tN2 n i))) else RR.nil
def tHl (g : Nat → Int) (n i : Nat) : Bool := !(decide (tK g n i = 2)) && !(decide (tK g n i = 3))
def tHu (g : Nat → Int) (n i : Nat) : Bool := decide (tK g n i = 1) || decide (tK g n i = 2) || decide (tK g n i = 4)
def tUp (g : Nat → Int) (n i : Nat) : RR := if tHu g n i then RR.of ((tLo g n i).v + (tnext g n (tLoP g n i) 5 : Int)) else RR.nil
def tCol (g : Nat → Int) (n i : Nat) : Co := ⟨RR.of (tR g n i), tHl g n i, tLo g n i, tHu g n i, tUp g n i⟩
def tColP (g : Nat → Int) (n i : Nat) : Nat := if tHu g n i then tstep n (tLoP g n i) else tLoP g n i
theorem tColP_le {g : Nat → Int} {n i : Nat} (h : i ≤ n) : tColP g n i ≤ n := by
  have h1 : tLoP g n i ≤ n := by
    unfold tLoP; split
    · exact tN2_le (tstep_le (tN2_le h))
    · exact tstep_le (tN2_le h)
  unfold tColP; split
  · exact tstep_le h1
  · exact h1
theorem tLoP_le {g : Nat → Int} {n i : Nat} (h : i ≤ n) : tLoP g n i ≤ n := by
  unfold tLoP; split
  · exact tN2_le (tstep_le (tN2_le h))
  · exact tstep_le (tN2_le h)
theorem tLo_ok (g : Nat → Int) (n i : Nat) : (tLo g n i).Ok ∧ (tLo g n i).sz ≤ 1 := by
  unfold tLo; split
  · exact ⟨RR.of_ok _, by rw [RR.of_sz]; exact tR_sz _ _ _⟩
  · exact ⟨RR.nil_ok, by decide⟩
theorem tUp_ok (g : Nat → Int) (n i : Nat) : (tUp g n i).Ok ∧ (tUp g n i).sz ≤ 3 := by
  unfold tUp; split
  · refine ⟨RR.of_ok _, ?_⟩
    rw [RR.of_sz]
    have h1 := (tLo_ok g n i).1.size
    have h2 := (tLo_ok g n i).2
    have h3 := tnext_range g n (tLoP g n i) (N := 5) (by decide)
    have h4 := rsz_int (tnext g n (tLoP g n i) 5) (s := 1) (isz_one (by omega)) (by omega)
    exact Nat.le_trans (rsz_add h1 h4) (by omega)
  · exact ⟨RR.nil_ok, by decide⟩
theorem tCol_ok (g : Nat → Int) (n i : Nat) : (tCol g n i).Ok ∧ (tCol g n i).sz ≤ 5 ∧ (tCol g n i).cross = false := by
  refine ⟨⟨RR.of_ok _, (tLo_ok g n i).1, (tUp_ok g n i).1⟩, ?_, ?_⟩
  · have h1 : (RR.of (tR g n i)).sz ≤ 1 := by rw [RR.of_sz]; exact tR_sz _ _ _
    have h2 := (tLo_ok g n i).2
    have h3 := (tUp_ok g n i).2
    show (RR.of (tR g n i)).sz + (tLo g n i).sz + (tUp g n i).sz ≤ 5
    omega
  · show (tHl g n i && tHu g n i && decide ((tUp g n i).v < (tLo g n i).v)) = false
    cases h : tHu g n i with
    | false => simp
    | true =>
      have e : (tUp g n i).v = (tLo g n i).v + (tnext g n (tLoP g n i) 5 : Int) := by unfold tUp; rw [if_pos h, RR.of_v]
      have h3 := tnext_range g n (tLoP g n i) (N := 5) (by decide)
      have h4 : (0 : Rat) ≤ (tnext g n (tLoP g n i) 5 : Int) := by
        have := Rat.intCast_le_intCast.2 h3.1
        exact this
      rw [decide_eq_false (show ¬ (tUp g n i).v < (tLo g n i).v by rw [e]; grind)]
      simp

/-- a row's entries, up to a column: where the tape stands, the entries, how many -/
def tEntP (g : Nat → Int) (n i0 : Nat) : Nat → Nat
  | 0 => i0
  | j + 1 => if 0 < tnext g n (tEntP g n i0 j) 3 then tN2 n (tstep n (tEntP g n i0 j)) else tstep n (tEntP g n i0 j)
def tEntH (g : Nat → Int) (n i0 : Nat) (j : Nat) : Bool := decide (0 < tnext g n (tEntP g n i0 j) 3)
def tEnt (g : Nat → Int) (n i0 : Nat) (cols : Nat) (q : Nat) : En := ⟨nth (tEntH g n i0) cols q, RR.of (tNz g n (tstep n (tEntP g n i0 (nth (tEntH g n i0) cols q).toNat)))⟩
def tRowP (n i : Nat) : Nat := tN2 n (tstep n i)
def tRow (g : Nat → Int) (n i cols : Nat) : Ro := ⟨tnext g n i 3 - 1, RR.of (tR g n (tstep n i)), tEnt g n (tRowP n i) cols, cnt (tEntH g n (tRowP n i)) cols⟩
theorem tEntP_le {g : Nat → Int} {n i0 : Nat} (h : i0 ≤ n) : ∀ j, tEntP g n i0 j ≤ n
  | 0 => h
  | j + 1 => by
    have := tEntP_le (g := g) h j
    rw [tEntP]; split
    · exact tN2_le (tstep_le this)
    · exact tstep_le this
theorem nth_range {f : Nat → Bool} : ∀ {n j : Nat}, j < cnt f n → 0 ≤ nth f n j ∧ nth f n j < n ∧ f (nth f n j).toNat = true
  | 0, j, h => by simp [cnt] at h
  | n + 1, j, h => by
    rw [nth]
    by_cases h1 : f n ∧ j = cnt f n
    · rw [if_pos h1]; exact ⟨by omega, by omega, by simpa using h1.1⟩
    · rw [if_neg h1]
      have h2 : j < cnt f n := by
        rw [cnt] at h
        cases hf : f n with
        | true => rw [hf] at h; simp at h; have : j ≠ cnt f n := fun e => h1 ⟨hf, e⟩; omega
        | false => rw [hf] at h; simpa using h
      have := nth_range h2
      exact ⟨this.1, by omega, this.2.2⟩
theorem nth_lt {f : Nat → Bool} : ∀ {n i j : Nat}, i < j → j < cnt f n → nth f n i < nth f n j
  | 0, i, j, _, h => by simp [cnt] at h
  | n + 1, i, j, hij, h => by
    have hc : cnt f n ≤ cnt f (n + 1) := by rw [cnt]; split <;> omega
    have h1 : ¬ (f n ∧ i = cnt f n) := by
      rintro ⟨hf, rfl⟩
      rw [cnt, hf] at h; simp at h; omega
    rw [nth, nth, if_neg h1]
    have hi : i < cnt f n := by
      rw [cnt] at h
      cases hf : f n with
      | true => rw [hf] at h; simp at h; have : i ≠ cnt f n := fun e => h1 ⟨hf, e⟩; omega
      | false => rw [hf] at h; simp at h; omega
    by_cases h2 : f n ∧ j = cnt f n
    · rw [if_pos h2]; exact (nth_range hi).2.1
    · rw [if_neg h2]
      refine nth_lt hij ?_
      rw [cnt] at h
      cases hf : f n with
      | true => rw [hf] at h; simp at h; have : j ≠ cnt f n := fun e => h2 ⟨hf, e⟩; omega
      | false => rw [hf] at h; simpa using h
theorem tRow_ok (g : Nat → Int) (n i cols : Nat) (hc : cols ≤ 16384) : (tRow g n i cols).Ok ∧ (tRow g n i cols).ok cols = true ∧ (tRow g n i cols).k ≤ cols ∧ (tRow g n i cols).sz ≤ 2 + 2 * cols := by
  have h1 := tnext_range g n i (N := 3) (by decide)
  have hk : (tRow g n i cols).k ≤ cols := cnt_le _ _
  refine ⟨⟨⟨by show -9223372036854775808 ≤ tnext g n i 3 - 1; omega, by show tnext g n i 3 - 1 ≤ _; omega⟩, RR.of_ok _, fun j hj => ?_⟩, ?_, hk, ?_⟩
  · obtain ⟨a1, a2, a3⟩ := nth_range (f := tEntH g n (tRowP n i)) (n := cols) hj
    exact ⟨⟨by show -9223372036854775808 ≤ nth _ _ _; omega, by show nth _ _ _ ≤ _; omega⟩, RR.of_ok _⟩
  · unfold Ro.ok
    rw [Bool.and_eq_true]
    constructor
    · show (decide (tnext g n i 3 - 1 = -1) || decide (tnext g n i 3 - 1 = 0) || decide (tnext g n i 3 - 1 = 1)) = true
      rcases (show tnext g n i 3 = 0 ∨ tnext g n i 3 = 1 ∨ tnext g n i 3 = 2 by omega) with h | h | h <;> rw [h] <;> rfl
    · refine allB_iff.2 fun j hj => ?_
      obtain ⟨a1, a2, a3⟩ := nth_range (f := tEntH g n (tRowP n i)) (n := cols) hj
      have hp : prevI (tRow g n i cols).e j < ((tRow g n i cols).e j).i := by
        cases j with
        | zero => show (-1 : Int) < nth _ _ _; omega
        | succ j => exact nth_lt (Nat.lt_succ_self j) hj
      unfold entB
      rw [decide_eq_true hp, decide_eq_true (show ((tRow g n i cols).e j).i < (cols : Int) from a2)]
      have : ((tRow g n i cols).e j).v.v ≠ 0 := by
        show (RR.of _).v ≠ 0
        rw [RR.of_v]; exact tNz_ne _ _ _
      rw [decide_eq_true this]; rfl
  · have h2 : (tRow g n i cols).esz ≤ (tRow g n i cols).k * 2 := nsum_bound fun j hj => by
      show (RR.of _).sz + 1 ≤ 2
      rw [RR.of_sz]
      have := tNz_sz g n (tstep n (tEntP g n (tRowP n i) (nth (tEntH g n (tRowP n i)) cols j).toNat))
      omega
    have h3 : (RR.of (tR g n (tstep n i))).sz ≤ 1 := by rw [RR.of_sz]; exact tR_sz _ _ _
    show (RR.of (tR g n (tstep n i))).sz + (tRow g n i cols).esz + 1 ≤ _
    omega
/-- where the tape stands behind a row -/
def tRowE (g : Nat → Int) (n i cols : Nat) : Nat := tEntP g n (tRowP n i) cols
theorem tRowE_le {g : Nat → Int} {n i : Nat} (h : i ≤ n) (cols : Nat) : tRowE g n i cols ≤ n := tEntP_le (tN2_le (tstep_le h)) cols

/-- a program: where the tape stands before its columns, before its rows -/
def pColP (g : Nat → Int) (n i : Nat) : Nat → Nat
  | 0 => tstep n i
  | k + 1 => tColP g n (pColP g n i k)
def pNc (g : Nat → Int) (n i : Nat) (cols : Int) : Nat := (1 + tnext g n i cols).toNat
def pRowP (g : Nat → Int) (n i c : Nat) : Nat → Nat
  | 0 => tstep n i
  | k + 1 => tRowE g n (pRowP g n i c k) c
def pNr (g : Nat → Int) (n i : Nat) (rows : Int) : Nat := (tnext g n i (rows + 1)).toNat
def tPr (g : Nat → Int) (n i : Nat) (cols rows : Int) : Pr :=
  ⟨fun j => tCol g n (pColP g n i j), pNc g n i cols,
   fun j => tRow g n (pRowP g n (pColP g n i (pNc g n i cols)) (pNc g n i cols) j) (pNc g n i cols), pNr g n (pColP g n i (pNc g n i cols)) rows⟩
def tPrE (g : Nat → Int) (n i : Nat) (cols rows : Int) : Nat :=
  pRowP g n (pColP g n i (pNc g n i cols)) (pNc g n i cols) (pNr g n (pColP g n i (pNc g n i cols)) rows)
theorem pColP_le {g : Nat → Int} {n i : Nat} (h : i ≤ n) : ∀ k, pColP g n i k ≤ n
  | 0 => tstep_le h
  | k + 1 => tColP_le (pColP_le h k)
theorem pRowP_le {g : Nat → Int} {n i : Nat} (h : i ≤ n) (c : Nat) : ∀ k, pRowP g n i c k ≤ n
  | 0 => tstep_le h
  | k + 1 => tRowE_le (pRowP_le h c k) c
theorem tPr_small (g : Nat → Int) (n i : Nat) : 1 ≤ (tPr g n i 4 4).nc ∧ (tPr g n i 4 4).nc ≤ 4 ∧ (tPr g n i 4 4).nr ≤ 4 := by
  have h1 := tnext_range g n i (N := 4) (by decide)
  have h2 := tnext_range g n (pColP g n i (pNc g n i 4)) (N := 5) (by decide)
  have e1 : (tPr g n i 4 4).nc = (1 + tnext g n i 4).toNat := rfl
  have e2 : (tPr g n i 4 4).nr = (tnext g n (pColP g n i (pNc g n i 4)) 5).toNat := rfl
  omega
theorem tPr_ok (g : Nat → Int) (n i : Nat) : (tPr g n i 4 4).Ok ∧ (tPr g n i 4 4).err = 0 ∧ (tPr g n i 4 4).sz ≤ 60 ∧ ∀ j, j < (tPr g n i 4 4).nr → ((tPr g n i 4 4).r j).k ≤ 4 := by
  obtain ⟨h1, h2, h3⟩ := tPr_small g n i
  have hr : ∀ j, ((tPr g n i 4 4).r j).Ok ∧ ((tPr g n i 4 4).r j).ok (tPr g n i 4 4).nc = true ∧ ((tPr g n i 4 4).r j).k ≤ (tPr g n i 4 4).nc ∧ ((tPr g n i 4 4).r j).sz ≤ 2 + 2 * (tPr g n i 4 4).nc := fun j => tRow_ok g n _ _ (show (tPr g n i 4 4).nc ≤ 16384 by omega)
  have hc : ∀ j, ((tPr g n i 4 4).c j).Ok ∧ ((tPr g n i 4 4).c j).sz ≤ 5 ∧ ((tPr g n i 4 4).c j).cross = false := fun j => tCol_ok g n _
  generalize tPr g n i 4 4 = p at *
  refine ⟨⟨fun j _ => (hc j).1, fun j _ => (hr j).1⟩, ?_, ?_, fun j hj => by have := (hr j).2.2.1; omega⟩
  · unfold Pr.err
    rw [if_neg (by omega), if_neg, if_neg]
    · rw [allB_iff.2 fun j hj => (hr j).2.1]; simp
    · rw [allB_iff.2 fun j hj => by rw [(hc j).2.2]; rfl]; simp
  · have a1 : nsum (fun j => (p.c j).sz) p.nc ≤ p.nc * 5 := nsum_bound fun j _ => (hc j).2.1
    have a2 : nsum (fun j => (p.r j).sz) p.nr ≤ p.nr * 10 := nsum_bound fun j _ => by have := (hr j).2.2.2; omega
    unfold Pr.sz
    omega
end Go.Abs

/- Duality and convexity: plain. -/
set_option autoImplicit false
set_option linter.unusedVariables false
set_option linter.unusedSimpArgs false
namespace Go.Abs

theorem err_facts {p : Pr} (h : p.err = 0) : p.nc ≤ 16384 ∧ p.nr ≤ 16384 ∧ (∀ j, j < p.nc → (p.c j).cross = false) ∧ ∀ i, i < p.nr → (p.r i).ok p.nc = true := by
  unfold Pr.err at h
  split at h
  · cases h
  split at h
  · cases h
  split at h
  · cases h
  rename_i h1 h2 h3
  refine ⟨by omega, by omega, fun j hj => ?_, fun i hi => allB_iff.1 (by simpa using h3) i hi⟩
  have := allB_iff.1 (show allB (fun j => !(p.c j).cross) p.nc = true by simpa using h2) j hj
  simpa using this
theorem row_range {p : Pr} (h : p.err = 0) {i : Nat} (hi : i < p.nr) : ∀ k, k < (p.r i).k → 0 ≤ ((p.r i).e k).i ∧ ((p.r i).e k).i < p.nc := by
  have h1 := (err_facts h).2.2.2 i hi
  unfold Ro.ok at h1
  simp only [Bool.and_eq_true] at h1
  exact fun k hk => ⟨(ent_range h1.2 k hk).1, (ent_range h1.2 k hk).2.1⟩
theorem row_sense {p : Pr} (h : p.err = 0) {i : Nat} (hi : i < p.nr) : (p.r i).s = -1 ∨ (p.r i).s = 0 ∨ (p.r i).s = 1 := by
  have h1 := (err_facts h).2.2.2 i hi
  unfold Ro.ok at h1
  simp only [Bool.and_eq_true, Bool.or_eq_true, decide_eq_true_eq] at h1
  rcases h1.1 with (h | h) | h <;> omega
theorem errS_zero {p : Pr} {a b : Nat} : p.errS a b = 0 ↔ p.err = 0 ∧ a = b := by
  unfold Pr.errS
  split
  · constructor
    · intro h; exact absurd h ‹_›
    · intro h; exact absurd h.1 ‹_›
  · split
    · simp_all
    · simp_all
/-- an activity, column by column -/
theorem act_at {r : Ro} {nc : Nat} (h : ∀ k, k < r.k → 0 ≤ (r.e k).i ∧ (r.e k).i < nc) (x : Nat → Rat) :
    qsum (fun j => r.at j * x j) nc = qsum (fun k => (r.e k).v.v * x (r.e k).i.toNat) r.k := by
  unfold Ro.at
  have e1 : qsum (fun j => qsum (fun k => if (r.e k).i = j then (r.e k).v.v else 0) r.k * x j) nc = qsum (fun j => qsum (fun k => (if (r.e k).i = j then (r.e k).v.v else 0) * x j) r.k) nc :=
    qsum_congr fun j hj => by rw [Rat.mul_comm, ← qsum_mul]; exact qsum_congr fun k hk => Rat.mul_comm _ _
  rw [e1, qsum_swap]
  refine qsum_congr fun k hk => ?_
  obtain ⟨h1, h2⟩ := h k hk
  rw [qsum_one (k := (r.e k).i.toNat) (by omega)]
  · rw [if_pos (by omega)]
  · intro j hj hne
    rw [if_neg (by omega), Rat.zero_mul]
theorem feas_facts {p : Pr} {x : Nat → RR} {n : Nat} (h : p.feas x n = true) : p.err = 0 ∧ n = p.nc ∧ (∀ j, j < p.nc → p.cv x j = false) ∧ ∀ i, i < p.nr → p.rv x i = false := by
  unfold Pr.feas at h
  simp only [Bool.and_eq_true, decide_eq_true_eq] at h
  obtain ⟨⟨h1, h2⟩, h3⟩ := h
  obtain ⟨h4, h5⟩ := errS_zero.1 h1
  exact ⟨h4, h5, cnt_zero.1 h2, cnt_zero.1 h3⟩
theorem feas_of {p : Pr} {x : Nat → RR} {n : Nat} (h1 : p.err = 0) (h2 : n = p.nc) (h3 : ∀ j, j < p.nc → p.cv x j = false) (h4 : ∀ i, i < p.nr → p.rv x i = false) : p.feas x n = true := by
  unfold Pr.feas
  simp only [Bool.and_eq_true, decide_eq_true_eq]
  exact ⟨⟨errS_zero.2 ⟨h1, h2⟩, cnt_zero.2 h3⟩, cnt_zero.2 h4⟩
theorem cv_iff {p : Pr} {x : Nat → RR} {j : Nat} : p.cv x j = false ↔ ((p.c j).hl = true → (p.c j).lo.v ≤ (x j).v) ∧ ((p.c j).hu = true → (x j).v ≤ (p.c j).up.v) := by
  unfold Pr.cv colViol
  rw [Bool.or_eq_false_iff]
  simp only [Bool.and_eq_false_iff, decide_eq_false_iff_not]
  constructor
  · rintro ⟨h1, h2⟩
    refine ⟨fun h => ?_, fun h => ?_⟩
    · rcases h1 with h1 | h1
      · rw [h] at h1; cases h1
      · exact Rat.not_lt.1 h1
    · rcases h2 with h2 | h2
      · rw [h] at h2; cases h2
      · exact Rat.not_lt.1 h2
  · rintro ⟨h1, h2⟩
    constructor
    · cases h : (p.c j).hl with
      | false => exact .inl rfl
      | true => exact .inr (Rat.not_lt.2 (h1 h))
    · cases h : (p.c j).hu with
      | false => exact .inl rfl
      | true => exact .inr (Rat.not_lt.2 (h2 h))
theorem holdB_iff {s : Int} {v b : Rat} : holdB s v b = true ↔ (s = -1 → v ≤ b) ∧ (s = 1 → b ≤ v) ∧ (s ≠ -1 → s ≠ 1 → v = b) := by
  unfold holdB
  split
  · rename_i h; subst h; simp
  · split
    · rename_i h1 h; subst h; simp
    · rename_i h1 h2; simp [h1, h2]
theorem rv_iff {p : Pr} {x : Nat → RR} {i : Nat} : p.rv x i = false ↔ holdB (p.r i).s ((p.r i).act x) (p.r i).b.v = true := by
  unfold Pr.rv; simp
theorem mul_le {a b c : Rat} (h : a ≤ b) (hc : 0 ≤ c) : c * a ≤ c * b := Rat.mul_le_mul_of_nonneg_left h hc
theorem mul_le_neg {a b c : Rat} (h : a ≤ b) (hc : c ≤ 0) : c * b ≤ c * a := by
  have := Rat.mul_le_mul_of_nonneg_left h (show 0 ≤ -c by grind)
  grind
theorem weak_duality {p : Pr} {x y : Nat → RR} {nx ny : Nat} (hf : p.feas x nx = true) (hb : p.bndOk y ny = true) : p.bnd y ≤ p.obj x := by
  obtain ⟨he, _, hc, hr⟩ := feas_facts hf
  unfold Pr.bndOk Pr.sgnd at hb
  simp only [Bool.and_eq_true, decide_eq_true_eq] at hb
  obtain ⟨⟨_, hs⟩, hh⟩ := hb
  have hs := allB_iff.1 hs
  have hh := allB_iff.1 hh
  have e1 : qsum (fun j => p.red y j * (x j).v) p.nc = p.obj x - qsum (fun i => (y i).v * (p.r i).act x) p.nr := by
    have a1 : ∀ j, p.red y j * (x j).v = (p.c j).w.v * (x j).v + (-1) * qsum (fun i => (y i).v * ((p.r i).at j * (x j).v)) p.nr := by
      intro j
      have : qsum (fun i => (y i).v * ((p.r i).at j * (x j).v)) p.nr = (x j).v * qsum (fun i => (y i).v * (p.r i).at j) p.nr := by
        rw [← qsum_mul]; exact qsum_congr fun i _ => by grind
      rw [this]; unfold Pr.red; grind
    have a2 : qsum (fun j => p.red y j * (x j).v) p.nc = qsum (fun j => (p.c j).w.v * (x j).v + (-1) * qsum (fun i => (y i).v * ((p.r i).at j * (x j).v)) p.nr) p.nc := qsum_congr fun j _ => a1 j
    rw [a2, qsum_add, qsum_mul, qsum_swap]
    have a3 : qsum (fun i => qsum (fun j => (y i).v * ((p.r i).at j * (x j).v)) p.nc) p.nr = qsum (fun i => (y i).v * (p.r i).act x) p.nr := qsum_congr fun i hi => by
      rw [qsum_mul, act_at (row_range he hi) (fun j => (x j).v)]; rfl
    rw [a3]; unfold Pr.obj; grind
  have h1 : qsum (fun i => (y i).v * (p.r i).b.v) p.nr ≤ qsum (fun i => (y i).v * (p.r i).act x) p.nr := qsum_le fun i hi => by
    have q1 := holdB_iff.1 (rv_iff.1 (hr i hi))
    have q2 := hs i hi
    unfold signB at q2
    simp only [Bool.not_eq_true', Bool.or_eq_false_iff, Bool.and_eq_false_iff, decide_eq_false_iff_not] at q2
    rcases row_sense he hi with s | s | s
    · have q3 : (y i).v ≤ 0 := by
        rcases q2.1 with q | q
        · exact absurd s q
        · exact Rat.not_lt.1 q
      exact mul_le_neg (q1.1 s) q3
    · rw [q1.2.2 (by omega) (by omega)]; exact Rat.le_refl
    · have q3 : 0 ≤ (y i).v := by
        rcases q2.2 with q | q
        · exact absurd s q
        · exact Rat.not_lt.1 q
      exact mul_le (q1.2.1 s) q3
  have h2 : qsum (fun j => colB (p.c j) (p.red y j)) p.nc ≤ qsum (fun j => p.red y j * (x j).v) p.nc := qsum_le fun j hj => by
    have q1 := cv_iff.1 (hc j hj)
    have q2 := hh j hj
    unfold colHas at q2
    simp only [Bool.or_eq_true, Bool.and_eq_true, decide_eq_true_eq] at q2
    unfold colB
    split
    · rename_i h
      rcases q2 with (q | q) | q
      · grind
      · exact mul_le (q1.1 q.2) (Rat.le_of_lt h)
      · grind
    · split
      · rename_i h0 h
        rcases q2 with (q | q) | q
        · grind
        · grind
        · exact mul_le_neg (q1.2 q.2) (Rat.le_of_lt h)
      · have : p.red y j = 0 := by grind
        rw [this, Rat.zero_mul]; exact Rat.le_refl
  unfold Pr.bnd
  grind
theorem mix_le {a b c w : Rat} (h0 : 0 ≤ w) (h1 : w ≤ 1) (ha : a ≤ c) (hb : b ≤ c) : w * a + (1 - w) * b ≤ c := by
  have e1 := mul_le ha h0
  have e2 := mul_le hb (show 0 ≤ 1 - w by grind)
  grind
theorem mix_ge {a b c w : Rat} (h0 : 0 ≤ w) (h1 : w ≤ 1) (ha : c ≤ a) (hb : c ≤ b) : c ≤ w * a + (1 - w) * b := by
  have e1 := mul_le ha h0
  have e2 := mul_le hb (show 0 ≤ 1 - w by grind)
  grind
theorem qsum_mix (f a b : Nat → Rat) (w : Rat) (n : Nat) : qsum (fun j => f j * (w * a j + (1 - w) * b j)) n = w * qsum (fun j => f j * a j) n + (1 - w) * qsum (fun j => f j * b j) n := by
  rw [← qsum_mul, ← qsum_mul, ← qsum_add]
  exact qsum_congr fun j _ => by grind
theorem obj_mix {p : Pr} {a b x : Nat → RR} {w : Rat} (hx : ∀ j, j < p.nc → (x j).v = w * (a j).v + (1 - w) * (b j).v) : p.obj x = w * p.obj a + (1 - w) * p.obj b := by
  unfold Pr.obj
  rw [← qsum_mix (fun j => (p.c j).w.v) (fun j => (a j).v) (fun j => (b j).v)]
  exact qsum_congr fun j hj => by rw [hx j hj]
theorem act_mix {p : Pr} (he : p.err = 0) {a b x : Nat → RR} {w : Rat} (hx : ∀ j, j < p.nc → (x j).v = w * (a j).v + (1 - w) * (b j).v) {i : Nat} (hi : i < p.nr) : (p.r i).act x = w * (p.r i).act a + (1 - w) * (p.r i).act b := by
  unfold Ro.act
  rw [← qsum_mix (fun k => ((p.r i).e k).v.v) (fun k => (a ((p.r i).e k).i.toNat).v) (fun k => (b ((p.r i).e k).i.toNat).v)]
  exact qsum_congr fun k hk => by
    have := row_range he hi k hk
    rw [hx _ (by omega)]
theorem feas_mix {p : Pr} {a b x : Nat → RR} {w : Rat} {n : Nat} (h0 : 0 ≤ w) (h1 : w ≤ 1) (hx : ∀ j, j < p.nc → (x j).v = w * (a j).v + (1 - w) * (b j).v) (ha : p.feas a n = true) (hb : p.feas b n = true) : p.feas x n = true := by
  obtain ⟨he, hn, ca, ra⟩ := feas_facts ha
  obtain ⟨_, _, cb, rb⟩ := feas_facts hb
  refine feas_of he hn (fun j hj => ?_) (fun i hi => ?_)
  · have a1 := cv_iff.1 (ca j hj)
    have b1 := cv_iff.1 (cb j hj)
    refine cv_iff.2 ⟨fun h => ?_, fun h => ?_⟩
    · rw [hx j hj]; exact mix_ge h0 h1 (a1.1 h) (b1.1 h)
    · rw [hx j hj]; exact mix_le h0 h1 (a1.2 h) (b1.2 h)
  · have a1 := holdB_iff.1 (rv_iff.1 (ra i hi))
    have b1 := holdB_iff.1 (rv_iff.1 (rb i hi))
    refine rv_iff.2 (holdB_iff.2 ?_)
    rw [act_mix he hx hi]
    refine ⟨fun h => mix_le h0 h1 (a1.1 h) (b1.1 h), fun h => mix_ge h0 h1 (a1.2.1 h) (b1.2.1 h), fun h2 h3 => ?_⟩
    rw [a1.2.2 h2 h3, b1.2.2 h2 h3]; grind
end Go.Abs

/- From a contract to a row's step. -/
set_option autoImplicit false
set_option linter.unusedVariables false
set_option linter.unusedSimpArgs false
namespace Go.Abs
open Go.ChangeShapes Go.WideShapes Go.ChangeAt Go.RowKit

section
variable {H : Type} {enc : TypeId × Value → H} {P : Program}

def rowedB (P : Program) : List TypeId → Bool
  | [] => true
  | t :: r => P.readableRec t && decide (t < P.types.size) && rowedB P r

/-- the arguments read as they did -/
theorem trodAll_stays (hl : laidOutB P = true) {W W' : World} (hb : RowKit.Below W.heap.size W W') {sp : Nat → Bool} : ∀ {ts : List TypeId} {vs : List Value} {ds : List (DataW H)} {ps : List MemPlace}, rowedB P ts = true →
    DataW.TrodAll enc P W 0 (fun _ => true) true ts vs ds ps → (∀ x ∈ ps, x.block < W.heap.size ∧ sp x.block = true) → DataW.TrodAll enc P W' 0 sp true ts vs ds ps
  | [], [], [], ps, _, h, _ => h
  | t :: ts, v :: vs, d :: ds, ps, hr, ⟨p, q, h1, h2, e⟩, hp => by
    simp only [rowedB, Bool.and_eq_true, decide_eq_true_eq] at hr
    subst e
    exact ⟨p, q, WideElems.Trod_stays hl hr.1.1 hr.1.2 h1 (fun x hx => hb.same (hp x (by simp [hx])).1) (fun x hx => (hp x (by simp [hx])).2),
      trodAll_stays hl hb hr.2 h2 (fun x hx => hp x (by simp [hx])), rfl⟩
  | [], _ :: _, _, _, _, h, _ => h.elim
  | [], [], _ :: _, _, _, h, _ => h.elim
  | _ :: _, [], _, _, _, h, _ => h.elim
  | _ :: _, _ :: _, [], _, _, h, _ => h.elim

/-- THE STEP: a law that answers true -/
theorem law_post {f : FuncId} {fn : Func} {spec : ChangeSpec} {tb : TypeId} {W : World} {args : Array Value} {ds gs : List (DataW H)} {before : List MemPlace} {avs : List AV}
    (hA : ACall P f avs (.f (.bool true))) (hl : laidOutB P = true) (hrow : rowedB P fn.params.toList = true) (hres : fn.resultTypes = #[tb]) (htb : P.underlying tb = some .bool)
    (hvars : spec.vars = []) (h1 : (spec.fn H (ds ++ gs)).results = [.lit (.bool true)]) (h2 : (spec.fn H (ds ++ gs)).args = ds) (h3 : (spec.fn H (ds ++ gs)).vars = [])
    (hW : DataW.Whole enc P fn.params.toList spec.vars false W args.toList ds gs before) (hrel : All2 (RelA (fun k => k < W.heap.size) m0 G0 W) avs args.toList) :
    Calls P f args W fun e W' => ∃ v, e = .returned v ∧ spec.post enc P fn false true false false W args v W' := by
  have hlt := hW.lt
  refine (hA.2 _ W args (fun k h => h) hrel).mono ?_
  rintro e W' ⟨v, rfl, he, hv⟩
  have hb : RowKit.Below W.heap.size W W' := ⟨he.os, he.tape, he.output, he.size, fun k hk => he.block k hk (fun h => h)⟩
  have hv' : v = .bool true := by cases hv with | f hv => cases hv; rfl
  subst hv'
  have hW2 := hW
  obtain ⟨p, q, hT, hV, rfl, hfz, hnd⟩ := hW2
  rw [hvars] at hV
  obtain ⟨_, rfl⟩ := trodVars_none hV
  refine ⟨_, rfl, post_of_same (pa := p) (pv := []) hW (fun b sp hd => ?_) (fun sp hsp => ?_) (fun sp _ => ?_) rfl (hb.frame _) he.froz ?_⟩
  · rw [h1, hres]; exact trodAll_cons_mk (shut_bool htb _) trodAll_mk0
  · rw [h2]; exact trodAll_stays hl hb hrow hT fun x hx => ⟨hlt x (by simpa using hx), hsp x (by simpa using hx)⟩
  · rw [h3, hvars]; rfl
  · exact ok_one hres rfl (okWide_bool_mk htb _)

/-- a list of limbs, as it comes in -/
theorem limbs_in {t e : TypeId} {W : World} {r : Reach} {b0 : Nat} {v : Value} {d : DataW H} {ps : List MemPlace} (ht : P.underlying t = some (.slice e)) (he : P.underlying e = some (.int .u32)) (hc : P.cellsOf e = 1)
    (hval : Value.okWide P W r b0 t v) (h : DataW.Trod enc P W 0 (fun _ => true) true t v d ps) (hlt : ∀ x ∈ ps, x.block < W.heap.size) :
    ∃ (g : Nat → Nat) (n : Nat), Dig g n ∧ RelA (fun k => k < W.heap.size) m0 G0 W (raw g n) v ∧ (n = 0 ∨ ∃ elems spare, d = .slice elems spare ∧ elems.length = n) := by
  obtain ⟨a', len', cap', rfl⟩ := okWide_slice ht hval
  obtain ⟨fuel, h⟩ := h
  rcases open_ints ht he hc h with ⟨hcs, hx⟩ | ⟨a, len, cap, zs, hcs, hb, hle, hm, hz, hx, hcell, hw⟩
  · simp [Value.cells] at hcs
    obtain ⟨rfl, rfl, rfl⟩ := hcs
    refine ⟨fun _ => 0, 0, fun j hj => by omega, ?_, .inl rfl⟩
    exact .f (.sl (fun _ _ => .bool true) (Nat.le_refl _) (by simp) (fun _ => rfl) (by omega) (by omega) (fun a ha i j hi => by omega) (fun i j x hi => by omega))
  · simp [Value.cells] at hcs
    obtain ⟨rfl, rfl, rfl⟩ := hcs
    simp only [if_true] at hz
    simp only [Prod.mk.injEq] at hx
    have hwf : ∀ i, i < zs.length → 0 ≤ zs.getD i 0 ∧ zs.getD i 0 < 4294967296 := by
      intro i hi
      have := hw _ (List.getElem_mem hi)
      simp only [Lit.wf, Bool.and_eq_true, decide_eq_true_eq, IntKind.min, IntKind.max, IntKind.signed, IntKind.bits] at this
      rw [List.getD_eq_getElem?_getD, List.getElem?_eq_getElem hi]
      simp at this ⊢
      omega
    have hspot : ∀ i, i < zs.length → W.cell? ⟨a.block, a.off + i, none⟩ = some (.int .u32 (zs.getD i 0)) := by
      intro i hi
      have := hcell i hi
      unfold Addr.add at this
      split at this
      · rename_i h0; subst h0
        have hs : a.spot = none := by
          unfold World.cell? at this
          split at this
          · split at this
            · cases this
            · rename_i h; simpa using h
          · cases this
        rw [show (⟨a.block, a.off + 0, none⟩ : Addr) = a by rw [← hs]; simp]; exact this
      · exact this
    refine ⟨fun i => (zs.getD i 0).toNat, len', ?_, ?_, .inr ⟨_, _, hx.1, ?_⟩⟩
    · intro j hj
      have := hwf j (by omega)
      show (zs.getD j 0).toNat < _
      omega
    · refine .f (.sl (fun i _ => .int .u32 ((zs.getD i 0).toNat : Int)) hle (by simp) (by simp) (fun i hi => rfl) (fun b hb h0 h1 => ?_) (fun b hb i j hi hj => ?_) (fun i j x hi hx => ?_))
      · cases hb
        have h0' := hcell 0 (by omega)
        refine ⟨?_, ?_⟩
        · unfold World.cell? at h0'
          simp only [Addr.add, if_true] at h0'
          split at h0'
          · split at h0'
            · cases h0'
            · rename_i h; simpa using h
          · cases h0'
        · unfold World.cell? at h0'
          simp only [Addr.add, if_true] at h0'
          split at h0'
          · rename_i h
            exact (Array.getElem?_eq_some_iff.1 h).1
          · cases h0'
      · cases hb
        have : j = 0 := by omega
        subst this
        rw [Nat.mul_one, Nat.add_zero, hspot i (by omega)]
        have := hwf i (by omega)
        rw [show ((zs.getD i 0).toNat : Int) = zs.getD i 0 by omega]
      · cases j with
        | zero => obtain rfl : FV.int .u32 ((zs.getD i 0).toNat : Int) = x := Option.some.inj hx; exact .int
        | succ j => simp at hx
    · simp [lits]; omega

theorem natu64_in {t : TypeId} {W : World} {r : Reach} {b0 : Nat} {v : Value} {d : DataW H} {ps : List MemPlace} (ht : P.underlying t = some (.int .u64)) (hval : Value.okWide P W r b0 t v) (h : DataW.Trod enc P W 0 (fun _ => true) true t v d ps) :
    ∃ x : Nat, RelA (fun k => k < W.heap.size) m0 G0 W (.f (.int .u64 (x : Nat))) v ∧ x < 18446744073709551616 := by
  obtain ⟨n, rfl, _, _, hw⟩ := open_int ht hval h
  simp only [Lit.wf, Bool.and_eq_true, decide_eq_true_eq, IntKind.min, IntKind.max, IntKind.signed, IntKind.bits] at hw
  simp at hw
  refine ⟨n.toNat, ?_, by omega⟩
  rw [show ((n.toNat : Nat) : Int) = n by omega]
  exact .f .int
theorem natu8_in {t : TypeId} {W : World} {r : Reach} {b0 : Nat} {v : Value} {d : DataW H} {ps : List MemPlace} (ht : P.underlying t = some (.int .u8)) (hval : Value.okWide P W r b0 t v) (h : DataW.Trod enc P W 0 (fun _ => true) true t v d ps) :
    ∃ x : Nat, RelA (fun k => k < W.heap.size) m0 G0 W (.f (.int .u8 (x : Nat))) v ∧ x < 256 := by
  obtain ⟨n, rfl, _, _, hw⟩ := open_int ht hval h
  simp only [Lit.wf, Bool.and_eq_true, decide_eq_true_eq, IntKind.min, IntKind.max, IntKind.signed, IntKind.bits] at hw
  simp at hw
  refine ⟨n.toNat, ?_, by omega⟩
  rw [show ((n.toNat : Nat) : Int) = n by omega]
  exact .f .int
theorem int_in {t : TypeId} {W : World} {r : Reach} {b0 : Nat} {v : Value} {d : DataW H} {ps : List MemPlace} (ht : P.underlying t = some (.int .i64)) (hval : Value.okWide P W r b0 t v) (h : DataW.Trod enc P W 0 (fun _ => true) true t v d ps) :
    ∃ x : Int, RelA (fun k => k < W.heap.size) m0 G0 W (.f (.int .i64 x)) v ∧ -9223372036854775808 ≤ x ∧ x ≤ 9223372036854775807 := by
  obtain ⟨n, rfl, _, _, hw⟩ := open_int ht hval h
  simp only [Lit.wf, Bool.and_eq_true, decide_eq_true_eq, IntKind.min, IntKind.max, IntKind.signed, IntKind.bits] at hw
  simp at hw
  exact ⟨n, .f .int, by omega, by omega⟩
end
end Go.Abs

/- What comes in, whatever its type: cell by cell, with a measure. -/
set_option autoImplicit false
set_option maxHeartbeats 1000000
set_option linter.unusedVariables false
set_option linter.unusedSimpArgs false
namespace Go.Abs
open Go.ChangeShapes Go.WideShapes Go.ChangeAt Go.RowKit

def sumTo (bs : Nat → Nat) : Nat → Nat
  | 0 => 0
  | n + 1 => sumTo bs n + bs n
theorem sumTo_le {bs : Nat → Nat} : ∀ {n i : Nat}, i < n → bs i ≤ sumTo bs n
  | n + 1, i, h => by
    simp only [sumTo]
    by_cases e : i = n
    · subst e; omega
    · have := sumTo_le (bs := bs) (n := n) (i := i) (by omega); omega
theorem len_le_sumTo {bs : Nat → Nat} : ∀ {n : Nat}, (∀ i, i < n → 1 ≤ bs i) → n ≤ sumTo bs n
  | 0, _ => Nat.zero_le _
  | n + 1, h => by
    have := len_le_sumTo (bs := bs) (n := n) fun i hi => h i (by omega)
    have := h n (by omega)
    simp only [sumTo]; omega

theorem pickF {α : Type} [Inhabited α] {n : Nat} {p : Nat → α → Prop} (h : ∀ i, i < n → ∃ x, p i x) : ∃ g : Nat → α, ∀ i, i < n → p i (g i) := by
  classical
  refine ⟨fun i => if h' : i < n then Classical.choose (h i h') else default, fun i hi => ?_⟩
  simp only [dif_pos hi]
  exact Classical.choose_spec (h i hi)

mutual
/-- cells of a value of type t, of bulk at most n -/
inductive Fits (T : Tab) : Nat → List FV → Nat → Prop
  | int {t n : Nat} {ti : TI} {k : IntKind} {z : Int} (h : T.get t = some ti) (hd : ti.d = .int k) (h1 : k.min ≤ z) (h2 : z ≤ k.max) (hn : 1 ≤ n) : Fits T t [.int k z] n
  | bool {t n : Nat} {ti : TI} {b : Bool} (h : T.get t = some ti) (hd : ti.d = .bool) (hn : 1 ≤ n) : Fits T t [.bool b] n
  | str {t n : Nat} {ti : TI} {s : ByteArray} (h : T.get t = some ti) (hd : ti.d = .str) (hn : s.size + 1 ≤ n) : Fits T t [.str s] n
  | slice {t n e len : Nat} {ti te : TI} {at_ : Nat → List FV} (h : T.get t = some ti) (hd : ti.d = .slice e) (he : T.get e = some te) (bs : Nat → Nat) (hel : ∀ i, i < len → Fits T e (at_ i) (bs i)) (hn : sumTo bs len + 1 ≤ n) :
      Fits T t [.sl te.size at_ len none] n
  | struct {t n m : Nat} {ti : TI} {fs : List (Nat × Nat)} {cells : List FV} (h : T.get t = some ti) (hd : ti.d = .struct fs) (hf : FitsL T fs cells m) (hn : m + 1 ≤ n) : Fits T t cells n
inductive FitsL (T : Tab) : List (Nat × Nat) → List FV → Nat → Prop
  | nil : FitsL T [] [] 0
  | cons {o t a b : Nat} {r : List (Nat × Nat)} {c c' : List FV} (h : Fits T t c a) (hr : FitsL T r c' b) : FitsL T ((o, t) :: r) (c ++ c') (a + b)
end

theorem Fits.pos {T : Tab} {t n : Nat} {c : List FV} (h : Fits T t c n) : 1 ≤ n := by cases h <;> omega
theorem Fits.mono {T : Tab} {t n m : Nat} {c : List FV} (h : Fits T t c n) (hm : n ≤ m) : Fits T t c m := by
  cases h with
  | int h hd h1 h2 hn => exact .int h hd h1 h2 (by omega)
  | bool h hd hn => exact .bool h hd (by omega)
  | str h hd hn => exact .str h hd (by omega)
  | slice h hd he bs hel hn => exact .slice h hd he bs hel (by omega)
  | struct h hd hf hn => exact .struct h hd hf (by omega)

/-- what its form says -/
theorem Fits.inv {T : Tab} {t n : Nat} {c : List FV} {ti : TI} (h : Fits T t c n) (ht : T.get t = some ti) :
    match ti.d with
    | .int k => ∃ z, c = [.int k z] ∧ k.min ≤ z ∧ z ≤ k.max
    | .bool => ∃ b, c = [.bool b]
    | .str => ∃ s, c = [.str s] ∧ s.size + 1 ≤ n
    | .slice e => ∃ te at_ len bs, T.get e = some te ∧ c = [.sl te.size at_ len none] ∧ (∀ i, i < len → Fits T e (at_ i) (bs i)) ∧ sumTo bs len + 1 ≤ n
    | .struct fs => ∃ m, FitsL T fs c m ∧ m + 1 ≤ n
    | _ => False := by
  cases h with
  | int h hd h1 h2 hn => rw [ht] at h; cases h; rw [hd]; exact ⟨_, rfl, h1, h2⟩
  | bool h hd hn => rw [ht] at h; cases h; rw [hd]; exact ⟨_, rfl⟩
  | str h hd hn => rw [ht] at h; cases h; rw [hd]; exact ⟨_, rfl, hn⟩
  | slice h hd he bs hel hn => rw [ht] at h; cases h; rw [hd]; exact ⟨_, _, _, bs, he, rfl, hel, hn⟩
  | struct h hd hf hn => rw [ht] at h; cases h; rw [hd]; exact ⟨_, hf, hn⟩
theorem FitsL.inv {T : Tab} {o t n : Nat} {r : List (Nat × Nat)} {c : List FV} (h : FitsL T ((o, t) :: r) c n) : ∃ a b c1 c2, Fits T t c1 a ∧ FitsL T r c2 b ∧ c = c1 ++ c2 ∧ n = a + b := by
  cases h with | cons h hr => exact ⟨_, _, _, _, h, hr, rfl, rfl⟩
theorem FitsL.inv0 {T : Tab} {n : Nat} {c : List FV} (h : FitsL T [] c n) : c = [] ∧ n = 0 := by cases h; exact ⟨rfl, rfl⟩

/-- a measure as the rows take it -/
structure IsBulk {H : Type} (β : DataW H → Nat) : Prop where
  pos : ∀ d, 1 ≤ β d
  str : ∀ bs, bs.length + 1 ≤ β (.lit (.string bs))
  slice : ∀ elems spare, (elems.map β).sum + 1 ≤ β (.slice elems spare)
  agg : ∀ parts, (parts.map β).sum + 1 ≤ β (.agg parts)

/-- fields one behind the other -/
def contig (T : Tab) : List (Nat × Nat) → Nat → Nat → Bool
  | [], o, n => Nat.beq o n
  | (f, t) :: r, o, n => match T.get t with
    | some ti => Nat.beq f o && contig T r (o + ti.size) n
    | none => false
def isSlice : TD → Bool
  | .slice _ => true
  | _ => false
/-- is t made of numbers, bools, strings, slices and structs alone -/
def dataB (T : Tab) : Nat → Nat → Bool
  | 0, _ => false
  | d + 1, t => match T.get t with
    | some ti => match ti.d with
      | .int _ | .bool | .str => true
      | .slice e => (match T.get e with | some te => Nat.blt 0 te.size | none => false) && dataB T d e
      | .struct fs => contig T fs 0 ti.size && fs.all fun f => dataB T d f.2
      | _ => false
    | none => false

theorem mapsum_range {α : Type} {β : α → Nat} {f : Nat → α} : ∀ n, (((List.range n).map f).map β).sum = sumTo (fun i => β (f i)) n
  | 0 => rfl
  | n + 1 => by
    rw [List.range_succ, List.map_append, List.map_append, List.sum_append, mapsum_range n]
    simp [sumTo]

section
variable {H : Type} {enc : TypeId × Value → H} {P : Program} {T : Tab} {W : World} {β : DataW H → Nat}

theorem cellsOf_eq {t : Nat} {ti : TI} {inf : TypeInfo} {u : TypeDesc} {z : Value} (f : TyFacts P t ti inf u z) : P.cellsOf t = ti.size := by
  simp [Program.cellsOf, f.info, f.size]

theorem addr_spot {W : World} {a : Addr} {v : Value} (h : W.cell? a = some v) : a.spot = none ∧ a.block < W.heap.size := by
  unfold World.cell? at h
  split at h
  · rename_i hh
    refine ⟨?_, (Array.getElem?_eq_some_iff.1 hh).1⟩
    split at h
    · cases h
    · rename_i hs; simpa using hs
  · cases h

theorem trod_fits (hok : tabOk P T = true) (hβ : IsBulk β) : ∀ (fuel : Nat) (dp t : Nat) (cs : List Value) (x : DataW H × List MemPlace), dataB T dp t = true → DataW.trod enc P W 0 (fun _ => true) true fuel t cs = some x →
    ∃ cells, Fits T t cells (β x.1) ∧ All2 (RelF (fun k => k < W.heap.size) W) cells cs := by
  intro fuel
  induction fuel with
  | zero => intro dp t cs x _ h; simp [DataW.trod] at h
  | succ fuel ih =>
    intro dp t cs x hd h
    cases dp with
    | zero => simp [dataB] at hd
    | succ dp =>
    simp only [dataB] at hd
    cases ht : T.get t with
    | none => simp [ht] at hd
    | some ti =>
    simp only [ht] at hd
    obtain ⟨inf, u, z, f⟩ := facts hok ht
    cases htd : ti.d with
    | int k =>
      have hu := f.int htd; subst hu
      obtain ⟨n, rfl, rfl, hw⟩ := DataW.trod_int f.und h
      simp only [Lit.wf, Bool.and_eq_true, decide_eq_true_eq] at hw
      exact ⟨_, .int ht htd hw.1 hw.2 (hβ.pos _), .int, trivial⟩
    | bool =>
      have hu := f.bool htd; subst hu
      obtain ⟨b, rfl, rfl⟩ := DataW.trod_bool f.und h
      exact ⟨_, .bool ht htd (hβ.pos _), .bool, trivial⟩
    | str =>
      have hu := f.str htd; subst hu
      obtain ⟨s, rfl, rfl, hs⟩ := DataW.trod_string f.und h
      have := hβ.str s.data.toList
      exact ⟨_, .str ht htd (by simpa using this), .str, trivial⟩
    | slice e =>
      rw [htd] at hd
      simp only [Bool.and_eq_true] at hd
      cases hte : T.get e with
      | none => simp [hte] at hd
      | some te =>
      simp only [hte] at hd
      have hpos : 0 < te.size := blt_t hd.1
      have hu := f.slice htd; subst hu
      obtain ⟨inf2, u2, z2, f2⟩ := facts hok hte
      have hsz := cellsOf_eq f2
      rcases DataW.trod_slice f.und h with ⟨rfl, rfl⟩ | ⟨a, len, cap, elems, rest, n, hfu, rfl, rfl, hb, hl, hm, hlen, hel, hsp, hns⟩
      · refine ⟨[.sl te.size (fun _ => []) 0 none], .slice ht htd hte (fun _ => 0) (fun i hi => by omega) (hβ.pos _), .sl (fun _ _ => undef) (Nat.le_refl _) (by simp) (fun _ => rfl) (by omega) (by omega) (fun a ha i j hi => by omega) (fun i j x hi => by omega), trivial⟩
      · have hn : n = fuel := by omega
        subst hn
        have hall : ∀ i, i < len → ∃ cells cs', Fits T e cells (β (elems.getD i (.nil, [])).1) ∧ All2 (RelF (fun k => k < W.heap.size) W) cells cs' ∧ W.cells? 0 (a.add (i * te.size)) te.size = some cs' := by
          intro i hi
          have h1 := hel i hi
          rw [hsz, List.getElem?_eq_getElem (by omega)] at h1
          obtain ⟨cs', h2, h3⟩ := Option.bind_eq_some_iff.1 h1
          obtain ⟨cells, h4, h5⟩ := ih dp e cs' _ hd.2 h3
          refine ⟨cells, cs', ?_, h5, h2⟩
          rw [List.getD_eq_getElem?_getD, List.getElem?_eq_getElem (by omega)]; exact h4
        let at_ : Nat → List FV := fun i => if h : i < len then Classical.choose (hall i h) else []
        let vsF : Nat → List Value := fun i => if h : i < len then Classical.choose (Classical.choose_spec (hall i h)) else []
        have hat : ∀ i, i < len → Fits T e (at_ i) (β (elems.getD i (.nil, [])).1) ∧ All2 (RelF (fun k => k < W.heap.size) W) (at_ i) (vsF i) ∧ W.cells? 0 (a.add (i * te.size)) te.size = some (vsF i) := by
          intro i hi
          simp only [at_, vsF, dif_pos hi]
          exact Classical.choose_spec (Classical.choose_spec (hall i hi))
        have hcell : ∀ i j, i < len → j < te.size → W.cell? ((a.add (i * te.size)).add j) = (vsF i)[j]? ∧ (vsF i).length = te.size := by
          intro i j hi hj
          obtain ⟨_, q1, q2⟩ := World.cells?_some (hat i hi).2.2
          exact ⟨q2 j hj, q1⟩
        have hspot : 0 < len → a.spot = none ∧ a.block < W.heap.size := by
          intro h0
          obtain ⟨q1, q2⟩ := hcell 0 0 h0 hpos
          rw [Nat.zero_mul, Addr.add, if_pos rfl, Addr.add, if_pos rfl, List.getElem?_eq_getElem (by omega)] at q1
          exact addr_spot q1
        refine ⟨[.sl te.size at_ len none], .slice ht htd hte (fun i => β (elems.getD i (.nil, [])).1) (fun i hi => (hat i hi).1) ?_, .sl (fun i j => ((vsF i)[j]?).getD undef) hl (by simp) (by simp) (fun i hi => ?_) (fun b hb h0 h1 => ?_) (fun b hb i j hi hj => ?_) (fun i j y hi hy => ?_), trivial⟩
        · have h1 := hβ.slice (elems.map (·.1)) (rest.map (·.1))
          have h2 : ((elems.map (·.1)).map β).sum = sumTo (fun i => β (elems.getD i (.nil, [])).1) len := by
            rw [← hlen, ← mapsum_range (β := β) (f := fun i => (elems.getD i (.nil, [])).1)]
            congr 2
            apply List.ext_getElem?
            intro i
            by_cases hi : i < elems.length
            · simp [hi, List.getD]
            · simp [hi, List.getElem?_eq_none (show elems.length ≤ i by omega)]
          rw [h2] at h1; exact h1
        · have := (hat i hi).2.1.length
          rw [this]; exact (hcell i 0 hi hpos).2
        · cases hb; exact hspot h0
        · cases hb
          obtain ⟨q1, q2⟩ := hspot (by omega)
          obtain ⟨q3, q4⟩ := hcell i j hi hj
          rw [addr_eta q1, addr_add, addr_add] at q3
          rw [← Nat.add_assoc, q3, List.getElem?_eq_getElem (by omega)]; simp
        · obtain ⟨v, hv, hr⟩ := (hat i hi).2.1.get hy
          rw [hv]; exact hr
    | struct fs =>
      rw [htd] at hd
      simp only [Bool.and_eq_true, List.all_eq_true] at hd
      obtain ⟨gs, hu, hgs⟩ := f.struct htd
      subst hu
      obtain ⟨xs, n, hfu, rfl, hlen, hxl, hf⟩ := DataW.trod_struct f.und h
      have hn : n = fuel := by omega
      subst hn
      rw [cellsOf_eq f] at hlen
      have key : ∀ (gs : List Field) (fs : List (Nat × Nat)) (o : Nat) (xs : List (DataW H × List MemPlace)), fieldsOk gs fs = true → contig T fs o ti.size = true → (∀ g ∈ fs, dataB T dp g.2 = true) → xs.length = gs.length →
          (∀ (i : Nat) (fl : Field), gs[i]? = some fl → DataW.trod enc P W 0 (fun _ => true) true n fl.type ((cs.drop fl.offset).take (P.cellsOf fl.type)) = xs[i]?) →
          ∃ cells, FitsL T fs cells ((xs.map (·.1)).map β).sum ∧ All2 (RelF (fun k => k < W.heap.size) W) cells (cs.drop o) := by
        intro gs
        induction gs with
        | nil =>
          intro fs o xs h1 h2 _ h4 _
          cases fs with
          | cons _ _ => simp [fieldsOk] at h1
          | nil =>
            have : xs = [] := List.eq_nil_of_length_eq_zero h4
            subst this
            simp only [contig] at h2
            have := Nat.eq_of_beq_eq_true h2
            subst this
            refine ⟨[], .nil, ?_⟩
            rw [List.drop_of_length_le (by omega)]; trivial
        | cons g gs ihg =>
          intro fs o xs h1 h2 h3 h4 h5
          cases fs with
          | nil => simp [fieldsOk] at h1
          | cons ft fs =>
          obtain ⟨off, tt⟩ := ft
          simp only [fieldsOk, Bool.and_eq_true, beq_iff_eq] at h1
          obtain ⟨⟨e1, e2⟩, h1⟩ := h1
          cases xs with
          | nil => simp at h4
          | cons y ys =>
          simp only [contig] at h2
          cases htt : T.get tt with
          | none => simp [htt] at h2
          | some tti =>
          simp only [htt, Bool.and_eq_true] at h2
          have e3 := Nat.eq_of_beq_eq_true h2.1
          obtain ⟨inf3, u3, z3, f3⟩ := facts hok htt
          have h6 := h5 0 g rfl
          rw [e2, cellsOf_eq f3, e1] at h6
          simp only [List.getElem?_cons_zero] at h6
          obtain ⟨c1, q1, q2⟩ := ih dp tt _ _ (h3 (off, tt) (by simp)) h6
          obtain ⟨c2, q3, q4⟩ := ihg fs (o + tti.size) ys h1 h2.2 (fun g hg => h3 g (by simp [hg])) (by simpa using h4) (fun i fl hfl => by have := h5 (i + 1) fl (by simpa using hfl); simpa using this)
          refine ⟨c1 ++ c2, ?_, ?_⟩
          · simp only [List.map_cons, List.sum_cons]; exact .cons q1 q3
          · subst e3
            have : cs.drop off = (cs.drop off).take tti.size ++ cs.drop (off + tti.size) := by rw [← List.drop_drop, List.take_append_drop]
            rw [this]; exact q2.append q4
      obtain ⟨cells, q1, q2⟩ := key gs.toList fs 0 xs hgs hd.1 (fun g hg => hd.2 g hg) (by simpa using hxl) (fun i fl hfl => hf i fl (by simpa using hfl))
      exact ⟨cells, .struct ht htd q1 (hβ.agg _), by simpa using q2⟩
    | ptr e => simp [htd] at hd
    | arr n e => simp [htd] at hd
    | other => simp [htd] at hd

theorem paramA_in (hok : tabOk P T = true) (hβ : IsBulk β) {dp t : Nat} {ti : TI} (ht : T.get t = some ti) (hagg : (match ti.d with | .struct _ => true | _ => false) = true) (hd : dataB T dp t = true) {b0 : Nat} {v : Value} {d : DataW H} {ps : List MemPlace}
    (hval : Value.okWide P W .any b0 t v) (h : DataW.Trod enc P W 0 (fun _ => true) true t v d ps) : ∃ cells, Fits T t cells (β d) ∧ RelA (fun k => k < W.heap.size) m0 G0 W (.agg (fL cells)) v := by
  obtain ⟨fuel, h⟩ := h
  obtain ⟨cells, h1, h2⟩ := trod_fits hok hβ fuel dp t _ _ hd h
  obtain ⟨inf, u, z, f⟩ := facts hok ht
  cases htd : ti.d with
  | struct fs =>
    obtain ⟨gs, hu, hgs⟩ := f.struct htd
    subst hu
    obtain ⟨cs, rfl, hsz⟩ := okWide_struct f.und hval
    refine ⟨cells, h1, ?_⟩
    have h2' : All2 (RelF (fun k => k < W.heap.size) W) cells cs.toList := h2
    have h3 := all2_fL (S := fun k => k < W.heap.size) (m := m0) (G := G0) h2'
    refine .agg (by simpa using h3.length) (fun j x v hx hv => ?_) (fun j v hv => ?_)
    · obtain ⟨b, hb, hr⟩ := h3.get hx
      simp at hb; rw [hv] at hb; cases hb; exact hr
    · have hv' : cs.toList[j]? = some v := by simpa using hv
      have hj := (List.getElem?_eq_some_iff.1 hv').1
      have hlen := h2'.length
      obtain ⟨b, hb, hr⟩ := h2'.get (List.getElem?_eq_getElem (show j < cells.length by omega))
      rw [hv'] at hb; cases hb; exact hr.one
  | _ => rw [htd] at hagg; simp at hagg

theorem param1_in (hok : tabOk P T = true) (hβ : IsBulk β) {dp t : Nat} {ti : TI} (ht : T.get t = some ti) (hone : (match ti.d with | .int _ | .bool | .str | .slice _ => true | _ => false) = true) (hd : dataB T dp t = true) {b0 : Nat} {v : Value} {d : DataW H} {ps : List MemPlace}
    (hval : Value.okWide P W .any b0 t v) (h : DataW.Trod enc P W 0 (fun _ => true) true t v d ps) : ∃ c, Fits T t [c] (β d) ∧ RelF (fun k => k < W.heap.size) W c v := by
  obtain ⟨fuel, h⟩ := h
  obtain ⟨cells, h1, h2⟩ := trod_fits hok hβ fuel dp t _ _ hd h
  obtain ⟨inf, u, z, f⟩ := facts hok ht
  have key : v.cells = #[v] → ∃ c, Fits T t [c] (β d) ∧ RelF (fun k => k < W.heap.size) W c v := by
    intro hc
    rw [hc] at h2
    match cells, h2 with
    | [c], ⟨h3, _⟩ => exact ⟨c, h1, h3⟩
  cases htd : ti.d with
  | int k => have hu := f.int htd; subst hu; obtain ⟨n, rfl⟩ := okWide_int f.und hval; exact key rfl
  | bool => have hu := f.bool htd; subst hu; obtain ⟨n, rfl⟩ := okWide_bool f.und hval; exact key rfl
  | str => have hu := f.str htd; subst hu; obtain ⟨n, rfl⟩ := okWide_string f.und hval; exact key rfl
  | slice e => have hu := f.slice htd; subst hu; obtain ⟨a, l, c, rfl⟩ := okWide_slice f.und hval; exact key rfl
  | _ => rw [htd] at hone; simp at hone
end
end Go.Abs

/- Seat n12: the program, its types and functions. -/
set_option autoImplicit false
namespace Go.Abs
open Go Go.Proofs

def tab : Tab := [
  (3, ⟨.int .i64, 1, 8, [.int .i64 0]⟩),
  (4, ⟨.bool, 1, 1, [.bool false]⟩),
  (5, ⟨.int .u8, 1, 1, [.int .u8 0]⟩),
  (9, ⟨.str, 1, 16, [.str ByteArray.empty]⟩),
  (22, ⟨.slice 81, 1, 24, [.sl 11 (fun _ => [.bool false, .sl 1 (fun _ => [.int .u32 0]) 0 (some 0), .sl 1 (fun _ => [.int .u32 0]) 0 (some 0), .bool false, .bool false, .sl 1 (fun _ => [.int .u32 0]) 0 (some 0), .sl 1 (fun _ => [.int .u32 0]) 0 (some 0), .bool false, .bool false, .sl 1 (fun _ => [.int .u32 0]) 0 (some 0), .sl 1 (fun _ => [.int .u32 0]) 0 (some 0)]) 0 (some 0)]⟩),
  (23, ⟨.slice 49, 1, 24, [.sl 5 (fun _ => [.int .i64 0, .bool false, .sl 1 (fun _ => [.int .u32 0]) 0 (some 0), .sl 1 (fun _ => [.int .u32 0]) 0 (some 0), .sl 4 (fun _ => [.int .i64 0, .bool false, .sl 1 (fun _ => [.int .u32 0]) 0 (some 0), .sl 1 (fun _ => [.int .u32 0]) 0 (some 0)]) 0 (some 0)]) 0 (some 0)]⟩),
  (25, ⟨.struct [(0, 22), (1, 23)], 2, 48, [.sl 11 (fun _ => [.bool false, .sl 1 (fun _ => [.int .u32 0]) 0 (some 0), .sl 1 (fun _ => [.int .u32 0]) 0 (some 0), .bool false, .bool false, .sl 1 (fun _ => [.int .u32 0]) 0 (some 0), .sl 1 (fun _ => [.int .u32 0]) 0 (some 0), .bool false, .bool false, .sl 1 (fun _ => [.int .u32 0]) 0 (some 0), .sl 1 (fun _ => [.int .u32 0]) 0 (some 0)]) 0 (some 0), .sl 5 (fun _ => [.int .i64 0, .bool false, .sl 1 (fun _ => [.int .u32 0]) 0 (some 0), .sl 1 (fun _ => [.int .u32 0]) 0 (some 0), .sl 4 (fun _ => [.int .i64 0, .bool false, .sl 1 (fun _ => [.int .u32 0]) 0 (some 0), .sl 1 (fun _ => [.int .u32 0]) 0 (some 0)]) 0 (some 0)]) 0 (some 0)]⟩),
  (26, ⟨.slice 34, 1, 24, [.sl 3 (fun _ => [.bool false, .sl 1 (fun _ => [.int .u32 0]) 0 (some 0), .sl 1 (fun _ => [.int .u32 0]) 0 (some 0)]) 0 (some 0)]⟩),
  (30, ⟨.slice 112, 1, 24, [.sl 1 (fun _ => [.int .u32 0]) 0 (some 0)]⟩),
  (32, ⟨.struct [(0, 4), (1, 30)], 2, 32, [.bool false, .sl 1 (fun _ => [.int .u32 0]) 0 (some 0)]⟩),
  (34, ⟨.struct [(0, 32), (2, 30)], 3, 56, [.bool false, .sl 1 (fun _ => [.int .u32 0]) 0 (some 0), .sl 1 (fun _ => [.int .u32 0]) 0 (some 0)]⟩),
  (42, ⟨.slice 3, 1, 24, [.sl 1 (fun _ => [.int .i64 0]) 0 (some 0)]⟩),
  (44, ⟨.ptr 92, 1, 8, [.any]⟩),
  (47, ⟨.slice 83, 1, 24, [.sl 4 (fun _ => [.int .i64 0, .bool false, .sl 1 (fun _ => [.int .u32 0]) 0 (some 0), .sl 1 (fun _ => [.int .u32 0]) 0 (some 0)]) 0 (some 0)]⟩),
  (49, ⟨.struct [(0, 3), (1, 34), (4, 47)], 5, 88, [.int .i64 0, .bool false, .sl 1 (fun _ => [.int .u32 0]) 0 (some 0), .sl 1 (fun _ => [.int .u32 0]) 0 (some 0), .sl 4 (fun _ => [.int .i64 0, .bool false, .sl 1 (fun _ => [.int .u32 0]) 0 (some 0), .sl 1 (fun _ => [.int .u32 0]) 0 (some 0)]) 0 (some 0)]⟩),
  (63, ⟨.int .u16, 1, 2, [.int .u16 0]⟩),
  (67, ⟨.struct [(0, 42), (1, 42)], 2, 48, [.sl 1 (fun _ => [.int .i64 0]) 0 (some 0), .sl 1 (fun _ => [.int .i64 0]) 0 (some 0)]⟩),
  (69, ⟨.struct [(0, 3), (1, 34), (4, 26), (5, 26), (6, 26), (7, 67)], 9, 184, [.int .i64 0, .bool false, .sl 1 (fun _ => [.int .u32 0]) 0 (some 0), .sl 1 (fun _ => [.int .u32 0]) 0 (some 0), .sl 3 (fun _ => [.bool false, .sl 1 (fun _ => [.int .u32 0]) 0 (some 0), .sl 1 (fun _ => [.int .u32 0]) 0 (some 0)]) 0 (some 0), .sl 3 (fun _ => [.bool false, .sl 1 (fun _ => [.int .u32 0]) 0 (some 0), .sl 1 (fun _ => [.int .u32 0]) 0 (some 0)]) 0 (some 0), .sl 3 (fun _ => [.bool false, .sl 1 (fun _ => [.int .u32 0]) 0 (some 0), .sl 1 (fun _ => [.int .u32 0]) 0 (some 0)]) 0 (some 0), .sl 1 (fun _ => [.int .i64 0]) 0 (some 0), .sl 1 (fun _ => [.int .i64 0]) 0 (some 0)]⟩),
  (76, ⟨.int .i64, 1, 8, [.int .i64 0]⟩),
  (81, ⟨.struct [(0, 34), (3, 4), (4, 34), (7, 4), (8, 34)], 11, 184, [.bool false, .sl 1 (fun _ => [.int .u32 0]) 0 (some 0), .sl 1 (fun _ => [.int .u32 0]) 0 (some 0), .bool false, .bool false, .sl 1 (fun _ => [.int .u32 0]) 0 (some 0), .sl 1 (fun _ => [.int .u32 0]) 0 (some 0), .bool false, .bool false, .sl 1 (fun _ => [.int .u32 0]) 0 (some 0), .sl 1 (fun _ => [.int .u32 0]) 0 (some 0)]⟩),
  (83, ⟨.struct [(0, 3), (1, 34)], 4, 64, [.int .i64 0, .bool false, .sl 1 (fun _ => [.int .u32 0]) 0 (some 0), .sl 1 (fun _ => [.int .u32 0]) 0 (some 0)]⟩),
  (92, ⟨.struct [(0, 42), (1, 3)], 2, 32, [.sl 1 (fun _ => [.int .i64 0]) 0 (some 0), .int .i64 0]⟩),
  (103, ⟨.int .u64, 1, 8, [.int .u64 0]⟩),
  (112, ⟨.int .u32, 1, 4, [.int .u32 0]⟩),
  (129, ⟨.int .u64, 1, 8, [.int .u64 0]⟩),
  (148, ⟨.struct [(0, 32), (2, 32)], 4, 64, [.bool false, .sl 1 (fun _ => [.int .u32 0]) 0 (some 0), .bool false, .sl 1 (fun _ => [.int .u32 0]) 0 (some 0)]⟩)]
theorem env : Env Tryz.prog tab := ⟨by kernel_rfl, by kernel_rfl⟩
end Go.Abs

/- Natural numbers: contracts. -/
set_option autoImplicit false
set_option linter.unusedVariables false
set_option linter.unusedSimpArgs false
namespace Go.Abs
open Go Go.Proofs

theorem view_ok (g : Nat → Nat) (n : Nat) (hg : Dig g n) (hn : n ≤ 4398046511104) : ACall Tryz.prog 129 [raw g n] (nat (nval g n)) := by
  refine acall_rule env [0, 2, 3, 15] Tryz.func129 rfl rfl rfl rfl ?_
  conv => whnf
  refine loop_rule [0, 3] [] (fun s : Int => ([(0, raw g n), (3, .f (.int .i64 s))], [])) (fun s => 0 ≤ s ∧ s ≤ n ∧ trimLen g s.toNat = trimLen g n) Int.toNat n rfl ⟨by omega, Int.le_refl _, rfl⟩ ?_
  rintro s ⟨h0, hs, hI⟩
  conv => whnf
  refine spl (fun h1 => ?_) (fun h1 => ?_) <;> simp only [decide_eq_true_eq, decide_eq_false_iff_not, Bool.not_eq_true', Bool.not_eq_false', gt_iff_lt, ge_iff_le] at h1
  · conv => whnf
    refine fit64 (by omega) ?_
    conv => whnf
    refine ⟨(by (try simp only [true_and, and_true, Nat.sub_zero, Nat.zero_add, Int.toNat_natCast]) <;> omega), ?_⟩
    conv => whnf
    have ht : trimLen g s.toNat = if g (s - 1).toNat = 0 then trimLen g (s - 1).toNat else s.toNat := by
      rw [show s.toNat = (s - 1).toNat + 1 by omega]; rfl
    refine spl (fun h2 => ?_) (fun h2 => ?_) <;> simp only [decide_eq_true_eq, decide_eq_false_iff_not, Bool.not_eq_true', Bool.not_eq_false', gt_iff_lt, ge_iff_le] at h2
    · conv => whnf
      refine fit64 (by omega) ?_
      conv => whnf
      exact ⟨s - 1, rfl, ⟨by omega, by omega, by rw [← hI, ht, if_pos (by omega)]⟩, by omega⟩
    · conv => whnf
      refine ⟨(by (try simp only [true_and, and_true, Nat.sub_zero, Nat.zero_add, Int.toNat_natCast]) <;> omega), ?_⟩
      conv => whnf
      refine ⟨(by (try simp only [true_and, and_true, Nat.sub_zero, Nat.zero_add, Int.toNat_natCast]) <;> omega), ?_⟩
      rw [if_neg (by omega)] at ht
      rw [ht] at hI
      rw [hI]
      exact nat_of_trim hg
  · conv => whnf
    refine ⟨(by (try simp only [true_and, and_true, Nat.sub_zero, Nat.zero_add, Int.toNat_natCast]) <;> omega), ?_⟩
    conv => whnf
    refine ⟨(by (try simp only [true_and, and_true, Nat.sub_zero, Nat.zero_add, Int.toNat_natCast]) <;> omega), ?_⟩
    have : s = 0 := by omega
    subst this
    rw [show (0 : Int).toNat = trimLen g n from hI]
    exact nat_of_trim hg

theorem view_nat (N : Nat) (h : size N ≤ 4398046511104) : ACall Tryz.prog 129 [nat N] (nat N) := by
  have := view_ok (digit N) (size N) (digit_Dig _ _) h
  rw [nval_digit_size] at this; exact this

theorem Trim_ok (g : Nat → Nat) (n : Nat) (hg : Dig g n) (hn : n ≤ 4398046511104) : ACall Tryz.prog 142 [raw g n] (nat (nval g n)) := by
  have := size_nval hg
  refine acall_rule env [0, 2] Tryz.func142 rfl rfl rfl rfl ?_
  conv => whnf
  refine callF (view_ok g n hg hn) ⟨.refl _, trivial⟩ (by trivial) rfl ?_
  conv => whnf
  refine ⟨(by (try simp only [true_and, and_true, Nat.sub_zero, Nat.zero_add, Int.toNat_natCast]) <;> omega), ?_⟩
  conv => whnf
  refine ⟨(by (try simp only [true_and, and_true, Nat.sub_zero, Nat.zero_add, Int.toNat_natCast]) <;> omega), ?_⟩
  exact .f (.limbs fun j _ => by simp)

theorem FromUint64_ok (v : Nat) (hv : v < 18446744073709551616) : ACall Tryz.prog 103 [.f (.int .u64 v)] (nat v) := by
  have h2 : nval (digit v) 2 = v := by rw [nval_digit, Nat.mod_eq_of_lt]; exact hv
  have hv2 := view_ok (digit v) 2 (digit_Dig v 2) (by omega)
  rw [h2] at hv2
  refine acall_rule env [0, 2] Tryz.func103 rfl rfl rfl rfl ?_
  conv => whnf
  refine lowu32 ?_
  conv => whnf
  refine ⟨(by (try simp only [true_and, and_true, Nat.sub_zero, Nat.zero_add, Int.toNat_natCast]) <;> omega), ?_⟩
  conv => whnf
  refine shr32 (by decide) ?_
  conv => whnf
  refine lowu32 ?_
  conv => whnf
  refine callF hv2 ⟨?_, trivial⟩ ⟨by simp, trivial⟩ rfl ?_
  · refine .f (.sl (fun i hi => ?_) (.inl rfl))
    match i, hi with
    | 0, _ => exact ⟨.int_of (by simp [digit, pw_zero]), trivial⟩
    | 1, _ => exact ⟨.int_of (by simp [digit, pw]), trivial⟩
  conv => whnf
  exact ⟨(by (try simp only [true_and, and_true, Nat.sub_zero, Nat.zero_add, Int.toNat_natCast]) <;> omega), .refl _⟩

theorem Uint64_ok (g : Nat → Nat) (n : Nat) (hg : Dig g n) (hn : n ≤ 4398046511104) : ACall Tryz.prog 150 [raw g n] (if nval g n < 18446744073709551616 then .tup [.f (.int .u64 (nval g n)), .f (.bool true)] else .tup [.f (.int .u64 0), .f (.bool false)]) := by
  have hs := size_nval hg
  have hv := view_ok g n hg hn
  generalize nval g n = N at hs hv ⊢
  refine acall_rule env [0, 2, 3, 4, 5, 10, 15] Tryz.func150 rfl rfl rfl rfl ?_
  conv => whnf
  refine callF hv ⟨.refl _, trivial⟩ (by trivial) rfl ?_
  conv => whnf
  refine spl (fun h1 => ?_) (fun h1 => ?_) <;> simp only [decide_eq_true_eq, decide_eq_false_iff_not, Bool.not_eq_true', Bool.not_eq_false', gt_iff_lt, ge_iff_le] at h1
  · conv => whnf
    refine ⟨(by (try simp only [true_and, and_true, Nat.sub_zero, Nat.zero_add, Int.toNat_natCast]) <;> omega), ?_⟩
    rw [if_neg (by intro h; have := size_le (N := N) (n := 2) h; omega)]
    exact .refl _
  have hN : N < 18446744073709551616 := Nat.lt_of_lt_of_le (lt_pw_size N) (pw_le (j := 2) (by omega))
  rw [if_pos hN]
  conv => whnf
  refine fit64 (by omega) ?_
  conv => whnf
  refine loop_rule [0, 4, 5] [] (fun s : Nat × Int => ([(0, nat N), (4, .f (.int .u64 s.1)), (5, .f (.int .i64 s.2))], [])) (fun s => -1 ≤ s.2 ∧ s.2 < size N ∧ s.1 = N / pw (s.2 + 1).toNat) (fun s => (s.2 + 1).toNat) (0, (size N : Int) - 1) rfl ⟨by simp only; omega, by simp only; omega, ?_⟩ ?_
  · simp only
    rw [show ((size N : Int) - 1 + 1).toNat = size N by omega, div_size]
  rintro ⟨v, i⟩ ⟨h2, h3, h4⟩
  simp only at h2 h3 h4 ⊢
  conv => whnf
  refine spl (fun h5 => ?_) (fun h5 => ?_) <;> simp only [decide_eq_true_eq, decide_eq_false_iff_not, Bool.not_eq_true', Bool.not_eq_false', gt_iff_lt, ge_iff_le] at h5
  · conv => whnf
    have e1 : (i + 1).toNat = i.toNat + 1 := by omega
    have hv : v < 4294967296 := by
      rw [h4, e1, pw_succ, ← Nat.div_div_eq_div_mul]
      have := Nat.div_le_self N (pw i.toNat)
      omega
    have hd := digit_lt N i.toNat
    refine ⟨(by (try simp only [true_and, and_true, Nat.sub_zero, Nat.zero_add, Int.toNat_natCast]) <;> omega), ?_⟩
    conv => whnf
    refine shl32 (v * 4294967296) (by omega) ?_
    conv => whnf
    refine ⟨(by (try simp only [true_and, and_true, Nat.sub_zero, Nat.zero_add, Int.toNat_natCast]) <;> omega), ?_⟩
    conv => whnf
    refine fitu64 (by omega) ?_
    conv => whnf
    refine or32 hv hd ?_
    conv => whnf
    refine fit64 (by omega) ?_
    conv => whnf
    refine ⟨(_, _), rfl, ⟨by simp only; omega, by simp only; omega, ?_⟩, by simp only; omega⟩
    simp only
    rw [show (i - 1 + 1).toNat = i.toNat by omega, div_step, h4, e1]
  · conv => whnf
    refine ⟨(by (try simp only [true_and, and_true, Nat.sub_zero, Nat.zero_add, Int.toNat_natCast]) <;> omega), ?_⟩
    have : i = -1 := by omega
    subst this
    rw [h4]
    exact .tup ⟨.int_of (by simp [pw_zero]), .refl _, trivial⟩
end Go.Abs

/- Natural numbers: Compare, Add, Sub. -/
set_option autoImplicit false
set_option linter.unusedVariables false
set_option linter.unusedSimpArgs false
namespace Go.Abs
open Go Go.Proofs

theorem lt_of_size {A B : Nat} (h : size A < size B) : A < B := Nat.lt_of_lt_of_le (lt_pw_size A) (pw_size_le h)
theorem lt_of_div {A B p : Nat} (h : A / p < B / p) : A < B := by
  apply Classical.byContradiction; intro hn
  have := Nat.div_le_div_right (c := p) (show B ≤ A by omega); omega
def cmp (A B : Nat) : Int := if A < B then -1 else if A = B then 0 else 1

theorem Compare_ok (g h : Nat → Nat) (n m : Nat) (hg : Dig g n) (hh : Dig h m) (hn : n ≤ 4398046511104) (hm : m ≤ 4398046511104) :
    ACall Tryz.prog 106 [raw g n, raw h m] (.f (.int .i64 (cmp (nval g n) (nval h m)))) := by
  have hA := size_nval hg
  have hB := size_nval hh
  have va := view_ok g n hg hn
  have vb := view_ok h m hh hm
  generalize nval g n = A at hA va ⊢
  generalize nval h m = B at hB vb ⊢
  refine acall_rule env [0, 1, 4, 5, 14, 19, 24, 35, 44] Tryz.func106 rfl rfl rfl rfl ?_
  conv => whnf
  refine callF va ⟨.refl _, trivial⟩ (by trivial) rfl ?_
  conv => whnf
  refine callF vb ⟨.refl _, trivial⟩ (by trivial) rfl ?_
  conv => whnf
  refine spl (fun h1 => ?_) (fun h1 => ?_) <;> simp only [decide_eq_true_eq, decide_eq_false_iff_not, Bool.not_eq_true', Bool.not_eq_false', gt_iff_lt, ge_iff_le] at h1
  · conv => whnf
    refine spl (fun h2 => ?_) (fun h2 => ?_) <;> simp only [decide_eq_true_eq, decide_eq_false_iff_not, Bool.not_eq_true', Bool.not_eq_false', gt_iff_lt, ge_iff_le] at h2
    · conv => whnf
      refine ⟨(by (try simp only [true_and, and_true, Nat.sub_zero, Nat.zero_add, Int.toNat_natCast]) <;> omega), ?_⟩
      have := lt_of_size (A := A) (B := B) (by omega)
      exact .int_of (by simp [cmp, this])
    · conv => whnf
      refine ⟨(by (try simp only [true_and, and_true, Nat.sub_zero, Nat.zero_add, Int.toNat_natCast]) <;> omega), ?_⟩
      have := lt_of_size (A := B) (B := A) (by omega)
      exact .int_of (by unfold cmp; rw [if_neg (by omega), if_neg (by omega)])
  · conv => whnf
    have hs : size A = size B := by omega
    refine fit64 (by omega) ?_
    conv => whnf
    refine loop_rule [0, 1, 5] [] (fun s : Int => ([(0, nat A), (1, nat B), (5, .f (.int .i64 s))], [])) (fun s => -1 ≤ s ∧ s < size A ∧ A / pw (s + 1).toNat = B / pw (s + 1).toNat) (fun s => (s + 1).toNat) ((size A : Int) - 1) rfl ⟨by omega, by omega, ?_⟩ ?_
    · rw [show ((size A : Int) - 1 + 1).toNat = size A by omega, div_size, hs, div_size]
    rintro i ⟨h2, h3, h4⟩
    conv => whnf
    refine spl (fun h5 => ?_) (fun h5 => ?_) <;> simp only [decide_eq_true_eq, decide_eq_false_iff_not, Bool.not_eq_true', Bool.not_eq_false', gt_iff_lt, ge_iff_le] at h5
    · conv => whnf
      refine ⟨(by (try simp only [true_and, and_true, Nat.sub_zero, Nat.zero_add, Int.toNat_natCast]) <;> omega), ?_⟩
      conv => whnf
      refine ⟨(by (try simp only [true_and, and_true, Nat.sub_zero, Nat.zero_add, Int.toNat_natCast]) <;> omega), ?_⟩
      conv => whnf
      refine ⟨by kernel_rfl, ?_⟩
      have e1 : (i + 1).toNat = i.toNat + 1 := by omega
      rw [e1] at h4
      have da := div_step A i.toNat
      have db := div_step B i.toNat
      rw [h4] at da
      conv => whnf
      refine spl (fun h6 => ?_) (fun h6 => ?_) <;> simp only [decide_eq_true_eq, decide_eq_false_iff_not, Bool.not_eq_true', Bool.not_eq_false', gt_iff_lt, ge_iff_le] at h6
      · conv => whnf
        refine ⟨(by (try simp only [true_and, and_true, Nat.sub_zero, Nat.zero_add, Int.toNat_natCast]) <;> omega), ?_⟩
        conv => whnf
        refine ⟨(by (try simp only [true_and, and_true, Nat.sub_zero, Nat.zero_add, Int.toNat_natCast]) <;> omega), ?_⟩
        conv => whnf
        refine ⟨by kernel_rfl, ?_⟩
        conv => whnf
        refine spl (fun h7 => ?_) (fun h7 => ?_) <;> simp only [decide_eq_true_eq, decide_eq_false_iff_not, Bool.not_eq_true', Bool.not_eq_false', gt_iff_lt, ge_iff_le] at h7
        · conv => whnf
          refine ⟨(by (try simp only [true_and, and_true, Nat.sub_zero, Nat.zero_add, Int.toNat_natCast]) <;> omega), ?_⟩
          have := lt_of_div (A := A) (B := B) (p := pw i.toNat) (by omega)
          exact .int_of (by simp [cmp, this])
        · conv => whnf
          refine ⟨(by (try simp only [true_and, and_true, Nat.sub_zero, Nat.zero_add, Int.toNat_natCast]) <;> omega), ?_⟩
          have := lt_of_div (A := B) (B := A) (p := pw i.toNat) (by omega)
          exact .int_of (by unfold cmp; rw [if_neg (by omega), if_neg (by omega)])
      · conv => whnf
        refine fit64 (by omega) ?_
        conv => whnf
        refine ⟨i - 1, rfl, ⟨by omega, by omega, ?_⟩, by omega⟩
        rw [show (i - 1 + 1).toNat = i.toNat by omega]
        omega
    · conv => whnf
      refine ⟨(by (try simp only [true_and, and_true, Nat.sub_zero, Nat.zero_add, Int.toNat_natCast]) <;> omega), ?_⟩
      have : i = -1 := by omega
      subst this
      have h4 : A / pw 0 = B / pw 0 := h4
      rw [pw_zero, Nat.div_one, Nat.div_one] at h4
      exact .int_of (by unfold cmp; rw [if_neg (by omega), if_pos h4])
end Go.Abs

/- Natural numbers: Add. -/
set_option autoImplicit false
set_option linter.unusedVariables false
set_option linter.unusedSimpArgs false
namespace Go.Abs
open Go Go.Proofs

theorem add_step {h : Nat → Nat} {A B c k s : Nat} (e : nval h k + c * pw k = A % pw k + B % pw k) (hs : s = digit A k + c + digit B k) :
    nval (fun j => if j = k then s % 4294967296 else h j) (k + 1) + s / 4294967296 * pw (k + 1) = A % pw (k + 1) + B % pw (k + 1) := by
  rw [nval_set, mod_step, mod_step, pw_succ]
  have := Nat.div_add_mod s 4294967296
  generalize s / 4294967296 = q at *
  generalize s % 4294967296 = r at *
  grind


theorem Add_ok (g h : Nat → Nat) (n m : Nat) (hg : Dig g n) (hh : Dig h m) (hn : n < 4398046511104) (hm : m < 4398046511104) :
    ACall Tryz.prog 109 [raw g n, raw h m] (nat (nval g n + nval h m)) := by
  have hA := size_nval hg
  have hB := size_nval hh
  have va := view_ok g n hg (by omega)
  have vb := view_ok h m hh (by omega)
  generalize nval g n = A at hA va ⊢
  generalize nval h m = B at hB vb ⊢
  refine acall_rule env [0, 1, 4, 5, 6, 7, 8, 9, 18, 25, 26, 27, 28, 39] Tryz.func109 rfl rfl rfl rfl ?_
  conv => whnf
  refine callF va ⟨.refl _, trivial⟩ (by trivial) rfl ?_
  conv => whnf
  refine callF vb ⟨.refl _, trivial⟩ (by trivial) rfl ?_
  conv => whnf
  refine spl (fun h1 => ?_) (fun h1 => ?_) <;> simp only [decide_eq_true_eq, decide_eq_false_iff_not, Bool.not_eq_true', Bool.not_eq_false', gt_iff_lt, ge_iff_le] at h1
  · rw [Nat.add_comm]
    conv => whnf
    refine sumi64 (size B + 1) (by omega) (by omega) ?_
    conv => whnf
    refine ⟨(by (try simp only [true_and, and_true, Nat.sub_zero, Nat.zero_add, Int.toNat_natCast]) <;> omega), ?_⟩
    conv => whnf
    refine loop_rule2 [0, 1, 5, 6, 25, 26, 27] [24] (fun s : (Nat → Nat) × Nat × Nat => ([(0, nat B), (1, nat A), (5, .lsl 24 1 1 0 (size B + 1) (some (size B + 1))), (6, .f (.int .u64 s.2.1)), (25, nat B), (26, .f (.int .i64 (size B : Nat))), (27, .f (.int .i64 s.2.2))], [(24, 1, .fa 1 (size B + 1) (fun j => [.int .u32 (s.1 j : Nat)]))])) (fun s => s.2.2 ≤ size B ∧ Dig s.1 s.2.2 ∧ s.2.1 < 2 ∧ nval s.1 s.2.2 + s.2.1 * pw s.2.2 = B % pw s.2.2 + A % pw s.2.2) (fun s => size B - s.2.2) (fun _ => 0, 0, 0) ⟨_, rfl, .refl _⟩ ⟨Nat.zero_le _, fun j hj => absurd hj (by simp), by simp, by simp [pw_zero, Nat.mod_one, nval_zero]⟩ ?_
    rintro ⟨h, c, k⟩ ⟨h1, h2, h3, h4⟩
    simp only at h1 h2 h3 h4 ⊢
    conv => whnf
    refine spl (fun h5 => ?_) (fun h5 => ?_) <;> simp only [decide_eq_true_eq, decide_eq_false_iff_not, Bool.not_eq_true', Bool.not_eq_false', gt_iff_lt, ge_iff_le] at h5
    · conv => whnf
      have hd := digit_lt B k
      have hd2 := digit_lt A k
      refine ⟨(by (try simp only [true_and, and_true, Nat.sub_zero, Nat.zero_add, Int.toNat_natCast]) <;> omega), ?_⟩
      conv => whnf
      refine sumu64 (digit B k) rfl (by omega) ?_
      conv => whnf
      refine sumu64 (digit B k + c) (by omega) (by omega) ?_
      conv => whnf
      refine spl (fun h6 => ?_) (fun h6 => ?_) <;> simp only [decide_eq_true_eq, decide_eq_false_iff_not, Bool.not_eq_true', Bool.not_eq_false', gt_iff_lt, ge_iff_le] at h6
      · conv => whnf
        refine ⟨(by (try simp only [true_and, and_true, Nat.sub_zero, Nat.zero_add, Int.toNat_natCast]) <;> omega), ?_⟩
        conv => whnf
        refine sumu64 (digit A k) rfl (by omega) ?_
        conv => whnf
        refine sumu64 (digit B k + c + digit A k) (by omega) (by omega) ?_
        conv => whnf
        have hstep := add_step h4 (s := digit B k + c + digit A k) rfl
        generalize hs : digit B k + c + digit A k = s at hstep ⊢
        refine lowu32 ?_
        conv => whnf
        refine ⟨(by (try simp only [true_and, and_true, Nat.sub_zero, Nat.zero_add, Int.toNat_natCast]) <;> omega), ?_⟩
        conv => whnf
        refine ⟨(by (try simp only [true_and, and_true, Nat.sub_zero, Nat.zero_add, Int.toNat_natCast]) <;> omega), ?_⟩
        conv => whnf
        refine ⟨(by (try simp only [true_and, and_true, Nat.sub_zero, Nat.zero_add, Int.toNat_natCast]) <;> omega), ?_⟩
        conv => whnf
        refine shr32 (by decide) ?_
        conv => whnf
        refine sumi64 (k + 1) (by omega) (by omega) ?_
        conv => whnf
        exact ⟨(fun j => if j = k then s % 4294967296 else h j, s / 4294967296, k + 1), _, rfl, ⟨⟨rfl, rfl⟩, .set (by simp) rfl, trivial⟩, ⟨by simp only; omega, Dig_set1 h2 (Nat.mod_lt _ (by decide)), by simp only; omega, hstep⟩, by simp only; omega⟩
      · conv => whnf
        have hz : digit A k = 0 := digit_zero_of_size (by omega)
        rw [show digit B k + c = digit B k + c + digit A k by omega]
        have hstep := add_step h4 (s := digit B k + c + digit A k) rfl
        generalize hs : digit B k + c + digit A k = s at hstep ⊢
        refine lowu32 ?_
        conv => whnf
        refine ⟨(by (try simp only [true_and, and_true, Nat.sub_zero, Nat.zero_add, Int.toNat_natCast]) <;> omega), ?_⟩
        conv => whnf
        refine ⟨(by (try simp only [true_and, and_true, Nat.sub_zero, Nat.zero_add, Int.toNat_natCast]) <;> omega), ?_⟩
        conv => whnf
        refine ⟨(by (try simp only [true_and, and_true, Nat.sub_zero, Nat.zero_add, Int.toNat_natCast]) <;> omega), ?_⟩
        conv => whnf
        refine shr32 (by decide) ?_
        conv => whnf
        refine sumi64 (k + 1) (by omega) (by omega) ?_
        conv => whnf
        exact ⟨(fun j => if j = k then s % 4294967296 else h j, s / 4294967296, k + 1), _, rfl, ⟨⟨rfl, rfl⟩, .set (by simp) rfl, trivial⟩, ⟨by simp only; omega, Dig_set1 h2 (Nat.mod_lt _ (by decide)), by simp only; omega, hstep⟩, by simp only; omega⟩
    · conv => whnf
      have hk : k = size B := by omega
      subst hk
      refine sumu32 c rfl (by omega) ?_
      conv => whnf
      refine ⟨(by (try simp only [true_and, and_true, Nat.sub_zero, Nat.zero_add, Int.toNat_natCast]) <;> omega), ?_⟩
      conv => whnf
      refine ⟨(by (try simp only [true_and, and_true, Nat.sub_zero, Nat.zero_add, Int.toNat_natCast]) <;> omega), ?_⟩
      conv => whnf
      rw [mod_size (Nat.le_refl _), mod_size (n := size B) (by omega)] at h4
      have hS := nval_set h (size B) c
      have hv := view_ok _ (size B + 1) (Dig_set1 h2 (show c < 4294967296 by omega)) (by omega)
      rw [hS, h4] at hv
      refine callF hv ⟨.raw_set (by simp) rfl, trivial⟩ (by (try simp only [true_and, and_true, Nat.sub_zero, Nat.zero_add, Int.toNat_natCast]) <;> omega) rfl ?_
      conv => whnf
      refine ⟨(by (try simp only [true_and, and_true, Nat.sub_zero, Nat.zero_add, Int.toNat_natCast]) <;> omega), ?_⟩
      exact .refl _
  · conv => whnf
    refine sumi64 (size A + 1) (by omega) (by omega) ?_
    conv => whnf
    refine ⟨(by (try simp only [true_and, and_true, Nat.sub_zero, Nat.zero_add, Int.toNat_natCast]) <;> omega), ?_⟩
    conv => whnf
    refine loop_rule2 [0, 1, 5, 6, 25, 26, 27] [24] (fun s : (Nat → Nat) × Nat × Nat => ([(0, nat A), (1, nat B), (5, .lsl 24 1 1 0 (size A + 1) (some (size A + 1))), (6, .f (.int .u64 s.2.1)), (25, nat A), (26, .f (.int .i64 (size A : Nat))), (27, .f (.int .i64 s.2.2))], [(24, 1, .fa 1 (size A + 1) (fun j => [.int .u32 (s.1 j : Nat)]))])) (fun s => s.2.2 ≤ size A ∧ Dig s.1 s.2.2 ∧ s.2.1 < 2 ∧ nval s.1 s.2.2 + s.2.1 * pw s.2.2 = A % pw s.2.2 + B % pw s.2.2) (fun s => size A - s.2.2) (fun _ => 0, 0, 0) ⟨_, rfl, .refl _⟩ ⟨Nat.zero_le _, fun j hj => absurd hj (by simp), by simp, by simp [pw_zero, Nat.mod_one, nval_zero]⟩ ?_
    rintro ⟨h, c, k⟩ ⟨h1, h2, h3, h4⟩
    simp only at h1 h2 h3 h4 ⊢
    conv => whnf
    refine spl (fun h5 => ?_) (fun h5 => ?_) <;> simp only [decide_eq_true_eq, decide_eq_false_iff_not, Bool.not_eq_true', Bool.not_eq_false', gt_iff_lt, ge_iff_le] at h5
    · conv => whnf
      have hd := digit_lt A k
      have hd2 := digit_lt B k
      refine ⟨(by (try simp only [true_and, and_true, Nat.sub_zero, Nat.zero_add, Int.toNat_natCast]) <;> omega), ?_⟩
      conv => whnf
      refine sumu64 (digit A k) rfl (by omega) ?_
      conv => whnf
      refine sumu64 (digit A k + c) (by omega) (by omega) ?_
      conv => whnf
      refine spl (fun h6 => ?_) (fun h6 => ?_) <;> simp only [decide_eq_true_eq, decide_eq_false_iff_not, Bool.not_eq_true', Bool.not_eq_false', gt_iff_lt, ge_iff_le] at h6
      · conv => whnf
        refine ⟨(by (try simp only [true_and, and_true, Nat.sub_zero, Nat.zero_add, Int.toNat_natCast]) <;> omega), ?_⟩
        conv => whnf
        refine sumu64 (digit B k) rfl (by omega) ?_
        conv => whnf
        refine sumu64 (digit A k + c + digit B k) (by omega) (by omega) ?_
        conv => whnf
        have hstep := add_step h4 (s := digit A k + c + digit B k) rfl
        generalize hs : digit A k + c + digit B k = s at hstep ⊢
        refine lowu32 ?_
        conv => whnf
        refine ⟨(by (try simp only [true_and, and_true, Nat.sub_zero, Nat.zero_add, Int.toNat_natCast]) <;> omega), ?_⟩
        conv => whnf
        refine ⟨(by (try simp only [true_and, and_true, Nat.sub_zero, Nat.zero_add, Int.toNat_natCast]) <;> omega), ?_⟩
        conv => whnf
        refine ⟨(by (try simp only [true_and, and_true, Nat.sub_zero, Nat.zero_add, Int.toNat_natCast]) <;> omega), ?_⟩
        conv => whnf
        refine shr32 (by decide) ?_
        conv => whnf
        refine sumi64 (k + 1) (by omega) (by omega) ?_
        conv => whnf
        exact ⟨(fun j => if j = k then s % 4294967296 else h j, s / 4294967296, k + 1), _, rfl, ⟨⟨rfl, rfl⟩, .set (by simp) rfl, trivial⟩, ⟨by simp only; omega, Dig_set1 h2 (Nat.mod_lt _ (by decide)), by simp only; omega, hstep⟩, by simp only; omega⟩
      · conv => whnf
        have hz : digit B k = 0 := digit_zero_of_size (by omega)
        rw [show digit A k + c = digit A k + c + digit B k by omega]
        have hstep := add_step h4 (s := digit A k + c + digit B k) rfl
        generalize hs : digit A k + c + digit B k = s at hstep ⊢
        refine lowu32 ?_
        conv => whnf
        refine ⟨(by (try simp only [true_and, and_true, Nat.sub_zero, Nat.zero_add, Int.toNat_natCast]) <;> omega), ?_⟩
        conv => whnf
        refine ⟨(by (try simp only [true_and, and_true, Nat.sub_zero, Nat.zero_add, Int.toNat_natCast]) <;> omega), ?_⟩
        conv => whnf
        refine ⟨(by (try simp only [true_and, and_true, Nat.sub_zero, Nat.zero_add, Int.toNat_natCast]) <;> omega), ?_⟩
        conv => whnf
        refine shr32 (by decide) ?_
        conv => whnf
        refine sumi64 (k + 1) (by omega) (by omega) ?_
        conv => whnf
        exact ⟨(fun j => if j = k then s % 4294967296 else h j, s / 4294967296, k + 1), _, rfl, ⟨⟨rfl, rfl⟩, .set (by simp) rfl, trivial⟩, ⟨by simp only; omega, Dig_set1 h2 (Nat.mod_lt _ (by decide)), by simp only; omega, hstep⟩, by simp only; omega⟩
    · conv => whnf
      have hk : k = size A := by omega
      subst hk
      refine sumu32 c rfl (by omega) ?_
      conv => whnf
      refine ⟨(by (try simp only [true_and, and_true, Nat.sub_zero, Nat.zero_add, Int.toNat_natCast]) <;> omega), ?_⟩
      conv => whnf
      refine ⟨(by (try simp only [true_and, and_true, Nat.sub_zero, Nat.zero_add, Int.toNat_natCast]) <;> omega), ?_⟩
      conv => whnf
      rw [mod_size (Nat.le_refl _), mod_size (n := size A) (by omega)] at h4
      have hS := nval_set h (size A) c
      have hv := view_ok _ (size A + 1) (Dig_set1 h2 (show c < 4294967296 by omega)) (by omega)
      rw [hS, h4] at hv
      refine callF hv ⟨.raw_set (by simp) rfl, trivial⟩ (by (try simp only [true_and, and_true, Nat.sub_zero, Nat.zero_add, Int.toNat_natCast]) <;> omega) rfl ?_
      conv => whnf
      refine ⟨(by (try simp only [true_and, and_true, Nat.sub_zero, Nat.zero_add, Int.toNat_natCast]) <;> omega), ?_⟩
      exact .refl _
end Go.Abs

/- Natural numbers: Sub. -/
set_option autoImplicit false
set_option linter.unusedVariables false
set_option linter.unusedSimpArgs false
namespace Go.Abs
open Go Go.Proofs

theorem cmp_lt {A B : Nat} : cmp A B < 0 ↔ A < B := by
  unfold cmp; split
  · simp [*]
  · split <;> simp [*]
theorem sub_step {h : Nat → Nat} {A B c k r : Nat} (e : nval h k + B % pw k = A % pw k + c * pw k) (hc : c < 2) (hr : r = (digit A k + 18446744073709551616 - c - digit B k) % 18446744073709551616) :
    nval (fun j => if j = k then r % 4294967296 else h j) (k + 1) + B % pw (k + 1) = A % pw (k + 1) + r / 9223372036854775808 * pw (k + 1) := by
  rw [nval_set, mod_step, mod_step, pw_succ]
  have h1 := digit_lt A k
  have h2 := digit_lt B k
  have key : r % 4294967296 + digit B k + c = digit A k + r / 9223372036854775808 * 4294967296 := by omega
  generalize r / 9223372036854775808 = q at *
  generalize r % 4294967296 = x at *
  clear hr
  grind
theorem sub_end {h : Nat → Nat} {A B c n : Nat} (hd : Dig h n) (e : nval h n + B = A + c * pw n) (hc : c < 2) (hle : B ≤ A) : nval h n = A - B := by
  have := nval_lt hd
  have : c = 0 ∨ c = 1 := by omega
  rcases this with rfl | rfl
  · simp at e; omega
  · simp at e; omega


theorem Sub_ok (g h : Nat → Nat) (n m : Nat) (hg : Dig g n) (hh : Dig h m) (hn : n ≤ 4398046511104) (hm : m ≤ 4398046511104) :
    ACall Tryz.prog 110 [raw g n, raw h m] (if nval g n < nval h m then .tup [nat 0, .f (.bool false)] else .tup [nat (nval g n - nval h m), .f (.bool true)]) := by
  have hA := size_nval hg
  have hB := size_nval hh
  have va := view_ok g n hg hn
  have vb := view_ok h m hh hm
  have hc := Compare_ok g h n m hg hh hn hm
  generalize nval g n = A at hA va hc ⊢
  generalize nval h m = B at hB vb hc ⊢
  refine acall_rule env [0, 1, 4, 5, 6, 7, 8, 9, 10, 14, 22, 23, 24, 25, 36] Tryz.func110 rfl rfl rfl rfl ?_
  conv => whnf
  refine callF hc ⟨.refl _, .refl _, trivial⟩ (by trivial) rfl ?_
  conv => whnf
  refine spl (fun h1 => ?_) (fun h1 => ?_) <;> simp only [decide_eq_true_eq, decide_eq_false_iff_not, Bool.not_eq_true', Bool.not_eq_false', gt_iff_lt, ge_iff_le] at h1
  · rw [if_pos (cmp_lt.1 h1)]
    conv => whnf
    refine ⟨(by (try simp only [true_and, and_true, Nat.sub_zero, Nat.zero_add, Int.toNat_natCast]) <;> omega), ?_⟩
    exact .tup ⟨.nil_nat, .refl _, trivial⟩
  · have hle : B ≤ A := by have := mt cmp_lt.2 h1; omega
    have hsz := size_mono hle
    rw [if_neg (by omega)]
    conv => whnf
    refine callF va ⟨.refl _, trivial⟩ (by trivial) rfl ?_
    conv => whnf
    refine callF vb ⟨.refl _, trivial⟩ (by trivial) rfl ?_
    conv => whnf
    refine ⟨(by (try simp only [true_and, and_true, Nat.sub_zero, Nat.zero_add, Int.toNat_natCast]) <;> omega), ?_⟩
    conv => whnf
    refine loop_rule2 [1, 6, 7, 22, 23, 24] [21] (fun s : (Nat → Nat) × Nat × Nat => ([(1, nat B), (6, .lsl 21 1 1 0 (size A) (some (size A))), (7, .f (.int .u64 s.2.1)), (22, nat A), (23, .f (.int .i64 (size A : Nat))), (24, .f (.int .i64 s.2.2))], [(21, 1, .fa 1 (size A) (fun j => [.int .u32 (s.1 j : Nat)]))])) (fun s => s.2.2 ≤ size A ∧ Dig s.1 s.2.2 ∧ s.2.1 < 2 ∧ nval s.1 s.2.2 + B % pw s.2.2 = A % pw s.2.2 + s.2.1 * pw s.2.2) (fun s => size A - s.2.2) (fun _ => 0, 0, 0) ⟨_, rfl, .refl _⟩ ⟨Nat.zero_le _, fun j hj => absurd hj (by simp), by simp, by simp [pw_zero, Nat.mod_one, nval_zero]⟩ ?_
    rintro ⟨h, c, k⟩ ⟨h1, h2, h3, h4⟩
    simp only at h1 h2 h3 h4 ⊢
    conv => whnf
    refine spl (fun h5 => ?_) (fun h5 => ?_) <;> simp only [decide_eq_true_eq, decide_eq_false_iff_not, Bool.not_eq_true', Bool.not_eq_false', gt_iff_lt, ge_iff_le] at h5
    · conv => whnf
      have hd := digit_lt A k
      have hd2 := digit_lt B k
      refine ⟨(by (try simp only [true_and, and_true, Nat.sub_zero, Nat.zero_add, Int.toNat_natCast]) <;> omega), ?_⟩
      conv => whnf
      refine sumu64 (digit A k) rfl (by omega) ?_
      conv => whnf
      refine modu64 ((digit A k + 18446744073709551616 - c) % 18446744073709551616) (by omega) ?_
      conv => whnf
      refine spl (fun h6 => ?_) (fun h6 => ?_) <;> simp only [decide_eq_true_eq, decide_eq_false_iff_not, Bool.not_eq_true', Bool.not_eq_false', gt_iff_lt, ge_iff_le] at h6
      · conv => whnf
        refine ⟨(by (try simp only [true_and, and_true, Nat.sub_zero, Nat.zero_add, Int.toNat_natCast]) <;> omega), ?_⟩
        conv => whnf
        refine sumu64 (digit B k) rfl (by omega) ?_
        conv => whnf
        refine modu64 ((digit A k + 18446744073709551616 - c - digit B k) % 18446744073709551616) (by omega) ?_
        conv => whnf
        have hstep := sub_step h4 h3 (r := (digit A k + 18446744073709551616 - c - digit B k) % 18446744073709551616) rfl
        generalize hs : (digit A k + 18446744073709551616 - c - digit B k) % 18446744073709551616 = s at hstep ⊢
        refine lowu32 ?_
        conv => whnf
        refine ⟨(by (try simp only [true_and, and_true, Nat.sub_zero, Nat.zero_add, Int.toNat_natCast]) <;> omega), ?_⟩
        conv => whnf
        refine ⟨(by (try simp only [true_and, and_true, Nat.sub_zero, Nat.zero_add, Int.toNat_natCast]) <;> omega), ?_⟩
        conv => whnf
        refine ⟨(by (try simp only [true_and, and_true, Nat.sub_zero, Nat.zero_add, Int.toNat_natCast]) <;> omega), ?_⟩
        conv => whnf
        refine shr63 ?_
        conv => whnf
        refine sumi64 (k + 1) (by omega) (by omega) ?_
        conv => whnf
        exact ⟨(fun j => if j = k then s % 4294967296 else h j, s / 9223372036854775808, k + 1), _, rfl, ⟨⟨rfl, rfl⟩, .set (by simp) rfl, trivial⟩, ⟨by simp only; omega, Dig_set1 h2 (Nat.mod_lt _ (by decide)), by simp only; omega, hstep⟩, by simp only; omega⟩
      · conv => whnf
        have hz : digit B k = 0 := digit_zero_of_size (by omega)
        rw [show digit A k + 18446744073709551616 - c = digit A k + 18446744073709551616 - c - digit B k by omega]
        have hstep := sub_step h4 h3 (r := (digit A k + 18446744073709551616 - c - digit B k) % 18446744073709551616) rfl
        generalize hs : (digit A k + 18446744073709551616 - c - digit B k) % 18446744073709551616 = s at hstep ⊢
        refine lowu32 ?_
        conv => whnf
        refine ⟨(by (try simp only [true_and, and_true, Nat.sub_zero, Nat.zero_add, Int.toNat_natCast]) <;> omega), ?_⟩
        conv => whnf
        refine ⟨(by (try simp only [true_and, and_true, Nat.sub_zero, Nat.zero_add, Int.toNat_natCast]) <;> omega), ?_⟩
        conv => whnf
        refine ⟨(by (try simp only [true_and, and_true, Nat.sub_zero, Nat.zero_add, Int.toNat_natCast]) <;> omega), ?_⟩
        conv => whnf
        refine shr63 ?_
        conv => whnf
        refine sumi64 (k + 1) (by omega) (by omega) ?_
        conv => whnf
        exact ⟨(fun j => if j = k then s % 4294967296 else h j, s / 9223372036854775808, k + 1), _, rfl, ⟨⟨rfl, rfl⟩, .set (by simp) rfl, trivial⟩, ⟨by simp only; omega, Dig_set1 h2 (Nat.mod_lt _ (by decide)), by simp only; omega, hstep⟩, by simp only; omega⟩
    · conv => whnf
      have hk : k = size A := by omega
      subst hk
      rw [mod_size (Nat.le_refl _), mod_size hsz] at h4
      have hS := sub_end h2 h4 h3 hle
      have hv := view_ok _ (size A) h2 (by omega)
      rw [hS] at hv
      refine callF hv ⟨.raw_refl, trivial⟩ (by (try simp only [true_and, and_true, Nat.sub_zero, Nat.zero_add, Int.toNat_natCast]) <;> omega) rfl ?_
      conv => whnf
      refine ⟨(by (try simp only [true_and, and_true, Nat.sub_zero, Nat.zero_add, Int.toNat_natCast]) <;> omega), ?_⟩
      exact .refl _
end Go.Abs

/- Natural numbers: Mul. -/
set_option autoImplicit false
set_option maxHeartbeats 4000000
set_option linter.unusedVariables false
set_option linter.unusedSimpArgs false
namespace Go.Abs
open Go Go.Proofs

theorem nval_setg (h : Nat → Nat) (i x : Nat) : ∀ n, i < n → nval (fun j => if j = i then x else h j) n + h i * pw i = nval h n + x * pw i
  | 0, hi => by omega
  | n + 1, hi => by
    rw [nval_succ, nval_succ]
    by_cases e : i = n
    · subst e
      rw [if_pos rfl, nval_congr (g := fun j => if j = i then x else h j) (h := h) fun j hj => if_neg (by omega)]
      omega
    · rw [if_neg (by omega)]
      have := nval_setg h i x n (by omega)
      omega
theorem mul_inner {h : Nat → Nat} {B c i k N V x s : Nat} (hk : i + k < N) (e : nval h N + c * pw (i + k) = V + x * (B % pw k) * pw i) (hs : x * digit B k + h (i + k) + c = s) :
    nval (fun j => if j = i + k then s % 4294967296 else h j) N + s / 4294967296 * pw (i + (k + 1)) = V + x * (B % pw (k + 1)) * pw i := by
  have h1 := nval_setg h (i + k) (s % 4294967296) N hk
  rw [mod_step, show i + (k + 1) = i + k + 1 by omega, pw_succ]
  rw [pw_add] at *
  have := Nat.div_add_mod s 4294967296
  generalize s / 4294967296 = q at *
  generalize s % 4294967296 = r at *
  grind
theorem mul_bound {x y z w : Nat} (hx : x < 4294967296) (hy : y < 4294967296) (hz : z < 4294967296) (hw : w < 4294967296) : x * y + z + w < 18446744073709551616 := by
  have := Nat.mul_le_mul (show x ≤ 4294967295 by omega) (show y ≤ 4294967295 by omega); omega
theorem mul_bound2 {x y : Nat} (hx : x < 4294967296) (hy : y < 4294967296) : x * y < 18446744073709551616 := by
  have := Nat.mul_le_mul (show x ≤ 4294967295 by omega) (show y ≤ 4294967295 by omega); omega
theorem mul_zero_at {h : Nat → Nat} {A B i N : Nat} (hd : Dig h N) (e : nval h N = A % pw i * B) (hi : i + size B < N) : h (i + size B) = 0 := by
  have h1 := digit_nval hd (i + size B)
  rw [if_pos hi, e] at h1
  rw [← h1]
  apply digit_zero_of_size
  apply size_le
  rw [pw_add]
  have h2 : A % pw i < pw i := Nat.mod_lt _ (pw_pos i)
  have h3 := lt_pw_size B
  exact Nat.lt_of_le_of_lt (Nat.mul_le_mul_left _ (Nat.le_of_lt h3)) (Nat.mul_lt_mul_of_pos_right h2 (pw_pos _))
theorem mul_outer {h : Nat → Nat} {A B c i N : Nat} (hi : i + size B < N) (hz : h (i + size B) = 0) (e : nval h N + c * pw (i + size B) = A % pw i * B + digit A i * (B % pw (size B)) * pw i) :
    nval (fun j => if j = i + size B then c else h j) N = A % pw (i + 1) * B := by
  have h1 := nval_setg h (i + size B) c N hi
  rw [mod_step]
  rw [mod_size (Nat.le_refl _)] at e
  rw [hz] at h1
  grind

theorem Mul_ok (g h : Nat → Nat) (n m : Nat) (hg : Dig g n) (hh : Dig h m) (hn : n + m ≤ 4398046511104) :
    ACall Tryz.prog 121 [raw g n, raw h m] (nat (nval g n * nval h m)) := by
  have hA := size_nval hg
  have hB := size_nval hh
  have va := view_ok g n hg (by omega)
  have vb := view_ok h m hh (by omega)
  generalize nval g n = A at hA va ⊢
  generalize nval h m = B at hB vb ⊢
  refine acall_rule env [0, 1, 4, 5, 6, 7, 8, 9, 10, 11, 23, 30, 31, 32, 33, 37, 38, 39, 40] Tryz.func121 rfl rfl rfl rfl ?_
  conv => whnf
  refine callF va ⟨.refl _, trivial⟩ (by trivial) rfl ?_
  conv => whnf
  refine callF vb ⟨.refl _, trivial⟩ (by trivial) rfl ?_
  conv => whnf
  refine spl (fun h1 => ?_) (fun h1 => ?_) <;> simp only [decide_eq_true_eq, decide_eq_false_iff_not, Bool.not_eq_true', Bool.not_eq_false', gt_iff_lt, ge_iff_le] at h1
  · conv => whnf
    refine ⟨(by (try simp only [true_and, and_true, Nat.sub_zero, Nat.zero_add, Int.toNat_natCast]) <;> omega), ?_⟩
    rw [show A = 0 from size_eq_zero.1 (by omega), Nat.zero_mul]
    exact .nil_nat
  conv => whnf
  refine spl (fun h2 => ?_) (fun h2 => ?_) <;> simp only [decide_eq_true_eq, decide_eq_false_iff_not, Bool.not_eq_true', Bool.not_eq_false', gt_iff_lt, ge_iff_le] at h2
  · conv => whnf
    refine ⟨(by (try simp only [true_and, and_true, Nat.sub_zero, Nat.zero_add, Int.toNat_natCast]) <;> omega), ?_⟩
    rw [show B = 0 from size_eq_zero.1 (by omega), Nat.mul_zero]
    exact .nil_nat
  conv => whnf
  refine sumi64 (size A + size B) (by omega) (by omega) ?_
  conv => whnf
  refine ⟨(by (try simp only [true_and, and_true, Nat.sub_zero, Nat.zero_add, Int.toNat_natCast]) <;> omega), ?_⟩
  conv => whnf
  refine loop_mod [1, 5, 30, 31, 32] [29] [5] [29]
    (fun μ fr hp => ∃ (h : Nat → Nat) (i : Nat), fr = [(1, nat B), (5, .lsl 29 1 1 0 (size A + size B) (some (size A + size B))), (30, nat A), (31, .f (.int .i64 (size A : Nat))), (32, .f (.int .i64 i))] ∧ hp = [(29, 1, .fa 1 (size A + size B) (fun j => [.int .u32 (h j : Nat)]))] ∧ μ = size A - i ∧ i ≤ size A ∧ Dig h (size A + size B) ∧ nval h (size A + size B) = A % pw i * B)
    (fun e fr hp => e = .exit 0 ∧ ∃ h : Nat → Nat, fr = [(5, .lsl 29 1 1 0 (size A + size B) (some (size A + size B)))] ∧ hp = [(29, 1, .fa 1 (size A + size B) (fun j => [.int .u32 (h j : Nat)]))] ∧ Dig h (size A + size B) ∧ nval h (size A + size B) = A * B)
    ⟨_, _, _, _, rfl, .refl _, fun _ => 0, 0, rfl, rfl, rfl, Nat.zero_le _, fun j hj => by simp, ?_⟩ ?_ ?_
  · have : ∀ n, nval (fun _ => 0) n = 0 := fun n => by induction n with | zero => rfl | succ n ih => rw [nval_succ, ih, Nat.zero_mul]
    simp [pw_zero, Nat.mod_one, this]
  · rintro _ _ _ ⟨rfl, h, rfl, rfl, g2, g3⟩
    have hv := view_ok _ (size A + size B) g2 (by omega)
    rw [g3] at hv
    conv => whnf
    refine callF hv ⟨.raw_refl, trivial⟩ (by (try simp only [true_and, and_true, Nat.sub_zero, Nat.zero_add, Int.toNat_natCast]) <;> omega) rfl ?_
    conv => whnf
    refine ⟨(by (try simp only [true_and, and_true, Nat.sub_zero, Nat.zero_add, Int.toNat_natCast]) <;> omega), ?_⟩
    exact .refl _
  rintro _ _ _ ⟨h, i, rfl, rfl, rfl, g1, g2, g3⟩
  conv => whnf
  refine spl (fun h3 => ?_) (fun h3 => ?_) <;> simp only [decide_eq_true_eq, decide_eq_false_iff_not, Bool.not_eq_true', Bool.not_eq_false', gt_iff_lt, ge_iff_le] at h3
  · have hx := digit_lt A i
    have hz := mul_zero_at g2 g3 (by omega)
    conv => whnf
    refine ⟨(by (try simp only [true_and, and_true, Nat.sub_zero, Nat.zero_add, Int.toNat_natCast]) <;> omega), ?_⟩
    conv => whnf
    refine loop_mod [1, 5, 6, 7, 8, 30, 31, 32, 37, 38, 39] [29] [1, 5, 6, 8, 30, 31, 32] [29]
      (fun μ fr hp => ∃ (f : Nat → Nat) (c k : Nat), fr = [(1, nat B), (5, .lsl 29 1 1 0 (size A + size B) (some (size A + size B))), (6, .f (.int .i64 i)), (7, .f (.int .u32 (digit A i))), (8, .f (.int .u64 c)), (30, nat A), (31, .f (.int .i64 (size A : Nat))), (32, .f (.int .i64 i)), (37, nat B), (38, .f (.int .i64 (size B : Nat))), (39, .f (.int .i64 k))] ∧ hp = [(29, 1, .fa 1 (size A + size B) (fun j => [.int .u32 (f j : Nat)]))] ∧
        μ = size B - k ∧ k ≤ size B ∧ Dig f (size A + size B) ∧ c < 4294967296 ∧ f (i + size B) = 0 ∧ nval f (size A + size B) + c * pw (i + k) = A % pw i * B + digit A i * (B % pw k) * pw i)
      (fun e fr hp => e = .exit 2 ∧ ∃ (f : Nat → Nat) (c : Nat), fr = [(1, nat B), (5, .lsl 29 1 1 0 (size A + size B) (some (size A + size B))), (6, .f (.int .i64 i)), (8, .f (.int .u64 c)), (30, nat A), (31, .f (.int .i64 (size A : Nat))), (32, .f (.int .i64 i))] ∧ hp = [(29, 1, .fa 1 (size A + size B) (fun j => [.int .u32 (f j : Nat)]))] ∧
        Dig f (size A + size B) ∧ c < 4294967296 ∧ f (i + size B) = 0 ∧ nval f (size A + size B) + c * pw (i + size B) = A % pw i * B + digit A i * (B % pw (size B)) * pw i)
      ⟨_, _, _, _, rfl, .refl _, h, 0, 0, rfl, rfl, rfl, Nat.zero_le _, g2, by simp, hz, by simp [pw_zero, Nat.mod_one, g3]⟩ ?_ ?_
    · rintro _ _ _ ⟨rfl, f, c, rfl, rfl, f2, f3, f4, f5⟩
      have hstep := mul_outer (h := f) (A := A) (c := c) (by omega) f4 f5
      conv => whnf
      refine sumi64 (i + size B) (by omega) (by omega) ?_
      conv => whnf
      refine sumu32 c rfl (by omega) ?_
      conv => whnf
      refine ⟨(by (try simp only [true_and, and_true, Nat.sub_zero, Nat.zero_add, Int.toNat_natCast]) <;> omega), ?_⟩
      conv => whnf
      refine ⟨(by (try simp only [true_and, and_true, Nat.sub_zero, Nat.zero_add, Int.toNat_natCast]) <;> omega), ?_⟩
      conv => whnf
      refine sumi64 (i + 1) (by omega) (by omega) ?_
      conv => whnf
      refine ⟨_, ?_, _, _, _, rfl, ?_, fun j => if j = i + size B then c else f j, i + 1, rfl, rfl, rfl, by omega, Dig_set f2 f3, hstep⟩
      · omega
      · exact ⟨⟨rfl, rfl⟩, .set (by omega) rfl, trivial⟩
    rintro _ _ _ ⟨f, c, k, rfl, rfl, rfl, f1, f2, f3, f4, f5⟩
    conv => whnf
    refine spl (fun h4 => ?_) (fun h4 => ?_) <;> simp only [decide_eq_true_eq, decide_eq_false_iff_not, Bool.not_eq_true', Bool.not_eq_false', gt_iff_lt, ge_iff_le] at h4
    · have hy := digit_lt B k
      have hw := f2 (i + k) (by omega)
      have hb := mul_bound hx hy hw f3
      have hb2 := mul_bound2 hx hy
      conv => whnf
      refine ⟨(by (try simp only [true_and, and_true, Nat.sub_zero, Nat.zero_add, Int.toNat_natCast]) <;> omega), ?_⟩
      conv => whnf
      refine sumu64 (digit A i) rfl (by omega) ?_
      conv => whnf
      refine sumu64 (digit B k) rfl (by omega) ?_
      conv => whnf
      refine sumu64 (digit A i * digit B k) (by rw [Int.natCast_mul]) (by omega) ?_
      conv => whnf
      refine sumi64 (i + k) (by omega) (by omega) ?_
      conv => whnf
      refine ⟨(by (try simp only [true_and, and_true, Nat.sub_zero, Nat.zero_add, Int.toNat_natCast]) <;> omega), ?_⟩
      conv => whnf
      refine ⟨(by (try simp only [true_and, and_true, Nat.sub_zero, Nat.zero_add, Int.toNat_natCast]) <;> omega), ?_⟩
      conv => whnf
      refine sumu64 (f (i + k)) (congrArg (fun t => ((f t : Nat) : Int)) (by omega)) (by omega) ?_
      conv => whnf
      refine sumu64 (digit A i * digit B k + f (i + k)) (by omega) (by omega) ?_
      conv => whnf
      refine sumu64 (digit A i * digit B k + f (i + k) + c) (by omega) (by omega) ?_
      conv => whnf
      have hstep := mul_inner (h := f) (B := B) (c := c) (i := i) (k := k) (N := size A + size B) (x := digit A i) (by omega) f5 rfl
      generalize hs : digit A i * digit B k + f (i + k) + c = s at hstep hb ⊢
      refine sumi64 (i + k) (by omega) (by omega) ?_
      conv => whnf
      refine lowu32 ?_
      conv => whnf
      refine ⟨(by (try simp only [true_and, and_true, Nat.sub_zero, Nat.zero_add, Int.toNat_natCast]) <;> omega), ?_⟩
      conv => whnf
      refine ⟨(by (try simp only [true_and, and_true, Nat.sub_zero, Nat.zero_add, Int.toNat_natCast]) <;> omega), ?_⟩
      conv => whnf
      refine ⟨(by (try simp only [true_and, and_true, Nat.sub_zero, Nat.zero_add, Int.toNat_natCast]) <;> omega), ?_⟩
      conv => whnf
      refine shr32 (by decide) ?_
      conv => whnf
      refine sumi64 (k + 1) (by omega) (by omega) ?_
      conv => whnf
      refine ⟨_, ?_, _, _, _, rfl, ?_, fun j => if j = i + k then s % 4294967296 else f j, s / 4294967296, k + 1, rfl, rfl, rfl, by omega, Dig_set f2 (Nat.mod_lt _ (by decide)), by omega, (if_neg (by omega)).trans f4, hstep⟩
      · omega
      · exact ⟨⟨rfl, rfl⟩, .set (by omega) rfl, trivial⟩
    · conv => whnf
      have hk : k = size B := by omega
      subst hk
      exact ⟨_, _, _, rfl, .refl _, rfl, f, c, rfl, rfl, f2, f3, f4, f5⟩
  · have hk : i = size A := by omega
    subst hk
    rw [mod_size (Nat.le_refl _)] at g3
    conv => whnf
    exact ⟨_, _, _, rfl, .refl _, rfl, h, rfl, rfl, g2, g3⟩
end Go.Abs

/- Natural numbers: short, DivMod but for the long division. -/
set_option autoImplicit false
set_option maxHeartbeats 4000000
set_option linter.unusedVariables false
set_option linter.unusedSimpArgs false
namespace Go.Abs
open Go Go.Proofs

theorem short_step (A i : Nat) {d : Nat} (hd : 0 < d) :
    (A / pw (i + 1) % d * 4294967296 + digit A i) / d = digit (A / d) i ∧ (A / pw (i + 1) % d * 4294967296 + digit A i) % d = A / pw i % d := by
  have hx := digit_lt A i
  have e1 := div_step A i
  have e2 : digit (A / d) i = A / pw i / d % 4294967296 := by rw [digit, Nat.div_div_eq_div_mul, Nat.div_div_eq_div_mul, Nat.mul_comm]
  rw [e2, e1]
  generalize A / pw (i + 1) = a
  generalize digit A i = x at *
  have e3 := Nat.div_add_mod a d
  have hr : a % d < d := Nat.mod_lt _ hd
  generalize a / d = q at *
  generalize a % d = r at *
  have e4 : a * 4294967296 + x = d * (q * 4294967296) + (r * 4294967296 + x) := by rw [← e3]; grind
  have hlt : (r * 4294967296 + x) / d < 4294967296 := by
    rw [Nat.div_lt_iff_lt_mul hd]
    have := Nat.mul_le_mul_right 4294967296 (show r + 1 ≤ d by omega)
    omega
  constructor
  · rw [e4, Nat.mul_add_div hd, Nat.mul_comm q, Nat.mul_add_mod, Nat.mod_eq_of_lt hlt]
  · rw [e4, Nat.mul_add_mod]

theorem short_ok (A d : Nat) (hd : 0 < d) (hd2 : d < 4294967296) (hA : size A ≤ 4398046511104) :
    ACall Tryz.prog 151 [nat A, .f (.int .u32 d)] (.tup [nat (A / d), .f (.int .u32 (A % d : Nat))]) := by
  have hq : size (A / d) ≤ size A := size_mono (Nat.div_le_self _ _)
  refine acall_rule env [0, 1, 4, 5, 6, 7, 8, 9, 17] Tryz.func151 rfl rfl rfl rfl ?_
  conv => whnf
  refine ⟨(by (try simp only [true_and, and_true, Nat.sub_zero, Nat.zero_add, Int.toNat_natCast]) <;> omega), ?_⟩
  conv => whnf
  refine fit64 (by omega) ?_
  conv => whnf
  refine loop_mod [0, 1, 6, 7, 8] [12] [6, 7] [12]
    (fun μ fr hp => ∃ (i : Int) (r : Nat), fr = [(0, nat A), (1, .f (.int .u32 d)), (6, .lsl 12 1 1 0 (size A) (some (size A))), (7, .f (.int .u64 r)), (8, .f (.int .i64 i))] ∧ hp = [(12, 1, .fa 1 (size A) (fun j => [.int .u32 ((if i < j then digit (A / d) j else 0 : Nat) : Int)]))] ∧ μ = (i + 1).toNat ∧
      -1 ≤ i ∧ i < size A ∧ r = A / pw (i + 1).toNat % d)
    (fun e fr hp => e = .exit 0 ∧ fr = [(6, .lsl 12 1 1 0 (size A) (some (size A))), (7, .f (.int .u64 (A % d : Nat)))] ∧ hp = [(12, 1, .fa 1 (size A) (fun j => [.int .u32 (digit (A / d) j : Nat)]))])
    ⟨_, _, _, _, rfl, ?_, (size A : Int) - 1, 0, rfl, rfl, rfl, by omega, by omega, ?_⟩ ?_ ?_
  · refine ⟨⟨rfl, rfl⟩, .fa fun j hj => ?_, trivial⟩
    rw [if_neg (by omega)]; exact .one (.refl _)
  · rw [show ((size A : Int) - 1 + 1).toNat = size A by omega, div_size, Nat.zero_mod]
  · rintro _ _ _ ⟨rfl, rfl, rfl⟩
    have hv := view_ok _ (size A) (digit_Dig (A / d) (size A)) (by omega)
    rw [nval_digit, mod_size hq] at hv
    have hr : A % d < d := Nat.mod_lt _ hd
    conv => whnf
    refine callF hv ⟨.raw_refl, trivial⟩ (by (try simp only [true_and, and_true, Nat.sub_zero, Nat.zero_add, Int.toNat_natCast]) <;> omega) rfl ?_
    conv => whnf
    refine sumu32 (A % d) rfl (by omega) ?_
    conv => whnf
    refine ⟨(by (try simp only [true_and, and_true, Nat.sub_zero, Nat.zero_add, Int.toNat_natCast]) <;> omega), ?_⟩
    exact .refl _
  rintro _ _ _ ⟨i, r, rfl, rfl, rfl, h1, h2, h3⟩
  conv => whnf
  refine spl (fun h4 => ?_) (fun h4 => ?_) <;> simp only [decide_eq_true_eq, decide_eq_false_iff_not, Bool.not_eq_true', Bool.not_eq_false', gt_iff_lt, ge_iff_le] at h4
  · have e1 : (i + 1).toNat = i.toNat + 1 := by omega
    rw [e1] at h3
    have hx := digit_lt A i.toNat
    have hs := short_step A i.toNat hd
    rw [← h3] at hs
    have hr : r < d := by rw [h3]; exact Nat.mod_lt _ hd
    have hq2 := digit_lt (A / d) i.toNat
    conv => whnf
    refine ⟨(by (try simp only [true_and, and_true, Nat.sub_zero, Nat.zero_add, Int.toNat_natCast]) <;> omega), ?_⟩
    conv => whnf
    refine shl32 (r * 4294967296) (by omega) ?_
    conv => whnf
    refine ⟨(by (try simp only [true_and, and_true, Nat.sub_zero, Nat.zero_add, Int.toNat_natCast]) <;> omega), ?_⟩
    conv => whnf
    refine sumu64 (digit A i.toNat) rfl (by omega) ?_
    conv => whnf
    refine or32 (by omega) hx ?_
    conv => whnf
    refine sumu64 d rfl (by omega) ?_
    conv => whnf
    refine ⟨(by (try simp only [true_and, and_true, Nat.sub_zero, Nat.zero_add, Int.toNat_natCast]) <;> omega), ?_⟩
    conv => whnf
    refine quou64 (by omega) ?_
    conv => whnf
    rw [hs.1]
    refine sumu32 (digit (A / d) i.toNat) rfl (by omega) ?_
    conv => whnf
    refine ⟨(by (try simp only [true_and, and_true, Nat.sub_zero, Nat.zero_add, Int.toNat_natCast]) <;> omega), ?_⟩
    conv => whnf
    refine ⟨(by (try simp only [true_and, and_true, Nat.sub_zero, Nat.zero_add, Int.toNat_natCast]) <;> omega), ?_⟩
    conv => whnf
    refine sumu64 d rfl (by omega) ?_
    conv => whnf
    refine ⟨(by (try simp only [true_and, and_true, Nat.sub_zero, Nat.zero_add, Int.toNat_natCast]) <;> omega), ?_⟩
    conv => whnf
    refine remN ?_
    conv => whnf
    rw [hs.2]
    refine fit64 (by omega) ?_
    conv => whnf
    refine ⟨_, ?_, _, _, _, rfl, ?_, i - 1, A / pw i.toNat % d, rfl, rfl, rfl, by omega, by omega, by rw [show (i - 1 + 1).toNat = i.toNat by omega]⟩
    · omega
    · refine ⟨⟨rfl, rfl⟩, .fa fun j hj => ?_, trivial⟩
      rw [upd_set (fun j => if i < (j : Int) then digit (A / d) j else 0) _ _ _ rfl]
      refine .one (.int_of ?_)
      by_cases e : j = i.toNat
      · subst e; rw [if_pos (by omega), if_pos (by omega)]
      · rw [if_neg (by omega)]
        by_cases e2 : i < (j : Int)
        · rw [if_pos e2, if_pos (by omega)]
        · rw [if_neg e2, if_neg (by omega)]
  · have : i = -1 := by omega
    subst this
    have h3 : r = A / pw 0 % d := h3
    rw [pw_zero, Nat.div_one] at h3
    subst h3
    conv => whnf
    refine ⟨_, _, _, rfl, ?_, rfl, rfl, rfl⟩
    refine ⟨⟨rfl, rfl⟩, .fa fun j hj => ?_, trivial⟩
    rw [if_pos (by omega)]; exact .one (.refl _)

/-- what DivMod answers -/
def divRes (A B : Nat) : AV := if B = 0 then .tup [nat 0, nat 0, .f (.bool false)] else .tup [nat (A / B), nat (A % B), .f (.bool true)]

theorem DivMod_gen (g h : Nat → Nat) (n m : Nat) (hg : Dig g n) (hh : Dig h m) (hn : n ≤ 4398046511104) (hm : m ≤ 4398046511104)
    (hlong : 2 ≤ size (nval h m) → nval h m ≤ nval g n → ACall Tryz.prog 152 [nat (nval g n), nat (nval h m)] (.tup [nat (nval g n / nval h m), nat (nval g n % nval h m)])) :
    ACall Tryz.prog 141 [raw g n, raw h m] (divRes (nval g n) (nval h m)) := by
  have hA := size_nval hg
  have hB := size_nval hh
  have va := view_ok g n hg hn
  have vb := view_ok h m hh hm
  generalize nval g n = A at hA va hlong ⊢
  generalize nval h m = B at hB vb hlong ⊢
  unfold divRes
  refine acall_rule env [0, 1, 4, 5, 6, 7, 8, 13, 17, 24] Tryz.func141 rfl rfl rfl rfl ?_
  conv => whnf
  refine callF va ⟨.refl _, trivial⟩ (by trivial) rfl ?_
  conv => whnf
  refine callF vb ⟨.refl _, trivial⟩ (by trivial) rfl ?_
  conv => whnf
  refine spl (fun h1 => ?_) (fun h1 => ?_) <;> simp only [decide_eq_true_eq, decide_eq_false_iff_not, Bool.not_eq_true', Bool.not_eq_false', gt_iff_lt, ge_iff_le] at h1
  · rw [if_pos (size_eq_zero.1 (by omega))]
    conv => whnf
    refine ⟨(by (try simp only [true_and, and_true, Nat.sub_zero, Nat.zero_add, Int.toNat_natCast]) <;> omega), ?_⟩
    exact .tup ⟨.nil_nat, .nil_nat, .refl _, trivial⟩
  have hB0 : 0 < B := by
    rcases Nat.eq_zero_or_pos B with h | h
    · exact absurd (size_eq_zero.2 h) (by omega)
    · exact h
  rw [if_neg (by omega)]
  conv => whnf
  have hc := Compare_ok (digit A) (digit B) (size A) (size B) (digit_Dig _ _) (digit_Dig _ _) (by omega) (by omega)
  rw [nval_digit_size, nval_digit_size] at hc
  refine callF hc ⟨.refl _, .refl _, trivial⟩ (by trivial) rfl ?_
  conv => whnf
  refine spl (fun h2 => ?_) (fun h2 => ?_) <;> simp only [decide_eq_true_eq, decide_eq_false_iff_not, Bool.not_eq_true', Bool.not_eq_false', gt_iff_lt, ge_iff_le] at h2
  · have hlt := cmp_lt.1 h2
    rw [Nat.div_eq_of_lt hlt, Nat.mod_eq_of_lt hlt]
    have ht := Trim_ok (digit A) (size A) (digit_Dig _ _) (by omega)
    rw [nval_digit_size] at ht
    conv => whnf
    refine callF ht ⟨.refl _, trivial⟩ (by trivial) rfl ?_
    conv => whnf
    refine ⟨(by (try simp only [true_and, and_true, Nat.sub_zero, Nat.zero_add, Int.toNat_natCast]) <;> omega), ?_⟩
    exact .tup ⟨.nil_nat, .refl _, .refl _, trivial⟩
  have hle : B ≤ A := by have := mt cmp_lt.2 h2; omega
  conv => whnf
  refine spl (fun h3 => ?_) (fun h3 => ?_) <;> simp only [decide_eq_true_eq, decide_eq_false_iff_not, Bool.not_eq_true', Bool.not_eq_false', gt_iff_lt, ge_iff_le] at h3
  · have hB1 : B < 4294967296 := by have := lt_pw_size B; rw [show size B = 1 by omega] at this; exact this
    have hd : digit B 0 = B := by rw [digit, pw_zero, Nat.div_one, Nat.mod_eq_of_lt hB1]
    have hr : A % B < B := Nat.mod_lt _ hB0
    have hs := short_ok A B hB0 hB1 (by omega)
    have hf := FromUint64_ok (A % B) (by omega)
    conv => whnf
    refine ⟨(by (try simp only [true_and, and_true, Nat.sub_zero, Nat.zero_add, Int.toNat_natCast]) <;> omega), ?_⟩
    conv => whnf
    refine callF hs ⟨.refl _, .int_of (congrArg _ hd), trivial⟩ (by trivial) rfl ?_
    conv => whnf
    refine sumu64 (A % B) rfl (by omega) ?_
    conv => whnf
    refine callF hf ⟨.refl _, trivial⟩ (by trivial) rfl ?_
    conv => whnf
    refine ⟨(by (try simp only [true_and, and_true, Nat.sub_zero, Nat.zero_add, Int.toNat_natCast]) <;> omega), ?_⟩
    exact .refl _
  · have hl := hlong (by omega) hle
    conv => whnf
    refine callF hl ⟨.refl _, .refl _, trivial⟩ (by trivial) rfl ?_
    conv => whnf
    refine ⟨(by (try simp only [true_and, and_true, Nat.sub_zero, Nat.zero_add, Int.toNat_natCast]) <;> omega), ?_⟩
    exact .refl _
end Go.Abs

/- Natural numbers: GCD. -/
set_option autoImplicit false
set_option maxHeartbeats 4000000
set_option linter.unusedVariables false
set_option linter.unusedSimpArgs false
namespace Go.Abs
open Go Go.Proofs

theorem gcd_step (a b : Nat) : Nat.gcd b (a % b) = Nat.gcd a b := by rw [Nat.gcd_comm b, ← Nat.gcd_rec, Nat.gcd_comm]
theorem lt64 {a : Nat} (h : size a ≤ 2) : a < 18446744073709551616 := Nat.lt_of_lt_of_le (lt_pw_size a) (pw_le (j := 2) h)


theorem GCD_gen (g h : Nat → Nat) (n m M : Nat) (hg : Dig g n) (hh : Dig h m) (hn : n ≤ M) (hm : m ≤ M) (hM : M ≤ 4398046511104)
    (hdiv : ∀ a b, size a ≤ M → size b ≤ M → (2 < size b ∨ 2 < size a) → 0 < b → ACall Tryz.prog 141 [nat a, nat b] (divRes a b)) :
    ACall Tryz.prog 139 [raw g n, raw h m] (nat (Nat.gcd (nval g n) (nval h m))) := by
  have hA := size_nval hg
  have hB := size_nval hh
  have va := Trim_ok g n hg (by omega)
  have vb := Trim_ok h m hh (by omega)
  generalize nval g n = A at hA va ⊢
  generalize nval h m = B at hB vb ⊢
  refine acall_rule env [0, 1, 4, 6, 8, 10, 28, 40, 53] Tryz.func139 rfl rfl rfl rfl ?_
  conv => whnf
  refine callF va ⟨.refl _, trivial⟩ (by trivial) rfl ?_
  conv => whnf
  refine callF vb ⟨.refl _, trivial⟩ (by trivial) rfl ?_
  conv => whnf
  refine loop_mod [0, 1] [] [0, 1] []
    (fun μ fr hp => ∃ a b : Nat, fr = [(0, nat a), (1, nat b)] ∧ hp = [] ∧ μ = b + 1 ∧ size a ≤ M ∧ size b ≤ M ∧ Nat.gcd a b = Nat.gcd A B)
    (fun e fr hp => e = .exit 0 ∧ ∃ a b : Nat, fr = [(0, nat a), (1, nat b)] ∧ hp = [] ∧ (b = 0 ∨ size a ≤ 2 ∧ size b ≤ 2) ∧ size a ≤ M ∧ Nat.gcd a b = Nat.gcd A B)
    ⟨_, _, _, _, rfl, .refl _, A, B, rfl, rfl, rfl, by omega, by omega, rfl⟩ ?_ ?_
  · rintro _ _ _ ⟨rfl, a, b, rfl, rfl, h1, h3, h2⟩
    rw [← h2]
    conv => whnf
    refine spl (fun h4 => ?_) (fun h4 => ?_) <;> simp only [decide_eq_true_eq, decide_eq_false_iff_not, Bool.not_eq_true', Bool.not_eq_false', gt_iff_lt, ge_iff_le] at h4
    · have : b = 0 := size_eq_zero.1 (by omega)
      subst this
      rw [Nat.gcd_zero_right]
      conv => whnf
      refine ⟨(by (try simp only [true_and, and_true, Nat.sub_zero, Nat.zero_add, Int.toNat_natCast]) <;> omega), ?_⟩
      exact .refl _
    have hb : b ≠ 0 := fun e => h4 (by rw [e]; rfl)
    have hs : size a ≤ 2 ∧ size b ≤ 2 := h1.resolve_left hb
    have ha64 := lt64 hs.1
    have hb64 := lt64 hs.2
    have ua := Uint64_ok (digit a) (size a) (digit_Dig _ _) (by omega)
    have ub := Uint64_ok (digit b) (size b) (digit_Dig _ _) (by omega)
    rw [nval_digit_size, if_pos ha64] at ua
    rw [nval_digit_size, if_pos hb64] at ub
    conv => whnf
    refine callF ua ⟨.refl _, trivial⟩ (by trivial) rfl ?_
    conv => whnf
    refine callF ub ⟨.refl _, trivial⟩ (by trivial) rfl ?_
    conv => whnf
    refine loop_mod [8, 10] [] [8] []
      (fun μ fr hp => ∃ x y : Nat, fr = [(8, .f (.int .u64 x)), (10, .f (.int .u64 y))] ∧ hp = [] ∧ μ = y + 1 ∧ x < 18446744073709551616 ∧ y < 18446744073709551616 ∧ Nat.gcd x y = Nat.gcd a b)
      (fun e fr hp => e = .exit 2 ∧ fr = [(8, .f (.int .u64 (Nat.gcd a b)))] ∧ hp = [] ∧ Nat.gcd a b < 18446744073709551616)
      ⟨_, _, _, _, rfl, .refl _, a, b, rfl, rfl, rfl, ha64, hb64, rfl⟩ ?_ ?_
    · rintro _ _ _ ⟨rfl, rfl, rfl, hG⟩
      conv => whnf
      refine callF (FromUint64_ok _ hG) ⟨.refl _, trivial⟩ (by trivial) rfl ?_
      conv => whnf
      refine ⟨(by (try simp only [true_and, and_true, Nat.sub_zero, Nat.zero_add, Int.toNat_natCast]) <;> omega), ?_⟩
      exact .refl _
    rintro _ _ _ ⟨x, y, rfl, rfl, rfl, g1, g2, g3⟩
    conv => whnf
    refine spl (fun h5 => ?_) (fun h5 => ?_) <;> simp only [decide_eq_true_eq, decide_eq_false_iff_not, Bool.not_eq_true', Bool.not_eq_false', gt_iff_lt, ge_iff_le] at h5
    · have hlt : x % y < y := Nat.mod_lt _ (by omega)
      conv => whnf
      refine ⟨(by (try simp only [true_and, and_true, Nat.sub_zero, Nat.zero_add, Int.toNat_natCast]) <;> omega), ?_⟩
      conv => whnf
      refine remN ?_
      conv => whnf
      refine ⟨by kernel_rfl, ?_⟩
      conv => whnf
      exact ⟨_, Nat.succ_lt_succ hlt, _, _, _, rfl, .refl _, y, x % y, rfl, rfl, rfl, g2, by omega, by rw [gcd_step]; exact g3⟩
    · have : y = 0 := by omega
      subst this
      rw [Nat.gcd_zero_right] at g3
      conv => whnf
      exact ⟨_, _, _, congrArg (fun t => some ([(8, AV.f (.int .u64 t))], [])) (congrArg _ g3), .refl _, rfl, rfl, rfl, by omega⟩
  rintro _ _ _ ⟨a, b, rfl, rfl, rfl, h1, h2, h3⟩
  conv => whnf
  refine spl (fun h4 => ?_) (fun h4 => ?_) <;> simp only [decide_eq_true_eq, decide_eq_false_iff_not, Bool.not_eq_true', Bool.not_eq_false', gt_iff_lt, ge_iff_le] at h4
  · conv => whnf
    conv => whnf
    have hb0 : 0 < b := by
      rcases Nat.eq_zero_or_pos b with h | h
      · exact absurd (size_eq_zero.2 h) (by omega)
      · exact h
    have hd := hdiv a b h1 h2 (by omega) hb0
    rw [divRes, if_neg (by omega)] at hd
    have hlt : a % b < b := Nat.mod_lt _ hb0
    refine callF hd ⟨.refl _, .refl _, trivial⟩ (by trivial) rfl ?_
    conv => whnf
    exact ⟨_, Nat.succ_lt_succ hlt, _, _, _, rfl, .refl _, b, a % b, rfl, rfl, rfl, h2, Nat.le_trans (size_mono (Nat.le_of_lt hlt)) h2, by rw [gcd_step]; exact h3⟩
  conv => whnf
  refine spl (fun h5 => ?_) (fun h5 => ?_) <;> simp only [decide_eq_true_eq, decide_eq_false_iff_not, Bool.not_eq_true', Bool.not_eq_false', gt_iff_lt, ge_iff_le] at h5
  · conv => whnf
    refine spl (fun h6 => ?_) (fun h6 => ?_) <;> simp only [decide_eq_true_eq, decide_eq_false_iff_not, Bool.not_eq_true', Bool.not_eq_false', gt_iff_lt, ge_iff_le] at h6
    · conv => whnf
      have hb0 : 0 < b := by
        rcases Nat.eq_zero_or_pos b with h | h
        · exact absurd (size_eq_zero.2 h) (by omega)
        · exact h
      have hd := hdiv a b h1 h2 (by omega) hb0
      rw [divRes, if_neg (by omega)] at hd
      have hlt : a % b < b := Nat.mod_lt _ hb0
      refine callF hd ⟨.refl _, .refl _, trivial⟩ (by trivial) rfl ?_
      conv => whnf
      exact ⟨_, Nat.succ_lt_succ hlt, _, _, _, rfl, .refl _, b, a % b, rfl, rfl, rfl, h2, Nat.le_trans (size_mono (Nat.le_of_lt hlt)) h2, by rw [gcd_step]; exact h3⟩
    · conv => whnf
      exact ⟨_, _, _, rfl, .refl _, rfl, a, b, rfl, rfl, .inl (size_eq_zero.1 (by omega)), h1, h3⟩
  · conv => whnf
    exact ⟨_, _, _, rfl, .refl _, rfl, a, b, rfl, rfl, .inr ⟨by omega, by omega⟩, h1, h3⟩
end Go.Abs

/- Natural numbers: Len32, Bits. -/
set_option autoImplicit false
set_option maxHeartbeats 4000000
set_option linter.unusedVariables false
set_option linter.unusedSimpArgs false
namespace Go.Abs
open Go Go.Proofs

def bitlen (N : Nat) : Nat := if N = 0 then 0 else N.log2 + 1
theorem bitlen_le {N k : Nat} (h : N < 2 ^ k) : bitlen N ≤ k := by
  unfold bitlen; split
  · omega
  · rename_i h0; have := (Nat.log2_lt h0).2 h; omega
theorem lt_bitlen {N k : Nat} (h : 2 ^ k ≤ N) : k < bitlen N := by
  unfold bitlen
  have : 0 < 2 ^ k := Nat.two_pow_pos k
  rw [if_neg (by omega)]
  have := (Nat.le_log2 (by omega)).2 h; omega
theorem bitlen_eq {N k : Nat} (h1 : 2 ^ k ≤ N) (h2 : N < 2 ^ (k + 1)) : bitlen N = k + 1 := by
  have := bitlen_le h2; have := lt_bitlen h1; omega
theorem bitlen_div {N : Nat} (k : Nat) (h : 0 < N / 2 ^ k) : bitlen N = bitlen (N / 2 ^ k) + k := by
  have h0 : N / 2 ^ k ≠ 0 := by omega
  have e : bitlen (N / 2 ^ k) = (N / 2 ^ k).log2 + 1 := by unfold bitlen; rw [if_neg h0]
  have h1 := Nat.log2_self_le h0
  have h2 := Nat.lt_log2_self (n := N / 2 ^ k)
  rw [e, show (N / 2 ^ k).log2 + 1 + k = ((N / 2 ^ k).log2 + k) + 1 by omega]
  refine bitlen_eq ?_ ?_
  · rw [Nat.pow_add]; exact Nat.le_trans (Nat.mul_le_mul_right _ h1) (Nat.div_mul_le_self _ _)
  · rw [show (N / 2 ^ k).log2 + k + 1 = (N / 2 ^ k).log2 + 1 + k by omega, Nat.pow_add]
    exact (Nat.div_lt_iff_lt_mul (Nat.two_pow_pos k)).1 h2


theorem Len32_ok (x : Nat) (hx : x < 4294967296) : ACall Tryz.prog 135 [.f (.int .u32 x)] (.f (.int .i64 (bitlen x))) := by
  refine acall_rule env [0, 2, 4, 8] Tryz.func135 rfl rfl rfl rfl ?_
  conv => whnf
  refine spl (fun h1 => ?_) (fun h1 => ?_) <;> simp only [decide_eq_true_eq, decide_eq_false_iff_not, Bool.not_eq_true', Bool.not_eq_false', gt_iff_lt, ge_iff_le] at h1
  · conv => whnf
    refine ⟨(by (try simp only [true_and, and_true, Nat.sub_zero, Nat.zero_add, Int.toNat_natCast]) <;> omega), ?_⟩
    conv => whnf
    refine shrN (n := 16) rfl (by decide) ?_
    conv => whnf
    have e1 := bitlen_div (N := x) 16 (by omega)
    refine spl (fun h2 => ?_) (fun h2 => ?_) <;> simp only [decide_eq_true_eq, decide_eq_false_iff_not, Bool.not_eq_true', Bool.not_eq_false', gt_iff_lt, ge_iff_le] at h2
    · have e2 := bitlen_div (N := x / 2 ^ 16) 8 (by omega)
      conv => whnf
      refine ⟨(by (try simp only [true_and, and_true, Nat.sub_zero, Nat.zero_add, Int.toNat_natCast]) <;> omega), ?_⟩
      conv => whnf
      refine shrN (n := 8) rfl (by decide) ?_
      conv => whnf
      refine fit64 (by omega) ?_
      conv => whnf
      have hx8 : x / 2 ^ 16 / 2 ^ 8 < 256 := by omega
      have hle := bitlen_le (N := x / 2 ^ 16 / 2 ^ 8) (k := 8) hx8
      have hm : x / 2 ^ 16 / 2 ^ 8 % 256 = x / 2 ^ 16 / 2 ^ 8 := Nat.mod_eq_of_lt hx8
      conv => whnf
      refine lowu8 ?_
      conv => whnf
      rw [hm]
      refine ⟨⟨Int.natCast_nonneg _, Int.ofNat_lt.2 (Nat.lt_of_lt_of_le hx8 (by decide +kernel))⟩, ?_⟩
      conv => whnf
      refine sumi64 (bitlen (x / 2 ^ 16 / 2 ^ 8)) ?_ (by omega) ?_
      conv => whnf
      · clear hm hle
        generalize x / 2 ^ 16 / 2 ^ 8 = y at hx8
        revert hx8; revert y
        decide +kernel
      refine sumi64 (bitlen x) (by omega) (by omega) ?_
      conv => whnf
      refine ⟨(by (try simp only [true_and, and_true, Nat.sub_zero, Nat.zero_add, Int.toNat_natCast]) <;> omega), ?_⟩
      exact .refl _
    · have hx8 : x / 2 ^ 16 < 256 := by omega
      have hle := bitlen_le (N := x / 2 ^ 16) (k := 8) hx8
      have hm : x / 2 ^ 16 % 256 = x / 2 ^ 16 := Nat.mod_eq_of_lt hx8
      conv => whnf
      refine lowu8 ?_
      conv => whnf
      rw [hm]
      refine ⟨⟨Int.natCast_nonneg _, Int.ofNat_lt.2 (Nat.lt_of_lt_of_le hx8 (by decide +kernel))⟩, ?_⟩
      conv => whnf
      refine sumi64 (bitlen (x / 2 ^ 16)) ?_ (by omega) ?_
      conv => whnf
      · clear hm hle
        generalize x / 2 ^ 16 = y at hx8
        revert hx8; revert y
        decide +kernel
      refine sumi64 (bitlen x) (by omega) (by omega) ?_
      conv => whnf
      refine ⟨(by (try simp only [true_and, and_true, Nat.sub_zero, Nat.zero_add, Int.toNat_natCast]) <;> omega), ?_⟩
      exact .refl _
  · conv => whnf
    refine spl (fun h2 => ?_) (fun h2 => ?_) <;> simp only [decide_eq_true_eq, decide_eq_false_iff_not, Bool.not_eq_true', Bool.not_eq_false', gt_iff_lt, ge_iff_le] at h2
    · have e2 := bitlen_div (N := x) 8 (by omega)
      conv => whnf
      refine ⟨(by (try simp only [true_and, and_true, Nat.sub_zero, Nat.zero_add, Int.toNat_natCast]) <;> omega), ?_⟩
      conv => whnf
      refine shrN (n := 8) rfl (by decide) ?_
      conv => whnf
      refine fit64 (by omega) ?_
      conv => whnf
      have hx8 : x / 2 ^ 8 < 256 := by omega
      have hle := bitlen_le (N := x / 2 ^ 8) (k := 8) hx8
      have hm : x / 2 ^ 8 % 256 = x / 2 ^ 8 := Nat.mod_eq_of_lt hx8
      conv => whnf
      refine lowu8 ?_
      conv => whnf
      rw [hm]
      refine ⟨⟨Int.natCast_nonneg _, Int.ofNat_lt.2 (Nat.lt_of_lt_of_le hx8 (by decide +kernel))⟩, ?_⟩
      conv => whnf
      refine sumi64 (bitlen (x / 2 ^ 8)) ?_ (by omega) ?_
      conv => whnf
      · clear hm hle
        generalize x / 2 ^ 8 = y at hx8
        revert hx8; revert y
        decide +kernel
      refine sumi64 (bitlen x) (by omega) (by omega) ?_
      conv => whnf
      refine ⟨(by (try simp only [true_and, and_true, Nat.sub_zero, Nat.zero_add, Int.toNat_natCast]) <;> omega), ?_⟩
      exact .refl _
    · have hx8 : x < 256 := by omega
      have hle := bitlen_le (N := x) (k := 8) hx8
      have hm : x % 256 = x := Nat.mod_eq_of_lt hx8
      conv => whnf
      refine lowu8 ?_
      conv => whnf
      rw [hm]
      refine ⟨⟨Int.natCast_nonneg _, Int.ofNat_lt.2 (Nat.lt_of_lt_of_le hx8 (by decide +kernel))⟩, ?_⟩
      conv => whnf
      refine sumi64 (bitlen (x)) ?_ (by omega) ?_
      conv => whnf
      · clear hm hle
        generalize x = y at hx8
        revert hx8; revert y
        decide +kernel
      refine sumi64 (bitlen x) (by omega) (by omega) ?_
      conv => whnf
      refine ⟨(by (try simp only [true_and, and_true, Nat.sub_zero, Nat.zero_add, Int.toNat_natCast]) <;> omega), ?_⟩
      exact .refl _

theorem bitlen_size {N n : Nat} (h : size N = n + 1) : bitlen N = 32 * n + bitlen (digit N n) := by
  have h1 := lt_pw_size N; rw [h, pw_succ] at h1
  have h2 := pw_size_le (N := N) (k := n) (by omega)
  have h3 : 0 < N / pw n := Nat.div_pos h2 (pw_pos n)
  have h4 : N / pw n < 4294967296 := by rw [Nat.div_lt_iff_lt_mul (pw_pos n), Nat.mul_comm]; exact h1
  rw [digit, Nat.mod_eq_of_lt h4]
  rw [pw_two] at h3 ⊢
  have := bitlen_div (32 * n) h3
  omega

theorem Bits_ok (g : Nat → Nat) (n : Nat) (hg : Dig g n) (hn : n ≤ 4398046511104) : ACall Tryz.prog 114 [raw g n] (.f (.int .i64 (bitlen (nval g n)))) := by
  have hA := size_nval hg
  have va := view_ok g n hg hn
  generalize nval g n = A at hA va ⊢
  refine acall_rule env [0, 2, 7] Tryz.func114 rfl rfl rfl rfl ?_
  conv => whnf
  refine callF va ⟨.refl _, trivial⟩ (by trivial) rfl ?_
  conv => whnf
  refine spl (fun h1 => ?_) (fun h1 => ?_) <;> simp only [decide_eq_true_eq, decide_eq_false_iff_not, Bool.not_eq_true', Bool.not_eq_false', gt_iff_lt, ge_iff_le] at h1
  · have : A = 0 := size_eq_zero.1 (by omega)
    subst this
    conv => whnf
    refine ⟨(by (try simp only [true_and, and_true, Nat.sub_zero, Nat.zero_add, Int.toNat_natCast]) <;> omega), ?_⟩
    exact .refl _
  obtain ⟨k, hk⟩ : ∃ k, size A = k + 1 := ⟨size A - 1, by omega⟩
  have hb := bitlen_size hk
  have hd := digit_lt A k
  have hl := Len32_ok (digit A k) hd
  have hle := bitlen_le (N := digit A k) (k := 32) hd
  conv => whnf
  refine sumi64 k (by omega) (by omega) ?_
  conv => whnf
  refine sumi64 (32 * k) (by omega) (by omega) ?_
  conv => whnf
  refine sumi64 k (by omega) (by omega) ?_
  conv => whnf
  refine ⟨(by (try simp only [true_and, and_true, Nat.sub_zero, Nat.zero_add, Int.toNat_natCast]) <;> omega), ?_⟩
  conv => whnf
  refine callF hl ⟨.refl _, trivial⟩ (by trivial) rfl ?_
  conv => whnf
  refine sumi64 (bitlen A) (by omega) (by omega) ?_
  conv => whnf
  refine ⟨(by (try simp only [true_and, and_true, Nat.sub_zero, Nat.zero_add, Int.toNat_natCast]) <;> omega), ?_⟩
  exact .refl _
end Go.Abs

/- Natural numbers: left, right. -/
set_option autoImplicit false
set_option maxHeartbeats 4000000
set_option linter.unusedVariables false
set_option linter.unusedSimpArgs false
namespace Go.Abs
open Go Go.Proofs

theorem left_ok (A s : Nat) (hs : s < 32) (hA : size A ≤ 4398046511104) :
    RCall Tryz.prog 159 [nat A, .f (.int .u64 s)] [] (.lsl 2000000 1 1 0 (size A + 1) (some (size A + 1))) [(2000000, 1, .fa 1 (size A + 1) (fun j => [.int .u32 (digit (A * 2 ^ s) j : Nat)]))] := by
  refine rcall_rule env [.lsl 2000000 1 1 0 (size A + 1) (some (size A + 1))] [0, 1, 4, 5, 6, 7, 8, 13, 14, 15, 16] Tryz.func159 rfl rfl rfl rfl ?_
  conv => whnf
  refine sumi64 (size A + 1) (by omega) (by omega) ?_
  conv => whnf
  refine ⟨(by (try simp only [true_and, and_true, Nat.sub_zero, Nat.zero_add, Int.toNat_natCast]) <;> omega), ?_⟩
  conv => whnf
  refine loop_rule2 [0, 1, 5, 13, 14, 15] [12] (fun k : Nat => ([(0, nat A), (1, .f (.int .u64 s)), (5, .lsl 12 1 1 0 (size A + 1) (some (size A + 1))), (13, nat A), (14, .f (.int .i64 (size A : Nat))), (15, .f (.int .i64 k))], [(12, 1, .fa 1 (size A + 1) (fun j => [.int .u32 (digit ((A % pw k) * 2 ^ s) j : Nat)]))])) (fun k => k ≤ size A) (fun k => size A - k) 0 ⟨_, rfl, ⟨rfl, rfl⟩, .fa fun j hj => ?_, trivial⟩ (Nat.zero_le _) ?_
  · rw [pw_zero, Nat.mod_one, Nat.zero_mul, show digit 0 j = 0 by simp [digit]]; exact .one (.refl _)
  intro k hk
  conv => whnf
  refine spl (fun h1 => ?_) (fun h1 => ?_) <;> simp only [decide_eq_true_eq, decide_eq_false_iff_not, Bool.not_eq_true', Bool.not_eq_false', gt_iff_lt, ge_iff_le] at h1
  · have hx := digit_lt A k
    have h32 := two_pow_le (show s ≤ 32 by omega)
    have hv : digit A k * 2 ^ s < 4294967296 * 4294967296 := Nat.lt_of_le_of_lt (Nat.mul_le_mul_left _ h32) ((Nat.mul_lt_mul_right (by decide)).2 hx)
    obtain ⟨ho, hlt⟩ := shl_or (digit A k) s _ (show s ≤ 32 by omega) (left_low A s k)
    have hdi : digit ((A % pw k) * 2 ^ s) k = (A % pw k) * 2 ^ s / pw k := by rw [digit, Nat.mod_eq_of_lt (Nat.lt_of_lt_of_le (left_low A s k) h32)]
    have hd := digit_lt ((A % pw k) * 2 ^ s) k
    rw [← hdi] at ho hlt
    conv => whnf
    refine ⟨(by (try simp only [true_and, and_true, Nat.sub_zero, Nat.zero_add, Int.toNat_natCast]) <;> omega), ?_⟩
    conv => whnf
    refine sumu64 (digit A k) rfl (by omega) ?_
    conv => whnf
    refine ⟨(by (try simp only [true_and, and_true, Nat.sub_zero, Nat.zero_add, Int.toNat_natCast]) <;> omega), ?_⟩
    conv => whnf
    refine shlN (n := s) (digit A k * 2 ^ s) rfl (by omega) (Nat.mod_eq_of_lt (by omega)) ?_
    conv => whnf
    refine ⟨(by (try simp only [true_and, and_true, Nat.sub_zero, Nat.zero_add, Int.toNat_natCast]) <;> omega), ?_⟩
    conv => whnf
    refine ⟨(by (try simp only [true_and, and_true, Nat.sub_zero, Nat.zero_add, Int.toNat_natCast]) <;> omega), ?_⟩
    conv => whnf
    refine lowu32 ?_
    conv => whnf
    refine orN (digit ((A % pw k) * 2 ^ s) k + digit A k * 2 ^ s % 4294967296) rfl (show _ < 4294967296 by simpa using hd) (show _ < 4294967296 by omega) (by simpa using ho) ?_
    conv => whnf
    refine ⟨(by (try simp only [true_and, and_true, Nat.sub_zero, Nat.zero_add, Int.toNat_natCast]) <;> omega), ?_⟩
    conv => whnf
    refine ⟨(by (try simp only [true_and, and_true, Nat.sub_zero, Nat.zero_add, Int.toNat_natCast]) <;> omega), ?_⟩
    conv => whnf
    refine sumi64 (k + 1) (by omega) (by omega) ?_
    conv => whnf
    refine ⟨(by (try simp only [true_and, and_true, Nat.sub_zero, Nat.zero_add, Int.toNat_natCast]) <;> omega), ?_⟩
    conv => whnf
    refine shr32 (by decide) ?_
    conv => whnf
    refine lowu32 ?_
    conv => whnf
    refine ⟨(by (try simp only [true_and, and_true, Nat.sub_zero, Nat.zero_add, Int.toNat_natCast]) <;> omega), ?_⟩
    conv => whnf
    refine ⟨(by (try simp only [true_and, and_true, Nat.sub_zero, Nat.zero_add, Int.toNat_natCast]) <;> omega), ?_⟩
    conv => whnf
    refine sumi64 (k + 1) (by omega) (by omega) ?_
    conv => whnf
    refine ⟨k + 1, _, rfl, ⟨⟨rfl, rfl⟩, .fa fun j hj => ?_, trivial⟩, by omega, by omega⟩
    rw [upd_set (fun j => digit ((A % pw k) * 2 ^ s) j) _ _ _ rfl, upd_set (fun j => if j = (0 + Int.toNat k) then _ else _) _ _ _ rfl]
    refine .one (.int_of ?_)
    rw [left_digits A s k j hs]
    simp only [Nat.zero_add, Int.toNat_natCast]
    rw [Nat.mod_eq_of_lt (show digit A k * 2 ^ s / 4294967296 < 4294967296 by omega)]
    by_cases e1 : j = k
    · rw [if_neg (by omega), if_pos e1, if_pos e1]
    · rw [if_neg e1, if_neg e1]
  · conv => whnf
    have hk : k = size A := by omega
    subst hk
    refine ⟨[12], ?_⟩
    conv => whnf
    refine ⟨⟨⟨rfl, rfl, .inr rfl⟩, trivial⟩, ⟨⟨(by (try simp only [true_and, and_true, Nat.sub_zero, Nat.zero_add, Int.toNat_natCast]) <;> omega), fun j hj => ?_⟩, trivial⟩, rfl⟩
    rw [mod_size (Nat.le_refl _)]
    refine .one (.int_of ?_)
    rw [Nat.zero_add]


theorem right_ok (A s : Nat) (hs : s < 32) (hA : size A ≤ 4398046511104) :
    ACall Tryz.prog 163 [nat A, .f (.int .u64 s)] (nat (A / 2 ^ s)) := by
  have hle : size (A / 2 ^ s) ≤ size A := size_mono (Nat.div_le_self _ _)
  have hv := view_ok (digit (A / 2 ^ s)) (size A) (digit_Dig _ _) hA
  rw [nval_digit, mod_size hle] at hv
  refine acall_rule env [0, 1, 4, 5, 6, 7, 8, 12, 13, 14, 15, 25] Tryz.func163 rfl rfl rfl rfl ?_
  conv => whnf
  refine ⟨(by (try simp only [true_and, and_true, Nat.sub_zero, Nat.zero_add, Int.toNat_natCast]) <;> omega), ?_⟩
  conv => whnf
  refine loop_rule2 [0, 1, 5, 12, 13, 14] [11] (fun k : Nat => ([(0, nat A), (1, .f (.int .u64 s)), (5, .lsl 11 1 1 0 (size A) (some (size A))), (12, nat A), (13, .f (.int .i64 (size A : Nat))), (14, .f (.int .i64 k))], [(11, 1, .fa 1 (size A) (fun j => [.int .u32 ((if j < k then digit (A / 2 ^ s) j else 0 : Nat) : Int)]))])) (fun k => k ≤ size A) (fun k => size A - k) 0 ⟨_, rfl, ⟨rfl, rfl⟩, .fa fun j hj => ?_, trivial⟩ (Nat.zero_le _) ?_
  · rw [if_neg (by omega)]; exact .one (.refl _)
  intro k hk
  conv => whnf
  refine spl (fun h1 => ?_) (fun h1 => ?_) <;> simp only [decide_eq_true_eq, decide_eq_false_iff_not, Bool.not_eq_true', Bool.not_eq_false', gt_iff_lt, ge_iff_le] at h1
  · have hx := digit_lt A k
    have hy := digit_lt A (k + 1)
    have hr := right_digit A s k hs
    conv => whnf
    refine ⟨(by (try simp only [true_and, and_true, Nat.sub_zero, Nat.zero_add, Int.toNat_natCast]) <;> omega), ?_⟩
    conv => whnf
    refine sumu64 (digit A k) rfl (by omega) ?_
    conv => whnf
    refine sumi64 (k + 1) (by omega) (by omega) ?_
    conv => whnf
    refine spl (fun h2 => ?_) (fun h2 => ?_) <;> simp only [decide_eq_true_eq, decide_eq_false_iff_not, Bool.not_eq_true', Bool.not_eq_false', gt_iff_lt, ge_iff_le] at h2
    · conv => whnf
      refine sumi64 (k + 1) (by omega) (by omega) ?_
      conv => whnf
      refine ⟨(by (try simp only [true_and, and_true, Nat.sub_zero, Nat.zero_add, Int.toNat_natCast]) <;> omega), ?_⟩
      conv => whnf
      refine sumu64 (digit A (k + 1)) rfl (by omega) ?_
      conv => whnf
      refine ⟨(by (try simp only [true_and, and_true, Nat.sub_zero, Nat.zero_add, Int.toNat_natCast]) <;> omega), ?_⟩
      conv => whnf
      refine shl32 (digit A (k + 1) * 4294967296) (by omega) ?_
      conv => whnf
      refine orN (digit A k + digit A (k + 1) * 4294967296) rfl (show _ < 18446744073709551616 by omega) (show _ < 18446744073709551616 by omega) (by rw [Nat.or_comm, or_add (n := 32) hx, Nat.add_comm]) ?_
      conv => whnf
      refine ⟨(by (try simp only [true_and, and_true, Nat.sub_zero, Nat.zero_add, Int.toNat_natCast]) <;> omega), ?_⟩
      conv => whnf
      refine shrN (n := s) rfl (by show s ≤ 64; omega) ?_
      conv => whnf
      refine lowu32 ?_
      conv => whnf
      rw [← hr]
      refine ⟨(by (try simp only [true_and, and_true, Nat.sub_zero, Nat.zero_add, Int.toNat_natCast]) <;> omega), ?_⟩
      conv => whnf
      refine ⟨(by (try simp only [true_and, and_true, Nat.sub_zero, Nat.zero_add, Int.toNat_natCast]) <;> omega), ?_⟩
      conv => whnf
      refine sumi64 (k + 1) (by omega) (by omega) ?_
      conv => whnf
      refine ⟨k + 1, _, rfl, ⟨⟨rfl, rfl⟩, .fa fun j hj => ?_, trivial⟩, by omega, by omega⟩
      rw [upd_set (fun j => if j < k then digit (A / 2 ^ s) j else 0) _ _ _ rfl]
      refine .one (.int_of ?_)
      simp only [Nat.zero_add, Int.toNat_natCast]
      by_cases e1 : j = k
      · subst e1; rw [if_pos rfl, if_pos (by omega)]
      · rw [if_neg e1]
        by_cases e2 : j < k
        · rw [if_pos e2, if_pos (by omega)]
        · rw [if_neg e2, if_neg (by omega)]
    · conv => whnf
      have hz : digit A (k + 1) = 0 := digit_zero_of_size (by omega)
      rw [hz, Nat.zero_mul, Nat.add_zero] at hr
      refine ⟨(by (try simp only [true_and, and_true, Nat.sub_zero, Nat.zero_add, Int.toNat_natCast]) <;> omega), ?_⟩
      conv => whnf
      refine shrN (n := s) rfl (by show s ≤ 64; omega) ?_
      conv => whnf
      refine lowu32 ?_
      conv => whnf
      rw [← hr]
      refine ⟨(by (try simp only [true_and, and_true, Nat.sub_zero, Nat.zero_add, Int.toNat_natCast]) <;> omega), ?_⟩
      conv => whnf
      refine ⟨(by (try simp only [true_and, and_true, Nat.sub_zero, Nat.zero_add, Int.toNat_natCast]) <;> omega), ?_⟩
      conv => whnf
      refine sumi64 (k + 1) (by omega) (by omega) ?_
      conv => whnf
      refine ⟨k + 1, _, rfl, ⟨⟨rfl, rfl⟩, .fa fun j hj => ?_, trivial⟩, by omega, by omega⟩
      rw [upd_set (fun j => if j < k then digit (A / 2 ^ s) j else 0) _ _ _ rfl]
      refine .one (.int_of ?_)
      simp only [Nat.zero_add, Int.toNat_natCast]
      by_cases e1 : j = k
      · subst e1; rw [if_pos rfl, if_pos (by omega)]
      · rw [if_neg e1]
        by_cases e2 : j < k
        · rw [if_pos e2, if_pos (by omega)]
        · rw [if_neg e2, if_neg (by omega)]
  · conv => whnf
    have hk : k = size A := by omega
    subst hk
    refine callF hv ⟨.f (.limbs fun j hj => ?_), trivial⟩ (by (try simp only [true_and, and_true, Nat.sub_zero, Nat.zero_add, Int.toNat_natCast]) <;> omega) rfl ?_
    conv => whnf
    rotate_left
    · refine ⟨(by (try simp only [true_and, and_true, Nat.sub_zero, Nat.zero_add, Int.toNat_natCast]) <;> omega), ?_⟩
      exact .refl _
    · simp [hj]
end Go.Abs

/- Natural numbers: estimate, subtract, restore. -/
set_option autoImplicit false
set_option maxHeartbeats 4000000
set_option linter.unusedVariables false
set_option linter.unusedSimpArgs false
namespace Go.Abs
open Go Go.Proofs

theorem digit_cast {W k : Nat} {i : Int} (h : i = (k : Int)) : ((digit W i.toNat : Nat) : Int) = ((digit W k : Nat) : Int) := by subst h; rfl
theorem or32v {a b c v : Nat} {K : Int → Prop} (hc : a * 4294967296 = c) (ha : a < 4294967296) (hb : b < 4294967296) (hv : c + b = v) (hk : K (v : Int)) : LetI (intBitsA .or .u64 (c : Int) (b : Int)) K := by
  subst hc; subst hv; exact or32 ha hb hk
theorem fin_succ (t s2 u0 g rest : Nat) : fin t s2 u0 (g + 1) rest = if 4294967296 ≤ g + 1 ∨ rest * 4294967296 + u0 < (g + 1) * s2 then (if 4294967296 ≤ rest + t then g else fin t s2 u0 g (rest + t)) else g + 1 := rfl
theorem fin_stop {t s2 u0 g rest : Nat} (h : ¬ (4294967296 ≤ g)) (h2 : ¬ (rest * 4294967296 + u0 < g * s2)) : fin t s2 u0 g rest = g := by
  cases g with
  | zero => rfl
  | succ g => rw [fin_succ, if_neg (fun hc => hc.elim h h2)]
theorem fin_go {t s2 u0 g rest : Nat} (hg : 0 < g) (h : 4294967296 ≤ g ∨ rest * 4294967296 + u0 < g * s2) : fin t s2 u0 g rest = if 4294967296 ≤ rest + t then g - 1 else fin t s2 u0 (g - 1) (rest + t) := by
  cases g with
  | zero => omega
  | succ g => rw [fin_succ, if_pos h]; rfl


theorem estimate_ok (V W n : Nat) (hn : n < 4398046511104) (ht : 2147483648 ≤ digit V (n + 1)) (hle : digit W (n + 2) ≤ digit V (n + 1)) :
    ACall Tryz.prog 160 [raw (digit W) (n + 3), raw (digit V) (n + 2)] (.f (.int .u64 (guess V W n : Nat))) := by
  have ht2 := digit_lt V (n + 1); have hs2 := digit_lt V n; have hu0 := digit_lt W n; have hu1 := digit_lt W (n + 1); have hu2 := digit_lt W (n + 2)
  have e1 : (n + 2 : Nat) - 1 = n + 1 := by omega
  have hnum : (digit W (n + 2) * 4294967296 + digit W (n + 1)) / digit V (n + 1) < 4294967298 := by
    rw [Nat.div_lt_iff_lt_mul (by omega)]; omega
  have hmod : (digit W (n + 2) * 4294967296 + digit W (n + 1)) % digit V (n + 1) < digit V (n + 1) := Nat.mod_lt _ (by omega)
  refine acall_rule env [0, 1, 4, 5, 6, 7, 8, 9, 10, 61, 69] Tryz.func160 rfl rfl rfl rfl ?_
  conv => whnf
  refine sumi64 (n + 1) (by omega) (by omega) ?_
  conv => whnf
  refine ⟨(by (try simp only [true_and, and_true, Nat.sub_zero, Nat.zero_add, Int.toNat_natCast]) <;> omega), ?_⟩
  conv => whnf
  refine sumu64 (digit V (n + 1)) (digit_cast (by omega)) (by omega) ?_
  conv => whnf
  refine sumi64 n (by omega) (by omega) ?_
  conv => whnf
  refine ⟨(by (try simp only [true_and, and_true, Nat.sub_zero, Nat.zero_add, Int.toNat_natCast]) <;> omega), ?_⟩
  conv => whnf
  refine sumu64 (digit V n) (digit_cast (by omega)) (by omega) ?_
  conv => whnf
  refine ⟨by kernel_rfl, ?_⟩
  conv => whnf
  refine ⟨(by (try simp only [true_and, and_true, Nat.sub_zero, Nat.zero_add, Int.toNat_natCast]) <;> omega), ?_⟩
  conv => whnf
  refine sumu64 (digit W (n + 2)) (digit_cast (by omega)) (by omega) ?_
  conv => whnf
  refine ⟨(by (try simp only [true_and, and_true, Nat.sub_zero, Nat.zero_add, Int.toNat_natCast]) <;> omega), ?_⟩
  conv => whnf
  refine shl32 (digit W (n + 2) * 4294967296) (by omega) ?_
  conv => whnf
  refine sumi64 (n + 1) (by omega) (by omega) ?_
  conv => whnf
  refine ⟨(by (try simp only [true_and, and_true, Nat.sub_zero, Nat.zero_add, Int.toNat_natCast]) <;> omega), ?_⟩
  conv => whnf
  refine sumu64 (digit W (n + 1)) (digit_cast (by omega)) (by omega) ?_
  conv => whnf
  refine or32 (by omega) (by omega) ?_
  conv => whnf
  refine ⟨by kernel_rfl, ?_⟩
  conv => whnf
  refine ⟨(by (try simp only [true_and, and_true, Nat.sub_zero, Nat.zero_add, Int.toNat_natCast]) <;> omega), ?_⟩
  conv => whnf
  refine quou64 (by omega) ?_
  conv => whnf
  refine ⟨(by (try simp only [true_and, and_true, Nat.sub_zero, Nat.zero_add, Int.toNat_natCast]) <;> omega), ?_⟩
  conv => whnf
  refine remN ?_
  conv => whnf
  refine ⟨by kernel_rfl, ?_⟩
  conv => whnf
  generalize hG : guess V W n = G
  unfold guess at hG
  simp only at hG
  refine loop_rule2 [0, 1, 5, 6, 7, 9, 10] [] (fun s : Nat × Nat => ([(0, raw (digit W) (n + 3)), (1, raw (digit V) (n + 2)), (5, .f (.int .i64 ((n + 2 : Nat) : Int))), (6, .f (.int .u64 (digit V (n + 1) : Nat))), (7, .f (.int .u64 (digit V n : Nat))), (9, .f (.int .u64 (s.1 : Nat))), (10, .f (.int .u64 (s.2 : Nat)))], [])) (fun s => fin (digit V (n + 1)) (digit V n) (digit W n) s.1 s.2 = G ∧ s.1 < 4294967298 ∧ s.2 < 4294967296) (fun s => s.1) (_, _) ⟨_, rfl, .refl _⟩ ⟨hG, hnum, by omega⟩ ?_
  rintro ⟨g, rest⟩ ⟨hI, hg, hr⟩
  simp only at hI hg hr ⊢
  conv => whnf
  refine ⟨(by (try simp only [true_and, and_true, Nat.sub_zero, Nat.zero_add, Int.toNat_natCast]) <;> omega), ?_⟩
  conv => whnf
  refine shr32 (by decide) ?_
  conv => whnf
  refine spl (fun h1 => ?_) (fun h1 => ?_) <;> simp only [decide_eq_true_eq, decide_eq_false_iff_not, Bool.not_eq_true', Bool.not_eq_false', gt_iff_lt, ge_iff_le] at h1
  · have hg1 : 0 < g := by omega
    have hf := fin_go (t := digit V (n + 1)) (s2 := digit V n) (u0 := digit W n) (rest := rest) hg1 (.inl (by omega))
    rw [hI] at hf
    conv => whnf
    refine sumu64 (g - 1) (by omega) (by omega) ?_
    conv => whnf
    obtain ⟨r2, hr2⟩ : ∃ r2, rest + digit V (n + 1) = r2 := ⟨_, rfl⟩
    rw [hr2] at hf
    refine sumu64 r2 (by omega) (by omega) ?_
    conv => whnf
    refine ⟨(by (try simp only [true_and, and_true, Nat.sub_zero, Nat.zero_add, Int.toNat_natCast]) <;> omega), ?_⟩
    conv => whnf
    refine shr32 (by decide) ?_
    conv => whnf
    refine spl (fun h4 => ?_) (fun h4 => ?_) <;> simp only [decide_eq_true_eq, decide_eq_false_iff_not, Bool.not_eq_true', Bool.not_eq_false', gt_iff_lt, ge_iff_le] at h4
    · rw [if_pos (by omega)] at hf
      conv => whnf
      refine ⟨(by (try simp only [true_and, and_true, Nat.sub_zero, Nat.zero_add, Int.toNat_natCast]) <;> omega), ?_⟩
      exact .int_of (by rw [hf])
    · rw [if_neg (by omega)] at hf
      conv => whnf
      exact ⟨(g - 1, r2), _, rfl, .refl _, ⟨hf.symm, by simp only; omega, by simp only; omega⟩, by simp only; omega⟩
  · have hg2 : g < 4294967296 := by omega
    have hm : g * digit V n ≤ 4294967295 * 4294967295 := Nat.mul_le_mul (by omega) (by omega)
    obtain ⟨gm, hgm⟩ : ∃ gm, g * digit V n = gm := ⟨_, rfl⟩
    obtain ⟨r4, hr4⟩ : ∃ r4, rest * 4294967296 = r4 := ⟨_, rfl⟩
    obtain ⟨r5, hr5⟩ : ∃ r5, r4 + digit W n = r5 := ⟨_, rfl⟩
    have hstop := fin_stop (t := digit V (n + 1)) (s2 := digit V n) (u0 := digit W n) (g := g) (rest := rest)
    have hgo := fin_go (t := digit V (n + 1)) (s2 := digit V n) (u0 := digit W n) (g := g) (rest := rest)
    rw [hr4, hr5, hgm, hI] at hstop hgo
    rw [hgm] at hm
    conv => whnf
    refine sumu64 gm (by rw [← hgm]; simp) (by omega) ?_
    conv => whnf
    refine ⟨(by (try simp only [true_and, and_true, Nat.sub_zero, Nat.zero_add, Int.toNat_natCast]) <;> omega), ?_⟩
    conv => whnf
    refine shl32 r4 (by omega) ?_
    conv => whnf
    refine sumi64 n (by omega) (by omega) ?_
    conv => whnf
    refine ⟨(by (try simp only [true_and, and_true, Nat.sub_zero, Nat.zero_add, Int.toNat_natCast]) <;> omega), ?_⟩
    conv => whnf
    refine sumu64 (digit W n) (digit_cast (by omega)) (by omega) ?_
    conv => whnf
    refine or32v hr4 (by omega) (by omega) hr5 ?_
    conv => whnf
    refine spl (fun h2 => ?_) (fun h2 => ?_) <;> simp only [decide_eq_true_eq, decide_eq_false_iff_not, Bool.not_eq_true', Bool.not_eq_false', gt_iff_lt, ge_iff_le] at h2
    · have h3 := Int.ofNat_lt.1 h2
      have hg1 : 0 < g := by
        rcases Nat.eq_zero_or_pos g with h | h
        · subst h; rw [Nat.zero_mul] at hgm; omega
        · exact h
      have hf := hgo hg1 (.inr h3)
      clear hgo hstop
      conv => whnf
      refine sumu64 (g - 1) (by omega) (by omega) ?_
      conv => whnf
      obtain ⟨r2, hr2⟩ : ∃ r2, rest + digit V (n + 1) = r2 := ⟨_, rfl⟩
      rw [hr2] at hf
      refine sumu64 r2 (by omega) (by omega) ?_
      conv => whnf
      refine ⟨(by (try simp only [true_and, and_true, Nat.sub_zero, Nat.zero_add, Int.toNat_natCast]) <;> omega), ?_⟩
      conv => whnf
      refine shr32 (by decide) ?_
      conv => whnf
      refine spl (fun h4 => ?_) (fun h4 => ?_) <;> simp only [decide_eq_true_eq, decide_eq_false_iff_not, Bool.not_eq_true', Bool.not_eq_false', gt_iff_lt, ge_iff_le] at h4
      · rw [if_pos (by omega)] at hf
        conv => whnf
        refine ⟨(by (try simp only [true_and, and_true, Nat.sub_zero, Nat.zero_add, Int.toNat_natCast]) <;> omega), ?_⟩
        exact .int_of (by rw [hf])
      · rw [if_neg (by omega)] at hf
        conv => whnf
        exact ⟨(g - 1, r2), _, rfl, .refl _, ⟨hf.symm, by simp only; omega, by simp only; omega⟩, by simp only; omega⟩
    · have h3 := hstop (by omega) (fun h => h2 (Int.ofNat_lt.2 h))
      conv => whnf
      refine ⟨(by (try simp only [true_and, and_true, Nat.sub_zero, Nat.zero_add, Int.toNat_natCast]) <;> omega), ?_⟩
      exact .int_of (by rw [h3])
end Go.Abs

/- Natural numbers: subtract, restore. -/
set_option autoImplicit false
set_option maxHeartbeats 4000000
set_option linter.unusedVariables false
set_option linter.unusedSimpArgs false
namespace Go.Abs
open Go Go.Proofs
theorem FVle.bool_of {a b : Bool} (h : a = b) : FVle (.bool a) (.bool b) := h ▸ .refl _

theorem subtract_ok (f : Nat → Nat) (L i V W g n : Nat) (hi : i + n + 1 ≤ L) (hL : L ≤ 4398046511104) (hf : ∀ k, k ≤ n → f (i + k) = digit W k) (hg : g ≤ 4294967296) (hV : V < pw n) (hW : W < pw (n + 1)) :
    RCall Tryz.prog 161 [.lsl 1000000 1 1 i (n + 1) none, raw (digit V) n, .f (.int .u64 g)] [(1000000, 1, .fa 1 L (fun j => [.int .u32 (f j : Nat)]))]
      (.f (.bool (decide (W < g * V)))) [(1000000, 1, .fa 1 L (fun j => [.int .u32 (wput f i (n + 1) (subW V W g n) j : Nat)]))] := by
  refine rcall_rule env [.f (.bool (decide (W < g * V)))] [0, 1, 2, 6, 7, 8, 9, 10, 11, 12, 13, 14, 15, 16, 17, 18] Tryz.func161 rfl rfl rfl rfl ?_
  conv => whnf
  refine loop_rule2 [0, 1, 2, 7, 8, 15, 16, 17] [1000000] (fun s : Nat × Nat × Nat × Nat => ([(0, .lsl 1000000 1 1 i (n + 1) none), (1, raw (digit V) n), (2, .f (.int .u64 g)), (7, .f (.int .u64 (s.2.1 : Nat))), (8, .f (.int .u64 (s.2.2.1 : Nat))), (15, raw (digit V) n), (16, .f (.int .i64 (n : Nat))), (17, .f (.int .i64 (s.1 : Nat)))], [(1000000, 1, .fa 1 L (fun j => [.int .u32 (wput f i s.1 s.2.2.2 j : Nat)]))]))
    (fun s => s.1 ≤ n ∧ s.2.1 < 4294967296 ∧ s.2.2.1 < 2 ∧ s.2.2.2 < pw s.1 ∧ s.2.2.2 + g * (V % pw s.1) = W % pw s.1 + (s.2.1 + s.2.2.1) * pw s.1) (fun s => n - s.1) (0, 0, 0, 0) ⟨_, rfl, ⟨rfl, rfl⟩, .fa fun j hj => ?_, trivial⟩ ⟨Nat.zero_le _, by simp, by simp, by simp [pw_zero], by simp [pw_zero, Nat.mod_one]⟩ ?_
  · rw [wput_zero]; exact .one (.refl _)
  rintro ⟨k, cc, b, z⟩ ⟨h1, h2, h3, h4, h5⟩
  simp only at h1 h2 h3 h4 h5 ⊢
  conv => whnf
  refine spl (fun h6 => ?_) (fun h6 => ?_) <;> simp only [decide_eq_true_eq, decide_eq_false_iff_not, Bool.not_eq_true', Bool.not_eq_false', gt_iff_lt, ge_iff_le] at h6
  · have hv := digit_lt V k
    have hx := digit_lt W k
    have hm : g * digit V k ≤ 4294967296 * 4294967295 := Nat.mul_le_mul hg (by omega)
    have hfk : wput f i k z (i + k) = digit W k := by rw [wput_get (Nat.le_refl _), hf k h1]
    obtain ⟨p, hp⟩ : ∃ p, g * digit V k + cc = p := ⟨_, rfl⟩
    obtain ⟨pl, hpl⟩ : ∃ pl, p % 4294967296 = pl := ⟨_, rfl⟩
    obtain ⟨d, hd⟩ : ∃ d, (digit W k + 18446744073709551616 - pl - b) % 18446744073709551616 = d := ⟨_, rfl⟩
    obtain ⟨pr, hpr⟩ : ∃ pr, g * digit V k = pr := ⟨_, rfl⟩
    have hst := subw_step2 (W := W) (V := V) (g := g) (k := k) (c := cc) (b := b) h4 h5 hp hpl hd h3 h2
    rw [hpr] at hm hp
    conv => whnf
    refine ⟨(by (try simp only [true_and, and_true, Nat.sub_zero, Nat.zero_add, Int.toNat_natCast]) <;> omega), ?_⟩
    conv => whnf
    refine sumu64 (digit V k) (by simp) (by omega) ?_
    conv => whnf
    refine sumu64 pr (by rw [← hpr]; simp) (by omega) ?_
    conv => whnf
    refine sumu64 p (by omega) (by omega) ?_
    conv => whnf
    refine ⟨(by (try simp only [true_and, and_true, Nat.sub_zero, Nat.zero_add, Int.toNat_natCast]) <;> omega), ?_⟩
    conv => whnf
    refine shr32 (by decide) ?_
    conv => whnf
    refine ⟨(by (try simp only [true_and, and_true, Nat.sub_zero, Nat.zero_add, Int.toNat_natCast]) <;> omega), ?_⟩
    conv => whnf
    refine ⟨(by (try simp only [true_and, and_true, Nat.sub_zero, Nat.zero_add, Int.toNat_natCast]) <;> omega), ?_⟩
    conv => whnf
    rw [show (i + Int.toNat (k : Nat)) = i + k by omega, hfk]
    refine sumu64 (digit W k) rfl (by omega) ?_
    conv => whnf
    refine lowu32 ?_
    conv => whnf
    rw [hpl]
    refine sumu64 pl rfl (by omega) ?_
    conv => whnf
    obtain ⟨d1, hd1⟩ : ∃ d1, (digit W k + 18446744073709551616 - pl) % 18446744073709551616 = d1 := ⟨_, rfl⟩
    refine modu64 d1 (by omega) ?_
    conv => whnf
    refine modu64 d (by omega) ?_
    conv => whnf
    refine lowu32 ?_
    conv => whnf
    refine ⟨(by (try simp only [true_and, and_true, Nat.sub_zero, Nat.zero_add, Int.toNat_natCast]) <;> omega), ?_⟩
    conv => whnf
    refine ⟨(by (try simp only [true_and, and_true, Nat.sub_zero, Nat.zero_add, Int.toNat_natCast]) <;> omega), ?_⟩
    conv => whnf
    refine ⟨(by (try simp only [true_and, and_true, Nat.sub_zero, Nat.zero_add, Int.toNat_natCast]) <;> omega), ?_⟩
    conv => whnf
    refine shr63 ?_
    conv => whnf
    refine sumi64 (k + 1) (by omega) (by omega) ?_
    conv => whnf
    refine ⟨(k + 1, p / 4294967296, d / 9223372036854775808, z + d % 4294967296 * pw k), _, rfl, ⟨⟨rfl, rfl⟩, .fa fun j hj => ?_, trivial⟩, ⟨by simp only; omega, by simp only; omega, hst.2.2, hst.1, hst.2.1⟩, by simp only; omega⟩
    rw [upd_set (fun j => wput f i k z j) _ _ _ rfl]
    refine .one (.int_of ?_)
    simp only [wput_step h4 (Nat.mod_lt d (show 0 < 4294967296 by decide)), Int.toNat_natCast]
  · have hk : k = n := by omega
    subst hk
    have hx := digit_lt W k
    have hfk : wput f i k z (i + k) = digit W k := by rw [wput_get (Nat.le_refl _), hf k h1]
    obtain ⟨d, hd⟩ : ∃ d, (digit W k + 18446744073709551616 - cc - b) % 18446744073709551616 = d := ⟨_, rfl⟩
    obtain ⟨d1, hd1⟩ : ∃ d1, (digit W k + 18446744073709551616 - cc) % 18446744073709551616 = d1 := ⟨_, rfl⟩
    have hend := subw_end hV hW h4 h5 h3 h2 hd.symm
    conv => whnf
    refine ⟨(by (try simp only [true_and, and_true, Nat.sub_zero, Nat.zero_add, Int.toNat_natCast]) <;> omega), ?_⟩
    conv => whnf
    refine ⟨(by (try simp only [true_and, and_true, Nat.sub_zero, Nat.zero_add, Int.toNat_natCast]) <;> omega), ?_⟩
    conv => whnf
    rw [show (i + Int.toNat (k : Nat)) = i + k by omega, hfk]
    refine sumu64 (digit W k) rfl (by omega) ?_
    conv => whnf
    refine modu64 d1 (by omega) ?_
    conv => whnf
    refine modu64 d (by omega) ?_
    conv => whnf
    refine lowu32 ?_
    conv => whnf
    refine ⟨(by (try simp only [true_and, and_true, Nat.sub_zero, Nat.zero_add, Int.toNat_natCast]) <;> omega), ?_⟩
    conv => whnf
    refine ⟨(by (try simp only [true_and, and_true, Nat.sub_zero, Nat.zero_add, Int.toNat_natCast]) <;> omega), ?_⟩
    conv => whnf
    refine ⟨(by (try simp only [true_and, and_true, Nat.sub_zero, Nat.zero_add, Int.toNat_natCast]) <;> omega), ?_⟩
    conv => whnf
    refine shr63 ?_
    conv => whnf
    refine ⟨[1000000], ?_⟩
    conv => whnf
    refine ⟨⟨?_, trivial⟩, ⟨⟨(by (try simp only [true_and, and_true, Nat.sub_zero, Nat.zero_add, Int.toNat_natCast]) <;> omega), fun j hj => ?_⟩, trivial⟩, rfl⟩
    · refine .bool_of ?_
      by_cases hq : 9223372036854775808 ≤ d
      · rw [decide_eq_true (hend.1.1 hq), decide_eq_false (show ¬ ((d / 9223372036854775808 : Nat) : Int) = 0 by omega)]; rfl
      · rw [decide_eq_false (fun h => hq (hend.1.2 h)), decide_eq_true (show ((d / 9223372036854775808 : Nat) : Int) = 0 by omega)]; rfl
    · simp only [Nat.zero_add]
      rw [upd_set (fun j => wput f i k z j) _ _ _ rfl]
      refine .one (.int_of ?_)
      simp only [← hend.2, wput_step h4 (Nat.mod_lt d (show 0 < 4294967296 by decide)), Int.toNat_natCast]

theorem restore_ok (f : Nat → Nat) (L i V Z n : Nat) (hi : i + n + 1 ≤ L) (hL : L ≤ 4398046511104) (hf : ∀ k, k ≤ n → f (i + k) = digit Z k) (hV : V < pw n) (hZ : Z < pw (n + 1)) :
    RCall Tryz.prog 162 [.lsl 1000000 1 1 i (n + 1) none, raw (digit V) n] [(1000000, 1, .fa 1 L (fun j => [.int .u32 (f j : Nat)]))]
      (.tup []) [(1000000, 1, .fa 1 L (fun j => [.int .u32 (wput f i (n + 1) ((Z + V) % pw (n + 1)) j : Nat)]))] := by
  refine rcall_rule env [] [0, 1, 4, 5, 6, 7, 8, 9, 10, 11] Tryz.func162 rfl rfl rfl rfl ?_
  conv => whnf
  refine loop_rule2 [0, 1, 4, 8, 9, 10] [1000000] (fun s : Nat × Nat × Nat => ([(0, .lsl 1000000 1 1 i (n + 1) none), (1, raw (digit V) n), (4, .f (.int .u64 (s.2.1 : Nat))), (8, raw (digit V) n), (9, .f (.int .i64 (n : Nat))), (10, .f (.int .i64 (s.1 : Nat)))], [(1000000, 1, .fa 1 L (fun j => [.int .u32 (wput f i s.1 s.2.2 j : Nat)]))]))
    (fun s => s.1 ≤ n ∧ s.2.1 < 2 ∧ s.2.2 < pw s.1 ∧ s.2.2 + s.2.1 * pw s.1 = Z % pw s.1 + V % pw s.1) (fun s => n - s.1) (0, 0, 0) ⟨_, rfl, ⟨rfl, rfl⟩, .fa fun j hj => ?_, trivial⟩ ⟨Nat.zero_le _, by simp, by simp [pw_zero], by simp [pw_zero, Nat.mod_one]⟩ ?_
  · rw [wput_zero]; exact .one (.refl _)
  rintro ⟨k, cc, z⟩ ⟨h1, h2, h4, h5⟩
  simp only at h1 h2 h4 h5 ⊢
  conv => whnf
  refine spl (fun h6 => ?_) (fun h6 => ?_) <;> simp only [decide_eq_true_eq, decide_eq_false_iff_not, Bool.not_eq_true', Bool.not_eq_false', gt_iff_lt, ge_iff_le] at h6
  · have hv := digit_lt V k
    have hx := digit_lt Z k
    have hfk : wput f i k z (i + k) = digit Z k := by rw [wput_get (Nat.le_refl _), hf k h1]
    obtain ⟨s, hs⟩ : ∃ s, digit Z k + digit V k + cc = s := ⟨_, rfl⟩
    have hst := addr_step2 (Z := Z) (V := V) h4 h5 hs
    conv => whnf
    refine ⟨(by (try simp only [true_and, and_true, Nat.sub_zero, Nat.zero_add, Int.toNat_natCast]) <;> omega), ?_⟩
    conv => whnf
    refine ⟨(by (try simp only [true_and, and_true, Nat.sub_zero, Nat.zero_add, Int.toNat_natCast]) <;> omega), ?_⟩
    conv => whnf
    refine ⟨(by (try simp only [true_and, and_true, Nat.sub_zero, Nat.zero_add, Int.toNat_natCast]) <;> omega), ?_⟩
    conv => whnf
    rw [show (i + Int.toNat (k : Nat)) = i + k by omega, hfk]
    refine sumu64 (digit Z k) rfl (by omega) ?_
    conv => whnf
    refine sumu64 (digit V k) (by simp) (by omega) ?_
    conv => whnf
    refine sumu64 (digit Z k + digit V k) (by omega) (by omega) ?_
    conv => whnf
    refine sumu64 s (by omega) (by omega) ?_
    conv => whnf
    refine lowu32 ?_
    conv => whnf
    refine ⟨(by (try simp only [true_and, and_true, Nat.sub_zero, Nat.zero_add, Int.toNat_natCast]) <;> omega), ?_⟩
    conv => whnf
    refine ⟨(by (try simp only [true_and, and_true, Nat.sub_zero, Nat.zero_add, Int.toNat_natCast]) <;> omega), ?_⟩
    conv => whnf
    refine ⟨(by (try simp only [true_and, and_true, Nat.sub_zero, Nat.zero_add, Int.toNat_natCast]) <;> omega), ?_⟩
    conv => whnf
    refine shr32 (by decide) ?_
    conv => whnf
    refine sumi64 (k + 1) (by omega) (by omega) ?_
    conv => whnf
    refine ⟨(k + 1, s / 4294967296, z + s % 4294967296 * pw k), _, rfl, ⟨⟨rfl, rfl⟩, .fa fun j hj => ?_, trivial⟩, ⟨by simp only; omega, by simp only; omega, hst.1, hst.2⟩, by simp only; omega⟩
    rw [upd_set (fun j => wput f i k z j) _ _ _ rfl]
    refine .one (.int_of ?_)
    simp only [wput_step h4 (Nat.mod_lt s (show 0 < 4294967296 by decide)), Int.toNat_natCast]
  · have hk : k = n := by omega
    subst hk
    have hx := digit_lt Z k
    have hfk : wput f i k z (i + k) = digit Z k := by rw [wput_get (Nat.le_refl _), hf k h1]
    have hend := addr_end hV hZ h4 h5 h2
    conv => whnf
    refine ⟨(by (try simp only [true_and, and_true, Nat.sub_zero, Nat.zero_add, Int.toNat_natCast]) <;> omega), ?_⟩
    conv => whnf
    refine ⟨(by (try simp only [true_and, and_true, Nat.sub_zero, Nat.zero_add, Int.toNat_natCast]) <;> omega), ?_⟩
    conv => whnf
    rw [show (i + Int.toNat (k : Nat)) = i + k by omega, hfk]
    refine lowu32 ?_
    conv => whnf
    rw [Nat.mod_eq_of_lt (show cc < 4294967296 by omega)]
    refine modu32 ((digit Z k + cc) % 4294967296) (by omega) ?_
    conv => whnf
    refine ⟨(by (try simp only [true_and, and_true, Nat.sub_zero, Nat.zero_add, Int.toNat_natCast]) <;> omega), ?_⟩
    conv => whnf
    refine ⟨(by (try simp only [true_and, and_true, Nat.sub_zero, Nat.zero_add, Int.toNat_natCast]) <;> omega), ?_⟩
    conv => whnf
    refine ⟨[1000000], ?_⟩
    conv => whnf
    refine ⟨trivial, ⟨⟨(by (try simp only [true_and, and_true, Nat.sub_zero, Nat.zero_add, Int.toNat_natCast]) <;> omega), fun j hj => ?_⟩, trivial⟩, rfl⟩
    simp only [Nat.zero_add]
    rw [upd_set (fun j => wput f i k z j) _ _ _ rfl]
    refine .one (.int_of ?_)
    simp only [← hend, wput_step h4 (Nat.mod_lt _ (show 0 < 4294967296 by decide)), Int.toNat_natCast]

theorem LeadingZeros32_ok (x : Nat) (hx : x < 4294967296) : ACall Tryz.prog 158 [.f (.int .u32 x)] (.f (.int .i64 ((32 - bitlen x : Nat) : Int))) := by
  have hle := bitlen_le (N := x) (k := 32) hx
  refine acall_rule env [0, 2] Tryz.func158 rfl rfl rfl rfl ?_
  conv => whnf
  refine callF (Len32_ok x hx) ⟨.refl _, trivial⟩ (by trivial) rfl ?_
  conv => whnf
  refine sumi64 (32 - bitlen x) (by omega) (by omega) ?_
  conv => whnf
  refine ⟨(by (try simp only [true_and, and_true, Nat.sub_zero, Nat.zero_add, Int.toNat_natCast]) <;> omega), ?_⟩
  exact .refl _
end Go.Abs

/- Natural numbers: the long division. -/
set_option autoImplicit false
set_option maxHeartbeats 4000000
set_option linter.unusedVariables false
set_option linter.unusedSimpArgs false
namespace Go.Abs
open Go Go.Proofs


theorem long_ok (A B : Nat) (h2 : 2 ≤ size B) (hle : B ≤ A) (hA : size A ≤ 4398046511000) : ACall Tryz.prog 152 [nat A, nat B] (.tup [nat (A / B), nat (A % B)]) := by
  have hm := size_mono hle
  obtain ⟨n, hn⟩ : ∃ n, size B = n + 2 := ⟨size B - 2, by omega⟩
  obtain ⟨m, hmA⟩ : ∃ m, size A = m := ⟨_, rfl⟩
  have hd := digit_lt B (n + 1)
  have hd0 := digit_top hn
  have hlz := LeadingZeros32_ok (digit B (n + 1)) hd
  have hb : bitlen (digit B (n + 1)) = (digit B (n + 1)).log2 + 1 := by unfold bitlen; rw [if_neg hd0]
  have hb32 := bitlen_le (N := digit B (n + 1)) (k := 32) hd
  obtain ⟨s, hs⟩ : ∃ s, 32 - bitlen (digit B (n + 1)) = s := ⟨_, rfl⟩
  rw [hs] at hlz
  obtain ⟨f1, f2, f3, f4⟩ := long_facts (s := s) hn hmA (by omega) _ (digit B (n + 1)).log2 rfl (Nat.log2_self_le hd0) (Nat.lt_log2_self) (by omega) (by omega)
  have lB := left_ok B s (by omega) (by omega)
  have lA := left_ok A s (by omega) (by omega)
  rw [hmA] at lA
  rw [hn] at lB
  obtain ⟨V, hV⟩ : ∃ V, B * 2 ^ s = V := ⟨_, rfl⟩
  obtain ⟨N, hN⟩ : ∃ N, A * 2 ^ s = N := ⟨_, rfl⟩
  rw [hV] at f1 f2 f3 lB
  rw [hN] at f3 f4 lA
  have eAB : N / V = A / B := by rw [← hN, ← hV, Nat.mul_div_mul_right _ _ (Nat.two_pow_pos s)]
  have eR : N % V / 2 ^ s = A % B := by rw [← hN, ← hV, Nat.mul_mod_mul_right, Nat.mul_div_cancel _ (Nat.two_pow_pos s)]
  have eB : nat B = raw (digit B) (n + 2) := by rw [nat_eq, hn]
  have eA : nat A = raw (digit A) m := by rw [nat_eq, hmA]
  rw [eB] at lB ⊢
  rw [eA] at lA ⊢
  have hnm : n + 2 ≤ m := by omega
  have hN1 : size N ≤ m + 1 := size_le f4
  have hV0 : 0 < V := Nat.lt_of_le_of_lt (Nat.zero_le _) f3
  refine acall_rule env [0, 1, 4, 5, 6, 7, 8, 9, 10, 11, 12, 13, 38, 39, 40, 64] Tryz.func152 rfl rfl rfl rfl ?_
  conv => whnf
  refine sumi64 (n + 1) (by omega) (by omega) ?_
  conv => whnf
  refine ⟨(by (try simp only [true_and, and_true, Nat.sub_zero, Nat.zero_add, Int.toNat_natCast]) <;> omega), ?_⟩
  conv => whnf
  refine callF hlz ⟨.int_of (digit_cast (by omega)), trivial⟩ (by trivial) rfl ?_
  conv => whnf
  refine sumu64 s rfl (by omega) ?_
  conv => whnf
  refine callR [] lB ?_
  conv => whnf
  refine ⟨⟨.refl _, .refl _, trivial⟩, trivial, ?_⟩
  conv => whnf
  refine ⟨(by (try simp only [true_and, and_true, Nat.sub_zero, Nat.zero_add, Int.toNat_natCast]) <;> omega), ?_⟩
  conv => whnf
  refine callR [] lA ?_
  conv => whnf
  refine ⟨⟨.refl _, .refl _, trivial⟩, trivial, ?_⟩
  conv => whnf
  refine sumi64 (m - (n + 2)) (by omega) (by omega) ?_
  conv => whnf
  refine sumi64 (m - (n + 2) + 1) (by omega) (by omega) ?_
  conv => whnf
  refine ⟨(by (try simp only [true_and, and_true, Nat.sub_zero, Nat.zero_add, Int.toNat_natCast]) <;> omega), ?_⟩
  conv => whnf
  obtain ⟨D, hD⟩ : ∃ D, m - (n + 2) + 1 = D := ⟨_, rfl⟩
  rw [hD] at f3 ⊢
  refine .weak (freeze_weak 25 1 _ rfl) ?_
  refine loop_rule2 [4, 6, 7, 8, 9, 10, 38, 39] [25, 30, 37] (fun i : Nat => ([(4, .lsl 37 1 1 0 D (some D)), (6, .f (.int .i64 ((n + 2 : Nat) : Int))), (7, .f (.int .u64 s)), (8, .lsl 25 1 1 0 (n + 2) (some (n + 2 + 1))), (9, .lsl 30 1 1 0 (m + 1) (some (m + 1))), (10, .f (.int .i64 D)), (38, .f (.int .i64 D)), (39, .f (.int .i64 i))],
    [(25, 1, .fz 1 (n + 2 + 1) (fun j => [.int .u32 (digit V j : Nat)])), (30, 1, .fa 1 (m + 1) (fun j => [.int .u32 (ubuf N V (D - i) j : Nat)])), (37, 1, .fa 1 D (fun j => [.int .u32 ((if D - i ≤ j then digit (N / V) j else 0 : Nat) : Int)]))]))
    (fun i => i ≤ D) (fun i => D - i) 0 ⟨_, rfl, ⟨rfl, rfl⟩, .refl _, ⟨rfl, rfl⟩, .fa fun j hj => ?_, ⟨rfl, rfl⟩, .fa fun j hj => ?_, trivial⟩ (Nat.zero_le _) ?_
  · rw [Nat.sub_zero, ubuf_start f3]; exact .one (.refl _)
  · rw [if_neg (by omega)]; exact .one (.refl _)
  intro i hi
  conv => whnf
  refine spl (fun h1 => ?_) (fun h1 => ?_) <;> simp only [decide_eq_true_eq, decide_eq_false_iff_not, Bool.not_eq_true', Bool.not_eq_false', gt_iff_lt, ge_iff_le] at h1
  · obtain ⟨j, hj⟩ : ∃ j, D - i = j + 1 := ⟨D - i - 1, by omega⟩
    rw [hj]
    conv => whnf
    refine sumi64 (D - 1) (by omega) (by omega) ?_
    conv => whnf
    refine sumi64 j (by omega) (by omega) ?_
    conv => whnf
    refine sumi64 (j + (n + 2)) (by omega) (by omega) ?_
    conv => whnf
    refine sumi64 (j + (n + 2) + 1) (by omega) (by omega) ?_
    conv => whnf
    refine ⟨(by (try simp only [true_and, and_true, Nat.sub_zero, Nat.zero_add, Int.toNat_natCast]) <;> omega), ?_⟩
    conv => whnf
    obtain ⟨W, hW⟩ : ∃ W, (N / pw (j + 1) % V) * 4294967296 + digit N j = W := ⟨_, rfl⟩
    have hRV : N / pw (j + 1) % V < V := Nat.mod_lt _ hV0
    have hdN := digit_lt N j
    have hWV : W < V * 4294967296 := by
      have := Nat.mul_le_mul_right 4294967296 (show N / pw (j + 1) % V + 1 ≤ V by omega)
      rw [Nat.add_mul] at this; rw [← hW]; omega
    have hWp : W < pw (n + 2 + 1) := by rw [pw_succ]; exact Nat.lt_of_lt_of_le hWV (Nat.mul_le_mul_right _ (Nat.le_of_lt f1))
    have hwin : ∀ k, k ≤ n + 2 → ubuf N V (j + 1) (j + k) = digit W k := fun k hk => by rw [← hW]; exact ubuf_win f1 hk
    obtain ⟨g1, g2, g3, g4⟩ := guess_spec f1 f2 hWV
    have hest := estimate_ok V W n (by omega) f2 (win_top f1 hWV)
    have hsub := subtract_ok (ubuf N V (j + 1)) (m + 1) j V W (guess V W n) (n + 2) (by omega) (by omega) hwin g3 f1 hWp
    obtain ⟨d1, d2⟩ := digit_right hV0 f1 hWV g1 g2
    obtain ⟨g, hg⟩ : ∃ g, guess V W n = g := ⟨_, rfl⟩
    have hqd : W / V = digit (N / V) j := by rw [← hW]; exact (short_step N j hV0).1
    have hput : ∀ k, k < m + 1 → wput (ubuf N V (j + 1)) j (n + 2 + 1) (W % V) k = ubuf N V j k := fun k hk => by rw [← hW]; exact ubuf_put hV0 f1 hk (by omega)
    rw [hg] at hest hsub d1 d2 g2 g3
    refine callB hest ⟨.raw_ofn (by omega) (fun k hk => by show [FV.int IntKind.u32 _] = _; rw [show 0 + Int.toNat (j : Nat) + k = j + k by omega, hwin k (by omega)]), .raw_of (fun k hk => by rw [Nat.zero_add]), trivial⟩ (by (try simp only [true_and, and_true, Nat.sub_zero, Nat.zero_add, Int.toNat_natCast]) <;> omega) rfl ?_
    conv => whnf
    refine sumi64 (j + (n + 2)) (by omega) (by omega) ?_
    conv => whnf
    refine sumi64 (j + (n + 2) + 1) (by omega) (by omega) ?_
    conv => whnf
    refine ⟨(by (try simp only [true_and, and_true, Nat.sub_zero, Nat.zero_add, Int.toNat_natCast]) <;> omega), ?_⟩
    conv => whnf
    refine callR [30] hsub ?_
    conv => whnf
    refine ⟨⟨⟨by omega, by omega, .inl rfl⟩, ⟨(by (try simp only [true_and, and_true, Nat.sub_zero, Nat.zero_add, Int.toNat_natCast]) <;> omega), .limbs fun k hk => by rw [Nat.zero_add]⟩, .refl _, trivial⟩, ⟨⟨by omega, fun k hk => by simp only [Nat.zero_add]; exact .one (.refl _)⟩, trivial⟩, ?_⟩
    conv => whnf
    refine spl (fun h3 => ?_) (fun h3 => ?_) <;> simp only [decide_eq_true_eq, decide_eq_false_iff_not, Bool.not_eq_true', Bool.not_eq_false', gt_iff_lt, ge_iff_le] at h3
    · obtain ⟨d3, d4⟩ := d1 h3
      conv => whnf
      have hres := restore_ok (wput (ubuf N V (j + 1)) j (n + 2 + 1) (subW V W g (n + 2))) (m + 1) j V (subW V W g (n + 2)) (n + 2) (by omega) (by omega) (fun k hk => wput_in (by omega)) f1 (subW_lt hWp)
      rw [d4, wput_wput] at hres
      refine sumu64 (W / V) (by omega) (by omega) ?_
      conv => whnf
      refine sumi64 (j + (n + 2)) (by omega) (by omega) ?_
      conv => whnf
      refine sumi64 (j + (n + 2) + 1) (by omega) (by omega) ?_
      conv => whnf
      refine ⟨(by (try simp only [true_and, and_true, Nat.sub_zero, Nat.zero_add, Int.toNat_natCast]) <;> omega), ?_⟩
      conv => whnf
      refine callR [30] hres ?_
      conv => whnf
      refine ⟨⟨⟨by omega, by omega, .inl rfl⟩, ⟨(by (try simp only [true_and, and_true, Nat.sub_zero, Nat.zero_add, Int.toNat_natCast]) <;> omega), .limbs fun k hk => by rw [Nat.zero_add]⟩, trivial⟩, ⟨⟨by omega, fun k hk => by simp only [Nat.zero_add]; exact .one (.refl _)⟩, trivial⟩, ?_⟩
      conv => whnf
      refine lowu32 ?_
      conv => whnf
      refine ⟨(by (try simp only [true_and, and_true, Nat.sub_zero, Nat.zero_add, Int.toNat_natCast]) <;> omega), ?_⟩
      conv => whnf
      refine ⟨(by (try simp only [true_and, and_true, Nat.sub_zero, Nat.zero_add, Int.toNat_natCast]) <;> omega), ?_⟩
      conv => whnf
      refine sumi64 (i + 1) (by omega) (by omega) ?_
      conv => whnf
      refine ⟨i + 1, _, rfl, ⟨⟨rfl, rfl⟩, .refl _, ⟨rfl, rfl⟩, .fa fun k hk => ?_, ⟨rfl, rfl⟩, .fa fun k hk => ?_, trivial⟩, by omega, by omega⟩
      · rw [show D - (i + 1) = j by omega, hput k hk]; exact .one (.refl _)
      · rw [Nat.mod_eq_of_lt g4, hqd, upd_set (fun k => if j + 1 ≤ k then digit (N / V) k else 0) _ _ _ rfl]
        refine .one (.int_of ?_)
        simp only [Nat.zero_add, Int.toNat_natCast]
        rw [show D - (i + 1) = j by omega]
        by_cases e : k = j
        · subst e; rw [if_pos rfl, if_pos (Nat.le_refl _)]
        · rw [if_neg e]
          by_cases e2 : j + 1 ≤ k
          · rw [if_pos e2, if_pos (by omega)]
          · rw [if_neg e2, if_neg (by omega)]
    · obtain ⟨d3, d4⟩ := d2 h3
      rw [d4, d3]
      conv => whnf
      refine lowu32 ?_
      conv => whnf
      refine ⟨(by (try simp only [true_and, and_true, Nat.sub_zero, Nat.zero_add, Int.toNat_natCast]) <;> omega), ?_⟩
      conv => whnf
      refine ⟨(by (try simp only [true_and, and_true, Nat.sub_zero, Nat.zero_add, Int.toNat_natCast]) <;> omega), ?_⟩
      conv => whnf
      refine sumi64 (i + 1) (by omega) (by omega) ?_
      conv => whnf
      refine ⟨i + 1, _, rfl, ⟨⟨rfl, rfl⟩, .refl _, ⟨rfl, rfl⟩, .fa fun k hk => ?_, ⟨rfl, rfl⟩, .fa fun k hk => ?_, trivial⟩, by omega, by omega⟩
      · rw [show D - (i + 1) = j by omega, hput k hk]; exact .one (.refl _)
      · rw [Nat.mod_eq_of_lt g4, hqd, upd_set (fun k => if j + 1 ≤ k then digit (N / V) k else 0) _ _ _ rfl]
        refine .one (.int_of ?_)
        simp only [Nat.zero_add, Int.toNat_natCast]
        rw [show D - (i + 1) = j by omega]
        by_cases e : k = j
        · subst e; rw [if_pos rfl, if_pos (Nat.le_refl _)]
        · rw [if_neg e]
          by_cases e2 : j + 1 ≤ k
          · rw [if_pos e2, if_pos (by omega)]
          · rw [if_neg e2, if_neg (by omega)]
  · have hD0 : D - i = 0 := by omega
    rw [hD0]
    have v1 := view_ok (fun j => if 0 ≤ j then digit (N / V) j else 0) D (fun j hj => by show (if 0 ≤ j then _ else _) < _; rw [if_pos (Nat.zero_le _)]; exact digit_lt _ _) (by omega)
    have e1 : nval (fun j => if 0 ≤ j then digit (N / V) j else 0) D = N / V := by
      rw [nval_congr (h := digit (N / V)) (fun j _ => if_pos (Nat.zero_le _)), nval_digit, Nat.mod_eq_of_lt]
      rw [Nat.div_lt_iff_lt_mul hV0, Nat.mul_comm]
      exact (Nat.div_lt_iff_lt_mul (pw_pos _)).1 f3
    rw [e1] at v1
    rw [← eAB]
    have hNV : N % V < pw (n + 2) := Nat.lt_trans (Nat.mod_lt _ hV0) f1
    have v2 := view_ok (ubuf N V 0) (n + 2) (fun k hk => by rw [ubuf_end]; exact digit_lt _ _) (by omega)
    have e2 : nval (ubuf N V 0) (n + 2) = N % V := by
      rw [nval_congr (h := digit (N % V)) (fun j _ => ubuf_end), nval_digit, Nat.mod_eq_of_lt hNV]
    rw [e2] at v2
    have hr := right_ok (N % V) s (by omega) (by have := size_le hNV; omega)
    rw [eR] at hr
    conv => whnf
    refine callF v1 ⟨.raw_of (fun k hk => by rw [Nat.zero_add]), trivial⟩ (by (try simp only [true_and, and_true, Nat.sub_zero, Nat.zero_add, Int.toNat_natCast]) <;> omega) rfl ?_
    conv => whnf
    refine ⟨(by (try simp only [true_and, and_true, Nat.sub_zero, Nat.zero_add, Int.toNat_natCast]) <;> omega), ?_⟩
    conv => whnf
    refine callF v2 ⟨.raw_ofn (by omega) (fun k hk => by simp only [Nat.zero_add]), trivial⟩ (by (try simp only [true_and, and_true, Nat.sub_zero, Nat.zero_add, Int.toNat_natCast]) <;> omega) rfl ?_
    conv => whnf
    refine callF hr ⟨.refl _, .refl _, trivial⟩ (by (try simp only [true_and, and_true, Nat.sub_zero, Nat.zero_add, Int.toNat_natCast]) <;> omega) rfl ?_
    conv => whnf
    refine ⟨by kernel_rfl, ?_⟩
    conv => whnf
    refine ⟨(by (try simp only [true_and, and_true, Nat.sub_zero, Nat.zero_add, Int.toNat_natCast]) <;> omega), ?_⟩
    exact .refl _
end Go.Abs

/- Natural numbers: DivMod, GCD. -/
set_option autoImplicit false
set_option maxHeartbeats 4000000
set_option linter.unusedVariables false
set_option linter.unusedSimpArgs false
namespace Go.Abs
open Go Go.Proofs

theorem DivMod_ok (g h : Nat → Nat) (n m : Nat) (hg : Dig g n) (hh : Dig h m) (hn : n ≤ 4398046511000) (hm : m ≤ 4398046511000) :
    ACall Tryz.prog 141 [raw g n, raw h m] (divRes (nval g n) (nval h m)) :=
  DivMod_gen g h n m hg hh (by omega) (by omega) fun h2 hle => long_ok _ _ h2 hle (Nat.le_trans (size_nval hg) hn)
theorem DivMod_nn (A B : Nat) (hA : size A ≤ 4398046511000) (hB : size B ≤ 4398046511000) : ACall Tryz.prog 141 [nat A, nat B] (divRes A B) := by
  have := DivMod_ok (digit A) (digit B) (size A) (size B) (digit_Dig _ _) (digit_Dig _ _) hA hB
  rw [nval_digit_size, nval_digit_size] at this; exact this
theorem GCD_ok (g h : Nat → Nat) (n m : Nat) (hg : Dig g n) (hh : Dig h m) (hn : n ≤ 4398046511000) (hm : m ≤ 4398046511000) :
    ACall Tryz.prog 139 [raw g n, raw h m] (nat (Nat.gcd (nval g n) (nval h m))) :=
  GCD_gen g h n m 4398046511000 hg hh hn hm (by omega) fun a b ha hb _ _ => DivMod_nn a b ha hb
end Go.Abs

/- The reference's natural numbers: Trim, Equal, FromUint64, Uint64, Compare. -/
set_option autoImplicit false
set_option maxHeartbeats 4000000
set_option linter.unusedVariables false
set_option linter.unusedSimpArgs false
namespace Go.Abs
open Go Go.Proofs

theorem refTrim_ok (g : Nat → Nat) (n : Nat) (hg : Dig g n) (hn : n ≤ 4398046511104) : ACall Tryz.prog 111 [raw g n] (nat (nval g n)) := by
  refine acall_rule env [0, 2, 3, 15] Tryz.func111 rfl rfl rfl rfl ?_
  conv => whnf
  refine loop_mod [0, 3] [] [0, 3] []
    (fun μ fr hp => ∃ s : Int, fr = [(0, raw g n), (3, .f (.int .i64 s))] ∧ hp = [] ∧ μ = s.toNat ∧ 0 ≤ s ∧ s ≤ n ∧ trimLen g s.toNat = trimLen g n)
    (fun e fr hp => e = .exit 0 ∧ fr = [(0, raw g n), (3, .f (.int .i64 (trimLen g n : Nat)))] ∧ hp = [])
    ⟨_, _, _, _, rfl, .refl _, n, rfl, rfl, rfl, by omega, Int.le_refl _, rfl⟩ ?_ ?_
  · rintro _ _ _ ⟨rfl, rfl, rfl⟩
    have hle : trimLen g n ≤ n := by rw [trimLen_eq hg]; exact size_nval hg
    conv => whnf
    refine ⟨(by (try simp only [true_and, and_true, Nat.sub_zero, Nat.zero_add, Int.toNat_natCast]) <;> omega), ?_⟩
    conv => whnf
    refine ⟨⟨(by (try simp only [true_and, and_true, Nat.sub_zero, Nat.zero_add, Int.toNat_natCast]) <;> omega), (by (try simp only [true_and, and_true, Nat.sub_zero, Nat.zero_add, Int.toNat_natCast]) <;> omega), (by (try simp only [true_and, and_true, Nat.sub_zero, Nat.zero_add, Int.toNat_natCast]) <;> omega), room_any (by simp only; omega)⟩, ?_⟩
    conv => whnf
    refine ⟨(by (try simp only [true_and, and_true, Nat.sub_zero, Nat.zero_add, Int.toNat_natCast]) <;> omega), ?_⟩
    exact (AVle.raw_ofn (g := g) (n := trimLen g n) (by omega) (fun j hj => by simp)).trans (nat_of_trim hg)
  rintro _ _ _ ⟨s, rfl, rfl, rfl, h0, hs, hI⟩
  conv => whnf
  refine spl (fun h1 => ?_) (fun h1 => ?_) <;> simp only [decide_eq_true_eq, decide_eq_false_iff_not, Bool.not_eq_true', Bool.not_eq_false', gt_iff_lt, ge_iff_le] at h1
  · conv => whnf
    refine fit64 (by omega) ?_
    conv => whnf
    refine ⟨(by (try simp only [true_and, and_true, Nat.sub_zero, Nat.zero_add, Int.toNat_natCast]) <;> omega), ?_⟩
    conv => whnf
    have ht : trimLen g s.toNat = if g (s - 1).toNat = 0 then trimLen g (s - 1).toNat else s.toNat := by
      rw [show s.toNat = (s - 1).toNat + 1 by omega]; rfl
    refine spl (fun h2 => ?_) (fun h2 => ?_) <;> simp only [decide_eq_true_eq, decide_eq_false_iff_not, Bool.not_eq_true', Bool.not_eq_false', gt_iff_lt, ge_iff_le] at h2
    · conv => whnf
      refine fit64 (by omega) ?_
      conv => whnf
      exact ⟨_, by omega, _, _, _, rfl, .refl _, s - 1, rfl, rfl, rfl, by omega, by omega, by rw [← hI, ht, if_pos (by omega)]⟩
    · conv => whnf
      rw [if_neg (by omega)] at ht
      rw [ht] at hI
      rw [← hI]
      exact ⟨_, _, _, congrArg (fun t => some ([(0, raw g n), (3, AV.f (.int .i64 t))], [])) (show s = (s.toNat : Int) by omega), .refl _, rfl, rfl, rfl⟩
  · conv => whnf
    have : s = 0 := by omega
    subst this
    exact ⟨_, _, _, congrArg (fun t => some ([(0, raw g n), (3, AV.f (.int .i64 t))], [])) (show (0 : Int) = (trimLen g n : Int) by rw [← hI]; rfl), .refl _, rfl, rfl, rfl⟩

theorem refEqual_ok (g h : Nat → Nat) (n m : Nat) (hg : Dig g n) (hh : Dig h m) (hn : n ≤ 4398046511104) :
    ACall Tryz.prog 93 [raw g n, raw h m] (.f (.bool (decide (n = m ∧ nval g n = nval h m)))) := by
  refine acall_rule env [0, 1, 4, 5, 10, 14, 25] Tryz.func93 rfl rfl rfl rfl ?_
  conv => whnf
  refine spl (fun h1 => ?_) (fun h1 => ?_) <;> simp only [decide_eq_true_eq, decide_eq_false_iff_not, Bool.not_eq_true', Bool.not_eq_false', gt_iff_lt, ge_iff_le] at h1
  · conv => whnf
    refine ⟨(by (try simp only [true_and, and_true, Nat.sub_zero, Nat.zero_add, Int.toNat_natCast]) <;> omega), ?_⟩
    exact .bool_of (by rw [decide_eq_false]; omega)
  have h1 : n = m := by omega
  subst h1
  conv => whnf
  refine loop_mod [0, 1, 5] [] [4] []
    (fun μ fr hp => ∃ k : Nat, fr = [(0, raw g n), (1, raw h n), (5, .f (.int .i64 k))] ∧ hp = [] ∧ μ = n - k ∧ k ≤ n ∧ ∀ j, j < k → g j = h j)
    (fun e fr hp => (e = .exit 0 ∧ fr = [(4, .top)] ∧ hp = [] ∧ ∀ j, j < n → g j = h j) ∨ (e = .ret ∧ fr = [(4, .f (.bool false))] ∧ hp = [] ∧ nval g n ≠ nval h n))
    ⟨_, _, _, _, rfl, .refl _, 0, rfl, rfl, rfl, by omega, by simp⟩ ?_ ?_
  · rintro _ _ _ (⟨rfl, rfl, rfl, he⟩ | ⟨rfl, rfl, rfl, hne⟩)
    · conv => whnf
      refine ⟨(by (try simp only [true_and, and_true, Nat.sub_zero, Nat.zero_add, Int.toNat_natCast]) <;> omega), ?_⟩
      exact .bool_of (by rw [decide_eq_true]; exact ⟨rfl, nval_congr he⟩)
    · conv => whnf
      refine ⟨(by (try simp only [true_and, and_true, Nat.sub_zero, Nat.zero_add, Int.toNat_natCast]) <;> omega), ?_⟩
      exact .bool_of (by rw [decide_eq_false]; exact fun h => hne h.2)
  rintro _ _ _ ⟨k, rfl, rfl, rfl, hk, he⟩
  conv => whnf
  refine spl (fun h2 => ?_) (fun h2 => ?_) <;> simp only [decide_eq_true_eq, decide_eq_false_iff_not, Bool.not_eq_true', Bool.not_eq_false', gt_iff_lt, ge_iff_le] at h2
  · conv => whnf
    refine ⟨(by (try simp only [true_and, and_true, Nat.sub_zero, Nat.zero_add, Int.toNat_natCast]) <;> omega), ?_⟩
    conv => whnf
    refine ⟨(by (try simp only [true_and, and_true, Nat.sub_zero, Nat.zero_add, Int.toNat_natCast]) <;> omega), ?_⟩
    conv => whnf
    refine ⟨by kernel_rfl, ?_⟩
    conv => whnf
    refine spl (fun h3 => ?_) (fun h3 => ?_) <;> simp only [decide_eq_true_eq, decide_eq_false_iff_not, Bool.not_eq_true', Bool.not_eq_false', gt_iff_lt, ge_iff_le] at h3
    · replace h3 : ¬ ((g k : Nat) : Int) = (h k : Nat) := h3
      conv => whnf
      exact ⟨_, _, _, rfl, .refl _, .inr ⟨rfl, rfl, rfl, fun e => h3 (by rw [nval_inj hg hh e k (by omega)])⟩⟩
    · replace h3 : ((g k : Nat) : Int) = (h k : Nat) := h3
      conv => whnf
      refine sumi64 (k + 1) (by omega) (by omega) ?_
      conv => whnf
      refine ⟨_, ?_, _, _, _, rfl, .refl _, k + 1, rfl, rfl, rfl, by omega, fun j hj => ?_⟩
      · omega
      · by_cases e : j = k
        · subst e; omega
        · exact he j (by omega)
  · conv => whnf
    have : k = n := by omega
    subst this
    exact ⟨_, _, _, rfl, .refl _, .inl ⟨rfl, rfl, rfl, he⟩⟩
end Go.Abs

/- The reference's natural numbers: FromUint64, Uint64, Compare. -/
set_option autoImplicit false
set_option maxHeartbeats 4000000
set_option linter.unusedVariables false
set_option linter.unusedSimpArgs false
namespace Go.Abs
open Go Go.Proofs

theorem refFromUint64_ok (v : Nat) (hv : v < 18446744073709551616) : ACall Tryz.prog 68 [.f (.int .u64 v)] (nat v) := by
  have h2 : nval (digit v) 2 = v := by rw [nval_digit, Nat.mod_eq_of_lt]; exact hv
  have hv2 := refTrim_ok (digit v) 2 (digit_Dig v 2) (by omega)
  rw [h2] at hv2
  refine acall_rule env [0, 2] Tryz.func68 rfl rfl rfl rfl ?_
  conv => whnf
  refine lowu32 ?_
  conv => whnf
  refine ⟨(by (try simp only [true_and, and_true, Nat.sub_zero, Nat.zero_add, Int.toNat_natCast]) <;> omega), ?_⟩
  conv => whnf
  refine shr32 (by decide) ?_
  conv => whnf
  refine lowu32 ?_
  conv => whnf
  refine callF hv2 ⟨?_, trivial⟩ ⟨by simp, trivial⟩ rfl ?_
  · refine .f (.sl (fun i hi => ?_) (.inl rfl))
    match i, hi with
    | 0, _ => exact ⟨.int_of (by simp [digit, pw_zero]), trivial⟩
    | 1, _ => exact ⟨.int_of (by simp [digit, pw]), trivial⟩
  conv => whnf
  exact ⟨(by (try simp only [true_and, and_true, Nat.sub_zero, Nat.zero_add, Int.toNat_natCast]) <;> omega), .refl _⟩

theorem refUint64_ok (g : Nat → Nat) (n : Nat) (hg : Dig g n) (hn : n ≤ 4398046511104) : ACall Tryz.prog 143 [raw g n] (if nval g n < 18446744073709551616 then .tup [.f (.int .u64 (nval g n)), .f (.bool true)] else .tup [.f (.int .u64 0), .f (.bool false)]) := by
  have hs := size_nval hg
  have hv := refTrim_ok g n hg hn
  generalize nval g n = N at hs hv ⊢
  refine acall_rule env [0, 2, 3, 4, 5, 10, 15] Tryz.func143 rfl rfl rfl rfl ?_
  conv => whnf
  refine callF hv ⟨.refl _, trivial⟩ (by trivial) rfl ?_
  conv => whnf
  refine spl (fun h1 => ?_) (fun h1 => ?_) <;> simp only [decide_eq_true_eq, decide_eq_false_iff_not, Bool.not_eq_true', Bool.not_eq_false', gt_iff_lt, ge_iff_le] at h1
  · conv => whnf
    refine ⟨(by (try simp only [true_and, and_true, Nat.sub_zero, Nat.zero_add, Int.toNat_natCast]) <;> omega), ?_⟩
    rw [if_neg (by intro h; have := size_le (N := N) (n := 2) h; omega)]
    exact .refl _
  have hN : N < 18446744073709551616 := Nat.lt_of_lt_of_le (lt_pw_size N) (pw_le (j := 2) (by omega))
  rw [if_pos hN]
  conv => whnf
  refine fit64 (by omega) ?_
  conv => whnf
  refine loop_rule [0, 4, 5] [] (fun s : Nat × Int => ([(0, nat N), (4, .f (.int .u64 s.1)), (5, .f (.int .i64 s.2))], [])) (fun s => -1 ≤ s.2 ∧ s.2 < size N ∧ s.1 = N / pw (s.2 + 1).toNat) (fun s => (s.2 + 1).toNat) (0, (size N : Int) - 1) rfl ⟨by simp only; omega, by simp only; omega, ?_⟩ ?_
  · simp only
    rw [show ((size N : Int) - 1 + 1).toNat = size N by omega, div_size]
  rintro ⟨v, i⟩ ⟨h2, h3, h4⟩
  simp only at h2 h3 h4 ⊢
  conv => whnf
  refine spl (fun h5 => ?_) (fun h5 => ?_) <;> simp only [decide_eq_true_eq, decide_eq_false_iff_not, Bool.not_eq_true', Bool.not_eq_false', gt_iff_lt, ge_iff_le] at h5
  · conv => whnf
    have e1 : (i + 1).toNat = i.toNat + 1 := by omega
    have hv : v < 4294967296 := by
      rw [h4, e1, pw_succ, ← Nat.div_div_eq_div_mul]
      have := Nat.div_le_self N (pw i.toNat)
      omega
    have hd := digit_lt N i.toNat
    refine ⟨(by (try simp only [true_and, and_true, Nat.sub_zero, Nat.zero_add, Int.toNat_natCast]) <;> omega), ?_⟩
    conv => whnf
    refine shl32 (v * 4294967296) (by omega) ?_
    conv => whnf
    refine ⟨(by (try simp only [true_and, and_true, Nat.sub_zero, Nat.zero_add, Int.toNat_natCast]) <;> omega), ?_⟩
    conv => whnf
    refine fitu64 (by omega) ?_
    conv => whnf
    refine or32 hv hd ?_
    conv => whnf
    refine fit64 (by omega) ?_
    conv => whnf
    refine ⟨(_, _), rfl, ⟨by simp only; omega, by simp only; omega, ?_⟩, by simp only; omega⟩
    simp only
    rw [show (i - 1 + 1).toNat = i.toNat by omega, div_step, h4, e1]
  · conv => whnf
    refine ⟨(by (try simp only [true_and, and_true, Nat.sub_zero, Nat.zero_add, Int.toNat_natCast]) <;> omega), ?_⟩
    have : i = -1 := by omega
    subst this
    rw [h4]
    exact .tup ⟨.int_of (by simp [pw_zero]), .refl _, trivial⟩
theorem refCompare_ok (g h : Nat → Nat) (n m : Nat) (hg : Dig g n) (hh : Dig h m) (hn : n ≤ 4398046511104) (hm : m ≤ 4398046511104) :
    ACall Tryz.prog 127 [raw g n, raw h m] (.f (.int .i64 (cmp (nval g n) (nval h m)))) := by
  have hA := size_nval hg
  have hB := size_nval hh
  have va := refTrim_ok g n hg hn
  have vb := refTrim_ok h m hh hm
  generalize nval g n = A at hA va ⊢
  generalize nval h m = B at hB vb ⊢
  refine acall_rule env [0, 1, 4, 5, 14, 19, 24, 35, 44] Tryz.func127 rfl rfl rfl rfl ?_
  conv => whnf
  refine callF va ⟨.refl _, trivial⟩ (by trivial) rfl ?_
  conv => whnf
  refine callF vb ⟨.refl _, trivial⟩ (by trivial) rfl ?_
  conv => whnf
  refine spl (fun h1 => ?_) (fun h1 => ?_) <;> simp only [decide_eq_true_eq, decide_eq_false_iff_not, Bool.not_eq_true', Bool.not_eq_false', gt_iff_lt, ge_iff_le] at h1
  · conv => whnf
    refine spl (fun h2 => ?_) (fun h2 => ?_) <;> simp only [decide_eq_true_eq, decide_eq_false_iff_not, Bool.not_eq_true', Bool.not_eq_false', gt_iff_lt, ge_iff_le] at h2
    · conv => whnf
      refine ⟨(by (try simp only [true_and, and_true, Nat.sub_zero, Nat.zero_add, Int.toNat_natCast]) <;> omega), ?_⟩
      have := lt_of_size (A := A) (B := B) (by omega)
      exact .int_of (by simp [cmp, this])
    · conv => whnf
      refine ⟨(by (try simp only [true_and, and_true, Nat.sub_zero, Nat.zero_add, Int.toNat_natCast]) <;> omega), ?_⟩
      have := lt_of_size (A := B) (B := A) (by omega)
      exact .int_of (by unfold cmp; rw [if_neg (by omega), if_neg (by omega)])
  · conv => whnf
    have hs : size A = size B := by omega
    refine fit64 (by omega) ?_
    conv => whnf
    refine loop_rule [0, 1, 5] [] (fun s : Int => ([(0, nat A), (1, nat B), (5, .f (.int .i64 s))], [])) (fun s => -1 ≤ s ∧ s < size A ∧ A / pw (s + 1).toNat = B / pw (s + 1).toNat) (fun s => (s + 1).toNat) ((size A : Int) - 1) rfl ⟨by omega, by omega, ?_⟩ ?_
    · rw [show ((size A : Int) - 1 + 1).toNat = size A by omega, div_size, hs, div_size]
    rintro i ⟨h2, h3, h4⟩
    conv => whnf
    refine spl (fun h5 => ?_) (fun h5 => ?_) <;> simp only [decide_eq_true_eq, decide_eq_false_iff_not, Bool.not_eq_true', Bool.not_eq_false', gt_iff_lt, ge_iff_le] at h5
    · conv => whnf
      refine ⟨(by (try simp only [true_and, and_true, Nat.sub_zero, Nat.zero_add, Int.toNat_natCast]) <;> omega), ?_⟩
      conv => whnf
      refine ⟨(by (try simp only [true_and, and_true, Nat.sub_zero, Nat.zero_add, Int.toNat_natCast]) <;> omega), ?_⟩
      conv => whnf
      refine ⟨by kernel_rfl, ?_⟩
      have e1 : (i + 1).toNat = i.toNat + 1 := by omega
      rw [e1] at h4
      have da := div_step A i.toNat
      have db := div_step B i.toNat
      rw [h4] at da
      conv => whnf
      refine spl (fun h6 => ?_) (fun h6 => ?_) <;> simp only [decide_eq_true_eq, decide_eq_false_iff_not, Bool.not_eq_true', Bool.not_eq_false', gt_iff_lt, ge_iff_le] at h6
      · conv => whnf
        refine ⟨(by (try simp only [true_and, and_true, Nat.sub_zero, Nat.zero_add, Int.toNat_natCast]) <;> omega), ?_⟩
        have := lt_of_div (A := A) (B := B) (p := pw i.toNat) (by omega)
        exact .int_of (by simp [cmp, this])
      conv => whnf
      refine ⟨(by (try simp only [true_and, and_true, Nat.sub_zero, Nat.zero_add, Int.toNat_natCast]) <;> omega), ?_⟩
      conv => whnf
      refine ⟨(by (try simp only [true_and, and_true, Nat.sub_zero, Nat.zero_add, Int.toNat_natCast]) <;> omega), ?_⟩
      conv => whnf
      refine ⟨by kernel_rfl, ?_⟩
      conv => whnf
      refine spl (fun h7 => ?_) (fun h7 => ?_) <;> simp only [decide_eq_true_eq, decide_eq_false_iff_not, Bool.not_eq_true', Bool.not_eq_false', gt_iff_lt, ge_iff_le] at h7
      · conv => whnf
        refine ⟨(by (try simp only [true_and, and_true, Nat.sub_zero, Nat.zero_add, Int.toNat_natCast]) <;> omega), ?_⟩
        have := lt_of_div (A := B) (B := A) (p := pw i.toNat) (by omega)
        exact .int_of (by unfold cmp; rw [if_neg (by omega), if_neg (by omega)])
      · conv => whnf
        refine fit64 (by omega) ?_
        conv => whnf
        refine ⟨i - 1, rfl, ⟨by omega, by omega, ?_⟩, by omega⟩
        rw [show (i - 1 + 1).toNat = i.toNat by omega]
        omega
    · conv => whnf
      refine ⟨(by (try simp only [true_and, and_true, Nat.sub_zero, Nat.zero_add, Int.toNat_natCast]) <;> omega), ?_⟩
      have : i = -1 := by omega
      subst this
      have h4 : A / pw 0 = B / pw 0 := h4
      rw [pw_zero, Nat.div_one, Nat.div_one] at h4
      exact .int_of (by unfold cmp; rw [if_neg (by omega), if_pos h4])
end Go.Abs

/- The reference's natural numbers: Add, Sub. -/
set_option autoImplicit false
set_option maxHeartbeats 4000000
set_option linter.unusedVariables false
set_option linter.unusedSimpArgs false
namespace Go.Abs
open Go Go.Proofs

theorem raw_le {g : Nat → Nat} {n : Nat} (hg : Dig g n) : AVle (raw g n) (raw (digit (nval g n)) n) :=
  .f (.limbs fun j hj => by rw [digit_nval hg, if_pos hj])
theorem add_end {h : Nat → Nat} {A B c n m : Nat} (hA : size A ≤ n) (hB : size B ≤ m) (hd : Dig h (max n m + 1)) (e : nval h (max n m + 1) + c * pw (max n m + 1) = A % pw (max n m + 1) + B % pw (max n m + 1)) : nval h (max n m + 1) = A + B := by
  rw [mod_size (by omega), mod_size (by omega)] at e
  have h1 := Nat.lt_of_lt_of_le (lt_pw_size A) (pw_le (show size A ≤ max n m by omega))
  have h2 := Nat.lt_of_lt_of_le (lt_pw_size B) (pw_le (show size B ≤ max n m by omega))
  rw [pw_succ] at e
  rcases Nat.eq_zero_or_pos c with rfl | hc
  · omega
  · have := Nat.le_mul_of_pos_left (pw (max n m) * 4294967296) hc; omega


theorem refAdd_aux (A B n m : Nat) (hA : size A ≤ n) (hB : size B ≤ m) (hn : n < 4398046511104) (hm : m < 4398046511104) :
    ACall Tryz.prog 96 [raw (digit A) n, raw (digit B) m] (nat (A + B)) := by
  refine acall_rule env [0, 1, 4, 5, 6, 7, 18, 24, 35] Tryz.func96 rfl rfl rfl rfl ?_
  conv => whnf
  refine sumi64 (max n m + 1) (by split <;> omega) (by omega) ?_
  conv => whnf
  refine ⟨(by (try simp only [true_and, and_true, Nat.sub_zero, Nat.zero_add, Int.toNat_natCast]) <;> omega), ?_⟩
  conv => whnf
  refine loop_mod [0, 1, 5, 6, 7] [14] [5] [14]
    (fun μ fr hp => ∃ (h : Nat → Nat) (c k : Nat), fr = [(0, raw (digit A) n), (1, raw (digit B) m), (5, .lsl 14 1 1 0 (max n m + 1) (some (max n m + 1))), (6, .f (.int .u64 c)), (7, .f (.int .i64 k))] ∧ hp = [(14, 1, .fa 1 (max n m + 1) (fun j => [.int .u32 (h j : Nat)]))] ∧ μ = max n m + 1 - k ∧
      k ≤ max n m + 1 ∧ Dig h k ∧ c < 2 ∧ nval h k + c * pw k = A % pw k + B % pw k)
    (fun e fr hp => e = .exit 0 ∧ ∃ h : Nat → Nat, fr = [(5, .lsl 14 1 1 0 (max n m + 1) (some (max n m + 1)))] ∧ hp = [(14, 1, .fa 1 (max n m + 1) (fun j => [.int .u32 (h j : Nat)]))] ∧ Dig h (max n m + 1) ∧ nval h (max n m + 1) = A + B)
    ⟨_, _, _, _, rfl, .refl _, fun _ => 0, 0, 0, rfl, rfl, rfl, Nat.zero_le _, fun j hj => absurd hj (by simp), by simp, by simp [pw_zero, Nat.mod_one, nval_zero]⟩ ?_ ?_
  · rintro _ _ _ ⟨rfl, h, rfl, rfl, h2, h4⟩
    have hv := refTrim_ok _ _ h2 (by omega)
    rw [h4] at hv
    conv => whnf
    refine callF hv ⟨.raw_refl, trivial⟩ (by (try simp only [true_and, and_true, Nat.sub_zero, Nat.zero_add, Int.toNat_natCast]) <;> omega) rfl ?_
    conv => whnf
    refine ⟨(by (try simp only [true_and, and_true, Nat.sub_zero, Nat.zero_add, Int.toNat_natCast]) <;> omega), ?_⟩
    exact .refl _
  rintro _ _ _ ⟨h, c, k, rfl, rfl, rfl, h1, h2, h3, h4⟩
  have hd := digit_lt A k
  have hd2 := digit_lt B k
  conv => whnf
  refine spl (fun h5 => ?_) (fun h5 => ?_) <;> simp only [decide_eq_true_eq, decide_eq_false_iff_not, Bool.not_eq_true', Bool.not_eq_false', gt_iff_lt, ge_iff_le] at h5
  · conv => whnf
    refine spl (fun h6 => ?_) (fun h6 => ?_) <;> simp only [decide_eq_true_eq, decide_eq_false_iff_not, Bool.not_eq_true', Bool.not_eq_false', gt_iff_lt, ge_iff_le] at h6
    · conv => whnf
      refine ⟨(by (try simp only [true_and, and_true, Nat.sub_zero, Nat.zero_add, Int.toNat_natCast]) <;> omega), ?_⟩
      conv => whnf
      refine sumu64 (digit A k) rfl (by omega) ?_
      conv => whnf
      refine sumu64 (c + digit A k) (by omega) (by omega) ?_
      conv => whnf
      refine spl (fun h7 => ?_) (fun h7 => ?_) <;> simp only [decide_eq_true_eq, decide_eq_false_iff_not, Bool.not_eq_true', Bool.not_eq_false', gt_iff_lt, ge_iff_le] at h7
      · conv => whnf
        refine ⟨(by (try simp only [true_and, and_true, Nat.sub_zero, Nat.zero_add, Int.toNat_natCast]) <;> omega), ?_⟩
        conv => whnf
        refine sumu64 (digit B k) rfl (by omega) ?_
        conv => whnf
        refine sumu64 (c + digit A k + digit B k) (by omega) (by omega) ?_
        conv => whnf
        have hstep := add_step h4 (s := c + digit A k + digit B k) (by omega)
        generalize hs : c + digit A k + digit B k = s at hstep ⊢
        refine lowu32 ?_
        conv => whnf
        refine ⟨(by (try simp only [true_and, and_true, Nat.sub_zero, Nat.zero_add, Int.toNat_natCast]) <;> omega), ?_⟩
        conv => whnf
        refine ⟨(by (try simp only [true_and, and_true, Nat.sub_zero, Nat.zero_add, Int.toNat_natCast]) <;> omega), ?_⟩
        conv => whnf
        refine ⟨(by (try simp only [true_and, and_true, Nat.sub_zero, Nat.zero_add, Int.toNat_natCast]) <;> omega), ?_⟩
        conv => whnf
        refine shr32 (by decide) ?_
        conv => whnf
        refine sumi64 (k + 1) (by omega) (by omega) ?_
        conv => whnf
        refine ⟨_, ?_, _, _, _, rfl, ?_, fun j => if j = k then s % 4294967296 else h j, s / 4294967296, k + 1, rfl, rfl, rfl, by omega, Dig_set1 h2 (Nat.mod_lt _ (by decide)), by omega, hstep⟩
        · omega
        · exact ⟨⟨rfl, rfl⟩, .set (by omega) rfl, trivial⟩
      · have hz2 : digit B k = 0 := digit_zero_of_size (by omega)
        conv => whnf
        have hstep := add_step h4 (s := c + digit A k) (by omega)
        generalize hs : c + digit A k = s at hstep ⊢
        refine lowu32 ?_
        conv => whnf
        refine ⟨(by (try simp only [true_and, and_true, Nat.sub_zero, Nat.zero_add, Int.toNat_natCast]) <;> omega), ?_⟩
        conv => whnf
        refine ⟨(by (try simp only [true_and, and_true, Nat.sub_zero, Nat.zero_add, Int.toNat_natCast]) <;> omega), ?_⟩
        conv => whnf
        refine ⟨(by (try simp only [true_and, and_true, Nat.sub_zero, Nat.zero_add, Int.toNat_natCast]) <;> omega), ?_⟩
        conv => whnf
        refine shr32 (by decide) ?_
        conv => whnf
        refine sumi64 (k + 1) (by omega) (by omega) ?_
        conv => whnf
        refine ⟨_, ?_, _, _, _, rfl, ?_, fun j => if j = k then s % 4294967296 else h j, s / 4294967296, k + 1, rfl, rfl, rfl, by omega, Dig_set1 h2 (Nat.mod_lt _ (by decide)), by omega, hstep⟩
        · omega
        · exact ⟨⟨rfl, rfl⟩, .set (by omega) rfl, trivial⟩
    · have hz : digit A k = 0 := digit_zero_of_size (by omega)
      conv => whnf
      refine spl (fun h7 => ?_) (fun h7 => ?_) <;> simp only [decide_eq_true_eq, decide_eq_false_iff_not, Bool.not_eq_true', Bool.not_eq_false', gt_iff_lt, ge_iff_le] at h7
      · conv => whnf
        refine ⟨(by (try simp only [true_and, and_true, Nat.sub_zero, Nat.zero_add, Int.toNat_natCast]) <;> omega), ?_⟩
        conv => whnf
        refine sumu64 (digit B k) rfl (by omega) ?_
        conv => whnf
        refine sumu64 (c + digit B k) (by omega) (by omega) ?_
        conv => whnf
        have hstep := add_step h4 (s := c + digit B k) (by omega)
        generalize hs : c + digit B k = s at hstep ⊢
        refine lowu32 ?_
        conv => whnf
        refine ⟨(by (try simp only [true_and, and_true, Nat.sub_zero, Nat.zero_add, Int.toNat_natCast]) <;> omega), ?_⟩
        conv => whnf
        refine ⟨(by (try simp only [true_and, and_true, Nat.sub_zero, Nat.zero_add, Int.toNat_natCast]) <;> omega), ?_⟩
        conv => whnf
        refine ⟨(by (try simp only [true_and, and_true, Nat.sub_zero, Nat.zero_add, Int.toNat_natCast]) <;> omega), ?_⟩
        conv => whnf
        refine shr32 (by decide) ?_
        conv => whnf
        refine sumi64 (k + 1) (by omega) (by omega) ?_
        conv => whnf
        refine ⟨_, ?_, _, _, _, rfl, ?_, fun j => if j = k then s % 4294967296 else h j, s / 4294967296, k + 1, rfl, rfl, rfl, by omega, Dig_set1 h2 (Nat.mod_lt _ (by decide)), by omega, hstep⟩
        · omega
        · exact ⟨⟨rfl, rfl⟩, .set (by omega) rfl, trivial⟩
      · have hz2 : digit B k = 0 := digit_zero_of_size (by omega)
        conv => whnf
        have hstep := add_step h4 (s := c) (by omega)
        generalize hs : c = s at hstep ⊢
        refine lowu32 ?_
        conv => whnf
        refine ⟨(by (try simp only [true_and, and_true, Nat.sub_zero, Nat.zero_add, Int.toNat_natCast]) <;> omega), ?_⟩
        conv => whnf
        refine ⟨(by (try simp only [true_and, and_true, Nat.sub_zero, Nat.zero_add, Int.toNat_natCast]) <;> omega), ?_⟩
        conv => whnf
        refine ⟨(by (try simp only [true_and, and_true, Nat.sub_zero, Nat.zero_add, Int.toNat_natCast]) <;> omega), ?_⟩
        conv => whnf
        refine shr32 (by decide) ?_
        conv => whnf
        refine sumi64 (k + 1) (by omega) (by omega) ?_
        conv => whnf
        refine ⟨_, ?_, _, _, _, rfl, ?_, fun j => if j = k then s % 4294967296 else h j, s / 4294967296, k + 1, rfl, rfl, rfl, by omega, Dig_set1 h2 (Nat.mod_lt _ (by decide)), by omega, hstep⟩
        · omega
        · exact ⟨⟨rfl, rfl⟩, .set (by omega) rfl, trivial⟩
  · have hk : k = max n m + 1 := by omega
    subst hk
    conv => whnf
    exact ⟨_, _, _, rfl, .refl _, rfl, h, rfl, rfl, h2, add_end hA hB h2 h4⟩

theorem refAdd_ok (g h : Nat → Nat) (n m : Nat) (hg : Dig g n) (hh : Dig h m) (hn : n < 4398046511104) (hm : m < 4398046511104) :
    ACall Tryz.prog 96 [raw g n, raw h m] (nat (nval g n + nval h m)) :=
  (refAdd_aux _ _ n m (size_nval hg) (size_nval hh) hn hm).args ⟨raw_le hg, raw_le hh, trivial⟩
end Go.Abs

/- The reference's natural numbers: Sub, Mul. -/
set_option autoImplicit false
set_option maxHeartbeats 4000000
set_option linter.unusedVariables false
set_option linter.unusedSimpArgs false
namespace Go.Abs
open Go Go.Proofs

theorem sub_stepg {h : Nat → Nat} {A B c k r q : Nat} (e : nval h k + B % pw k = A % pw k + c * pw k) (hr : r + digit B k + c = digit A k + q * 4294967296) :
    nval (fun j => if j = k then r else h j) (k + 1) + B % pw (k + 1) = A % pw (k + 1) + q * pw (k + 1) := by
  rw [nval_set, mod_step, mod_step, pw_succ]
  grind


theorem refSub_ok (g h : Nat → Nat) (n m : Nat) (hg : Dig g n) (hh : Dig h m) (hn : n ≤ 4398046511104) (hm : m ≤ 4398046511104) :
    ACall Tryz.prog 97 [raw g n, raw h m] (if nval g n < nval h m then .tup [nat 0, .f (.bool false)] else .tup [nat (nval g n - nval h m), .f (.bool true)]) := by
  have hA := size_nval hg
  have hB := size_nval hh
  have va := refTrim_ok g n hg hn
  have vb := refTrim_ok h m hh hm
  have hc := refCompare_ok g h n m hg hh hn hm
  generalize nval g n = A at hA va hc ⊢
  generalize nval h m = B at hB vb hc ⊢
  refine acall_rule env [0, 1, 4, 5, 6, 7, 8, 9, 10, 14, 25, 32, 47] Tryz.func97 rfl rfl rfl rfl ?_
  conv => whnf
  refine callF hc ⟨.refl _, .refl _, trivial⟩ (by trivial) rfl ?_
  conv => whnf
  refine spl (fun h1 => ?_) (fun h1 => ?_) <;> simp only [decide_eq_true_eq, decide_eq_false_iff_not, Bool.not_eq_true', Bool.not_eq_false', gt_iff_lt, ge_iff_le] at h1
  · rw [if_pos (cmp_lt.1 h1)]
    conv => whnf
    refine ⟨(by (try simp only [true_and, and_true, Nat.sub_zero, Nat.zero_add, Int.toNat_natCast]) <;> omega), ?_⟩
    exact .tup ⟨.nil_nat, .refl _, trivial⟩
  have hle : B ≤ A := by have := mt cmp_lt.2 h1; omega
  have hsz := size_mono hle
  rw [if_neg (by omega)]
  conv => whnf
  refine callF va ⟨.refl _, trivial⟩ (by trivial) rfl ?_
  conv => whnf
  refine callF vb ⟨.refl _, trivial⟩ (by trivial) rfl ?_
  conv => whnf
  refine ⟨(by (try simp only [true_and, and_true, Nat.sub_zero, Nat.zero_add, Int.toNat_natCast]) <;> omega), ?_⟩
  conv => whnf
  refine loop_mod [0, 1, 6, 7, 8] [21] [6] [21]
    (fun μ fr hp => ∃ (h : Nat → Nat) (c k : Nat), fr = [(0, nat A), (1, nat B), (6, .lsl 21 1 1 0 (size A) (some (size A))), (7, .f (.int .u64 c)), (8, .f (.int .i64 k))] ∧ hp = [(21, 1, .fa 1 (size A) (fun j => [.int .u32 (h j : Nat)]))] ∧ μ = size A - k ∧
      k ≤ size A ∧ Dig h k ∧ c < 2 ∧ nval h k + B % pw k = A % pw k + c * pw k)
    (fun e fr hp => e = .exit 0 ∧ ∃ h : Nat → Nat, fr = [(6, .lsl 21 1 1 0 (size A) (some (size A)))] ∧ hp = [(21, 1, .fa 1 (size A) (fun j => [.int .u32 (h j : Nat)]))] ∧ Dig h (size A) ∧ nval h (size A) = A - B)
    ⟨_, _, _, _, rfl, .refl _, fun _ => 0, 0, 0, rfl, rfl, rfl, Nat.zero_le _, fun j hj => absurd hj (by simp), by simp, by simp [pw_zero, Nat.mod_one, nval_zero]⟩ ?_ ?_
  · rintro _ _ _ ⟨rfl, h, rfl, rfl, h2, h4⟩
    have hv := refTrim_ok _ _ h2 (by omega)
    rw [h4] at hv
    conv => whnf
    refine callF hv ⟨.raw_refl, trivial⟩ (by (try simp only [true_and, and_true, Nat.sub_zero, Nat.zero_add, Int.toNat_natCast]) <;> omega) rfl ?_
    conv => whnf
    refine ⟨(by (try simp only [true_and, and_true, Nat.sub_zero, Nat.zero_add, Int.toNat_natCast]) <;> omega), ?_⟩
    exact .refl _
  rintro _ _ _ ⟨h, c, k, rfl, rfl, rfl, h1, h2, h3, h4⟩
  have hd := digit_lt A k
  have hd2 := digit_lt B k
  conv => whnf
  refine spl (fun h5 => ?_) (fun h5 => ?_) <;> simp only [decide_eq_true_eq, decide_eq_false_iff_not, Bool.not_eq_true', Bool.not_eq_false', gt_iff_lt, ge_iff_le] at h5
  · conv => whnf
    refine spl (fun h6 => ?_) (fun h6 => ?_) <;> simp only [decide_eq_true_eq, decide_eq_false_iff_not, Bool.not_eq_true', Bool.not_eq_false', gt_iff_lt, ge_iff_le] at h6
    · conv => whnf
      refine ⟨(by (try simp only [true_and, and_true, Nat.sub_zero, Nat.zero_add, Int.toNat_natCast]) <;> omega), ?_⟩
      conv => whnf
      refine sumu64 (digit B k) rfl (by omega) ?_
      conv => whnf
      refine sumu64 (c + digit B k) (by omega) (by omega) ?_
      conv => whnf
      refine ⟨(by (try simp only [true_and, and_true, Nat.sub_zero, Nat.zero_add, Int.toNat_natCast]) <;> omega), ?_⟩
      conv => whnf
      refine sumu64 (digit A k) rfl (by omega) ?_
      conv => whnf
      refine spl (fun h7 => ?_) (fun h7 => ?_) <;> simp only [decide_eq_true_eq, decide_eq_false_iff_not, Bool.not_eq_true', Bool.not_eq_false', gt_iff_lt, ge_iff_le] at h7
      · replace h7 : ((digit A k : Nat) : Int) < ((c + digit B k : Nat) : Int) := h7
        conv => whnf
        refine sumu64 (digit A k + 4294967296) (by omega) (by omega) ?_
        conv => whnf
        have hstep := sub_stepg h4 (r := (digit A k + 4294967296 - (c + digit B k)) % 4294967296) (q := 1) (by omega)
        have hlt : (digit A k + 4294967296 - (c + digit B k)) % 4294967296 < 4294967296 := Nat.mod_lt _ (by decide)
        refine sumu64 (digit A k + 4294967296 - (c + digit B k)) (by omega) (by omega) ?_
        conv => whnf
        refine lowu32 ?_
        conv => whnf
        refine ⟨(by (try simp only [true_and, and_true, Nat.sub_zero, Nat.zero_add, Int.toNat_natCast]) <;> omega), ?_⟩
        conv => whnf
        refine ⟨(by (try simp only [true_and, and_true, Nat.sub_zero, Nat.zero_add, Int.toNat_natCast]) <;> omega), ?_⟩
        conv => whnf
        refine sumi64 (k + 1) (by omega) (by omega) ?_
        conv => whnf
        refine ⟨_, ?_, _, _, _, rfl, ?_, fun j => if j = k then (digit A k + 4294967296 - (c + digit B k)) % 4294967296 else h j, 1, k + 1, rfl, rfl, rfl, by omega, Dig_set1 h2 hlt, by omega, hstep⟩
        · omega
        · exact ⟨⟨rfl, rfl⟩, .set (by omega) rfl, trivial⟩
      · replace h7 : ¬ ((digit A k : Nat) : Int) < ((c + digit B k : Nat) : Int) := h7
        conv => whnf
        have hstep := sub_stepg h4 (r := (digit A k - (c + digit B k)) % 4294967296) (q := 0) (by omega)
        have hlt : (digit A k - (c + digit B k)) % 4294967296 < 4294967296 := Nat.mod_lt _ (by decide)
        refine sumu64 (digit A k - (c + digit B k)) (by omega) (by omega) ?_
        conv => whnf
        refine lowu32 ?_
        conv => whnf
        refine ⟨(by (try simp only [true_and, and_true, Nat.sub_zero, Nat.zero_add, Int.toNat_natCast]) <;> omega), ?_⟩
        conv => whnf
        refine ⟨(by (try simp only [true_and, and_true, Nat.sub_zero, Nat.zero_add, Int.toNat_natCast]) <;> omega), ?_⟩
        conv => whnf
        refine sumi64 (k + 1) (by omega) (by omega) ?_
        conv => whnf
        refine ⟨_, ?_, _, _, _, rfl, ?_, fun j => if j = k then (digit A k - (c + digit B k)) % 4294967296 else h j, 0, k + 1, rfl, rfl, rfl, by omega, Dig_set1 h2 hlt, by omega, hstep⟩
        · omega
        · exact ⟨⟨rfl, rfl⟩, .set (by omega) rfl, trivial⟩
    · have hz : digit B k = 0 := digit_zero_of_size (by omega)
      conv => whnf
      refine ⟨(by (try simp only [true_and, and_true, Nat.sub_zero, Nat.zero_add, Int.toNat_natCast]) <;> omega), ?_⟩
      conv => whnf
      refine sumu64 (digit A k) rfl (by omega) ?_
      conv => whnf
      refine spl (fun h7 => ?_) (fun h7 => ?_) <;> simp only [decide_eq_true_eq, decide_eq_false_iff_not, Bool.not_eq_true', Bool.not_eq_false', gt_iff_lt, ge_iff_le] at h7
      · replace h7 : ((digit A k : Nat) : Int) < ((c : Nat) : Int) := h7
        conv => whnf
        refine sumu64 (digit A k + 4294967296) (by omega) (by omega) ?_
        conv => whnf
        have hstep := sub_stepg h4 (r := (digit A k + 4294967296 - (c)) % 4294967296) (q := 1) (by omega)
        have hlt : (digit A k + 4294967296 - (c)) % 4294967296 < 4294967296 := Nat.mod_lt _ (by decide)
        refine sumu64 (digit A k + 4294967296 - (c)) (by omega) (by omega) ?_
        conv => whnf
        refine lowu32 ?_
        conv => whnf
        refine ⟨(by (try simp only [true_and, and_true, Nat.sub_zero, Nat.zero_add, Int.toNat_natCast]) <;> omega), ?_⟩
        conv => whnf
        refine ⟨(by (try simp only [true_and, and_true, Nat.sub_zero, Nat.zero_add, Int.toNat_natCast]) <;> omega), ?_⟩
        conv => whnf
        refine sumi64 (k + 1) (by omega) (by omega) ?_
        conv => whnf
        refine ⟨_, ?_, _, _, _, rfl, ?_, fun j => if j = k then (digit A k + 4294967296 - (c)) % 4294967296 else h j, 1, k + 1, rfl, rfl, rfl, by omega, Dig_set1 h2 hlt, by omega, hstep⟩
        · omega
        · exact ⟨⟨rfl, rfl⟩, .set (by omega) rfl, trivial⟩
      · replace h7 : ¬ ((digit A k : Nat) : Int) < ((c : Nat) : Int) := h7
        conv => whnf
        have hstep := sub_stepg h4 (r := (digit A k - (c)) % 4294967296) (q := 0) (by omega)
        have hlt : (digit A k - (c)) % 4294967296 < 4294967296 := Nat.mod_lt _ (by decide)
        refine sumu64 (digit A k - (c)) (by omega) (by omega) ?_
        conv => whnf
        refine lowu32 ?_
        conv => whnf
        refine ⟨(by (try simp only [true_and, and_true, Nat.sub_zero, Nat.zero_add, Int.toNat_natCast]) <;> omega), ?_⟩
        conv => whnf
        refine ⟨(by (try simp only [true_and, and_true, Nat.sub_zero, Nat.zero_add, Int.toNat_natCast]) <;> omega), ?_⟩
        conv => whnf
        refine sumi64 (k + 1) (by omega) (by omega) ?_
        conv => whnf
        refine ⟨_, ?_, _, _, _, rfl, ?_, fun j => if j = k then (digit A k - (c)) % 4294967296 else h j, 0, k + 1, rfl, rfl, rfl, by omega, Dig_set1 h2 hlt, by omega, hstep⟩
        · omega
        · exact ⟨⟨rfl, rfl⟩, .set (by omega) rfl, trivial⟩
  · have hk : k = size A := by omega
    subst hk
    rw [mod_size (Nat.le_refl _), mod_size hsz] at h4
    conv => whnf
    exact ⟨_, _, _, rfl, .refl _, rfl, h, rfl, rfl, h2, sub_end h2 h4 h3 hle⟩
end Go.Abs

/- The reference's natural numbers: Mul. -/
set_option autoImplicit false
set_option maxHeartbeats 4000000
set_option linter.unusedVariables false
set_option linter.unusedSimpArgs false
namespace Go.Abs
open Go Go.Proofs

theorem mul_zero_at2 {h : Nat → Nat} {A B i m N : Nat} (hB : size B ≤ m) (hd : Dig h N) (e : nval h N = A % pw i * B) (hi : i + m < N) : h (i + m) = 0 := by
  have h1 := digit_nval hd (i + m)
  rw [if_pos hi, e] at h1
  rw [← h1]
  apply digit_zero_of_size
  apply size_le
  rw [pw_add]
  have h2 : A % pw i < pw i := Nat.mod_lt _ (pw_pos i)
  have h3 := Nat.lt_of_lt_of_le (lt_pw_size B) (pw_le hB)
  exact Nat.lt_of_le_of_lt (Nat.mul_le_mul_left _ (Nat.le_of_lt h3)) (Nat.mul_lt_mul_of_pos_right h2 (pw_pos _))
theorem mul_outer2 {h : Nat → Nat} {A B c i m N : Nat} (hB : size B ≤ m) (hi : i + m < N) (hz : h (i + m) = 0) (e : nval h N + c * pw (i + m) = A % pw i * B + digit A i * (B % pw m) * pw i) :
    nval (fun j => if j = i + m then c else h j) N = A % pw (i + 1) * B := by
  have h1 := nval_setg h (i + m) c N hi
  rw [mod_step]
  rw [mod_size hB] at e
  rw [hz] at h1
  grind

theorem refMul_aux (A B n m : Nat) (hA : size A ≤ n) (hB : size B ≤ m) (hn : n + m ≤ 4398046511104) :
    ACall Tryz.prog 98 [raw (digit A) n, raw (digit B) m] (nat (A * B)) := by
  refine acall_rule env [0, 1, 4, 5, 6, 7, 8, 18, 24] Tryz.func98 rfl rfl rfl rfl ?_
  conv => whnf
  refine sumi64 (n + m) (by omega) (by omega) ?_
  conv => whnf
  refine ⟨(by (try simp only [true_and, and_true, Nat.sub_zero, Nat.zero_add, Int.toNat_natCast]) <;> omega), ?_⟩
  conv => whnf
  refine loop_mod [0, 1, 5, 6] [14] [5] [14]
    (fun μ fr hp => ∃ (h : Nat → Nat) (i : Nat), fr = [(0, raw (digit A) n), (1, raw (digit B) m), (5, .lsl 14 1 1 0 (n + m) (some (n + m))), (6, .f (.int .i64 i))] ∧ hp = [(14, 1, .fa 1 (n + m) (fun j => [.int .u32 (h j : Nat)]))] ∧ μ = n - i ∧ i ≤ n ∧ Dig h (n + m) ∧ nval h (n + m) = A % pw i * B)
    (fun e fr hp => e = .exit 0 ∧ ∃ h : Nat → Nat, fr = [(5, .lsl 14 1 1 0 (n + m) (some (n + m)))] ∧ hp = [(14, 1, .fa 1 (n + m) (fun j => [.int .u32 (h j : Nat)]))] ∧ Dig h (n + m) ∧ nval h (n + m) = A * B)
    ⟨_, _, _, _, rfl, .refl _, fun _ => 0, 0, rfl, rfl, rfl, Nat.zero_le _, fun j hj => by simp, ?_⟩ ?_ ?_
  · have : ∀ n, nval (fun _ => 0) n = 0 := fun n => by induction n with | zero => rfl | succ n ih => rw [nval_succ, ih, Nat.zero_mul]
    simp [pw_zero, Nat.mod_one, this]
  · rintro _ _ _ ⟨rfl, h, rfl, rfl, g2, g3⟩
    have hv := refTrim_ok _ (n + m) g2 (by omega)
    rw [g3] at hv
    conv => whnf
    refine callF hv ⟨.raw_refl, trivial⟩ (by (try simp only [true_and, and_true, Nat.sub_zero, Nat.zero_add, Int.toNat_natCast]) <;> omega) rfl ?_
    conv => whnf
    refine ⟨(by (try simp only [true_and, and_true, Nat.sub_zero, Nat.zero_add, Int.toNat_natCast]) <;> omega), ?_⟩
    exact .refl _
  rintro _ _ _ ⟨h, i, rfl, rfl, rfl, g1, g2, g3⟩
  conv => whnf
  refine spl (fun h3 => ?_) (fun h3 => ?_) <;> simp only [decide_eq_true_eq, decide_eq_false_iff_not, Bool.not_eq_true', Bool.not_eq_false', gt_iff_lt, ge_iff_le] at h3
  · have hx := digit_lt A i
    have hz := mul_zero_at2 hB g2 g3 (by omega)
    conv => whnf
    refine loop_mod [0, 1, 5, 6, 7, 8] [14] [0, 1, 5, 6, 7] [14]
      (fun μ fr hp => ∃ (f : Nat → Nat) (c k : Nat), fr = [(0, raw (digit A) n), (1, raw (digit B) m), (5, .lsl 14 1 1 0 (n + m) (some (n + m))), (6, .f (.int .i64 i)), (7, .f (.int .u64 c)), (8, .f (.int .i64 k))] ∧ hp = [(14, 1, .fa 1 (n + m) (fun j => [.int .u32 (f j : Nat)]))] ∧
        μ = m - k ∧ k ≤ m ∧ Dig f (n + m) ∧ c < 4294967296 ∧ f (i + m) = 0 ∧ nval f (n + m) + c * pw (i + k) = A % pw i * B + digit A i * (B % pw k) * pw i)
      (fun e fr hp => e = .exit 2 ∧ ∃ (f : Nat → Nat) (c : Nat), fr = [(0, raw (digit A) n), (1, raw (digit B) m), (5, .lsl 14 1 1 0 (n + m) (some (n + m))), (6, .f (.int .i64 i)), (7, .f (.int .u64 c))] ∧ hp = [(14, 1, .fa 1 (n + m) (fun j => [.int .u32 (f j : Nat)]))] ∧
        Dig f (n + m) ∧ c < 4294967296 ∧ f (i + m) = 0 ∧ nval f (n + m) + c * pw (i + m) = A % pw i * B + digit A i * (B % pw m) * pw i)
      ⟨_, _, _, _, rfl, .refl _, h, 0, 0, rfl, rfl, rfl, Nat.zero_le _, g2, by simp, hz, by simp [pw_zero, Nat.mod_one, g3]⟩ ?_ ?_
    · rintro _ _ _ ⟨rfl, f, c, rfl, rfl, f2, f3, f4, f5⟩
      have hstep := mul_outer2 (h := f) (A := A) (c := c) hB (by omega) f4 f5
      conv => whnf
      refine sumi64 (i + m) (by omega) (by omega) ?_
      conv => whnf
      refine sumu32 c rfl (by omega) ?_
      conv => whnf
      refine ⟨(by (try simp only [true_and, and_true, Nat.sub_zero, Nat.zero_add, Int.toNat_natCast]) <;> omega), ?_⟩
      conv => whnf
      refine ⟨(by (try simp only [true_and, and_true, Nat.sub_zero, Nat.zero_add, Int.toNat_natCast]) <;> omega), ?_⟩
      conv => whnf
      refine sumi64 (i + 1) (by omega) (by omega) ?_
      conv => whnf
      refine ⟨_, ?_, _, _, _, rfl, ?_, fun j => if j = i + m then c else f j, i + 1, rfl, rfl, rfl, by omega, Dig_set f2 f3, hstep⟩
      · omega
      · exact ⟨⟨rfl, rfl⟩, .set (by omega) rfl, trivial⟩
    rintro _ _ _ ⟨f, c, k, rfl, rfl, rfl, f1, f2, f3, f4, f5⟩
    conv => whnf
    refine spl (fun h4 => ?_) (fun h4 => ?_) <;> simp only [decide_eq_true_eq, decide_eq_false_iff_not, Bool.not_eq_true', Bool.not_eq_false', gt_iff_lt, ge_iff_le] at h4
    · have hy := digit_lt B k
      have hw := f2 (i + k) (by omega)
      have hb := mul_bound hx hy hw f3
      have hb2 := mul_bound2 hx hy
      conv => whnf
      refine sumi64 (i + k) (by omega) (by omega) ?_
      conv => whnf
      refine ⟨(by (try simp only [true_and, and_true, Nat.sub_zero, Nat.zero_add, Int.toNat_natCast]) <;> omega), ?_⟩
      conv => whnf
      refine ⟨(by (try simp only [true_and, and_true, Nat.sub_zero, Nat.zero_add, Int.toNat_natCast]) <;> omega), ?_⟩
      conv => whnf
      refine sumu64 (f (i + k)) (congrArg (fun t => ((f t : Nat) : Int)) (by omega)) (by omega) ?_
      conv => whnf
      refine ⟨(by (try simp only [true_and, and_true, Nat.sub_zero, Nat.zero_add, Int.toNat_natCast]) <;> omega), ?_⟩
      conv => whnf
      refine sumu64 (digit A i) rfl (by omega) ?_
      conv => whnf
      refine ⟨(by (try simp only [true_and, and_true, Nat.sub_zero, Nat.zero_add, Int.toNat_natCast]) <;> omega), ?_⟩
      conv => whnf
      refine sumu64 (digit B k) rfl (by omega) ?_
      conv => whnf
      refine sumu64 (digit A i * digit B k) (by rw [Int.natCast_mul]) (by omega) ?_
      conv => whnf
      refine sumu64 (f (i + k) + digit A i * digit B k) (by omega) (by omega) ?_
      conv => whnf
      refine sumu64 (c + (f (i + k) + digit A i * digit B k)) (by omega) (by omega) ?_
      conv => whnf
      refine ⟨by kernel_rfl, ?_⟩
      have hstep := mul_inner (h := f) (B := B) (c := c) (i := i) (k := k) (N := n + m) (x := digit A i) (by omega) f5 (s := c + (f (i + k) + digit A i * digit B k)) (by omega)
      generalize hs : c + (f (i + k) + digit A i * digit B k) = s at hstep ⊢
      conv => whnf
      refine sumi64 (i + k) (by omega) (by omega) ?_
      conv => whnf
      refine lowu32 ?_
      conv => whnf
      refine ⟨(by (try simp only [true_and, and_true, Nat.sub_zero, Nat.zero_add, Int.toNat_natCast]) <;> omega), ?_⟩
      conv => whnf
      refine ⟨(by (try simp only [true_and, and_true, Nat.sub_zero, Nat.zero_add, Int.toNat_natCast]) <;> omega), ?_⟩
      conv => whnf
      refine ⟨(by (try simp only [true_and, and_true, Nat.sub_zero, Nat.zero_add, Int.toNat_natCast]) <;> omega), ?_⟩
      conv => whnf
      refine shr32 (by decide) ?_
      conv => whnf
      refine sumi64 (k + 1) (by omega) (by omega) ?_
      conv => whnf
      refine ⟨_, ?_, _, _, _, rfl, ?_, fun j => if j = i + k then s % 4294967296 else f j, s / 4294967296, k + 1, rfl, rfl, rfl, by omega, Dig_set f2 (Nat.mod_lt _ (by decide)), by omega, (if_neg (by omega)).trans f4, hstep⟩
      · omega
      · exact ⟨⟨rfl, rfl⟩, .set (by omega) rfl, trivial⟩
    · have hk : k = m := by omega
      subst hk
      conv => whnf
      exact ⟨_, _, _, rfl, .refl _, rfl, f, c, rfl, rfl, f2, f3, f4, f5⟩
  · have hk : i = n := by omega
    subst hk
    rw [mod_size hA] at g3
    conv => whnf
    exact ⟨_, _, _, rfl, .refl _, rfl, h, rfl, rfl, g2, g3⟩

theorem refMul_ok (g h : Nat → Nat) (n m : Nat) (hg : Dig g n) (hh : Dig h m) (hn : n + m ≤ 4398046511104) :
    ACall Tryz.prog 98 [raw g n, raw h m] (nat (nval g n * nval h m)) :=
  (refMul_aux _ _ n m (size_nval hg) (size_nval hh) hn).args ⟨raw_le hg, raw_le hh, trivial⟩
end Go.Abs

/- The reference's natural numbers: bit, Bits, DivMod, GCD. -/
set_option autoImplicit false
set_option maxHeartbeats 4000000
set_option linter.unusedVariables false
set_option linter.unusedSimpArgs false
namespace Go.Abs
open Go Go.Proofs

theorem refbit_ok (g : Nat → Nat) (n i : Nat) (hg : Dig g n) (hi : i < 4611686018427387904) : ACall Tryz.prog 145 [raw g n, .f (.int .i64 i)] (.f (.int .u32 (nval g n / 2 ^ i % 2 : Nat))) := by
  have hA := nval_lt hg
  have hdg := digit_nval hg
  refine acall_rule env [0, 1, 4, 9] Tryz.func145 rfl rfl rfl rfl ?_
  conv => whnf
  refine ⟨(by (try simp only [true_and, and_true, Nat.sub_zero, Nat.zero_add, Int.toNat_natCast]) <;> omega), ?_⟩
  conv => whnf
  refine quoi64 (b := 32) (by omega) ?_
  conv => whnf
  refine spl (fun h1 => ?_) (fun h1 => ?_) <;> simp only [decide_eq_true_eq, decide_eq_false_iff_not, Bool.not_eq_true', Bool.not_eq_false', gt_iff_lt, ge_iff_le] at h1
  · conv => whnf
    refine ⟨(by (try simp only [true_and, and_true, Nat.sub_zero, Nat.zero_add, Int.toNat_natCast]) <;> omega), ?_⟩
    refine .int_of ?_
    rw [bit_high hA (by omega)]; rfl
  · have h2 : i / 32 < n := by omega
    have e := bit_digit (nval g n) i
    rw [hdg, if_pos h2] at e
    have hgi := hg _ h2
    conv => whnf
    refine ⟨(by (try simp only [true_and, and_true, Nat.sub_zero, Nat.zero_add, Int.toNat_natCast]) <;> omega), ?_⟩
    conv => whnf
    refine quoi64 (b := 32) (by omega) ?_
    conv => whnf
    refine ⟨(by (try simp only [true_and, and_true, Nat.sub_zero, Nat.zero_add, Int.toNat_natCast]) <;> omega), ?_⟩
    conv => whnf
    refine ⟨(by (try simp only [true_and, and_true, Nat.sub_zero, Nat.zero_add, Int.toNat_natCast]) <;> omega), ?_⟩
    conv => whnf
    refine remN (b := 32) ?_
    conv => whnf
    refine sumu64 (i % 32) rfl (by omega) ?_
    conv => whnf
    refine ⟨(by (try simp only [true_and, and_true, Nat.sub_zero, Nat.zero_add, Int.toNat_natCast]) <;> omega), ?_⟩
    conv => whnf
    refine shrN (n := i % 32) rfl (show i % 32 ≤ 32 by omega) ?_
    conv => whnf
    have hle : g (i / 32) / 2 ^ (i % 32) ≤ g (i / 32) := Nat.div_le_self _ _
    refine andN (a := g (i / 32) / 2 ^ (i % 32)) (b := 1) (g (i / 32) / 2 ^ (i % 32) % 2) rfl (show _ < 4294967296 by omega) (by decide) (Nat.and_one_is_mod _) ?_
    conv => whnf
    refine ⟨(by (try simp only [true_and, and_true, Nat.sub_zero, Nat.zero_add, Int.toNat_natCast]) <;> omega), ?_⟩
    refine .int_of ?_
    rw [e]

theorem bitlen_half {v : Nat} (h : 0 < v) : bitlen v = bitlen (v / 2) + 1 := by
  rcases Nat.lt_or_ge v 2 with h1 | h1
  · have : v = 1 := by omega
    subst this; decide
  · exact bitlen_div 1 (by omega)

theorem refBits_ok (g : Nat → Nat) (n : Nat) (hg : Dig g n) (hn : n ≤ 4398046511104) : ACall Tryz.prog 144 [raw g n] (.f (.int .i64 (bitlen (nval g n)))) := by
  have hA := size_nval hg
  have va := refTrim_ok g n hg hn
  generalize nval g n = A at hA va ⊢
  refine acall_rule env [0, 2, 3, 4, 9, 21] Tryz.func144 rfl rfl rfl rfl ?_
  conv => whnf
  refine callF va ⟨.refl _, trivial⟩ (by trivial) rfl ?_
  conv => whnf
  refine spl (fun h1 => ?_) (fun h1 => ?_) <;> simp only [decide_eq_true_eq, decide_eq_false_iff_not, Bool.not_eq_true', Bool.not_eq_false', gt_iff_lt, ge_iff_le] at h1
  · have : A = 0 := size_eq_zero.1 (by omega)
    subst this
    conv => whnf
    refine ⟨(by (try simp only [true_and, and_true, Nat.sub_zero, Nat.zero_add, Int.toNat_natCast]) <;> omega), ?_⟩
    exact .refl _
  obtain ⟨k, hk⟩ : ∃ k, size A = k + 1 := ⟨size A - 1, by omega⟩
  have hb := bitlen_size hk
  have hd := digit_lt A k
  have hle := bitlen_le (N := digit A k) (k := 32) hd
  conv => whnf
  refine sumi64 k (by omega) (by omega) ?_
  conv => whnf
  refine sumi64 (32 * k) (by omega) (by omega) ?_
  conv => whnf
  refine sumi64 k (by omega) (by omega) ?_
  conv => whnf
  refine ⟨(by (try simp only [true_and, and_true, Nat.sub_zero, Nat.zero_add, Int.toNat_natCast]) <;> omega), ?_⟩
  conv => whnf
  refine loop_rule2 [3, 4] [] (fun s : Nat × Nat => ([(3, .f (.int .i64 (s.1 : Nat))), (4, .f (.int .u32 (s.2 : Nat)))], [])) (fun s => s.1 + bitlen s.2 = bitlen A ∧ s.2 < 4294967296) (fun s => s.2) (32 * k, digit A k) ⟨_, rfl, .refl _⟩ ⟨hb.symm, hd⟩ ?_
  rintro ⟨c, v⟩ ⟨i1, i2⟩
  simp only at i1 i2 ⊢
  conv => whnf
  refine spl (fun h2 => ?_) (fun h2 => ?_) <;> simp only [decide_eq_true_eq, decide_eq_false_iff_not, Bool.not_eq_true', Bool.not_eq_false', gt_iff_lt, ge_iff_le] at h2
  · have hh := bitlen_half (v := v) (by omega)
    have hv2 := bitlen_le (N := v) (k := 32) i2
    conv => whnf
    refine sumi64 (c + 1) (by omega) (by omega) ?_
    conv => whnf
    refine ⟨(by (try simp only [true_and, and_true, Nat.sub_zero, Nat.zero_add, Int.toNat_natCast]) <;> omega), ?_⟩
    conv => whnf
    refine shrN (n := 1) rfl (by decide) ?_
    conv => whnf
    exact ⟨(c + 1, v / 2 ^ 1), _, rfl, .refl _, ⟨by simp only [Nat.pow_one]; omega, by simp only [Nat.pow_one]; omega⟩, by simp only [Nat.pow_one]; omega⟩
  · have : v = 0 := by omega
    subst this
    conv => whnf
    refine ⟨(by (try simp only [true_and, and_true, Nat.sub_zero, Nat.zero_add, Int.toNat_natCast]) <;> omega), ?_⟩
    refine .int_of ?_
    have : bitlen 0 = 0 := rfl
    omega
end Go.Abs

/- awake, and Equal of canonical lists. -/
set_option autoImplicit false
set_option maxHeartbeats 4000000
set_option linter.unusedVariables false
set_option linter.unusedSimpArgs false
namespace Go.Abs
open Go Go.Proofs

def lim (l : List Nat) (j : Nat) : Nat := l.getD j 0

theorem refEqual_nn (A B : Nat) (h : size A ≤ 4398046511104) : ACall Tryz.prog 93 [nat A, nat B] (.f (.bool (decide (A = B)))) := by
  have := refEqual_ok (digit A) (digit B) (size A) (size B) (digit_Dig _ _) (digit_Dig _ _) h
  rw [nval_digit_size, nval_digit_size] at this
  refine this.res (.bool_of ?_)
  by_cases e : A = B
  · subst e; simp
  · simp [e]
theorem refEqual_same (A : Nat) (h : size A ≤ 4398046511104) : ACall Tryz.prog 93 [nat A, nat A] (.f (.bool true)) := by
  have := refEqual_nn A A h
  rwa [decide_eq_true rfl] at this
theorem refEqual_lit (N n : Nat) (l : List Nat) (hs : size N = n) (hg : Dig (lim l) n) (e : nval (lim l) n = N) (h : n ≤ 4398046511104) : ACall Tryz.prog 93 [nat N, raw (lim l) n] (.f (.bool true)) := by
  have := refEqual_ok (digit N) (lim l) (size N) n (digit_Dig _ _) hg (by omega)
  rw [nval_digit_size, e, decide_eq_true ⟨hs, rfl⟩] at this
  exact this

end Go.Abs

/- The laws of natural numbers, as contracts: Values, Sums, Ring. -/
set_option autoImplicit false
set_option maxHeartbeats 4000000
set_option linter.unusedVariables false
set_option linter.unusedSimpArgs false
namespace Go.Abs
open Go Go.Proofs

theorem nat_call {f : FuncId} {A : Nat} {r : AV} (h : ∀ (g : Nat → Nat) (n : Nat), Dig g n → size (nval g n) = n → n = size A → nval g n = A → ACall Tryz.prog f [raw g n] r) : ACall Tryz.prog f [nat A] r :=
  h (digit A) (size A) (digit_Dig _ _) (by rw [nval_digit_size]) rfl (nval_digit_size A)

end Go.Abs

/- The laws of natural numbers, as contracts: Ring. -/
set_option autoImplicit false
set_option maxHeartbeats 4000000
set_option linter.unusedVariables false
set_option linter.unusedSimpArgs false
namespace Go.Abs
open Go Go.Proofs

theorem size_add {A B N : Nat} (hA : size A ≤ N) (hB : size B ≤ N) : size (A + B) ≤ N + 1 := by
  apply size_le
  have h1 := Nat.lt_of_lt_of_le (lt_pw_size A) (pw_le hA)
  have h2 := Nat.lt_of_lt_of_le (lt_pw_size B) (pw_le hB)
  rw [pw_succ]; omega
theorem size_mul {A B n m : Nat} (hA : size A ≤ n) (hB : size B ≤ m) : size (A * B) ≤ n + m := by
  apply size_le
  have h1 := Nat.lt_of_lt_of_le (lt_pw_size A) (pw_le hA)
  have h2 := Nat.lt_of_lt_of_le (lt_pw_size B) (pw_le hB)
  rw [pw_add]
  exact Nat.lt_of_le_of_lt (Nat.mul_le_mul_left _ (Nat.le_of_lt h2)) (Nat.mul_lt_mul_of_pos_right h1 (pw_pos m))

theorem Add_nr (A : Nat) (h : Nat → Nat) (m : Nat) (hA : size A < 4398046511104) (hh : Dig h m) (hm : m < 4398046511104) : ACall Tryz.prog 109 [nat A, raw h m] (nat (A + nval h m)) := by
  have := Add_ok (digit A) h (size A) m (digit_Dig _ _) hh hA hm
  rw [nval_digit_size] at this; exact this
theorem Add_rn (B : Nat) (g : Nat → Nat) (n : Nat) (hg : Dig g n) (hn : n < 4398046511104) (hB : size B < 4398046511104) : ACall Tryz.prog 109 [raw g n, nat B] (nat (nval g n + B)) := by
  have := Add_ok g (digit B) n (size B) hg (digit_Dig _ _) hn hB
  rw [nval_digit_size] at this; exact this
theorem Add_nn (A B : Nat) (hA : size A < 4398046511104) (hB : size B < 4398046511104) : ACall Tryz.prog 109 [nat A, nat B] (nat (A + B)) := by
  have := Add_nr A (digit B) (size B) hA (digit_Dig _ _) hB
  rw [nval_digit_size] at this; exact this
theorem Mul_nr (A : Nat) (h : Nat → Nat) (m : Nat) (hh : Dig h m) (hm : size A + m ≤ 4398046511104) : ACall Tryz.prog 121 [nat A, raw h m] (nat (A * nval h m)) := by
  have := Mul_ok (digit A) h (size A) m (digit_Dig _ _) hh hm
  rw [nval_digit_size] at this; exact this
theorem Mul_rn (B : Nat) (g : Nat → Nat) (n : Nat) (hg : Dig g n) (hn : n + size B ≤ 4398046511104) : ACall Tryz.prog 121 [raw g n, nat B] (nat (nval g n * B)) := by
  have := Mul_ok g (digit B) n (size B) hg (digit_Dig _ _) hn
  rw [nval_digit_size] at this; exact this

end Go.Abs

/- The reference's natural numbers: DivMod, GCD. -/
set_option autoImplicit false
set_option maxHeartbeats 4000000
set_option linter.unusedVariables false
set_option linter.unusedSimpArgs false
namespace Go.Abs
open Go Go.Proofs

theorem refAdd_nn (A B : Nat) (hA : size A < 4398046511104) (hB : size B < 4398046511104) : ACall Tryz.prog 96 [nat A, nat B] (nat (A + B)) := by
  have := refAdd_ok (digit A) (digit B) (size A) (size B) (digit_Dig _ _) (digit_Dig _ _) hA hB
  rw [nval_digit_size, nval_digit_size] at this; exact this
theorem refSub_nn (A B : Nat) (hA : size A ≤ 4398046511104) (hB : size B ≤ 4398046511104) : ACall Tryz.prog 97 [nat A, nat B] (if A < B then .tup [nat 0, .f (.bool false)] else .tup [nat (A - B), .f (.bool true)]) := by
  have := refSub_ok (digit A) (digit B) (size A) (size B) (digit_Dig _ _) (digit_Dig _ _) hA hB
  rw [nval_digit_size, nval_digit_size] at this; exact this
theorem refUint64_nn (A : Nat) (hA : size A ≤ 4398046511104) : ACall Tryz.prog 143 [nat A] (if A < 18446744073709551616 then .tup [.f (.int .u64 A), .f (.bool true)] else .tup [.f (.int .u64 0), .f (.bool false)]) := by
  have := refUint64_ok (digit A) (size A) (digit_Dig _ _) hA
  rw [nval_digit_size] at this; exact this
theorem refTrim_nn (A : Nat) (hA : size A ≤ 4398046511104) : ACall Tryz.prog 111 [nat A] (nat A) := by
  have := refTrim_ok (digit A) (size A) (digit_Dig _ _) hA
  rw [nval_digit_size] at this; exact this
theorem size_two {A : Nat} (h : A < 18446744073709551616) : size A ≤ 2 := size_le h

theorem ALe.of_eq {x y : AV} (h : x = y) : ALe x y := h ▸ .refl _
theorem lt_two_bitlen (A : Nat) : A < 2 ^ bitlen A := by
  unfold bitlen; split
  · rename_i h; subst h; decide
  · exact Nat.lt_log2_self


theorem refDivMod_ok (g h : Nat → Nat) (n m : Nat) (hg : Dig g n) (hh : Dig h m) (hn : n ≤ 4398046511000) (hm : m ≤ 4398046511000) :
    ACall Tryz.prog 125 [raw g n, raw h m] (divRes (nval g n) (nval h m)) := by
  have hA := size_nval hg
  have hB := size_nval hh
  have vb := refTrim_ok h m hh (by omega)
  have ua := refUint64_ok g n hg (by omega)
  have ba := refBits_ok g n hg (by omega)
  have bit := fun i hi => refbit_ok g n i hg hi
  have hAp := nval_lt hg
  have hbl := bitlen_le (N := nval g n) (k := 32 * n) (by rw [← pw_two]; exact hAp)
  generalize nval g n = A at *
  generalize nval h m = B at *
  have ub := refUint64_nn B (by omega)
  unfold divRes
  refine acall_rule env [0, 1, 4, 5, 6, 7, 8, 9, 10, 11, 12, 13, 18, 32, 48, 57, 67] Tryz.func125 rfl rfl rfl rfl ?_
  conv => whnf
  refine callF vb ⟨.refl _, trivial⟩ (by trivial) rfl ?_
  conv => whnf
  refine spl (fun h1 => ?_) (fun h1 => ?_) <;> simp only [decide_eq_true_eq, decide_eq_false_iff_not, Bool.not_eq_true', Bool.not_eq_false', gt_iff_lt, ge_iff_le] at h1
  · rw [if_pos (size_eq_zero.1 (by omega))]
    conv => whnf
    refine ⟨(by (try simp only [true_and, and_true, Nat.sub_zero, Nat.zero_add, Int.toNat_natCast]) <;> omega), ?_⟩
    exact .tup ⟨.nil_nat, .nil_nat, .refl _, trivial⟩
  have hB0 : 0 < B := by
    rcases Nat.eq_zero_or_pos B with h | h
    · exact absurd (size_eq_zero.2 h) (by omega)
    · exact h
  rw [if_neg (by omega)]
  by_cases a64 : A < 18446744073709551616
  · rw [if_pos a64] at ua
    by_cases b64 : B < 18446744073709551616
    · rw [if_pos b64] at ub
      have hq : A / B ≤ A := Nat.div_le_self _ _
      have hr : A % B < B := Nat.mod_lt _ hB0
      have fq := refFromUint64_ok (A / B) (by omega)
      have fr := refFromUint64_ok (A % B) (by omega)
      conv => whnf
      refine callF ua ⟨.refl _, trivial⟩ (by trivial) rfl ?_
      conv => whnf
      refine callF ub ⟨.refl _, trivial⟩ (by trivial) rfl ?_
      conv => whnf
      refine ⟨(by (try simp only [true_and, and_true, Nat.sub_zero, Nat.zero_add, Int.toNat_natCast]) <;> omega), ?_⟩
      conv => whnf
      refine quou64 (by omega) ?_
      conv => whnf
      refine callF fq ⟨.refl _, trivial⟩ (by trivial) rfl ?_
      conv => whnf
      refine ⟨(by (try simp only [true_and, and_true, Nat.sub_zero, Nat.zero_add, Int.toNat_natCast]) <;> omega), ?_⟩
      conv => whnf
      refine remN ?_
      conv => whnf
      refine callF fr ⟨.refl _, trivial⟩ (by trivial) rfl ?_
      conv => whnf
      refine ⟨by kernel_rfl, ?_⟩
      conv => whnf
      refine ⟨(by (try simp only [true_and, and_true, Nat.sub_zero, Nat.zero_add, Int.toNat_natCast]) <;> omega), ?_⟩
      exact .refl _
    · rw [if_neg b64] at ub
      conv => whnf
      refine callF ua ⟨.refl _, trivial⟩ (by trivial) rfl ?_
      conv => whnf
      refine callF ub ⟨.refl _, trivial⟩ (by trivial) rfl ?_
      conv => whnf
      refine ⟨(by (try simp only [true_and, and_true, Nat.sub_zero, Nat.zero_add, Int.toNat_natCast]) <;> omega), ?_⟩
      conv => whnf
      refine callB ba ⟨.refl _, trivial⟩ (by trivial) rfl ?_
      conv => whnf
      refine fit64 (by omega) ?_
      conv => whnf
      refine loop_ruleF [0, 1, 4, 5, 11] [43] (fun c : Nat => ([(0, raw g n), (1, nat B), (4, .lsl 43 1 1 0 n (some n)), (5, nat (A / 2 ^ c % B)), (11, .f (.int .i64 ((c : Int) - 1)))], [(43, 1, .fa 1 n (fun k => [.int .u32 (digit (A / 2 ^ c / B * 2 ^ c) k : Nat)]))])) (fun c => c ≤ bitlen A) (fun c => c) (bitlen A)
        ⟨_, _, rfl, ⟨rfl, .refl _, rfl, .refl _, rfl, .refl _, rfl, .f ?_, rfl, .refl _, trivial⟩, ⟨⟨rfl, rfl⟩, .fa fun k hk => ?_, trivial⟩⟩ (Nat.le_refl _) ?_
      · rw [Nat.div_eq_of_lt (lt_two_bitlen A), Nat.zero_mod]; exact .nil
      · rw [Nat.div_eq_of_lt (lt_two_bitlen A), Nat.zero_div, Nat.zero_mul]
        refine .one (.int_of ?_)
        simp [digit]
      intro c hc
      conv => whnf
      refine spl (fun h3 => ?_) (fun h3 => ?_) <;> simp only [decide_eq_true_eq, decide_eq_false_iff_not, Bool.not_eq_true', Bool.not_eq_false', gt_iff_lt, ge_iff_le] at h3
      · obtain ⟨e, he⟩ : ∃ e, c = e + 1 := ⟨c - 1, by omega⟩
        subst he
        have hstep := bin_step A B e hB0
        obtain ⟨R, hR⟩ : ∃ R, A / 2 ^ (e + 1) % B = R := ⟨_, rfl⟩
        obtain ⟨Q, hQ⟩ : ∃ Q, A / 2 ^ (e + 1) / B = Q := ⟨_, rfl⟩
        obtain ⟨b, hb⟩ : ∃ b, A / 2 ^ e % 2 = b := ⟨_, rfl⟩
        have hb2 : b < 2 := by rw [← hb]; exact Nat.mod_lt _ (by decide)
        have hRB : R < B := by rw [← hR]; exact Nat.mod_lt _ hB0
        have sR : size R ≤ size B := size_mono (Nat.le_of_lt hRB)
        have sR2 : size (R + R) ≤ size B + 1 := Nat.le_trans (size_mono (show R + R ≤ B + B by omega)) (size_add (Nat.le_refl _) (Nat.le_refl _))
        have ad := refAdd_nn R R (by omega) (by omega)
        have bt := bit e (by omega)
        rw [hb] at bt
        rw [hR, hQ, hb] at hstep
        rw [hR, hQ, show ((e + 1 : Nat) : Int) - 1 = (e : Int) by omega]
        have sb := set_bit Q e
        conv => whnf
        refine callF ad ⟨.refl _, .refl _, trivial⟩ (by trivial) rfl ?_
        conv => whnf
        refine callB bt ⟨.refl _, .int_of (by omega), trivial⟩ (by trivial) rfl ?_
        conv => whnf
        refine spl (fun h4 => ?_) (fun h4 => ?_) <;> simp only [decide_eq_true_eq, decide_eq_false_iff_not, Bool.not_eq_true', Bool.not_eq_false', gt_iff_lt, ge_iff_le] at h4
        · have hb1 : b = 1 := by omega
          subst hb1
          have ad1 := refAdd_ok (digit (R + R)) (lim [1]) (size (R + R)) 1 (digit_Dig _ _) (by unfold Dig; decide) (by omega) (by omega)
          rw [nval_digit_size, show nval (lim [1]) 1 = 1 by decide] at ad1
          have sR3 : size (R + R + 1) ≤ size B + 1 := Nat.le_trans (size_mono (show R + R + 1 ≤ B + B by omega)) (size_add (Nat.le_refl _) (Nat.le_refl _))
          have su := refSub_nn (R + R + 1) B (by omega) (by omega)
          conv => whnf
          refine callF ad1 ⟨.refl _, (.raw_of fun j hj => match j, hj with | 0, _ => rfl), trivial⟩ (by simp) rfl ?_
          conv => whnf
          by_cases hlt : R + R + 1 < B
          · rw [if_pos hlt] at su
            obtain ⟨q1, q2⟩ := hstep.2 (by omega)
            conv => whnf
            refine callF su ⟨.refl _, .refl _, trivial⟩ (by trivial) rfl ?_
            conv => whnf
            refine fit64 (by omega) ?_
            conv => whnf
            refine ⟨e, _, _, rfl, ⟨rfl, .refl _, rfl, .refl _, rfl, .refl _, rfl, ALe.of_eq (congrArg nat (by rw [q1]; omega)), rfl, .refl _, trivial⟩, ⟨⟨rfl, rfl⟩, .fa fun k hk => ?_, trivial⟩, by omega, by omega⟩
            rw [q2]; exact .one (.refl _)
          · rw [if_neg hlt] at su
            obtain ⟨q1, q2⟩ := hstep.1 (by omega)
            have hd := digit_lt (Q * 2 ^ (e + 1)) (e / 32)
            have hp2 : 2 ^ (e % 32) < 4294967296 := Nat.pow_lt_pow_right (show 1 < 2 by decide) (show e % 32 < 32 by omega)
            conv => whnf
            refine callF su ⟨.refl _, .refl _, trivial⟩ (by trivial) rfl ?_
            conv => whnf
            refine ⟨(by (try simp only [true_and, and_true, Nat.sub_zero, Nat.zero_add, Int.toNat_natCast]) <;> omega), ?_⟩
            conv => whnf
            refine quoi64 (b := 32) (by omega) ?_
            conv => whnf
            refine ⟨(by (try simp only [true_and, and_true, Nat.sub_zero, Nat.zero_add, Int.toNat_natCast]) <;> omega), ?_⟩
            conv => whnf
            refine ⟨(by (try simp only [true_and, and_true, Nat.sub_zero, Nat.zero_add, Int.toNat_natCast]) <;> omega), ?_⟩
            conv => whnf
            refine ⟨(by (try simp only [true_and, and_true, Nat.sub_zero, Nat.zero_add, Int.toNat_natCast]) <;> omega), ?_⟩
            conv => whnf
            refine remN (b := 32) ?_
            conv => whnf
            refine sumu64 (e % 32) rfl (by omega) ?_
            conv => whnf
            refine ⟨(by (try simp only [true_and, and_true, Nat.sub_zero, Nat.zero_add, Int.toNat_natCast]) <;> omega), ?_⟩
            conv => whnf
            rw [show 0 + Int.toNat ((e / 32 : Nat) : Int) = e / 32 by omega]
            refine shlN32 (a := 1) (n := e % 32) (2 ^ (e % 32)) rfl (by omega) (by rw [Nat.one_mul, Nat.mod_eq_of_lt hp2]) ?_
            conv => whnf
            refine orN (a := digit (Q * 2 ^ (e + 1)) (e / 32)) (digit (Q * 2 ^ (e + 1)) (e / 32) ||| 2 ^ (e % 32)) rfl (show _ < 4294967296 from hd) (show _ < 4294967296 from hp2) rfl ?_
            conv => whnf
            refine ⟨(by (try simp only [true_and, and_true, Nat.sub_zero, Nat.zero_add, Int.toNat_natCast]) <;> omega), ?_⟩
            conv => whnf
            refine ⟨(by (try simp only [true_and, and_true, Nat.sub_zero, Nat.zero_add, Int.toNat_natCast]) <;> omega), ?_⟩
            conv => whnf
            refine fit64 (by omega) ?_
            conv => whnf
            refine ⟨e, _, _, rfl, ⟨rfl, .refl _, rfl, .refl _, rfl, .refl _, rfl, ALe.of_eq (congrArg nat (by rw [q1]; omega)), rfl, .refl _, trivial⟩, ⟨⟨rfl, rfl⟩, .fa fun k hk => ?_, trivial⟩, by omega, by omega⟩
            rw [q2, upd_set (fun k => digit (Q * 2 ^ (e + 1)) k) _ _ _ rfl, sb k]
            refine .one (.int_of ?_)
            simp only [Nat.zero_add, Int.toNat_natCast]
        · have hb0 : b = 0 := by omega
          subst hb0
          have su := refSub_nn (R + R) B (by omega) (by omega)
          conv => whnf
          by_cases hlt : R + R < B
          · rw [if_pos hlt] at su
            obtain ⟨q1, q2⟩ := hstep.2 (by omega)
            conv => whnf
            refine callF su ⟨.refl _, .refl _, trivial⟩ (by trivial) rfl ?_
            conv => whnf
            refine fit64 (by omega) ?_
            conv => whnf
            refine ⟨e, _, _, rfl, ⟨rfl, .refl _, rfl, .refl _, rfl, .refl _, rfl, ALe.of_eq (congrArg nat (by rw [q1]; omega)), rfl, .refl _, trivial⟩, ⟨⟨rfl, rfl⟩, .fa fun k hk => ?_, trivial⟩, by omega, by omega⟩
            rw [q2]; exact .one (.refl _)
          · rw [if_neg hlt] at su
            obtain ⟨q1, q2⟩ := hstep.1 (by omega)
            have hd := digit_lt (Q * 2 ^ (e + 1)) (e / 32)
            have hp2 : 2 ^ (e % 32) < 4294967296 := Nat.pow_lt_pow_right (show 1 < 2 by decide) (show e % 32 < 32 by omega)
            conv => whnf
            refine callF su ⟨.refl _, .refl _, trivial⟩ (by trivial) rfl ?_
            conv => whnf
            refine ⟨(by (try simp only [true_and, and_true, Nat.sub_zero, Nat.zero_add, Int.toNat_natCast]) <;> omega), ?_⟩
            conv => whnf
            refine quoi64 (b := 32) (by omega) ?_
            conv => whnf
            refine ⟨(by (try simp only [true_and, and_true, Nat.sub_zero, Nat.zero_add, Int.toNat_natCast]) <;> omega), ?_⟩
            conv => whnf
            refine ⟨(by (try simp only [true_and, and_true, Nat.sub_zero, Nat.zero_add, Int.toNat_natCast]) <;> omega), ?_⟩
            conv => whnf
            refine ⟨(by (try simp only [true_and, and_true, Nat.sub_zero, Nat.zero_add, Int.toNat_natCast]) <;> omega), ?_⟩
            conv => whnf
            refine remN (b := 32) ?_
            conv => whnf
            refine sumu64 (e % 32) rfl (by omega) ?_
            conv => whnf
            refine ⟨(by (try simp only [true_and, and_true, Nat.sub_zero, Nat.zero_add, Int.toNat_natCast]) <;> omega), ?_⟩
            conv => whnf
            rw [show 0 + Int.toNat ((e / 32 : Nat) : Int) = e / 32 by omega]
            refine shlN32 (a := 1) (n := e % 32) (2 ^ (e % 32)) rfl (by omega) (by rw [Nat.one_mul, Nat.mod_eq_of_lt hp2]) ?_
            conv => whnf
            refine orN (a := digit (Q * 2 ^ (e + 1)) (e / 32)) (digit (Q * 2 ^ (e + 1)) (e / 32) ||| 2 ^ (e % 32)) rfl (show _ < 4294967296 from hd) (show _ < 4294967296 from hp2) rfl ?_
            conv => whnf
            refine ⟨(by (try simp only [true_and, and_true, Nat.sub_zero, Nat.zero_add, Int.toNat_natCast]) <;> omega), ?_⟩
            conv => whnf
            refine ⟨(by (try simp only [true_and, and_true, Nat.sub_zero, Nat.zero_add, Int.toNat_natCast]) <;> omega), ?_⟩
            conv => whnf
            refine fit64 (by omega) ?_
            conv => whnf
            refine ⟨e, _, _, rfl, ⟨rfl, .refl _, rfl, .refl _, rfl, .refl _, rfl, ALe.of_eq (congrArg nat (by rw [q1]; omega)), rfl, .refl _, trivial⟩, ⟨⟨rfl, rfl⟩, .fa fun k hk => ?_, trivial⟩, by omega, by omega⟩
            rw [q2, upd_set (fun k => digit (Q * 2 ^ (e + 1)) k) _ _ _ rfl, sb k]
            refine .one (.int_of ?_)
            simp only [Nat.zero_add, Int.toNat_natCast]
      · have : c = 0 := by omega
        subst this
        have v1 := refTrim_ok (digit (A / 2 ^ 0 / B * 2 ^ 0)) n (digit_Dig _ _) (by omega)
        have hq : size (A / B) ≤ n := Nat.le_trans (size_mono (Nat.div_le_self _ _)) hA
        have hr : size (A % B) ≤ size A := size_mono (Nat.mod_le _ _)
        rw [nval_digit, Nat.pow_zero, Nat.div_one, Nat.mul_one, mod_size hq] at v1
        have v2 := refTrim_nn (A % B) (by omega)
        rw [Nat.pow_zero, Nat.div_one, Nat.mul_one]
        conv => whnf
        refine callF v1 ⟨.raw_of (fun k hk => by simp only [Nat.zero_add]), trivial⟩ (by (try simp only [true_and, and_true, Nat.sub_zero, Nat.zero_add, Int.toNat_natCast]) <;> omega) rfl ?_
        conv => whnf
        refine callF v2 ⟨.refl _, trivial⟩ (by trivial) rfl ?_
        conv => whnf
        refine ⟨(by (try simp only [true_and, and_true, Nat.sub_zero, Nat.zero_add, Int.toNat_natCast]) <;> omega), ?_⟩
        exact .refl _
  · rw [if_neg a64] at ua
    by_cases b64 : B < 18446744073709551616
    · rw [if_pos b64] at ub
      conv => whnf
      refine callF ua ⟨.refl _, trivial⟩ (by trivial) rfl ?_
      conv => whnf
      refine callF ub ⟨.refl _, trivial⟩ (by trivial) rfl ?_
      conv => whnf
      refine ⟨(by (try simp only [true_and, and_true, Nat.sub_zero, Nat.zero_add, Int.toNat_natCast]) <;> omega), ?_⟩
      conv => whnf
      refine callB ba ⟨.refl _, trivial⟩ (by trivial) rfl ?_
      conv => whnf
      refine fit64 (by omega) ?_
      conv => whnf
      refine loop_ruleF [0, 1, 4, 5, 11] [43] (fun c : Nat => ([(0, raw g n), (1, nat B), (4, .lsl 43 1 1 0 n (some n)), (5, nat (A / 2 ^ c % B)), (11, .f (.int .i64 ((c : Int) - 1)))], [(43, 1, .fa 1 n (fun k => [.int .u32 (digit (A / 2 ^ c / B * 2 ^ c) k : Nat)]))])) (fun c => c ≤ bitlen A) (fun c => c) (bitlen A)
        ⟨_, _, rfl, ⟨rfl, .refl _, rfl, .refl _, rfl, .refl _, rfl, .f ?_, rfl, .refl _, trivial⟩, ⟨⟨rfl, rfl⟩, .fa fun k hk => ?_, trivial⟩⟩ (Nat.le_refl _) ?_
      · rw [Nat.div_eq_of_lt (lt_two_bitlen A), Nat.zero_mod]; exact .nil
      · rw [Nat.div_eq_of_lt (lt_two_bitlen A), Nat.zero_div, Nat.zero_mul]
        refine .one (.int_of ?_)
        simp [digit]
      intro c hc
      conv => whnf
      refine spl (fun h3 => ?_) (fun h3 => ?_) <;> simp only [decide_eq_true_eq, decide_eq_false_iff_not, Bool.not_eq_true', Bool.not_eq_false', gt_iff_lt, ge_iff_le] at h3
      · obtain ⟨e, he⟩ : ∃ e, c = e + 1 := ⟨c - 1, by omega⟩
        subst he
        have hstep := bin_step A B e hB0
        obtain ⟨R, hR⟩ : ∃ R, A / 2 ^ (e + 1) % B = R := ⟨_, rfl⟩
        obtain ⟨Q, hQ⟩ : ∃ Q, A / 2 ^ (e + 1) / B = Q := ⟨_, rfl⟩
        obtain ⟨b, hb⟩ : ∃ b, A / 2 ^ e % 2 = b := ⟨_, rfl⟩
        have hb2 : b < 2 := by rw [← hb]; exact Nat.mod_lt _ (by decide)
        have hRB : R < B := by rw [← hR]; exact Nat.mod_lt _ hB0
        have sR : size R ≤ size B := size_mono (Nat.le_of_lt hRB)
        have sR2 : size (R + R) ≤ size B + 1 := Nat.le_trans (size_mono (show R + R ≤ B + B by omega)) (size_add (Nat.le_refl _) (Nat.le_refl _))
        have ad := refAdd_nn R R (by omega) (by omega)
        have bt := bit e (by omega)
        rw [hb] at bt
        rw [hR, hQ, hb] at hstep
        rw [hR, hQ, show ((e + 1 : Nat) : Int) - 1 = (e : Int) by omega]
        have sb := set_bit Q e
        conv => whnf
        refine callF ad ⟨.refl _, .refl _, trivial⟩ (by trivial) rfl ?_
        conv => whnf
        refine callB bt ⟨.refl _, .int_of (by omega), trivial⟩ (by trivial) rfl ?_
        conv => whnf
        refine spl (fun h4 => ?_) (fun h4 => ?_) <;> simp only [decide_eq_true_eq, decide_eq_false_iff_not, Bool.not_eq_true', Bool.not_eq_false', gt_iff_lt, ge_iff_le] at h4
        · have hb1 : b = 1 := by omega
          subst hb1
          have ad1 := refAdd_ok (digit (R + R)) (lim [1]) (size (R + R)) 1 (digit_Dig _ _) (by unfold Dig; decide) (by omega) (by omega)
          rw [nval_digit_size, show nval (lim [1]) 1 = 1 by decide] at ad1
          have sR3 : size (R + R + 1) ≤ size B + 1 := Nat.le_trans (size_mono (show R + R + 1 ≤ B + B by omega)) (size_add (Nat.le_refl _) (Nat.le_refl _))
          have su := refSub_nn (R + R + 1) B (by omega) (by omega)
          conv => whnf
          refine callF ad1 ⟨.refl _, (.raw_of fun j hj => match j, hj with | 0, _ => rfl), trivial⟩ (by simp) rfl ?_
          conv => whnf
          by_cases hlt : R + R + 1 < B
          · rw [if_pos hlt] at su
            obtain ⟨q1, q2⟩ := hstep.2 (by omega)
            conv => whnf
            refine callF su ⟨.refl _, .refl _, trivial⟩ (by trivial) rfl ?_
            conv => whnf
            refine fit64 (by omega) ?_
            conv => whnf
            refine ⟨e, _, _, rfl, ⟨rfl, .refl _, rfl, .refl _, rfl, .refl _, rfl, ALe.of_eq (congrArg nat (by rw [q1]; omega)), rfl, .refl _, trivial⟩, ⟨⟨rfl, rfl⟩, .fa fun k hk => ?_, trivial⟩, by omega, by omega⟩
            rw [q2]; exact .one (.refl _)
          · rw [if_neg hlt] at su
            obtain ⟨q1, q2⟩ := hstep.1 (by omega)
            have hd := digit_lt (Q * 2 ^ (e + 1)) (e / 32)
            have hp2 : 2 ^ (e % 32) < 4294967296 := Nat.pow_lt_pow_right (show 1 < 2 by decide) (show e % 32 < 32 by omega)
            conv => whnf
            refine callF su ⟨.refl _, .refl _, trivial⟩ (by trivial) rfl ?_
            conv => whnf
            refine ⟨(by (try simp only [true_and, and_true, Nat.sub_zero, Nat.zero_add, Int.toNat_natCast]) <;> omega), ?_⟩
            conv => whnf
            refine quoi64 (b := 32) (by omega) ?_
            conv => whnf
            refine ⟨(by (try simp only [true_and, and_true, Nat.sub_zero, Nat.zero_add, Int.toNat_natCast]) <;> omega), ?_⟩
            conv => whnf
            refine ⟨(by (try simp only [true_and, and_true, Nat.sub_zero, Nat.zero_add, Int.toNat_natCast]) <;> omega), ?_⟩
            conv => whnf
            refine ⟨(by (try simp only [true_and, and_true, Nat.sub_zero, Nat.zero_add, Int.toNat_natCast]) <;> omega), ?_⟩
            conv => whnf
            refine remN (b := 32) ?_
            conv => whnf
            refine sumu64 (e % 32) rfl (by omega) ?_
            conv => whnf
            refine ⟨(by (try simp only [true_and, and_true, Nat.sub_zero, Nat.zero_add, Int.toNat_natCast]) <;> omega), ?_⟩
            conv => whnf
            rw [show 0 + Int.toNat ((e / 32 : Nat) : Int) = e / 32 by omega]
            refine shlN32 (a := 1) (n := e % 32) (2 ^ (e % 32)) rfl (by omega) (by rw [Nat.one_mul, Nat.mod_eq_of_lt hp2]) ?_
            conv => whnf
            refine orN (a := digit (Q * 2 ^ (e + 1)) (e / 32)) (digit (Q * 2 ^ (e + 1)) (e / 32) ||| 2 ^ (e % 32)) rfl (show _ < 4294967296 from hd) (show _ < 4294967296 from hp2) rfl ?_
            conv => whnf
            refine ⟨(by (try simp only [true_and, and_true, Nat.sub_zero, Nat.zero_add, Int.toNat_natCast]) <;> omega), ?_⟩
            conv => whnf
            refine ⟨(by (try simp only [true_and, and_true, Nat.sub_zero, Nat.zero_add, Int.toNat_natCast]) <;> omega), ?_⟩
            conv => whnf
            refine fit64 (by omega) ?_
            conv => whnf
            refine ⟨e, _, _, rfl, ⟨rfl, .refl _, rfl, .refl _, rfl, .refl _, rfl, ALe.of_eq (congrArg nat (by rw [q1]; omega)), rfl, .refl _, trivial⟩, ⟨⟨rfl, rfl⟩, .fa fun k hk => ?_, trivial⟩, by omega, by omega⟩
            rw [q2, upd_set (fun k => digit (Q * 2 ^ (e + 1)) k) _ _ _ rfl, sb k]
            refine .one (.int_of ?_)
            simp only [Nat.zero_add, Int.toNat_natCast]
        · have hb0 : b = 0 := by omega
          subst hb0
          have su := refSub_nn (R + R) B (by omega) (by omega)
          conv => whnf
          by_cases hlt : R + R < B
          · rw [if_pos hlt] at su
            obtain ⟨q1, q2⟩ := hstep.2 (by omega)
            conv => whnf
            refine callF su ⟨.refl _, .refl _, trivial⟩ (by trivial) rfl ?_
            conv => whnf
            refine fit64 (by omega) ?_
            conv => whnf
            refine ⟨e, _, _, rfl, ⟨rfl, .refl _, rfl, .refl _, rfl, .refl _, rfl, ALe.of_eq (congrArg nat (by rw [q1]; omega)), rfl, .refl _, trivial⟩, ⟨⟨rfl, rfl⟩, .fa fun k hk => ?_, trivial⟩, by omega, by omega⟩
            rw [q2]; exact .one (.refl _)
          · rw [if_neg hlt] at su
            obtain ⟨q1, q2⟩ := hstep.1 (by omega)
            have hd := digit_lt (Q * 2 ^ (e + 1)) (e / 32)
            have hp2 : 2 ^ (e % 32) < 4294967296 := Nat.pow_lt_pow_right (show 1 < 2 by decide) (show e % 32 < 32 by omega)
            conv => whnf
            refine callF su ⟨.refl _, .refl _, trivial⟩ (by trivial) rfl ?_
            conv => whnf
            refine ⟨(by (try simp only [true_and, and_true, Nat.sub_zero, Nat.zero_add, Int.toNat_natCast]) <;> omega), ?_⟩
            conv => whnf
            refine quoi64 (b := 32) (by omega) ?_
            conv => whnf
            refine ⟨(by (try simp only [true_and, and_true, Nat.sub_zero, Nat.zero_add, Int.toNat_natCast]) <;> omega), ?_⟩
            conv => whnf
            refine ⟨(by (try simp only [true_and, and_true, Nat.sub_zero, Nat.zero_add, Int.toNat_natCast]) <;> omega), ?_⟩
            conv => whnf
            refine ⟨(by (try simp only [true_and, and_true, Nat.sub_zero, Nat.zero_add, Int.toNat_natCast]) <;> omega), ?_⟩
            conv => whnf
            refine remN (b := 32) ?_
            conv => whnf
            refine sumu64 (e % 32) rfl (by omega) ?_
            conv => whnf
            refine ⟨(by (try simp only [true_and, and_true, Nat.sub_zero, Nat.zero_add, Int.toNat_natCast]) <;> omega), ?_⟩
            conv => whnf
            rw [show 0 + Int.toNat ((e / 32 : Nat) : Int) = e / 32 by omega]
            refine shlN32 (a := 1) (n := e % 32) (2 ^ (e % 32)) rfl (by omega) (by rw [Nat.one_mul, Nat.mod_eq_of_lt hp2]) ?_
            conv => whnf
            refine orN (a := digit (Q * 2 ^ (e + 1)) (e / 32)) (digit (Q * 2 ^ (e + 1)) (e / 32) ||| 2 ^ (e % 32)) rfl (show _ < 4294967296 from hd) (show _ < 4294967296 from hp2) rfl ?_
            conv => whnf
            refine ⟨(by (try simp only [true_and, and_true, Nat.sub_zero, Nat.zero_add, Int.toNat_natCast]) <;> omega), ?_⟩
            conv => whnf
            refine ⟨(by (try simp only [true_and, and_true, Nat.sub_zero, Nat.zero_add, Int.toNat_natCast]) <;> omega), ?_⟩
            conv => whnf
            refine fit64 (by omega) ?_
            conv => whnf
            refine ⟨e, _, _, rfl, ⟨rfl, .refl _, rfl, .refl _, rfl, .refl _, rfl, ALe.of_eq (congrArg nat (by rw [q1]; omega)), rfl, .refl _, trivial⟩, ⟨⟨rfl, rfl⟩, .fa fun k hk => ?_, trivial⟩, by omega, by omega⟩
            rw [q2, upd_set (fun k => digit (Q * 2 ^ (e + 1)) k) _ _ _ rfl, sb k]
            refine .one (.int_of ?_)
            simp only [Nat.zero_add, Int.toNat_natCast]
      · have : c = 0 := by omega
        subst this
        have v1 := refTrim_ok (digit (A / 2 ^ 0 / B * 2 ^ 0)) n (digit_Dig _ _) (by omega)
        have hq : size (A / B) ≤ n := Nat.le_trans (size_mono (Nat.div_le_self _ _)) hA
        have hr : size (A % B) ≤ size A := size_mono (Nat.mod_le _ _)
        rw [nval_digit, Nat.pow_zero, Nat.div_one, Nat.mul_one, mod_size hq] at v1
        have v2 := refTrim_nn (A % B) (by omega)
        rw [Nat.pow_zero, Nat.div_one, Nat.mul_one]
        conv => whnf
        refine callF v1 ⟨.raw_of (fun k hk => by simp only [Nat.zero_add]), trivial⟩ (by (try simp only [true_and, and_true, Nat.sub_zero, Nat.zero_add, Int.toNat_natCast]) <;> omega) rfl ?_
        conv => whnf
        refine callF v2 ⟨.refl _, trivial⟩ (by trivial) rfl ?_
        conv => whnf
        refine ⟨(by (try simp only [true_and, and_true, Nat.sub_zero, Nat.zero_add, Int.toNat_natCast]) <;> omega), ?_⟩
        exact .refl _
    · rw [if_neg b64] at ub
      conv => whnf
      refine callF ua ⟨.refl _, trivial⟩ (by trivial) rfl ?_
      conv => whnf
      refine callF ub ⟨.refl _, trivial⟩ (by trivial) rfl ?_
      conv => whnf
      refine ⟨(by (try simp only [true_and, and_true, Nat.sub_zero, Nat.zero_add, Int.toNat_natCast]) <;> omega), ?_⟩
      conv => whnf
      refine callB ba ⟨.refl _, trivial⟩ (by trivial) rfl ?_
      conv => whnf
      refine fit64 (by omega) ?_
      conv => whnf
      refine loop_ruleF [0, 1, 4, 5, 11] [43] (fun c : Nat => ([(0, raw g n), (1, nat B), (4, .lsl 43 1 1 0 n (some n)), (5, nat (A / 2 ^ c % B)), (11, .f (.int .i64 ((c : Int) - 1)))], [(43, 1, .fa 1 n (fun k => [.int .u32 (digit (A / 2 ^ c / B * 2 ^ c) k : Nat)]))])) (fun c => c ≤ bitlen A) (fun c => c) (bitlen A)
        ⟨_, _, rfl, ⟨rfl, .refl _, rfl, .refl _, rfl, .refl _, rfl, .f ?_, rfl, .refl _, trivial⟩, ⟨⟨rfl, rfl⟩, .fa fun k hk => ?_, trivial⟩⟩ (Nat.le_refl _) ?_
      · rw [Nat.div_eq_of_lt (lt_two_bitlen A), Nat.zero_mod]; exact .nil
      · rw [Nat.div_eq_of_lt (lt_two_bitlen A), Nat.zero_div, Nat.zero_mul]
        refine .one (.int_of ?_)
        simp [digit]
      intro c hc
      conv => whnf
      refine spl (fun h3 => ?_) (fun h3 => ?_) <;> simp only [decide_eq_true_eq, decide_eq_false_iff_not, Bool.not_eq_true', Bool.not_eq_false', gt_iff_lt, ge_iff_le] at h3
      · obtain ⟨e, he⟩ : ∃ e, c = e + 1 := ⟨c - 1, by omega⟩
        subst he
        have hstep := bin_step A B e hB0
        obtain ⟨R, hR⟩ : ∃ R, A / 2 ^ (e + 1) % B = R := ⟨_, rfl⟩
        obtain ⟨Q, hQ⟩ : ∃ Q, A / 2 ^ (e + 1) / B = Q := ⟨_, rfl⟩
        obtain ⟨b, hb⟩ : ∃ b, A / 2 ^ e % 2 = b := ⟨_, rfl⟩
        have hb2 : b < 2 := by rw [← hb]; exact Nat.mod_lt _ (by decide)
        have hRB : R < B := by rw [← hR]; exact Nat.mod_lt _ hB0
        have sR : size R ≤ size B := size_mono (Nat.le_of_lt hRB)
        have sR2 : size (R + R) ≤ size B + 1 := Nat.le_trans (size_mono (show R + R ≤ B + B by omega)) (size_add (Nat.le_refl _) (Nat.le_refl _))
        have ad := refAdd_nn R R (by omega) (by omega)
        have bt := bit e (by omega)
        rw [hb] at bt
        rw [hR, hQ, hb] at hstep
        rw [hR, hQ, show ((e + 1 : Nat) : Int) - 1 = (e : Int) by omega]
        have sb := set_bit Q e
        conv => whnf
        refine callF ad ⟨.refl _, .refl _, trivial⟩ (by trivial) rfl ?_
        conv => whnf
        refine callB bt ⟨.refl _, .int_of (by omega), trivial⟩ (by trivial) rfl ?_
        conv => whnf
        refine spl (fun h4 => ?_) (fun h4 => ?_) <;> simp only [decide_eq_true_eq, decide_eq_false_iff_not, Bool.not_eq_true', Bool.not_eq_false', gt_iff_lt, ge_iff_le] at h4
        · have hb1 : b = 1 := by omega
          subst hb1
          have ad1 := refAdd_ok (digit (R + R)) (lim [1]) (size (R + R)) 1 (digit_Dig _ _) (by unfold Dig; decide) (by omega) (by omega)
          rw [nval_digit_size, show nval (lim [1]) 1 = 1 by decide] at ad1
          have sR3 : size (R + R + 1) ≤ size B + 1 := Nat.le_trans (size_mono (show R + R + 1 ≤ B + B by omega)) (size_add (Nat.le_refl _) (Nat.le_refl _))
          have su := refSub_nn (R + R + 1) B (by omega) (by omega)
          conv => whnf
          refine callF ad1 ⟨.refl _, (.raw_of fun j hj => match j, hj with | 0, _ => rfl), trivial⟩ (by simp) rfl ?_
          conv => whnf
          by_cases hlt : R + R + 1 < B
          · rw [if_pos hlt] at su
            obtain ⟨q1, q2⟩ := hstep.2 (by omega)
            conv => whnf
            refine callF su ⟨.refl _, .refl _, trivial⟩ (by trivial) rfl ?_
            conv => whnf
            refine fit64 (by omega) ?_
            conv => whnf
            refine ⟨e, _, _, rfl, ⟨rfl, .refl _, rfl, .refl _, rfl, .refl _, rfl, ALe.of_eq (congrArg nat (by rw [q1]; omega)), rfl, .refl _, trivial⟩, ⟨⟨rfl, rfl⟩, .fa fun k hk => ?_, trivial⟩, by omega, by omega⟩
            rw [q2]; exact .one (.refl _)
          · rw [if_neg hlt] at su
            obtain ⟨q1, q2⟩ := hstep.1 (by omega)
            have hd := digit_lt (Q * 2 ^ (e + 1)) (e / 32)
            have hp2 : 2 ^ (e % 32) < 4294967296 := Nat.pow_lt_pow_right (show 1 < 2 by decide) (show e % 32 < 32 by omega)
            conv => whnf
            refine callF su ⟨.refl _, .refl _, trivial⟩ (by trivial) rfl ?_
            conv => whnf
            refine ⟨(by (try simp only [true_and, and_true, Nat.sub_zero, Nat.zero_add, Int.toNat_natCast]) <;> omega), ?_⟩
            conv => whnf
            refine quoi64 (b := 32) (by omega) ?_
            conv => whnf
            refine ⟨(by (try simp only [true_and, and_true, Nat.sub_zero, Nat.zero_add, Int.toNat_natCast]) <;> omega), ?_⟩
            conv => whnf
            refine ⟨(by (try simp only [true_and, and_true, Nat.sub_zero, Nat.zero_add, Int.toNat_natCast]) <;> omega), ?_⟩
            conv => whnf
            refine ⟨(by (try simp only [true_and, and_true, Nat.sub_zero, Nat.zero_add, Int.toNat_natCast]) <;> omega), ?_⟩
            conv => whnf
            refine remN (b := 32) ?_
            conv => whnf
            refine sumu64 (e % 32) rfl (by omega) ?_
            conv => whnf
            refine ⟨(by (try simp only [true_and, and_true, Nat.sub_zero, Nat.zero_add, Int.toNat_natCast]) <;> omega), ?_⟩
            conv => whnf
            rw [show 0 + Int.toNat ((e / 32 : Nat) : Int) = e / 32 by omega]
            refine shlN32 (a := 1) (n := e % 32) (2 ^ (e % 32)) rfl (by omega) (by rw [Nat.one_mul, Nat.mod_eq_of_lt hp2]) ?_
            conv => whnf
            refine orN (a := digit (Q * 2 ^ (e + 1)) (e / 32)) (digit (Q * 2 ^ (e + 1)) (e / 32) ||| 2 ^ (e % 32)) rfl (show _ < 4294967296 from hd) (show _ < 4294967296 from hp2) rfl ?_
            conv => whnf
            refine ⟨(by (try simp only [true_and, and_true, Nat.sub_zero, Nat.zero_add, Int.toNat_natCast]) <;> omega), ?_⟩
            conv => whnf
            refine ⟨(by (try simp only [true_and, and_true, Nat.sub_zero, Nat.zero_add, Int.toNat_natCast]) <;> omega), ?_⟩
            conv => whnf
            refine fit64 (by omega) ?_
            conv => whnf
            refine ⟨e, _, _, rfl, ⟨rfl, .refl _, rfl, .refl _, rfl, .refl _, rfl, ALe.of_eq (congrArg nat (by rw [q1]; omega)), rfl, .refl _, trivial⟩, ⟨⟨rfl, rfl⟩, .fa fun k hk => ?_, trivial⟩, by omega, by omega⟩
            rw [q2, upd_set (fun k => digit (Q * 2 ^ (e + 1)) k) _ _ _ rfl, sb k]
            refine .one (.int_of ?_)
            simp only [Nat.zero_add, Int.toNat_natCast]
        · have hb0 : b = 0 := by omega
          subst hb0
          have su := refSub_nn (R + R) B (by omega) (by omega)
          conv => whnf
          by_cases hlt : R + R < B
          · rw [if_pos hlt] at su
            obtain ⟨q1, q2⟩ := hstep.2 (by omega)
            conv => whnf
            refine callF su ⟨.refl _, .refl _, trivial⟩ (by trivial) rfl ?_
            conv => whnf
            refine fit64 (by omega) ?_
            conv => whnf
            refine ⟨e, _, _, rfl, ⟨rfl, .refl _, rfl, .refl _, rfl, .refl _, rfl, ALe.of_eq (congrArg nat (by rw [q1]; omega)), rfl, .refl _, trivial⟩, ⟨⟨rfl, rfl⟩, .fa fun k hk => ?_, trivial⟩, by omega, by omega⟩
            rw [q2]; exact .one (.refl _)
          · rw [if_neg hlt] at su
            obtain ⟨q1, q2⟩ := hstep.1 (by omega)
            have hd := digit_lt (Q * 2 ^ (e + 1)) (e / 32)
            have hp2 : 2 ^ (e % 32) < 4294967296 := Nat.pow_lt_pow_right (show 1 < 2 by decide) (show e % 32 < 32 by omega)
            conv => whnf
            refine callF su ⟨.refl _, .refl _, trivial⟩ (by trivial) rfl ?_
            conv => whnf
            refine ⟨(by (try simp only [true_and, and_true, Nat.sub_zero, Nat.zero_add, Int.toNat_natCast]) <;> omega), ?_⟩
            conv => whnf
            refine quoi64 (b := 32) (by omega) ?_
            conv => whnf
            refine ⟨(by (try simp only [true_and, and_true, Nat.sub_zero, Nat.zero_add, Int.toNat_natCast]) <;> omega), ?_⟩
            conv => whnf
            refine ⟨(by (try simp only [true_and, and_true, Nat.sub_zero, Nat.zero_add, Int.toNat_natCast]) <;> omega), ?_⟩
            conv => whnf
            refine ⟨(by (try simp only [true_and, and_true, Nat.sub_zero, Nat.zero_add, Int.toNat_natCast]) <;> omega), ?_⟩
            conv => whnf
            refine remN (b := 32) ?_
            conv => whnf
            refine sumu64 (e % 32) rfl (by omega) ?_
            conv => whnf
            refine ⟨(by (try simp only [true_and, and_true, Nat.sub_zero, Nat.zero_add, Int.toNat_natCast]) <;> omega), ?_⟩
            conv => whnf
            rw [show 0 + Int.toNat ((e / 32 : Nat) : Int) = e / 32 by omega]
            refine shlN32 (a := 1) (n := e % 32) (2 ^ (e % 32)) rfl (by omega) (by rw [Nat.one_mul, Nat.mod_eq_of_lt hp2]) ?_
            conv => whnf
            refine orN (a := digit (Q * 2 ^ (e + 1)) (e / 32)) (digit (Q * 2 ^ (e + 1)) (e / 32) ||| 2 ^ (e % 32)) rfl (show _ < 4294967296 from hd) (show _ < 4294967296 from hp2) rfl ?_
            conv => whnf
            refine ⟨(by (try simp only [true_and, and_true, Nat.sub_zero, Nat.zero_add, Int.toNat_natCast]) <;> omega), ?_⟩
            conv => whnf
            refine ⟨(by (try simp only [true_and, and_true, Nat.sub_zero, Nat.zero_add, Int.toNat_natCast]) <;> omega), ?_⟩
            conv => whnf
            refine fit64 (by omega) ?_
            conv => whnf
            refine ⟨e, _, _, rfl, ⟨rfl, .refl _, rfl, .refl _, rfl, .refl _, rfl, ALe.of_eq (congrArg nat (by rw [q1]; omega)), rfl, .refl _, trivial⟩, ⟨⟨rfl, rfl⟩, .fa fun k hk => ?_, trivial⟩, by omega, by omega⟩
            rw [q2, upd_set (fun k => digit (Q * 2 ^ (e + 1)) k) _ _ _ rfl, sb k]
            refine .one (.int_of ?_)
            simp only [Nat.zero_add, Int.toNat_natCast]
      · have : c = 0 := by omega
        subst this
        have v1 := refTrim_ok (digit (A / 2 ^ 0 / B * 2 ^ 0)) n (digit_Dig _ _) (by omega)
        have hq : size (A / B) ≤ n := Nat.le_trans (size_mono (Nat.div_le_self _ _)) hA
        have hr : size (A % B) ≤ size A := size_mono (Nat.mod_le _ _)
        rw [nval_digit, Nat.pow_zero, Nat.div_one, Nat.mul_one, mod_size hq] at v1
        have v2 := refTrim_nn (A % B) (by omega)
        rw [Nat.pow_zero, Nat.div_one, Nat.mul_one]
        conv => whnf
        refine callF v1 ⟨.raw_of (fun k hk => by simp only [Nat.zero_add]), trivial⟩ (by (try simp only [true_and, and_true, Nat.sub_zero, Nat.zero_add, Int.toNat_natCast]) <;> omega) rfl ?_
        conv => whnf
        refine callF v2 ⟨.refl _, trivial⟩ (by trivial) rfl ?_
        conv => whnf
        refine ⟨(by (try simp only [true_and, and_true, Nat.sub_zero, Nat.zero_add, Int.toNat_natCast]) <;> omega), ?_⟩
        exact .refl _

theorem refDivMod_nn (A B : Nat) (hA : size A ≤ 4398046511000) (hB : size B ≤ 4398046511000) : ACall Tryz.prog 125 [nat A, nat B] (divRes A B) := by
  have := refDivMod_ok (digit A) (digit B) (size A) (size B) (digit_Dig _ _) (digit_Dig _ _) hA hB
  rw [nval_digit_size, nval_digit_size] at this; exact this

theorem refGCD_ok (g h : Nat → Nat) (n m : Nat) (hg : Dig g n) (hh : Dig h m) (hn : n ≤ 4398046511000) (hm : m ≤ 4398046511000) :
    ACall Tryz.prog 124 [raw g n, raw h m] (nat (Nat.gcd (nval g n) (nval h m))) := by
  have hA := size_nval hg
  have hB := size_nval hh
  have va := refTrim_ok g n hg (by omega)
  have vb := refTrim_ok h m hh (by omega)
  generalize nval g n = A at *
  generalize nval h m = B at *
  refine acall_rule env [0, 1, 4, 6, 14] Tryz.func124 rfl rfl rfl rfl ?_
  conv => whnf
  refine callF va ⟨.refl _, trivial⟩ (by trivial) rfl ?_
  conv => whnf
  refine callF vb ⟨.refl _, trivial⟩ (by trivial) rfl ?_
  conv => whnf
  refine loop_rule2 [0, 1] [] (fun s : Nat × Nat => ([(0, nat s.1), (1, nat s.2)], [])) (fun s => size s.1 ≤ 4398046511000 ∧ size s.2 ≤ 4398046511000 ∧ Nat.gcd s.1 s.2 = Nat.gcd A B) (fun s => s.2) (A, B) ⟨_, rfl, .refl _⟩ ⟨by simp only; omega, by simp only; omega, rfl⟩ ?_
  rintro ⟨a, b⟩ ⟨h1, h2, h3⟩
  simp only at h1 h2 h3 ⊢
  conv => whnf
  refine spl (fun h4 => ?_) (fun h4 => ?_) <;> simp only [decide_eq_true_eq, decide_eq_false_iff_not, Bool.not_eq_true', Bool.not_eq_false', gt_iff_lt, ge_iff_le] at h4
  · have hb : 0 < b := by
      rcases Nat.eq_zero_or_pos b with h | h
      · subst h; rw [size_zero] at h4; omega
      · exact h
    have dv := refDivMod_nn a b h1 h2
    rw [divRes, if_neg (by omega)] at dv
    have hlt : a % b < b := Nat.mod_lt _ hb
    conv => whnf
    refine callF dv ⟨.refl _, .refl _, trivial⟩ (by trivial) rfl ?_
    conv => whnf
    exact ⟨(b, a % b), _, rfl, .refl _, ⟨h2, by have := size_mono (Nat.le_of_lt hlt); simp only; omega, by rw [← h3]; exact gcd_step _ _⟩, hlt⟩
  · have hb : b = 0 := size_eq_zero.1 (by omega)
    subst hb
    rw [Nat.gcd_zero_right] at h3
    subst h3
    conv => whnf
    refine ⟨(by (try simp only [true_and, and_true, Nat.sub_zero, Nat.zero_add, Int.toNat_natCast]) <;> omega), ?_⟩
    exact .refl _
end Go.Abs

/- The laws of natural numbers, as contracts: Order. -/
set_option autoImplicit false
set_option maxHeartbeats 4000000
set_option linter.unusedVariables false
set_option linter.unusedSimpArgs false
namespace Go.Abs
open Go Go.Proofs

theorem cmp_of_lt {A B : Nat} (h : A < B) : cmp A B = -1 := if_pos h
theorem cmp_of_eq {A B : Nat} (h : A = B) : cmp A B = 0 := by unfold cmp; rw [if_neg (by omega), if_pos h]
theorem cmp_of_gt {A B : Nat} (h : B < A) : cmp A B = 1 := by unfold cmp; rw [if_neg (by omega), if_neg (by omega)]
theorem Compare_nn (A B : Nat) (hA : size A ≤ 4398046511104) (hB : size B ≤ 4398046511104) : ACall Tryz.prog 106 [nat A, nat B] (.f (.int .i64 (cmp A B))) := by
  have := Compare_ok (digit A) (digit B) (size A) (size B) (digit_Dig _ _) (digit_Dig _ _) hA hB
  rw [nval_digit_size, nval_digit_size] at this; exact this

end Go.Abs

/- The laws of natural numbers, as contracts: Products, Divides, GCD. -/
set_option autoImplicit false
set_option maxHeartbeats 4000000
set_option linter.unusedVariables false
set_option linter.unusedSimpArgs false
namespace Go.Abs
open Go Go.Proofs

theorem Compare_nr (A : Nat) (h : Nat → Nat) (m : Nat) (hA : size A ≤ 4398046511104) (hh : Dig h m) (hm : m ≤ 4398046511104) : ACall Tryz.prog 106 [nat A, raw h m] (.f (.int .i64 (cmp A (nval h m)))) := by
  have := Compare_ok (digit A) h (size A) m (digit_Dig _ _) hh hA hm
  rw [nval_digit_size] at this; exact this
theorem DivMod_rn (B : Nat) (g : Nat → Nat) (n : Nat) (hg : Dig g n) (hn : n ≤ 4398046511000) (hB : size B ≤ 4398046511000) : ACall Tryz.prog 141 [raw g n, nat B] (divRes (nval g n) B) := by
  have := DivMod_ok g (digit B) n (size B) hg (digit_Dig _ _) hn hB
  rw [nval_digit_size] at this; exact this
theorem GCD_nn (A B : Nat) (hA : size A ≤ 4398046511000) (hB : size B ≤ 4398046511000) : ACall Tryz.prog 139 [nat A, nat B] (nat (Nat.gcd A B)) := by
  have := GCD_ok (digit A) (digit B) (size A) (size B) (digit_Dig _ _) (digit_Dig _ _) hA hB
  rw [nval_digit_size, nval_digit_size] at this; exact this
theorem size_le_of {A B N : Nat} (h : A ≤ B) (hB : size B ≤ N) : size A ≤ N := Nat.le_trans (size_mono h) hB
theorem size_gcd_left {A B N : Nat} (hA : size A ≤ N) (hB : size B ≤ N) : size (Nat.gcd A B) ≤ N := by
  rcases Nat.eq_zero_or_pos A with h | h
  · subst h; rw [Nat.gcd_zero_left]; exact hB
  · exact size_le_of (Nat.gcd_le_left _ h) hA

end Go.Abs

/- Integers: with, Norm, FromInt, Value, zero, Sign, Compare, Neg, Abs, Add, Sub, Mul, DivMod, GCD. -/
set_option autoImplicit false
set_option maxHeartbeats 4000000
set_option linter.unusedVariables false
set_option linter.unusedSimpArgs false
namespace Go.Abs
open Go Go.Proofs

theorem with_ok (neg : Bool) (N : Nat) : ACall Tryz.prog 102 [.f (.bool neg), nat N] (int (ival neg N)) := by
  have e : int (ival neg N) = .agg [.f (.bool (neg && decide (0 < N))), nat N] := by unfold int; rw [ival_neg, ival_abs]
  have hs : 0 < size N ↔ 0 < N := by
    constructor
    · intro h; rcases Nat.eq_zero_or_pos N with h0 | h0
      · subst h0; exact absurd h (by decide)
      · exact h0
    · intro h; rcases Nat.eq_zero_or_pos (size N) with h0 | h0
      · have := size_eq_zero.1 h0; omega
      · exact h0
  rw [e]
  cases neg
  · refine acall_rule env [0, 1, 4] Tryz.func102 rfl rfl rfl rfl ?_
    conv => whnf
    (repeat (refine ⟨by kernel_rfl, ?_⟩; (conv => whnf)))
    refine ⟨(by (try simp only [true_and, and_true, Nat.sub_zero, Nat.zero_add, Int.toNat_natCast]) <;> omega), ?_⟩
    exact .refl _
  · refine acall_rule env [0, 1, 4] Tryz.func102 rfl rfl rfl rfl ?_
    conv => whnf
    refine ⟨(by (try simp only [true_and, and_true, Nat.sub_zero, Nat.zero_add, Int.toNat_natCast]) <;> omega), ?_⟩
    refine .agg ⟨.bool_of ?_, .refl _, trivial⟩
    by_cases h0 : 0 < N
    · rw [decide_eq_true h0, decide_eq_true (by have := hs.2 h0; omega)]; rfl
    · rw [decide_eq_false h0, decide_eq_false (fun h => h0 (hs.1 (by omega)))]; rfl

theorem iNorm_ok {x : AV} {z : Int} {s : Nat} (h : IsI x z s) (hs : s ≤ 4398046511000) : ACall Tryz.prog 138 [x] (int z) := by
  obtain ⟨neg, g, n, _, hg, hn⟩ := h
  have t := Trim_ok g n hg (by omega)
  have w := with_ok neg (nval g n)
  refine acall_rule env [0, 1, 2] Tryz.func138 rfl rfl rfl rfl ?_
  conv => whnf
  (repeat (refine ⟨by kernel_rfl, ?_⟩; (conv => whnf))); refine callF t ⟨.refl _, trivial⟩ (by trivial) rfl ?_
  conv => whnf
  (repeat (refine ⟨by kernel_rfl, ?_⟩; (conv => whnf))); refine callF w ⟨.refl _, .refl _, trivial⟩ (by trivial) rfl ?_
  conv => whnf
  refine ⟨by kernel_rfl, ?_⟩
  conv => whnf
  (repeat (refine ⟨by kernel_rfl, ?_⟩; (conv => whnf)))
  refine ⟨(by (try simp only [true_and, and_true, Nat.sub_zero, Nat.zero_add, Int.toNat_natCast]) <;> omega), ?_⟩
  exact .refl _

theorem iNeg_ok {x : AV} {z : Int} {s : Nat} (h : IsI x z s) (hs : s ≤ 4398046511000) : ACall Tryz.prog 157 [x] (int (-z)) := by
  obtain ⟨neg, g, n, _, hg, hn⟩ := h
  have t := Trim_ok g n hg (by omega)
  have w := with_ok (!neg) (nval g n)
  have e : ival (!neg) (nval g n) = -ival neg (nval g n) := by cases neg <;> simp [ival]
  rw [e] at w
  refine acall_rule env [0, 1, 2] Tryz.func157 rfl rfl rfl rfl ?_
  conv => whnf
  (repeat (refine ⟨by kernel_rfl, ?_⟩; (conv => whnf))); refine callF t ⟨.refl _, trivial⟩ (by trivial) rfl ?_
  conv => whnf
  (repeat (refine ⟨by kernel_rfl, ?_⟩; (conv => whnf))); refine callF w ⟨.refl _, .refl _, trivial⟩ (by trivial) rfl ?_
  conv => whnf
  refine ⟨by kernel_rfl, ?_⟩
  conv => whnf
  (repeat (refine ⟨by kernel_rfl, ?_⟩; (conv => whnf)))
  refine ⟨(by (try simp only [true_and, and_true, Nat.sub_zero, Nat.zero_add, Int.toNat_natCast]) <;> omega), ?_⟩
  exact .refl _

theorem iAbs_ok {x : AV} {z : Int} {s : Nat} (h : IsI x z s) (hs : s ≤ 4398046511000) : ACall Tryz.prog 154 [x] (int (z.natAbs : Nat)) := by
  obtain ⟨neg, g, n, _, hg, hn⟩ := h
  have t := Trim_ok g n hg (by omega)
  have w := with_ok false (nval g n)
  rw [ival_abs]
  refine acall_rule env [0, 1, 2] Tryz.func154 rfl rfl rfl rfl ?_
  conv => whnf
  (repeat (refine ⟨by kernel_rfl, ?_⟩; (conv => whnf))); refine callF t ⟨.refl _, trivial⟩ (by trivial) rfl ?_
  conv => whnf
  (repeat (refine ⟨by kernel_rfl, ?_⟩; (conv => whnf))); refine callF w ⟨.refl _, .refl _, trivial⟩ (by trivial) rfl ?_
  conv => whnf
  (repeat (refine ⟨by kernel_rfl, ?_⟩; (conv => whnf)))
  refine ⟨(by (try simp only [true_and, and_true, Nat.sub_zero, Nat.zero_add, Int.toNat_natCast]) <;> omega), ?_⟩
  exact .refl _

theorem iFromInt_ok (v : Int) (h : -9223372036854775808 ≤ v ∧ v ≤ 9223372036854775807) : ACall Tryz.prog 62 [.f (.int .i64 v)] (int v) := by
  by_cases h0 : v < 0
  · obtain ⟨k, hk⟩ : ∃ k : Nat, v = -(k : Int) := ⟨v.natAbs, by omega⟩
    have f := FromUint64_ok k (by omega)
    have w := with_ok true k
    rw [ival_t] at w
    subst hk
    refine acall_rule env [0, 2, 4] Tryz.func62 rfl rfl rfl rfl ?_
    conv => whnf
    refine splT (by simp only [decide_eq_true_eq, decide_eq_false_iff_not, Bool.not_eq_true', Bool.not_eq_false', gt_iff_lt, ge_iff_le] <;> omega) ?_
    conv => whnf
    refine fit64 (by omega) ?_
    conv => whnf
    refine sumi64 (k - 1) (by omega) (by omega) ?_
    conv => whnf
    refine sumu64 (k - 1) rfl (by omega) ?_
    conv => whnf
    refine sumu64 k (by omega) (by omega) ?_
    conv => whnf
    (repeat (refine ⟨by kernel_rfl, ?_⟩; (conv => whnf))); refine callF f ⟨.refl _, trivial⟩ (by trivial) rfl ?_
    conv => whnf
    (repeat (refine ⟨by kernel_rfl, ?_⟩; (conv => whnf))); refine callF w ⟨.refl _, .refl _, trivial⟩ (by trivial) rfl ?_
    conv => whnf
    (repeat (refine ⟨by kernel_rfl, ?_⟩; (conv => whnf)))
    refine ⟨(by (try simp only [true_and, and_true, Nat.sub_zero, Nat.zero_add, Int.toNat_natCast]) <;> omega), ?_⟩
    exact .refl _
  · obtain ⟨k, hk⟩ : ∃ k : Nat, v = (k : Int) := ⟨v.natAbs, by omega⟩
    have f := FromUint64_ok k (by omega)
    have w := with_ok false k
    rw [ival_f] at w
    subst hk
    refine acall_rule env [0, 2, 4] Tryz.func62 rfl rfl rfl rfl ?_
    conv => whnf
    refine sumu64 k rfl (by omega) ?_
    conv => whnf
    (repeat (refine ⟨by kernel_rfl, ?_⟩; (conv => whnf))); refine callF f ⟨.refl _, trivial⟩ (by trivial) rfl ?_
    conv => whnf
    (repeat (refine ⟨by kernel_rfl, ?_⟩; (conv => whnf))); refine callF w ⟨.refl _, .refl _, trivial⟩ (by trivial) rfl ?_
    conv => whnf
    (repeat (refine ⟨by kernel_rfl, ?_⟩; (conv => whnf)))
    refine ⟨(by (try simp only [true_and, and_true, Nat.sub_zero, Nat.zero_add, Int.toNat_natCast]) <;> omega), ?_⟩
    exact .refl _

/-- what Value answers -/
def valRes (z : Int) : AV := if -9223372036854775808 ≤ z ∧ z ≤ 9223372036854775807 then .tup [.f (.int .i64 z), .f (.bool true)] else .tup [.f (.int .i64 0), .f (.bool false)]

theorem izero_ok {x : AV} {z : Int} {s : Nat} (h : IsI x z s) (hs : s ≤ 4398046511000) : ACall Tryz.prog 130 [x] (.f (.bool (decide (z = 0)))) := by
  obtain ⟨neg, g, n, _, hg, hn⟩ := h
  have b := Bits_ok g n hg (by omega)
  generalize nval g n = N at *
  have e : ((bitlen N : Nat) : Int) = 0 ↔ ival neg N = 0 := by
    have h1 : ival neg N = 0 ↔ N = 0 := by cases neg <;> simp [ival]
    rw [h1]
    constructor
    · intro h; unfold bitlen at h; split at h
      · assumption
      · omega
    · rintro rfl; rfl
  refine acall_rule env [0, 1, 2] Tryz.func130 rfl rfl rfl rfl ?_
  conv => whnf
  (repeat (refine ⟨by kernel_rfl, ?_⟩; (conv => whnf))); refine callF b ⟨.refl _, trivial⟩ (by trivial) rfl ?_
  conv => whnf
  refine ⟨(by (try simp only [true_and, and_true, Nat.sub_zero, Nat.zero_add, Int.toNat_natCast]) <;> omega), ?_⟩
  refine .bool_of ?_
  by_cases h : ival neg N = 0
  · rw [decide_eq_true h, decide_eq_true (e.2 h)]
  · rw [decide_eq_false h, decide_eq_false (fun h' => h (e.1 h'))]

theorem iSign_ok {x : AV} {z : Int} {s : Nat} (h : IsI x z s) (hs : s ≤ 4398046511000) : ACall Tryz.prog 105 [x] (.f (.int .i64 (sgn z))) := by
  have hz := izero_ok h hs
  obtain ⟨neg, g, n, _, hg, hn⟩ := h
  generalize nval g n = N at *
  unfold sgn
  by_cases h0 : ival neg N = 0
  · rw [decide_eq_true h0] at hz
    rw [if_pos h0]
    refine acall_rule env [0, 1, 2, 3, 6] Tryz.func105 rfl rfl rfl rfl ?_
    conv => whnf
    (repeat (refine ⟨by kernel_rfl, ?_⟩; (conv => whnf))); refine callF hz ⟨.refl _, trivial⟩ (by trivial) rfl ?_
    conv => whnf
    (repeat (refine ⟨by kernel_rfl, ?_⟩; (conv => whnf)))
    refine ⟨(by (try simp only [true_and, and_true, Nat.sub_zero, Nat.zero_add, Int.toNat_natCast]) <;> omega), ?_⟩
    exact .refl _
  · rw [decide_eq_false h0] at hz
    rw [if_neg h0]
    cases neg
    · rw [if_neg (by simp only [ival_f]; omega)]
      refine acall_rule env [0, 1, 2, 3, 6] Tryz.func105 rfl rfl rfl rfl ?_
      conv => whnf
      (repeat (refine ⟨by kernel_rfl, ?_⟩; (conv => whnf))); refine callF hz ⟨.refl _, trivial⟩ (by trivial) rfl ?_
      conv => whnf
      (repeat (refine ⟨by kernel_rfl, ?_⟩; (conv => whnf)))
      refine ⟨(by (try simp only [true_and, and_true, Nat.sub_zero, Nat.zero_add, Int.toNat_natCast]) <;> omega), ?_⟩
      exact .refl _
    · rw [if_pos (by simp only [ival_t] at h0 ⊢; omega)]
      refine acall_rule env [0, 1, 2, 3, 6] Tryz.func105 rfl rfl rfl rfl ?_
      conv => whnf
      (repeat (refine ⟨by kernel_rfl, ?_⟩; (conv => whnf))); refine callF hz ⟨.refl _, trivial⟩ (by trivial) rfl ?_
      conv => whnf
      (repeat (refine ⟨by kernel_rfl, ?_⟩; (conv => whnf)))
      refine ⟨(by (try simp only [true_and, and_true, Nat.sub_zero, Nat.zero_add, Int.toNat_natCast]) <;> omega), ?_⟩
      exact .refl _
end Go.Abs
