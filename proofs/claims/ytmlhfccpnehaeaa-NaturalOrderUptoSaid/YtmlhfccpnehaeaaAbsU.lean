/- Soundness, part six: slices of slices; composite literals. -/
import Derived.Test.YtmlhfccpnehaeaaAbsR
set_option autoImplicit false
set_option linter.unusedVariables false
set_option linter.unusedSimpArgs false
namespace Go.Abs
section ops
variable {P : Program} {T : Tab} {n : Nat} {S0 pass : Nat → Prop} {w0 : World} {F : Nat → AV} {H : Hp} {S : Nat → Prop} {m : Places} {a : Act} {w : World} {o : Oper} {v : AV} {δ : List (Nat × Nat × Blk)}

/-- a bound of a slice expression, or its default -/
def isBound (x : Option Value) (dflt : Nat) (n : Nat) : Prop := (x = none ∧ n = dflt) ∨ ∃ k, x = some (.int k (n : Int))

theorem run_slice_at {t e : Nat} {ti te : TI} {inf inf2 : TypeInfo} {z z2 : Value} {u2 : TypeDesc} (f : TyFacts P t ti inf (.slice e) z) (f2 : TyFacts P e te inf2 u2 z2) (w : World) (base : Option Addr) (len c : Nat)
    {lo hi mx : Option Value} {l h k : Nat} (hm : isBound mx c k) (hmx : mx = none ∨ hi ≠ none) (hh : isBound hi len h) (hl : isBound lo 0 l) (h1 : l ≤ h) (h2 : h ≤ k) (h3 : k ≤ c) :
    (Instr.sliceAt t (.slice base len c) lo hi mx).run P w = .ok (.slice (if k = l then base else base.map (·.add (l * te.size))) (h - l) (k - l)) w := by
  simp only [Instr.sliceAt, Sem.run_bind, f.run_und, Result.andThen_ok, Instr.slice, Instr.sliceBounds]
  have sb : ∀ (q : IntKind) (x y : Nat) (cd : BoundsCode) (w : World), x ≤ y → (Instr.sliceBound (.int q (x : Int)) y cd).run P w = .ok x w := by
    intro q x y cd w hxy
    have : (0 ≤ (x : Int) ∧ (x : Int) ≤ (y : Int)) := ⟨by omega, by omega⟩
    simp [Instr.sliceBound, asIntOf, hxy]
  rcases hm with ⟨rfl, rfl⟩ | ⟨km, rfl⟩
  · rcases hh with ⟨rfl, rfl⟩ | ⟨kh, rfl⟩ <;> rcases hl with ⟨rfl, rfl⟩ | ⟨kl, rfl⟩ <;>
      simp only [Sem.run_bind, Sem.run_pure, Result.andThen_ok, sb _ _ _ _ _ h1, sb _ _ _ _ _ h2, f2.run_size]
  · rcases hh with ⟨rfl, rfl⟩ | ⟨kh, rfl⟩
    · simp at hmx
    · rcases hl with ⟨rfl, rfl⟩ | ⟨kl, rfl⟩ <;>
        simp only [Sem.run_bind, Sem.run_pure, Result.andThen_ok, sb _ _ _ _ _ h1, sb _ _ _ _ _ h2, sb _ _ _ _ _ h3, f2.run_size]

/-- what a slice of frozen data reads as -/
theorem slice_rel_f {sz len l h c k : Nat} {at_ : Nat → List FV} {cap cap' : Option Nat} {base : Option Addr} (hx : RelF S w (.sl sz at_ len cap) (.slice base len c)) (h1 : l ≤ h) (h2 : h ≤ len) (hk : k = c)
    (hcap : ∀ q, cap' = some q → c - l = q) : RelF S w (.sl sz (fun j => at_ (l + j)) (h - l) cap') (.slice (if k = l then base else base.map (·.add (l * sz))) (h - l) (k - l)) := by
  subst hk
  cases hx with
  | sl vs hc hcap0 hn hl hbs hvs hr =>
  have hspot : ∀ ad, base = some ad → 0 < h - l → 0 < sz → ad.spot = none ∧ S ad.block := fun ad he hp hz => hbs ad he (by omega) hz
  refine .sl (fun i j => vs (l + i) j) (by omega) hcap (fun hb => ?_) (fun i hi => hl _ (by omega)) (fun ad he hp hz => ?_) (fun ad he i j hi hj => ?_) (fun i j x hi hx => hr _ _ _ (by omega) hx)
  · split at hb
    · omega
    · cases base with
      | none => have := hn rfl; omega
      | some ad => simp at hb
  · rw [if_neg (by omega)] at he
    cases base with
    | none => simp at he
    | some b => simp at he; subst he; obtain ⟨q1, q2⟩ := hspot b rfl hp hz; rw [addr_eta q1, addr_add]; exact ⟨rfl, q2⟩
  · rw [if_neg (by omega)] at he
    cases base with
    | none => simp at he
    | some b =>
      simp at he; subst he
      obtain ⟨q1, q2⟩ := hspot b rfl (by omega) (by omega)
      have := hvs b rfl (l + i) j (by omega) hj
      rw [addr_eta q1, addr_add]
      simp only
      rw [show b.off + l * sz + (i * sz + j) = b.off + ((l + i) * sz + j) by rw [Nat.add_mul]; omega]
      exact this

theorem slice_rel_l {d gg sz i len l h c k : Nat} {cap cap' : Option Nat} {base : Option Addr} {G : Nat → Nat} (hx : RelA S m G w (.lsl d gg sz i len cap) (.slice base len c)) (h1 : l ≤ h) (h2 : h ≤ k) (hk : k ≤ c)
    (hcap : ∀ q, cap' = some q → k - l = q) : RelA S m G w (.lsl d gg sz (i + l) (h - l) cap') (.slice (if k = l then base else base.map (·.add (l * sz))) (h - l) (k - l)) := by
  cases hx with
  | lsl hg hc hcap0 hb hn =>
  refine .lsl hg (by omega) hcap (fun hp => ?_) (fun he => ?_)
  · rw [if_neg (by omega)]
    obtain ⟨q1, q2⟩ := hb (by omega)
    subst q1
    refine ⟨?_, ?_⟩
    · simp only [Option.map_some, addr_add]; rw [Nat.add_mul]
    · have : (i + l + (k - l)) * sz ≤ (i + c) * sz := Nat.mul_le_mul_right _ (by omega)
      omega
  · split at he
    · omega
    · cases base with
      | none => have := hn rfl; omega
      | some ad => simp at he

theorem bound_of {F : Nat → AV} {a : Act} {G : Nat → Nat} (hf : ∀ t, RelA S m G w (F t) (a.tmps.getD t undef)) {x : Operand} {k : IntKind} {z : Int} (h : evA F x = .f (.int k z)) (h0 : 0 ≤ z) : a.eval x = .int k (z.toNat : Int) := by
  have hx := evA_rel hf x
  rw [h] at hx
  generalize a.eval x = q at hx
  cases hx with
  | f hx => cases hx; rw [Int.toNat_of_nonneg h0]

def evO (F : Nat → AV) : Option Operand → Option AV
  | none => none
  | some x => some (evA F x)

theorem slice_does (g : Good n S0 pass w0 F H S m a w) (hok : tabOk P T = true) {t : Nat} {x : Operand} {lo hi mx : Option Operand} (ho : o.op = .slice t x lo hi mx) (hd : dstOk n o.dst = true)
    (hv : (sliceO T t (evA F x) (evO F lo) (evO F hi) (evO F mx)).gives v δ) : Does P n S0 pass w0 o F H v δ a w := by
  have hx := evA_rel (S := S) (m := m) (w := w) g.fr x
  unfold sliceO at hv
  split at hv
  · rename_i e sz0 by' ze ht
    obtain ⟨inf, u, z, f⟩ := facts hok ht
    have hu := f.slice rfl; subst hu
    split at hv
    · rename_i te hte
      obtain ⟨inf2, u2, z2, f2⟩ := facts hok hte
      have hrun : ∀ r, (Instr.sliceAt t (a.eval x) (lo.map a.eval) (hi.map a.eval) (mx.map a.eval)).run P w = .ok r w → (execOp a.eval o).run P w = .ok (.value r) w := by
        intro r h
        unfold execOp; rw [ho]; simp only [Sem.run_bind, h, Result.andThen_ok, Sem.run_pure]
      have hk : ∀ {sz : Nat} {b : OpOut}, (bif Nat.beq te.size sz then b else OpOut.bad).gives v δ → te.size = sz ∧ b.gives v δ := by
        intro sz b h
        cases e : Nat.beq te.size sz with
        | false => rw [e] at h; exact h.elim
        | true => rw [e] at h; exact ⟨Nat.eq_of_beq_eq_true e, h⟩
      -- the operands that are there
      have oN : ∀ {y : Option Operand}, evO F y = none → y.map a.eval = none := by intro y h; cases y <;> simp_all [evO]
      have oS : ∀ {y : Option Operand} {k : IntKind} {q : Int}, evO F y = some (.f (.int k q)) → 0 ≤ q → y.map a.eval = some (.int k (q.toNat : Int)) := by
        intro y k q h h0
        cases y with
        | none => simp [evO] at h
        | some y => simp only [evO, Option.some.injEq] at h; simp [bound_of g.fr h h0]
      split at hv
      · rename_i sz at_ len cap kh h hp hlo hhi hmx
        obtain ⟨rfl, ⟨h0, h1⟩, rfl, rfl⟩ := hk hv
        rw [hp] at hx
        cases hx with
        | f hx =>
        generalize he : a.eval x = q at hx hrun
        have hx' := hx
        cases hx with
        | @sl _ _ c _ _ base vs hc hcap hn hl hbs hvs hr =>
        have e2 := oS hhi h0
        refine does_value g hd (hrun _ (run_slice_at f f2 w base len c (l := 0) (h := h.toNat) (k := c) (.inl ⟨oN hmx, rfl⟩) (.inl (oN hmx)) (.inr ⟨_, e2⟩) (.inl ⟨oN hlo, rfl⟩) (by omega) (by omega) (Nat.le_refl _))) ?_
        have := slice_rel_f (l := 0) (h := h.toNat) (k := c) (cap' := cap) hx' (by omega) (by omega) rfl (by intro q hq; have := hcap q hq; omega)
        simp only [Nat.zero_add, Nat.sub_zero] at this ⊢
        exact .f this
      · rename_i sz at_ len cap kl l hp hlo hhi hmx
        obtain ⟨rfl, ⟨h0, h1⟩, rfl, rfl⟩ := hk hv
        rw [hp] at hx
        cases hx with
        | f hx =>
        generalize he : a.eval x = q at hx hrun
        have hx' := hx
        cases hx with
        | @sl _ _ c _ _ base vs hc hcap hn hl hbs hvs hr =>
        have e1 := oS hlo h0
        exact does_value g hd (hrun _ (run_slice_at f f2 w base len c (l := l.toNat) (h := len) (k := c) (.inl ⟨oN hmx, rfl⟩) (.inl (oN hmx)) (.inl ⟨oN hhi, rfl⟩) (.inr ⟨_, e1⟩) (by omega) hc (Nat.le_refl _)))
          (.f (slice_rel_f hx' (by omega) (by omega) rfl (capSub_spec hcap)))
      · rename_i sz at_ len cap kl l kh h hp hlo hhi hmx
        obtain ⟨rfl, ⟨h0, h1, h2⟩, rfl, rfl⟩ := hk hv
        rw [hp] at hx
        cases hx with
        | f hx =>
        generalize he : a.eval x = q at hx hrun
        have hx' := hx
        cases hx with
        | @sl _ _ c _ _ base vs hc hcap hn hl hbs hvs hr =>
        have e1 := oS hlo h0
        have e2 := oS hhi (by omega)
        exact does_value g hd (hrun _ (run_slice_at f f2 w base len c (l := l.toNat) (h := h.toNat) (k := c) (.inl ⟨oN hmx, rfl⟩) (.inl (oN hmx)) (.inr ⟨_, e2⟩) (.inr ⟨_, e1⟩) (by omega) (by omega) (Nat.le_refl _)))
          (.f (slice_rel_f hx' (by omega) (by omega) rfl (capSub_spec hcap)))
      · rename_i d gg sz i len cap kh h hp hlo hhi hmx
        obtain ⟨rfl, ⟨h0, h1⟩, rfl, rfl⟩ := hk hv
        rw [hp] at hx
        generalize he : a.eval x = q at hx hrun
        have hx' := hx
        cases hx with
        | @lsl _ _ _ _ _ c _ base hg hc hcap hb hn =>
        have e2 := oS hhi h0
        refine does_value g hd (hrun _ (run_slice_at f f2 w base len c (l := 0) (h := h.toNat) (k := c) (.inl ⟨oN hmx, rfl⟩) (.inl (oN hmx)) (.inr ⟨_, e2⟩) (.inl ⟨oN hlo, rfl⟩) (by omega) (by omega) (Nat.le_refl _))) ?_
        have := slice_rel_l (l := 0) (h := h.toNat) (k := c) (cap' := cap) hx' (by omega) (by omega) (Nat.le_refl _) (by intro q hq; have := hcap q hq; omega)
        simp only [Nat.add_zero, Nat.sub_zero] at this ⊢
        exact this
      · rename_i d gg sz i len cap kl l hp hlo hhi hmx
        obtain ⟨rfl, ⟨h0, h1⟩, rfl, rfl⟩ := hk hv
        rw [hp] at hx
        generalize he : a.eval x = q at hx hrun
        have hx' := hx
        cases hx with
        | @lsl _ _ _ _ _ c _ base hg hc hcap hb hn =>
        have e1 := oS hlo h0
        exact does_value g hd (hrun _ (run_slice_at f f2 w base len c (l := l.toNat) (h := len) (k := c) (.inl ⟨oN hmx, rfl⟩) (.inl (oN hmx)) (.inl ⟨oN hhi, rfl⟩) (.inr ⟨_, e1⟩) (by omega) hc (Nat.le_refl _)))
          (slice_rel_l hx' (by omega) hc (Nat.le_refl _) (capSub_spec hcap))
      · rename_i d gg sz i len cap kl l kh h hp hlo hhi hmx
        obtain ⟨rfl, ⟨h0, h1, h2⟩, rfl, rfl⟩ := hk hv
        rw [hp] at hx
        generalize he : a.eval x = q at hx hrun
        have hx' := hx
        cases hx with
        | @lsl _ _ _ _ _ c _ base hg hc hcap hb hn =>
        have e1 := oS hlo h0
        have e2 := oS hhi (by omega)
        exact does_value g hd (hrun _ (run_slice_at f f2 w base len c (l := l.toNat) (h := h.toNat) (k := c) (.inl ⟨oN hmx, rfl⟩) (.inl (oN hmx)) (.inr ⟨_, e2⟩) (.inr ⟨_, e1⟩) (by omega) (by omega) (Nat.le_refl _)))
          (slice_rel_l hx' (by omega) (by omega) (Nat.le_refl _) (capSub_spec hcap))
      · rename_i d gg sz i len cap kh h km mm hp hlo hhi hmx
        obtain ⟨rfl, ⟨h0, h1, h2⟩, rfl, rfl⟩ := hk hv
        rw [hp] at hx
        generalize he : a.eval x = q at hx hrun
        have hx' := hx
        cases hx with
        | @lsl _ _ _ _ _ c _ base hg hc hcap hb hn =>
        have e2 := oS hhi h0
        have e3 := oS hmx (by omega)
        refine does_value g hd (hrun _ (run_slice_at f f2 w base len c (l := 0) (h := h.toNat) (k := mm.toNat) (.inr ⟨_, e3⟩) (.inr (by rw [e2]; simp)) (.inr ⟨_, e2⟩) (.inl ⟨oN hlo, rfl⟩) (by omega) (by omega) (by omega))) ?_
        have := slice_rel_l (l := 0) (h := h.toNat) (k := mm.toNat) (cap' := some mm.toNat) hx' (by omega) (by omega) (by omega) (by intro q hq; cases hq; omega)
        simp only [Nat.add_zero, Nat.sub_zero] at this ⊢
        exact this
      · simp [OpOut.gives] at hv
    · simp [OpOut.gives] at hv
  · simp [OpOut.gives] at hv

end ops
end Go.Abs
