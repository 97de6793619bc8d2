/- Rules: loops, functions, weakening. -/
import Derived.Test.YtmlhfccpnehaeaaAbsG
set_option autoImplicit false
set_option linter.unusedVariables false
set_option linter.unusedSimpArgs false
namespace Go.Abs
noncomputable section

/-! ### A state brought into a fixed form -/

mutual
/-- references to the blocks that are kept, at generation 1 -/
def normA (hp : Hl) (ks : List Nat) : AV → Option AV
  | .top => some .top
  | .f x => some (.f x)
  | .lsl d g sz i len cap => bif ks.contains d && Nat.beq (lookH hp d).1 g then some (.lsl d 1 sz i len cap) else none
  | .lptr d g sz i sub => bif ks.contains d && Nat.beq (lookH hp d).1 g then some (.lptr d 1 sz i sub) else none
  | .agg cs => match normL hp ks cs with | some l => some (.agg l) | none => none
  | .tup vs => match normL hp ks vs with | some l => some (.tup l) | none => none
def normL (hp : Hl) (ks : List Nat) : List AV → Option (List AV)
  | [] => some []
  | v :: r => match normA hp ks v, normL hp ks r with
    | some v, some r => some (v :: r)
    | _, _ => none
end
def normB (hp : Hl) (ks : List Nat) : Blk → Option Blk
  | .dead => none
  | .vr cells => match normL hp ks cells with | some l => some (.vr l) | none => none
  | .fa sz n at_ => some (.fa sz n at_)
  | .fz sz n at_ => some (.fz sz n at_)
def normFr (hp : Hl) (ks : List Nat) (fr : Fr) : List Nat → Option Fr
  | [] => some []
  | t :: r => match normA hp ks (lookD fr t), normFr hp ks fr r with
    | some v, some l => some ((t, v) :: l)
    | _, _ => none
def normHp (hp : Hl) (ks : List Nat) : List Nat → Option Hl
  | [] => some []
  | d :: r => match normB hp ks (lookH hp d).2, normHp hp ks r with
    | some b, some l => some ((d, 1, b) :: l)
    | _, _ => none
/-- the temporaries 'ts' and the blocks at the sites 'ks' alone -/
def normSt (ts ks : List Nat) (fr : Fr) (hp : Hl) : Option (Fr × Hl) :=
  match normFr hp ks fr ts, normHp hp ks ks with
  | some fr', some hp' => some (fr', hp')
  | _, _ => none

section
variable {n : Nat} {S0 pass : Nat → Prop} {w0 : World} {S : Nat → Prop} {m : Places} {a : Act} {w : World} {hp hp' : Hl} {ks : List Nat} {fr fr' : Fr}

/-- places behind the norming -/
def normM (hp : Hl) (m : Places) : Places := fun d g => if g = 1 then m d (lookH hp d).1 else (0, 0)

theorem normA_rel {G : Nat → Nat} (hG : ∀ d, d ∈ ks → 1 ≤ G d) {x : AV} {v : Value} (h : RelA S m (gen (lookH hp)) w x v) : ∀ {y : AV}, normA hp ks x = some y → RelA S (normM hp m) G w y v := by
  induction h with
  | top => intro y hy; simp only [normA, Option.some.injEq] at hy; subst hy; exact .top
  | f h => intro y hy; simp only [normA, Option.some.injEq] at hy; subst hy; exact .f h
  | @lsl d g sz i len c cap base hg hc hcap hb hn =>
    intro y hy
    simp only [normA] at hy
    cases hq : (ks.contains d && Nat.beq (lookH hp d).1 g) with
    | false => rw [hq] at hy; cases hy
    | true =>
    simp only [hq, cond_true, Option.some.injEq] at hy; subst hy
    simp only [Bool.and_eq_true] at hq
    have e := Nat.eq_of_beq_eq_true hq.2; subst e
    exact .lsl (hG d (by simpa using hq.1)) hc hcap (by simpa [normM] using hb) hn
  | @lptr d g sz i sub hg =>
    intro y hy
    simp only [normA] at hy
    cases hq : (ks.contains d && Nat.beq (lookH hp d).1 g) with
    | false => rw [hq] at hy; cases hy
    | true =>
    simp only [hq, cond_true, Option.some.injEq] at hy; subst hy
    simp only [Bool.and_eq_true] at hq
    have e := Nat.eq_of_beq_eq_true hq.2; subst e
    have := RelA.lptr (S := S) (m := normM hp m) (G := G) (w := w) (sz := sz) (i := i) (sub := sub) (hG d (by simpa using hq.1))
    simpa [normM] using this
  | @agg cells cs hn h h1 ih =>
    intro y hy
    simp only [normA] at hy
    cases hl : normL hp ks cells with
    | none => simp [hl] at hy
    | some l =>
    simp only [hl, Option.some.injEq] at hy; subst hy
    have key : ∀ (l l' : List AV), normL hp ks l = some l' → l.length = l'.length ∧ ∀ (j : Nat) (x' : AV), l'[j]? = some x' → ∃ x, l[j]? = some x ∧ normA hp ks x = some x' := by
      intro l
      induction l with
      | nil => intro l' h; simp only [normL, Option.some.injEq] at h; subst h; exact ⟨rfl, fun j x' h => by simp at h⟩
      | cons z r ihr =>
        intro l' h
        simp only [normL] at h
        cases h1 : normA hp ks z with
        | none => simp [h1] at h
        | some z' => cases h2 : normL hp ks r with
          | none => simp [h1, h2] at h
          | some r' =>
            simp only [h1, h2, Option.some.injEq] at h; subst h
            obtain ⟨q1, q2⟩ := ihr r' h2
            refine ⟨by simp [q1], fun j x' hx => ?_⟩
            cases j with
            | zero => simp at hx; subst hx; exact ⟨z, rfl, h1⟩
            | succ j => simpa using q2 j x' (by simpa using hx)
    obtain ⟨q1, q2⟩ := key _ _ hl
    refine .agg (by rw [← q1]; exact hn) (fun j x' v hx hv => ?_) h1
    obtain ⟨x, hx1, hx2⟩ := q2 j x' hx
    exact ih j x v hx1 hv hx2
  | @tup cells cs hn h ih =>
    intro y hy
    simp only [normA] at hy
    cases hl : normL hp ks cells with
    | none => simp [hl] at hy
    | some l =>
    simp only [hl, Option.some.injEq] at hy; subst hy
    have key : ∀ (l l' : List AV), normL hp ks l = some l' → l.length = l'.length ∧ ∀ (j : Nat) (x' : AV), l'[j]? = some x' → ∃ x, l[j]? = some x ∧ normA hp ks x = some x' := by
      intro l
      induction l with
      | nil => intro l' h; simp only [normL, Option.some.injEq] at h; subst h; exact ⟨rfl, fun j x' h => by simp at h⟩
      | cons z r ihr =>
        intro l' h
        simp only [normL] at h
        cases h1 : normA hp ks z with
        | none => simp [h1] at h
        | some z' => cases h2 : normL hp ks r with
          | none => simp [h1, h2] at h
          | some r' =>
            simp only [h1, h2, Option.some.injEq] at h; subst h
            obtain ⟨q1, q2⟩ := ihr r' h2
            refine ⟨by simp [q1], fun j x' hx => ?_⟩
            cases j with
            | zero => simp at hx; subst hx; exact ⟨z, rfl, h1⟩
            | succ j => simpa using q2 j x' (by simpa using hx)
    obtain ⟨q1, q2⟩ := key _ _ hl
    refine .tup (by rw [← q1]; exact hn) (fun j x' v hx hv => ?_)
    obtain ⟨x, hx1, hx2⟩ := q2 j x' hx
    exact ih j x v hx1 hv hx2

theorem normL_rel {G : Nat → Nat} (hG : ∀ d, d ∈ ks → 1 ≤ G d) : ∀ {l l' : List AV} {vs : List Value}, normL hp ks l = some l' → All2 (RelA S m (gen (lookH hp)) w) l vs → All2 (RelA S (normM hp m) G w) l' vs
  | [], _, vs, h, ha => by simp only [normL, Option.some.injEq] at h; subst h; cases vs with | nil => trivial | cons _ _ => exact ha.elim
  | z :: r, _, [], h, ha => ha.elim
  | z :: r, _, v :: vs, h, ⟨ha, hb⟩ => by
    simp only [normL] at h
    cases h1 : normA hp ks z with
    | none => simp [h1] at h
    | some z' => cases h2 : normL hp ks r with
      | none => simp [h1, h2] at h
      | some r' =>
        simp only [h1, h2, Option.some.injEq] at h; subst h
        exact ⟨normA_rel hG ha h1, normL_rel hG h2 hb⟩

theorem normFr_get : ∀ {ts : List Nat} {fr' : Fr}, normFr hp ks fr ts = some fr' → ∀ t, lookD fr' t = .top ∨ normA hp ks (lookD fr t) = some (lookD fr' t)
  | [], _, h, t => by simp only [normFr, Option.some.injEq] at h; subst h; exact .inl rfl
  | u :: r, _, h, t => by
    simp only [normFr] at h
    cases h1 : normA hp ks (lookD fr u) with
    | none => simp [h1] at h
    | some v => cases h2 : normFr hp ks fr r with
      | none => simp [h1, h2] at h
      | some l =>
        simp only [h1, h2, Option.some.injEq] at h; subst h
        rw [lookD_cons]
        simp only [putF]
        split
        · rename_i e; subst e; exact .inr h1
        · exact normFr_get h2 t

theorem normHp_get : ∀ {ds : List Nat} {hp' : Hl}, normHp hp ks ds = some hp' → ∀ d, (lookH hp' d = (0, .dead) ∧ d ∉ ds) ∨ (d ∈ ds ∧ ∃ b, lookH hp' d = (1, b) ∧ normB hp ks (lookH hp d).2 = some b)
  | [], _, h, d => by simp only [normHp, Option.some.injEq] at h; subst h; exact .inl ⟨rfl, by simp⟩
  | e :: r, _, h, d => by
    simp only [normHp] at h
    cases h1 : normB hp ks (lookH hp e).2 with
    | none => simp [h1] at h
    | some b => cases h2 : normHp hp ks r with
      | none => simp [h1, h2] at h
      | some l =>
        simp only [h1, h2, Option.some.injEq] at h; subst h
        rw [lookH_cons]
        simp only [updH]
        split
        · rename_i q; subst q; exact .inr ⟨by simp, b, rfl, h1⟩
        · rename_i q
          rcases normHp_get h2 d with ⟨h, h'⟩ | ⟨h, h'⟩
          · exact .inl ⟨h, by simp [q, h']⟩
          · exact .inr ⟨by simp [h], h'⟩

theorem normB_kind {b b' : Blk} (h : normB hp ks b = some b') : b'.live = b.live ∧ b'.own = b.own ∧ (∀ sz k at_, b' = .fz sz k at_ → b = .fz sz k at_) := by
  cases b with
  | dead => simp [normB] at h
  | vr cells =>
    simp only [normB] at h
    cases hl : normL hp ks cells with
    | none => simp [hl] at h
    | some l => simp only [hl, Option.some.injEq] at h; subst h; exact ⟨rfl, rfl, fun _ _ _ h => by cases h⟩
  | fa sz k at_ => simp only [normB, Option.some.injEq] at h; subst h; exact ⟨rfl, rfl, fun _ _ _ h => by cases h⟩
  | fz sz k at_ => simp only [normB, Option.some.injEq] at h; subst h; exact ⟨rfl, rfl, fun _ _ _ h => h⟩

theorem norm_weak {ts : List Nat} (h : normSt ts ks fr hp = some (fr', hp')) : WeakL n fr hp fr' hp' := by
  unfold normSt at h
  cases h1 : normFr hp ks fr ts with
  | none => simp [h1] at h
  | some f1 => cases h2 : normHp hp ks ks with
    | none => simp [h1, h2] at h
    | some p1 =>
      simp only [h1, h2, Option.some.injEq, Prod.mk.injEq] at h
      obtain ⟨rfl, rfl⟩ := h
      intro S0 pass w0 S m a w g
      have hget := normHp_get h2
      have hG : ∀ d, d ∈ ks → 1 ≤ (fun d => (lookH p1 d).1) d := by
        intro d hd
        rcases hget d with ⟨_, h⟩ | ⟨_, b, h, _⟩
        · exact absurd hd h
        · simp [h]
      -- what stands at a site that is kept
      have kept : ∀ d, (lookH p1 d).2.live = true → ∃ b, lookH p1 d = (1, b) ∧ normB hp ks (lookH hp d).2 = some b := by
        intro d hl
        rcases hget d with ⟨h, _⟩ | ⟨_, h⟩
        · rw [h] at hl; simp [Blk.live] at hl
        · exact h
      have hm : ∀ d b, lookH p1 d = (1, b) → normM hp m d (lookH p1 d).1 = m d (lookH hp d).1 := by
        intro d b h; rw [h]; simp [normM]
      refine ⟨S, normM hp m, { size := g.size, defers := g.defers, fr := fun t => ?_, hp := fun d hl => ?_, own := fun d ho h0 => ?_, frz := fun d sz k at_ hd h0 => ?_, inj := fun d d' ho ho' h0 h0' he => ?_, sin := g.sin, s0 := g.s0, s1 := g.s1, eff := g.eff }⟩
      · rcases normFr_get h1 t with h | h
        · rw [h]; exact .top
        · exact normA_rel hG (g.fr t) h
      · obtain ⟨b, e1, e2⟩ := kept d hl
        obtain ⟨k1, k2, k3⟩ := normB_kind e2
        obtain ⟨cs, q1, q2, q3⟩ := g.hp d (by rw [← k1]; rw [e1] at hl; exact hl)
        rw [hm d b e1]
        refine ⟨cs, q1, ?_, q3⟩
        rw [e1]
        cases hb : (lookH hp d).2 with
        | dead => rw [hb] at e2; simp [normB] at e2
        | vr cells =>
          rw [hb] at e2 q2
          simp only [normB] at e2
          cases hl2 : normL hp ks cells with
          | none => simp [hl2] at e2
          | some l => simp only [hl2, Option.some.injEq] at e2; subst e2; exact ⟨normL_rel hG hl2 q2.1, q2.2⟩
        | fa sz k at_ => rw [hb] at e2 q2; simp only [normB, Option.some.injEq] at e2; subst e2; exact q2
        | fz sz k at_ => rw [hb] at e2 q2; simp only [normB, Option.some.injEq] at e2; subst e2; exact q2
      · obtain ⟨b, e1, e2⟩ := kept d (own_live ho)
        obtain ⟨k1, k2, k3⟩ := normB_kind e2
        rw [hm d b e1] at h0 ⊢
        exact g.own d (by rw [← k2]; rw [e1] at ho; exact ho) h0
      · obtain ⟨b, e1, e2⟩ := kept d (by rw [hd]; rfl)
        obtain ⟨k1, k2, k3⟩ := normB_kind e2
        rw [hm d b e1] at h0 ⊢
        exact g.frz d sz k at_ (k3 sz k at_ (by rw [e1] at hd; exact hd)) h0
      · obtain ⟨b, e1, e2⟩ := kept d (own_live ho)
        obtain ⟨b', e1', e2'⟩ := kept d' (own_live ho')
        obtain ⟨k1, k2, k3⟩ := normB_kind e2
        obtain ⟨k1', k2', k3'⟩ := normB_kind e2'
        rw [hm d b e1] at h0 he; rw [hm d' b' e1'] at h0' he
        exact g.inj d d' (by rw [← k2]; rw [e1] at ho; exact ho) (by rw [← k2']; rw [e1'] at ho'; exact ho') h0 h0' he
end

/-! ### Monotone -/
section
variable {P : Program} {T : Tab} {n : Nat}

theorem outK_mono {out : OpOut} {K K' : AV → List (Nat × Nat × Blk) → Prop} (hk : ∀ v δ, K v δ → K' v δ) (h : outK out K) : outK out K' := by
  cases out with
  | bad => exact h.elim
  | ok v δ => simp only [outK, forceA_eq, forceD_eq] at h ⊢; exact hk _ _ h
  | chk c v δ => simp only [outK, forceA_eq, forceD_eq] at h ⊢; exact ⟨h.1, hk _ _ h.2⟩
  | ari k e =>
    simp only [outK] at h ⊢
    cases h with
    | fit h1 h2 h => exact .fit h1 h2 (hk _ _ h)
    | wrap h => exact .wrap (hk _ _ h)
theorem letK_mono {o : Op} {K K' : AV → List (Nat × Nat × Blk) → Prop} (hk : ∀ v δ, K v δ → K' v δ) {v : AV} {δ : List (Nat × Nat × Blk)} (h : letK o K v δ) : letK o K' v δ := by
  unfold letK at h ⊢
  split at h <;> first | exact hk _ _ h | (cases h with | as v h h2 => exact .as v h (hk _ _ h2))
theorem opK_mono {o : Oper} {fr : Fr} {hp : Hl} {K K' : AV → List (Nat × Nat × Blk) → Prop} (hk : ∀ v δ, K v δ → K' v δ) (h : opK P T o fr hp K) : opK P T o fr hp K' := by
  unfold opK at h ⊢
  split at h
  · split at h
    · simp only [forceL_eq, forceD_eq] at h ⊢
      cases h with
      | F r hc hcall hr hk' => exact .F r hc hcall hr (hk _ _ hk')
      | B r hc hcall hr hk' => exact .B r hc hcall hr (hk _ _ hk')
    · exact h.elim
  · exact outK_mono (fun v δ h => letK_mono hk h) h
theorem opsK_mono {all : List Oper} {K K' : Fr → Hl → Prop} (hk : ∀ fr hp, K fr hp → K' fr hp) : ∀ {r : List Oper} {j : Nat} {fr : Fr} {hp : Hl}, opsK P T n all j r fr hp K → opsK P T n all j r fr hp K'
  | [], j, fr, hp, h => hk _ _ h
  | o :: r, j, fr, hp, h => by
    simp only [opsK_cons] at h ⊢
    split at h
    · refine opK_mono (fun v δ h => ?_) h
      cases hgd : isGuard r j with
      | false => simp only [hgd, cond_false] at h ⊢; exact opsK_mono hk h
      | true =>
        simp only [hgd, cond_true] at h ⊢
        split at h
        · exact Spl.intro (fun e => opsK_mono hk (by have := Spl.elim h; rwa [e] at this)) (fun e => opsK_mono hk (by have := Spl.elim h; rwa [e] at this))
        · exact h.elim
    · exact opsK_mono hk h
    · exact h.elim
theorem opsD_mono {all : List Oper} {K K' : Fr → Hl → Prop} (hk : ∀ fr hp, K fr hp → K' fr hp) : ∀ {r : List Oper} {j : Nat} {items : List It} {fr : Fr} {hp : Hl}, opsD P T n all j r items fr hp K → opsD P T n all j r items fr hp K'
  | [], j, items, fr, hp, h => ⟨h.1, hk _ _ h.2⟩
  | o :: r, j, items, fr, hp, h => by
    simp only [opsD_cons] at h ⊢
    split at h
    · rw [forceN_eq] at h ⊢
      refine opK_mono (fun v δ h => ?_) h
      rw [forceN_eq] at h ⊢
      cases hgd : isGuard r j with
      | false => simp only [hgd, cond_false] at h ⊢; exact opsD_mono hk h
      | true =>
        simp only [hgd, cond_true] at h ⊢
        split at h
        · exact Spl.intro (fun e => opsD_mono hk (by have := Spl.elim h; rwa [e] at this)) (fun e => opsD_mono hk (by have := Spl.elim h; rwa [e] at this))
        · exact h.elim
    · exact opsD_mono hk h
    · exact h.elim
theorem keepK_mono {fr : Fr} {k k' : Fr → Prop} (hk : ∀ f, k f → k' f) : ∀ {keep : List Nat} {acc : Fr}, keepK keep fr acc k → keepK keep fr acc k'
  | [], acc, h => hk _ h
  | t :: r, acc, h => by
    simp only [keepK_cons, forceA_eq] at h ⊢
    split at h <;> exact keepK_mono hk h

theorem wpC_mono {keep : List Nat} : ∀ {c : Code} {fr : Fr} {hp : Hl} {Q Q' : Exit → Fr → Hl → Prop}, (∀ e fr hp, Q e fr hp → Q' e fr hp) → wpC P T n keep c fr hp Q → wpC P T n keep c fr hp Q' := by
  intro c
  induction c with
  | skip => intro fr hp Q Q' hq h; exact hq _ _ _ h
  | region id ops draw =>
    intro fr hp Q Q' hq h
    cases draw with
    | false => exact opsK_mono (fun fr hp h => keepK_mono (fun f h => by unfold wKept at h ⊢; rw [forceD_eq] at h ⊢; exact hq _ _ _ h) h) h
    | true => exact opsD_mono (fun fr hp h => keepK_mono (fun f h => by unfold wKept at h ⊢; rw [forceD_eq] at h ⊢; exact hq _ _ _ h) h) h
  | seq a b iha ihb =>
    intro fr hp Q Q' hq h
    refine iha (fun e fr hp h => ?_) h
    cases e with
    | normal => exact ihb hq h
    | _ => exact hq _ _ _ h
  | cond c a b iha ihb =>
    intro fr hp Q Q' hq h
    rw [wpC_cond] at h ⊢
    split at h
    · rename_i t ht
      exact Spl.intro (fun e => by subst e; exact iha hq (Spl.elim h)) (fun e => by subst e; exact ihb hq (Spl.elim h))
    · exact h.elim
  | block id a iha =>
    intro fr hp Q Q' hq h
    refine iha (fun e fr hp h => ?_) h
    cases e with
    | exit i =>
      replace h : (bif Nat.beq i id then Q .normal fr hp else Q (.exit i) fr hp) := h
      show (bif Nat.beq i id then Q' .normal fr hp else Q' (.exit i) fr hp)
      cases hb : Nat.beq i id with
      | true => simp only [hb, cond_true] at h ⊢; exact hq _ _ _ h
      | false => simp only [hb, cond_false] at h ⊢; exact hq _ _ _ h
    | _ => exact hq _ _ _ h
  | loop a iha =>
    intro fr hp Q Q' hq h
    rw [wpC_loop] at h ⊢
    induction h with
    | step N h hn ih =>
      refine .step N (iha (fun e fr hp h => ?_) h) ih
      cases e with
      | normal => exact h
      | _ => obtain ⟨fr2, hp2, hw, h⟩ := h; exact ⟨fr2, hp2, hw, hq _ _ _ h⟩
    | weak hw h ih => exact .weak hw ih
  | exit id => intro fr hp Q Q' hq h; exact hq _ _ _ h
  | ret => intro fr hp Q Q' hq h; exact hq _ _ _ h
  | rangeFunc => intro fr hp Q Q' hq h; exact h.elim
  | scope => intro fr hp Q Q' hq h; exact h.elim
  | label => intro fr hp Q Q' hq h; exact h.elim
  | goto => intro fr hp Q Q' hq h; exact h.elim
  | refuse => intro fr hp Q Q' hq h; exact h.elim

/-! ### Loops -/

/-- THE RULE: 'mk' the state at the head of a round in its fixed form, 'I' the invariant, 'μ' the measure. -/
theorem loop_rule {keep : List Nat} {c : Code} {fr : Fr} {hp : Hl} {Q : Exit → Fr → Hl → Prop} {σ : Type} (ts ks : List Nat) (mk : σ → Fr × Hl) (I : σ → Prop) (μ : σ → Nat) (s0 : σ)
    (h0 : normSt ts ks fr hp = some (mk s0)) (hI : I s0)
    (hstep : ∀ s, I s → wpC P T n keep c (mk s).1 (mk s).2 fun e fr hp => match e with
      | .normal => ∃ s', normSt ts ks fr hp = some (mk s') ∧ I s' ∧ μ s' < μ s
      | e => Q e fr hp) : LoopP P T keep c n (fun fr hp Q => wpC P T n keep c fr hp Q) Q fr hp := by
  have key : ∀ k s, μ s = k → I s → LoopP P T keep c n (fun fr hp Q => wpC P T n keep c fr hp Q) Q (mk s).1 (mk s).2 := by
    intro k
    induction k using Nat.strongRecOn with
    | _ k ih =>
      intro s hk hs
      refine .step (fun fr hp => ∃ s', normSt ts ks fr hp = some (mk s') ∧ I s' ∧ μ s' < μ s) (wpC_mono (fun e fr hp h => ?_) (hstep s hs)) ?_
      · cases e with
        | normal => exact h
        | _ => exact ⟨_, _, Weak.refl _ _ _, h⟩
      rintro fr' hp' ⟨s', h1, h2, h3⟩
      exact .weak (norm_weak h1) (ih (μ s') (hk ▸ h3) s' rfl h2)
  exact .weak (norm_weak h0) (key _ s0 rfl hI)

/-- one round, written out -/
theorem loop_unroll {keep : List Nat} {c : Code} {fr : Fr} {hp : Hl} {Q : Exit → Fr → Hl → Prop}
    (h : wpC P T n keep c fr hp fun e fr hp => match e with
      | .normal => LoopP P T keep c n (fun fr hp Q => wpC P T n keep c fr hp Q) Q fr hp
      | e => Q e fr hp) : LoopP P T keep c n (fun fr hp Q => wpC P T n keep c fr hp Q) Q fr hp :=
  .step (fun fr hp => LoopP P T keep c n (fun fr hp Q => wpC P T n keep c fr hp Q) Q fr hp) (wpC_mono (fun e fr hp h => by
    cases e with
    | normal => exact h
    | _ => exact ⟨_, _, Weak.refl _ _ _, h⟩) h) fun _ _ h => h

/-- an empty slice becomes a block of the call's own (for a loop that appends) -/
theorem adopt_weak {fr : Fr} {hp : Hl} (t d sz : Nat) {at_ : Nat → List FV} (h : lookD fr t = .f (.sl sz at_ 0 (some 0))) :
    WeakL n fr hp ((t, .lsl d ((lookH hp d).1 + 1) sz 0 0 none) :: fr) ((d, (lookH hp d).1 + 1, .fa sz 0 at_) :: hp) := by
  intro S0 pass w0 S m a w g
  have g1 := g.fresh0 d sz at_
  refine ⟨S, newM m d ((lookH hp d).1 + 1) (0, 0), ?_⟩
  rw [lookH_cons, lookD_cons]
  refine { g1 with fr := fun u => ?_ }
  simp only [putF]
  split
  · rename_i e; subst e
    have hr := g1.fr u
    rw [h] at hr
    generalize a.tmps.getD u undef = v at hr
    cases hr with
    | f hr =>
    cases hr with
    | sl vs hc hcap hn hl hb hv hr =>
      have := hcap 0 rfl; subst this
      exact .lsl (by simp [updH]) (Nat.le_refl _) (by simp) (by omega) (fun _ => rfl)
  · exact g1.fr u

end

/-! ### Functions -/

def FVle (x y : FV) : Prop := ∀ (S : Nat → Prop) (w : World) (v : Value), RelF S w x v → RelF S w y v
def AVle (x y : AV) : Prop := ∀ (S : Nat → Prop) (w : World) (v : Value), RelA S m0 G0 w x v → RelA S m0 G0 w y v

theorem FVle.refl (x : FV) : FVle x x := fun _ _ _ h => h
theorem AVle.refl (x : AV) : AVle x x := fun _ _ _ h => h
theorem FVle.trans {x y z : FV} (h : FVle x y) (k : FVle y z) : FVle x z := fun S w v hr => k S w v (h S w v hr)
theorem AVle.trans {x y z : AV} (h : AVle x y) (k : AVle y z) : AVle x z := fun S w v hr => k S w v (h S w v hr)
theorem AVle.f {x y : FV} (h : FVle x y) : AVle (.f x) (.f y) := fun S w v hr => by cases hr with | f hr => exact .f (h S w v hr)
theorem FVle.sl {sz len : Nat} {at_ at' : Nat → List FV} {cap cap' : Option Nat} (h : ∀ i, i < len → All2 FVle (at_ i) (at' i)) (hcap : cap' = none ∨ cap' = cap) : FVle (.sl sz at_ len cap) (.sl sz at' len cap') := by
  intro S w v hr
  cases hr with
  | sl vs hc hcap0 hn hl hb hv hr =>
    refine .sl vs hc ?_ hn (fun i hi => by rw [← (h i hi).length]; exact hl i hi) hb hv (fun i j x hi hx => ?_)
    · rcases hcap with rfl | rfl
      · simp
      · exact hcap0
    · have hlen := (h i hi).length
      have hj : j < (at_ i).length := by rw [hlen]; exact (List.getElem?_eq_some_iff.1 hx).1
      obtain ⟨y, hy, hle⟩ := (h i hi).get (List.getElem?_eq_getElem hj)
      rw [hx] at hy; cases hy
      exact hle S w _ (hr i j _ hi (List.getElem?_eq_getElem hj))
theorem FVle.nil {sz sz' : Nat} {at_ at' : Nat → List FV} {cap : Option Nat} : FVle (.sl sz at_ 0 cap) (.sl sz' at' 0 none) := by
  intro S w v hr
  cases hr with
  | sl vs hc hcap hn hl hb hv hr => exact .sl vs hc (by simp) hn (by omega) (by omega) (fun a ha i j hi => by omega) (fun i j x hi => by omega)
theorem all2_le : ∀ {l l' : List AV}, All2 AVle l l' → ∀ {S : Nat → Prop} {w : World} {vs : List Value}, All2 (RelA S m0 G0 w) l vs → All2 (RelA S m0 G0 w) l' vs
  | [], [], _, _, _, _, h => h
  | _ :: _, _ :: _, ⟨a, b⟩, S, w, v :: vs, ⟨c, d⟩ => ⟨a S w v c, all2_le b d⟩
  | _ :: _, _ :: _, _, _, _, [], h => h.elim
  | [], _ :: _, h, _, _, _, _ => h.elim
  | _ :: _, [], h, _, _, _, _ => h.elim
theorem AVle.agg {l l' : List AV} (h : All2 AVle l l') : AVle (.agg l) (.agg l') := by
  intro S w v hr
  cases hr with
  | @agg _ cs hn hr h1 =>
    have := all2_le h (S := S) (w := w) (vs := cs.toList) (All2.of (by simpa using hn) fun j a b ha hb => hr j a b ha (by simpa using hb))
    refine .agg (by simpa using this.length) (fun j x v hx hv => ?_) h1
    obtain ⟨b, hb, hr⟩ := this.get hx
    simp at hb; rw [hv] at hb; cases hb; exact hr
theorem AVle.tup {l l' : List AV} (h : All2 AVle l l') : AVle (.tup l) (.tup l') := by
  intro S w v hr
  cases hr with
  | @tup _ cs hn hr =>
    have := all2_le h (S := S) (w := w) (vs := cs.toList) (All2.of (by simpa using hn) fun j a b ha hb => hr j a b ha (by simpa using hb))
    refine .tup (by simpa using this.length) (fun j x v hx hv => ?_)
    obtain ⟨b, hb, hr⟩ := this.get hx
    simp at hb; rw [hv] at hb; cases hb; exact hr

theorem ACall.args {P : Program} {f : FuncId} {xs ys : List AV} {r : AV} (h : ACall P f ys r) (hle : All2 AVle xs ys) : ACall P f xs r :=
  ⟨h.1, fun S w cargs hS hr => h.2 S w cargs hS (all2_le hle hr)⟩
theorem ACall.res {P : Program} {f : FuncId} {xs : List AV} {r r' : AV} (h : ACall P f xs r) (hle : AVle r r') : ACall P f xs r' :=
  ⟨h.1, fun S w cargs hS hr => (h.2 S w cargs hS hr).mono fun e w' ⟨v, h1, h2, h3⟩ => ⟨v, h1, h2, hle _ _ _ h3⟩⟩

def initFr : Nat → List AV → Fr
  | _, [] => []
  | k, v :: r => (k, v) :: initFr (k + 1) r
theorem initFr_get : ∀ (l : List AV) (k t : Nat), lookD (initFr k l) t = if k ≤ t then (l[t - k]?).getD .top else .top
  | [], k, t => by simp [initFr, lookD_nil]
  | v :: r, k, t => by
    simp only [initFr]
    rw [lookD_cons]
    simp only [putF]
    rw [initFr_get r (k + 1) t]
    by_cases h : t = k
    · subst h; simp
    · rw [if_neg h]
      by_cases h2 : k ≤ t
      · rw [if_pos (by omega), if_pos h2, show t - k = (t - (k + 1)) + 1 by omega, List.getElem?_cons_succ]
      · rw [if_neg (by omega), if_neg h2]

/-- what a function hands back -/
def retK (T : Tab) (rs : List ResultVar) (e : Exit) (fr : Fr) (hp : Hl) (K : AV → Prop) : Prop :=
  match e with
  | .normal | .ret => match resA T (lookD fr) (lookH hp) rs with
    | some l => match snapL (lookH hp) l with
      | some (l, _, c) => c ∧ forceA (packA l) fun r => K r
      | none => False
    | none => False
  | _ => False

/-- what the program and the table must be -/
structure Env (P : Program) (T : Tab) : Prop where
  tab : tabOk P T = true
  mix : P.follows .mixedOrders = true

/-- THE RULE FOR A FUNCTION -/
theorem acall_rule {P : Program} {T : Tab} (E : Env P T) {f : FuncId} {fn : Func} {c : Code} {args : List AV} {r : AV} (keep : List Nat) (hf : P.funcs[f]? = some fn) (hb : fn.body = some c) (hnm : (fn.name == "runtime.NumGoroutine") = false)
    (hargs : noLocs args = true) (hle : Nat.ble args.length fn.ntmps = true)
    (h : wpC P T fn.ntmps keep c (initFr 0 args) [] fun e fr hp => retK T fn.results.toList e fr hp fun r' => AVle r' r) : ACall P f args r := by
  obtain ⟨e, fr', hp', h1, h2⟩ := wpC_sound h
  have hret : (e = .normal ∨ e = .ret) ∧ ∃ l ls δ c, resA T (lookD fr') (lookH hp') fn.results.toList = some l ∧ snapL (lookH hp') l = some (ls, δ, c) ∧ c ∧ AVle (packA ls) r := by
    unfold retK at h2
    split at h2
    · refine ⟨.inl rfl, ?_⟩
      split at h2
      · rename_i l hl
        split at h2
        · rename_i ls δ c hs; rw [forceA_eq] at h2; exact ⟨l, ls, δ, c, hl, hs, h2⟩
        · exact h2.elim
      · exact h2.elim
    · refine ⟨.inr rfl, ?_⟩
      split at h2
      · rename_i l hl
        split at h2
        · rename_i ls δ c hs; rw [forceA_eq] at h2; exact ⟨l, ls, δ, c, hl, hs, h2⟩
        · exact h2.elim
      · exact h2.elim
    · exact h2.elim
  obtain ⟨he, l, ls, δ, cc, hl, hs, hcc, hle2⟩ := hret
  have h0 : lookH ([] : Hl) = fun _ => (0, .dead) := rfl
  rw [h0] at h1
  exact acall_of_exec E.tab E.mix hf hb hnm hargs (fun t => by rw [initFr_get]; simp) rfl (Nat.le_of_ble_eq_true hle) h1 he hl hs hcc rfl hle2

/-! ### Sums that fit -/
theorem fit64 {e : Int} {K : Int → Prop} (h : -9223372036854775808 ≤ e ∧ e ≤ 9223372036854775807) (hk : K e) : Ari .i64 e K := .fit h.1 h.2 hk
theorem fitu64 {e : Int} {K : Int → Prop} (h : 0 ≤ e ∧ e ≤ 18446744073709551615) (hk : K e) : Ari .u64 e K := .fit h.1 h.2 hk
theorem fitu32 {e : Int} {K : Int → Prop} (h : 0 ≤ e ∧ e ≤ 4294967295) (hk : K e) : Ari .u32 e K := .fit h.1 h.2 hk
theorem fiti32 {e : Int} {K : Int → Prop} (h : -2147483648 ≤ e ∧ e ≤ 2147483647) (hk : K e) : Ari .i32 e K := .fit h.1 h.2 hk
theorem fitu8 {e : Int} {K : Int → Prop} (h : 0 ≤ e ∧ e ≤ 255) (hk : K e) : Ari .u8 e K := .fit h.1 h.2 hk

/-- a contract at a call, arguments and result as they come -/
theorem callF {P : Program} {f : FuncId} {xs ys : List AV} {δ : List (Nat × Nat × Blk)} {c : Prop} {K : AV → List (Nat × Nat × Blk) → Prop} {r : AV} (h : ACall P f ys r) (hle : All2 AVle xs ys) (hc : c) (hr : r.noLoc = true) (hk : K r δ) : CallP P f xs δ c K :=
  .F r hc (h.args hle) hr hk
theorem callB {P : Program} {f : FuncId} {xs ys : List AV} {δ : List (Nat × Nat × Blk)} {c : Prop} {K : AV → List (Nat × Nat × Blk) → Prop} {r : AV} (h : ACall P f ys r) (hle : All2 AVle xs ys) (hc : c) (hr : r.scalar = true) (hk : K r []) : CallP P f xs δ c K :=
  .B r hc (h.args hle) hr hk

end
end Go.Abs
