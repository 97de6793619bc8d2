/- Calls by contract: data in, data out. -/
import Derived.Test.YtmlhfccpnehaeaaAbsW
set_option autoImplicit false
set_option linter.unusedVariables false
set_option linter.unusedSimpArgs false
namespace Go.Abs

def m0 : Places := fun _ _ => (0, 0)
def G0 : Nat → Nat := fun _ => 0

/-- THE CONTRACT OF A FUNCTION: in every world in which the arguments read as 'args' (out of blocks of S), the call returns a value that reads as 'r' (out of S and of new blocks); what was there stays. -/
def HasBody (P : Program) (f : FuncId) : Prop := ∃ fn, P.funcs[f]? = some fn ∧ fn.body.isSome = true ∧ (fn.name == "runtime.NumGoroutine") = false
def ACall (P : Program) (f : FuncId) (args : List AV) (r : AV) : Prop :=
  HasBody P f ∧ ∀ (S : Nat → Prop) (w : World) (cargs : Array Value), (∀ k, S k → k < w.heap.size) → All2 (RelA S m0 G0 w) args cargs.toList →
    Calls P f cargs w fun e w' => ∃ v, e = .returned v ∧ Eff (fun _ => False) w w' ∧ RelA (fun k => S k ∨ (w.heap.size ≤ k ∧ k < w'.heap.size)) m0 G0 w' r v

mutual
/-- no reference to a block of the call's own -/
def AV.noLoc : AV → Bool
  | .top | .f _ => true
  | .lsl .. | .lptr .. => false
  | .agg cs => noLocs cs
  | .tup vs => noLocs vs
def noLocs : List AV → Bool
  | [] => true
  | v :: r => v.noLoc && noLocs r
end

mutual
/-- plain numbers and bools alone -/
def AV.scalar : AV → Bool
  | .f (.int ..) | .f (.bool _) => true
  | .agg cs => scalars cs
  | .tup vs => scalars vs
  | _ => false
def scalars : List AV → Bool
  | [] => true
  | v :: r => v.scalar && scalars r
end

theorem noLocs_get : ∀ {l : List AV} {j : Nat} {v : AV}, noLocs l = true → l[j]? = some v → v.noLoc = true
  | [], _, _, _, h => by simp at h
  | x :: r, 0, v, h, e => by simp only [noLocs, Bool.and_eq_true] at h; simp at e; subst e; exact h.1
  | x :: r, j + 1, v, h, e => by simp only [noLocs, Bool.and_eq_true] at h; exact noLocs_get h.2 (by simpa using e)
theorem scalars_get : ∀ {l : List AV} {j : Nat} {v : AV}, scalars l = true → l[j]? = some v → v.scalar = true
  | [], _, _, _, h => by simp at h
  | x :: r, 0, v, h, e => by simp only [scalars, Bool.and_eq_true] at h; simp at e; subst e; exact h.1
  | x :: r, j + 1, v, h, e => by simp only [scalars, Bool.and_eq_true] at h; exact scalars_get h.2 (by simpa using e)

theorem RelA.noLoc {S : Nat → Prop} {m m' : Places} {G G' : Nat → Nat} {w : World} {x : AV} {v : Value} (h : RelA S m G w x v) : x.noLoc = true → RelA S m' G' w x v := by
  induction h with
  | top => intro _; exact .top
  | f h => intro _; exact .f h
  | lsl => intro h; simp [AV.noLoc] at h
  | lptr => intro h; simp [AV.noLoc] at h
  | agg hn h h1 ih => intro hs; simp only [AV.noLoc] at hs; exact .agg hn (fun j x v hx hv => ih j x v hx hv (noLocs_get hs hx)) h1
  | tup hn h ih => intro hs; simp only [AV.noLoc] at hs; exact .tup hn (fun j x v hx hv => ih j x v hx hv (noLocs_get hs hx))

theorem RelA.scalar {S S' : Nat → Prop} {m m' : Places} {G G' : Nat → Nat} {w w' : World} {x : AV} {v : Value} (h : RelA S m G w x v) : x.scalar = true → RelA S' m' G' w' x v := by
  induction h with
  | top => intro h; simp [AV.scalar] at h
  | f h => intro hs; cases h <;> first | exact .f .int | exact .f .bool | (simp [AV.scalar] at hs)
  | lsl => intro h; simp [AV.scalar] at h
  | lptr => intro h; simp [AV.scalar] at h
  | agg hn h h1 ih => intro hs; simp only [AV.scalar] at hs; exact .agg hn (fun j x v hx hv => ih j x v hx hv (scalars_get hs hx)) h1
  | tup hn h ih => intro hs; simp only [AV.scalar] at hs; exact .tup hn (fun j x v hx hv => ih j x v hx hv (scalars_get hs hx))

/-! ### Slices of the call's own, lent as data -/

/-- a block that is for reading only from now on -/
def Blk.freeze : Blk → Nat → Blk
  | .fa sz n at_, _ | .fz sz n at_, _ => .fz sz n at_
  | .vr cells, sz => match FV.toL cells with
    | some l => .fz sz (l.length / sz) (fun r => (l.drop (r * sz)).take sz)
    | none => .dead
  | .dead, _ => .dead

mutual
/-- a value as data: references to blocks become what they hold; the blocks that were lent; on what condition -/
def snapA (H : Hp) : AV → Option (AV × List (Nat × Nat × Blk) × Prop)
  | .f (.sl sz at_ len _) => some (.f (.sl sz at_ len none), [], True)
  | .f x => some (.f x, [], True)
  | .lsl d g sz i len _ => match H d with
    | (g', b) => bif Nat.beq g' g && Nat.blt 0 sz then (match b.view sz i with | some (c, at_) => some (.f (.sl sz at_ len none), [(d, g, b.freeze sz)], len ≤ c) | none => none) else none
  | .agg cs => match snapL H cs with
    | some (cs', δ, c) => some (.agg cs', δ, c)
    | none => none
  | _ => none
def snapL (H : Hp) : List AV → Option (List AV × List (Nat × Nat × Blk) × Prop)
  | [] => some ([], [], True)
  | v :: r => match snapA H v, snapL H r with
    | some (v', δ, c), some (r', δ', c') => some (v' :: r', δ ++ δ', c ∧ c')
    | _, _ => none
end

section
variable {n : Nat} {S0 pass : Nat → Prop} {w0 : World} {F : Nat → AV} {H : Hp} {S : Nat → Prop} {m : Places} {a : Act} {w : World}

/-- the blocks of the sites that are lent -/
def lentS (m : Places) (S : Nat → Prop) (δ : List (Nat × Nat × Blk)) : Nat → Prop := fun k => S k ∨ ∃ d g b, (d, g, b) ∈ δ ∧ 0 < (m d g).2 ∧ (m d g).1 = k

theorem snap_rel (hH : ∀ d, (H d).2.live = true → ∃ cs : Array Value, cs.size = (m d (H d).1).2 ∧ RelB S m (gen H) w (H d).2 cs ∧ ∀ (j : Nat) (v : Value), cs[j]? = some v → w.cell? ⟨(m d (H d).1).1, j, none⟩ = some v)
    {x : AV} {v : Value} (h : RelA S m (gen H) w x v) : ∀ {x' : AV} {δ : List (Nat × Nat × Blk)} {c : Prop}, snapA H x = some (x', δ, c) → c →
      ∀ {S' : Nat → Prop}, (∀ k, lentS m S δ k → S' k) → RelA S' m0 G0 w x' v := by
  induction h with
  | top => intro x' δ c h; simp [snapA] at h
  | @f x v h =>
    intro x' δ c hs hc S' hS
    have hm := h.mono (S' := S') (w' := w) (fun k hk => hS k (.inl hk)) (Keeps.refl _ _)
    cases x with
    | sl sz at_ len cap =>
      simp only [snapA, Option.some.injEq, Prod.mk.injEq] at hs
      obtain ⟨rfl, rfl, rfl⟩ := hs
      cases hm with
      | sl vs hc hcap hn hl hb hv hr => exact .f (.sl vs hc (by simp) hn hl hb hv hr)
    | _ => simp only [snapA, Option.some.injEq, Prod.mk.injEq] at hs; obtain ⟨rfl, rfl, rfl⟩ := hs; exact .f hm
  | @lsl d g sz i len cc cap base hg hcc hcap hb hn =>
    intro x' δ c hs hc S' hS
    simp only [snapA] at hs
    cases hq : (Nat.beq (H d).1 g && Nat.blt 0 sz) with
    | false => simp [hq] at hs
    | true =>
    simp only [hq, cond_true] at hs
    simp only [Bool.and_eq_true] at hq
    have hgg := Nat.eq_of_beq_eq_true hq.1; subst hgg
    have hpos : 0 < sz := by simpa [Nat.blt_eq] using hq.2
    cases hvw : (H d).2.view sz i with
    | none => simp [hvw] at hs
    | some cv =>
    obtain ⟨k, at_⟩ := cv
    simp only [hvw, Option.some.injEq, Prod.mk.injEq] at hs
    obtain ⟨rfl, rfl, rfl⟩ := hs
    have hlive : (H d).2.live = true := by cases e : (H d).2 <;> simp_all [Blk.view, Blk.live]
    obtain ⟨cs, q1, q2, q3⟩ := hH d hlive
    obtain ⟨v1, v2⟩ := view_rel q2 hvw
    have hin : ∀ r j, r < len → j < sz → ∃ v, cs[(i + r) * sz + j]? = some v ∧ ∃ x, (at_ r)[j]? = some x ∧ RelF S w x v := by
      intro r j hr hj
      have hx : (at_ r)[j]? = some _ := List.getElem?_eq_getElem (by rw [v1 r (by omega)]; exact hj)
      obtain ⟨v, hv, hrr⟩ := v2 r j _ (by omega) hx
      exact ⟨v, hv, _, hx, hrr⟩
    have hbase : ∀ a, base = some a → 0 < len → a = ⟨(m d (H d).1).1, i * sz, none⟩ := by
      intro a ha h0
      have := (hb (by omega)).1
      rw [ha] at this; simpa using this
    refine .f (.sl (fun r j => (cs[(i + r) * sz + j]?).getD undef) hcc (by simp) hn (fun r hr => v1 r (by omega)) (fun a ha h0 hz => ?_) (fun a ha r j hr hj => ?_) (fun r j x hr hx => ?_))
    · rw [hbase a ha h0]
      refine ⟨rfl, hS _ (.inr ⟨d, _, _, List.mem_singleton.2 rfl, ?_, rfl⟩)⟩
      obtain ⟨v, hv, _⟩ := hin 0 0 h0 hz
      have := (Array.getElem?_eq_some_iff.1 hv).1
      omega
    · rw [hbase a ha (by omega)]
      obtain ⟨v, hv, _⟩ := hin r j hr hj
      have := q3 _ v hv
      simp only [hv, Option.getD_some]
      rw [← this]; congr 2; rw [Nat.add_mul]; omega
    · obtain ⟨v, hv, hrr⟩ := v2 r j x (by omega) hx
      simp only [hv, Option.getD_some]
      exact hrr.mono (fun k hk => hS k (.inl hk)) (Keeps.refl _ _)
  | lptr => intro x' δ c h; simp [snapA] at h
  | @agg cells cs hn h h1 ih =>
    intro x' δ c hs hc S' hS
    simp only [snapA] at hs
    cases hl : snapL H cells with
    | none => simp [hl] at hs
    | some q =>
    obtain ⟨cs', δ', c'⟩ := q
    simp only [hl, Option.some.injEq, Prod.mk.injEq] at hs
    obtain ⟨rfl, rfl, rfl⟩ := hs
    have key : ∀ (l : List AV) (l' : List AV) (δ : List (Nat × Nat × Blk)) (c : Prop) (vs : List Value), snapL H l = some (l', δ, c) → c → l.length = vs.length →
        (∀ (j : Nat) (x : AV) (v : Value), l[j]? = some x → vs[j]? = some v → ∀ {x' : AV} {δ : List (Nat × Nat × Blk)} {c : Prop}, snapA H x = some (x', δ, c) → c → ∀ {S' : Nat → Prop}, (∀ k, lentS m S δ k → S' k) → RelA S' m0 G0 w x' v) →
        (∀ k, lentS m S δ k → S' k) → All2 (RelA S' m0 G0 w) l' vs := by
      intro l
      induction l with
      | nil => intro l' δ c vs hs hc hn _ _; simp only [snapL, Option.some.injEq, Prod.mk.injEq] at hs; obtain ⟨rfl, rfl, rfl⟩ := hs; cases vs with | nil => trivial | cons _ _ => simp at hn
      | cons y r ihl =>
        intro l' δ c vs hs hc hn hall hS
        cases vs with
        | nil => simp at hn
        | cons v vs =>
        simp only [snapL] at hs
        cases h1 : snapA H y with
        | none => simp [h1] at hs
        | some q1 =>
        cases h2 : snapL H r with
        | none => simp [h1, h2] at hs
        | some q2 =>
        obtain ⟨y', δ1, c1⟩ := q1
        obtain ⟨r', δ2, c2⟩ := q2
        simp only [h1, h2, Option.some.injEq, Prod.mk.injEq] at hs
        obtain ⟨rfl, rfl, rfl⟩ := hs
        refine ⟨hall 0 y v rfl rfl h1 hc.1 fun k hk => hS k ?_, ihl r' δ2 c2 vs h2 hc.2 (by simpa using hn) (fun j x v hx hv => hall (j + 1) x v (by simpa using hx) (by simpa using hv)) fun k hk => hS k ?_⟩
        · rcases hk with h | ⟨d, g, b, h, h0⟩
          · exact .inl h
          · exact .inr ⟨d, g, b, List.mem_append.2 (.inl h), h0⟩
        · rcases hk with h | ⟨d, g, b, h, h0⟩
          · exact .inl h
          · exact .inr ⟨d, g, b, List.mem_append.2 (.inr h), h0⟩
    have hall := key cells cs' δ' c' cs.toList hl hc (by simpa using hn) (fun j x v hx hv => ih j x v hx (by simpa using hv)) hS
    refine .agg (by simpa using hall.length) (fun j x v hx hv => ?_) h1
    obtain ⟨b, hb, hr⟩ := hall.get hx
    simp at hb; rw [hv] at hb; cases hb; exact hr
  | tup => intro x' δ c h; simp [snapA] at h

theorem snapL_rel (hH : ∀ d, (H d).2.live = true → ∃ cs : Array Value, cs.size = (m d (H d).1).2 ∧ RelB S m (gen H) w (H d).2 cs ∧ ∀ (j : Nat) (v : Value), cs[j]? = some v → w.cell? ⟨(m d (H d).1).1, j, none⟩ = some v) {S' : Nat → Prop} :
    ∀ {l l' : List AV} {δ : List (Nat × Nat × Blk)} {c : Prop} {vs : List Value}, All2 (RelA S m (gen H) w) l vs → snapL H l = some (l', δ, c) → c → (∀ k, lentS m S δ k → S' k) → All2 (RelA S' m0 G0 w) l' vs
  | [], _, _, _, vs, h, hs, hc, hS => by simp only [snapL, Option.some.injEq, Prod.mk.injEq] at hs; obtain ⟨rfl, rfl, rfl⟩ := hs; cases vs with | nil => trivial | cons _ _ => exact h.elim
  | y :: r, _, _, _, [], h, hs, hc, hS => h.elim
  | y :: r, _, _, _, v :: vs, ⟨ha, hb⟩, hs, hc, hS => by
    simp only [snapL] at hs
    cases h1 : snapA H y with
    | none => simp [h1] at hs
    | some q1 =>
    cases h2 : snapL H r with
    | none => simp [h1, h2] at hs
    | some q2 =>
    obtain ⟨y', δ1, c1⟩ := q1
    obtain ⟨r', δ2, c2⟩ := q2
    simp only [h1, h2, Option.some.injEq, Prod.mk.injEq] at hs
    obtain ⟨rfl, rfl, rfl⟩ := hs
    refine ⟨snap_rel hH ha h1 hc.1 fun k hk => hS k ?_, snapL_rel hH hb h2 hc.2 fun k hk => hS k ?_⟩
    · rcases hk with h | ⟨d, g, b, h, h0⟩
      · exact .inl h
      · exact .inr ⟨d, g, b, List.mem_append.2 (.inl h), h0⟩
    · rcases hk with h | ⟨d, g, b, h, h0⟩
      · exact .inl h
      · exact .inr ⟨d, g, b, List.mem_append.2 (.inr h), h0⟩

theorem freeze_rel {G : Nat → Nat} {b : Blk} {cs : Array Value} {sz i : Nat} {cv : Nat × (Nat → List FV)} (h : RelB S m G w b cs) (hv : b.view sz i = some cv) :
    RelB S m G w (b.freeze sz) cs ∧ ∃ sz' k at_, b.freeze sz = .fz sz' k at_ := by
  cases b with
  | dead => simp [Blk.view] at hv
  | vr cells =>
    simp only [Blk.view] at hv
    cases hl : FV.toL cells with
    | none => simp [hl] at hv
    | some l =>
    simp only [hl] at hv
    cases hz : Nat.beq sz 0 with
    | true => simp [hz] at hv
    | false =>
    have hsz : 0 < sz := by cases sz with | zero => simp at hz | succ k => omega
    have hview : (Blk.vr cells).view sz 0 = some (l.length / sz - 0, fun j => (l.drop ((0 + j) * sz)).take sz) := by simp [Blk.view, hl, hz]
    obtain ⟨v1, v2⟩ := view_rel h hview
    have hlen : l.length = cs.size := by have := h.1.length; rw [toL_eq hl, fL_length] at this; simpa using this
    simp only [Blk.freeze, hl]
    refine ⟨⟨by have := Nat.div_mul_le_self l.length sz; omega, fun i hi => ?_, fun i j x hi hx => ?_⟩, _, _, _, rfl⟩
    · have := v1 i (by omega); simpa using this
    · have := v2 i j x (by omega) (by simpa using hx); simpa using this
  | fa sz' k at_ => exact ⟨h, _, _, _, rfl⟩
  | fz sz' k at_ => exact ⟨h, _, _, _, rfl⟩

/-- a block is from now on for reading only -/
theorem Good.freeze1 (g : Good n S0 pass w0 F H S m a w) {d : Nat} (hl : (H d).2.live = true) {b' : Blk} (hb' : ∃ sz' k at_, b' = .fz sz' k at_) {cs : Array Value} (hc : cs.size = (m d (H d).1).2) (hr : RelB S m (gen H) w b' cs)
    (hh : 0 < cs.size → ∃ e, w.heap[(m d (H d).1).1]? = some (.cells cs e (0, 0))) {S' : Nat → Prop} (h1 : ∀ k, S k → S' k) (h2 : ∀ k, S' k → S k ∨ (0 < (m d (H d).1).2 ∧ k = (m d (H d).1).1)) (h3 : 0 < (m d (H d).1).2 → S' (m d (H d).1).1) :
    Good n S0 pass w0 F (updH H d (H d).1 b') S' m a w := by
  obtain ⟨sz', kk, at_, rfl⟩ := hb'
  have hgen : (fun k => (updH H d (H d).1 (.fz sz' kk at_) k).1) = gen H := by funext k; unfold updH gen; split <;> simp_all
  have hK : Keeps S w w := Keeps.refl _ _
  have hlt : 0 < (m d (H d).1).2 → (m d (H d).1).1 < w.heap.size := fun h => g.lt hl h
  -- own blocks are other blocks
  have hoth : ∀ q, (updH H d (H d).1 (.fz sz' kk at_) q).2.own = true → q ≠ d ∧ (H q).2.own = true := by
    intro q hq
    by_cases h : q = d
    · subst h; rw [updH_same] at hq; simp [Blk.own] at hq
    · rw [updH_ne _ _ _ h] at hq; exact ⟨h, hq⟩
  have hne : ∀ q, q ≠ d → (H q).2.own = true → 0 < (m q (H q).1).2 → 0 < (m d (H d).1).2 → (m q (H q).1).1 ≠ (m d (H d).1).1 := by
    intro q hq ho p1 p2 e
    cases hb : (H d).2 with
    | dead => rw [hb] at hl; simp [Blk.live] at hl
    | vr c => exact hq (g.inj q d ho (by rw [hb]; rfl) p1 p2 e)
    | fa _ _ _ => exact hq (g.inj q d ho (by rw [hb]; rfl) p1 p2 e)
    | fz _ _ _ => exact (g.own q ho p1).1 (e ▸ g.frz d _ _ _ hb p2)
  refine { size := g.size, defers := g.defers, fr := fun t => ?_, hp := fun d' hl' => ?_, own := fun d' ho h0 => ?_, frz := fun d' sz k at' hd h0 => ?_, inj := fun d1 d2 o1 o2 p1 p2 he => ?_, sin := fun k hs => ?_, s0 := fun k hs => ?_, s1 := fun k h => h1 k (g.s1 k h), eff := g.eff }
  · rw [hgen]; exact (g.fr t).mono h1 hK (fun _ _ _ => rfl) (fun _ => Nat.le_refl _)
  · rw [hgen]
    by_cases h : d' = d
    · subst h; rw [updH_same]; exact ⟨cs, hc, hr.mono h1 hK (fun _ _ _ => rfl) (fun _ => Nat.le_refl _), hh⟩
    · rw [updH_ne _ _ _ h] at hl' ⊢
      obtain ⟨cs', q1, q2, q3⟩ := g.hp d' hl'
      exact ⟨cs', q1, q2.mono h1 hK (fun _ _ _ => rfl) (fun _ => Nat.le_refl _), q3⟩
  · obtain ⟨a1, a2⟩ := hoth d' ho
    rw [updH_ne _ _ _ a1] at h0 ⊢
    obtain ⟨b1, b2⟩ := g.own d' a2 h0
    refine ⟨fun hs => ?_, b2⟩
    rcases h2 _ hs with h | ⟨h, e⟩
    · exact b1 h
    · exact hne d' a1 a2 h0 h e
  · by_cases h : d' = d
    · subst h; rw [updH_same] at h0 ⊢; exact h3 h0
    · rw [updH_ne _ _ _ h] at hd h0 ⊢; exact h1 _ (g.frz d' _ _ _ hd h0)
  · obtain ⟨a1, a2⟩ := hoth d1 o1
    obtain ⟨b1, b2⟩ := hoth d2 o2
    rw [updH_ne _ _ _ a1] at p1 he; rw [updH_ne _ _ _ b1] at p2 he
    exact g.inj d1 d2 a2 b2 p1 p2 he
  · rcases h2 k hs with h | ⟨h, e⟩
    · exact g.sin k h
    · rw [e]; exact hlt h
  · rcases h2 k hs with h | ⟨h, e⟩
    · exact g.s0 k h
    · subst e
      cases hb : (H d).2 with
      | dead => rw [hb] at hl; simp [Blk.live] at hl
      | fz _ _ _ => exact g.s0 _ (g.frz d _ _ _ hb h)
      | vr _ => exact (g.own d (by rw [hb]; rfl) h).2.elim (fun q => .inr (.inr q)) (fun q => .inr (.inl q))
      | fa _ _ _ => exact (g.own d (by rw [hb]; rfl) h).2.elim (fun q => .inr (.inr q)) (fun q => .inr (.inl q))

/-- what snapshots leave behind: blocks for reading only -/
def Frozen (H : Hp) (x : Nat × Nat × Blk) : Prop := x.2.1 = (H x.1).1 ∧ ∃ sz i cv, (H x.1).2.view sz i = some cv ∧ x.2.2 = (H x.1).2.freeze sz

mutual
theorem snapA_frozen (H : Hp) : ∀ (v : AV) {v' : AV} {δ : List (Nat × Nat × Blk)} {c : Prop}, snapA H v = some (v', δ, c) → ∀ x ∈ δ, Frozen H x
  | .top, _, _, _, h => by simp [snapA] at h
  | .f x, _, _, _, h => by
    cases x <;> simp only [snapA, Option.some.injEq, Prod.mk.injEq] at h <;> obtain ⟨rfl, rfl, rfl⟩ := h <;> simp
  | .lsl d g sz i len cap, _, _, _, h => by
    simp only [snapA] at h
    cases hq : (Nat.beq (H d).1 g && Nat.blt 0 sz) with
    | false => simp [hq] at h
    | true =>
    simp only [hq, cond_true] at h
    simp only [Bool.and_eq_true] at hq
    have hgg := Nat.eq_of_beq_eq_true hq.1; subst hgg
    cases hvw : (H d).2.view sz i with
    | none => simp [hvw] at h
    | some cv =>
    simp only [hvw, Option.some.injEq, Prod.mk.injEq] at h
    obtain ⟨rfl, rfl, rfl⟩ := h
    intro x hx
    simp only [List.mem_singleton] at hx
    subst hx
    exact ⟨rfl, sz, i, _, hvw, rfl⟩
  | .lptr .., _, _, _, h => by simp [snapA] at h
  | .agg cs, _, _, _, h => by
    simp only [snapA] at h
    cases hl : snapL H cs with
    | none => simp [hl] at h
    | some q =>
    simp only [hl, Option.some.injEq, Prod.mk.injEq] at h
    obtain ⟨rfl, rfl, rfl⟩ := h
    exact snapL_frozen H cs hl
  | .tup _, _, _, _, h => by simp [snapA] at h
theorem snapL_frozen (H : Hp) : ∀ (l : List AV) {l' : List AV} {δ : List (Nat × Nat × Blk)} {c : Prop}, snapL H l = some (l', δ, c) → ∀ x ∈ δ, Frozen H x
  | [], _, _, _, h => by simp only [snapL, Option.some.injEq, Prod.mk.injEq] at h; obtain ⟨rfl, rfl, rfl⟩ := h; simp
  | y :: r, _, _, _, h => by
    simp only [snapL] at h
    cases h1 : snapA H y with
    | none => simp [h1] at h
    | some q1 =>
    cases h2 : snapL H r with
    | none => simp [h1, h2] at h
    | some q2 =>
    obtain ⟨y', δ1, c1⟩ := q1
    obtain ⟨r', δ2, c2⟩ := q2
    simp only [h1, h2, Option.some.injEq, Prod.mk.injEq] at h
    obtain ⟨rfl, rfl, rfl⟩ := h
    intro x hx
    rcases List.mem_append.1 hx with h | h
    · exact snapA_frozen H y h1 x h
    · exact snapL_frozen H r h2 x h
end

theorem Good.facts (g : Good n S0 pass w0 F H S m a w) : ∀ d, (H d).2.live = true → ∃ cs : Array Value, cs.size = (m d (H d).1).2 ∧ RelB S m (gen H) w (H d).2 cs ∧ ∀ (j : Nat) (v : Value), cs[j]? = some v → w.cell? ⟨(m d (H d).1).1, j, none⟩ = some v :=
  fun d h => g.cells h

theorem lentS_ok (g : Good n S0 pass w0 F H S m a w) {δ : List (Nat × Nat × Blk)} (hδ : ∀ x ∈ δ, Frozen H x) : ∀ k, lentS m S δ k → k < w.heap.size := by
  rintro k (h | ⟨d, gg, b, hmem, h0, rfl⟩)
  · exact g.sin k h
  · obtain ⟨e1, sz, i, cv, hv, _⟩ := hδ _ hmem
    simp only at e1 hv
    subst e1
    exact g.lt (by cases e : (H d).2 <;> simp_all [Blk.view, Blk.live]) h0

/-- all that was lent is for reading only from now on -/
theorem Good.freezes (g : Good n S0 pass w0 F H S m a w) : ∀ (δ : List (Nat × Nat × Blk)), (∀ x ∈ δ, Frozen H x) → ∀ (H1 : Hp) (S1 : Nat → Prop), Good n S0 pass w0 F H1 S1 m a w → (∀ k, S k → S1 k) →
    (∀ d, (H1 d).1 = (H d).1 ∧ ((H1 d).2.live = (H d).2.live)) → Good n S0 pass w0 F (updHs H1 δ) (fun k => S1 k ∨ lentS m S δ k) m a w
  | [], _, H1, S1, g1, hS, _ => by
    have : (fun k => S1 k ∨ lentS m S [] k) = S1 := by
      funext k; apply propext
      constructor
      · rintro (h | h | ⟨_, _, _, h, _⟩)
        · exact h
        · exact hS k h
        · cases h
      · exact .inl
    rw [this]; exact g1
  | (d, gg, b) :: r, hδ, H1, S1, g1, hS, hgen => by
    obtain ⟨e1, sz, i, cv, hv, e2⟩ := hδ (d, gg, b) (by simp)
    simp only at e1 hv e2
    subst e1
    have hl : (H d).2.live = true := by cases e : (H d).2 <;> simp_all [Blk.view, Blk.live]
    obtain ⟨cs, q1, q2, q3⟩ := g.hp d hl
    obtain ⟨r1, r2⟩ := freeze_rel q2 hv
    obtain ⟨hg1, hl1⟩ := hgen d
    have hG : gen H1 = gen H := funext fun k => (hgen k).1
    have g2 := g1.freeze1 (d := d) (b' := b) (cs := cs) (S' := fun k => S1 k ∨ (0 < (m d (H d).1).2 ∧ k = (m d (H d).1).1)) (by rw [hl1]; exact hl) (by rw [e2]; exact r2) (by rw [hg1]; exact q1)
      (by rw [e2, hG]; exact r1.mono hS (Keeps.refl _ _) (fun _ _ _ => rfl) (fun _ => Nat.le_refl _)) (by rw [hg1]; exact q3) (fun k h => .inl h) (by rw [hg1]; exact fun k h => h) (by rw [hg1]; exact fun h => .inr ⟨h, rfl⟩)
    rw [hg1] at g2
    have hgen2 : ∀ d', (updH H1 d (H d).1 b d').1 = (H d').1 ∧ (updH H1 d (H d).1 b d').2.live = (H d').2.live := by
      intro d'
      by_cases h : d' = d
      · subst h; rw [updH_same]; refine ⟨rfl, ?_⟩
        obtain ⟨_, _, _, e⟩ := r2
        rw [hl, e2, e]; rfl
      · rw [updH_ne _ _ _ h]; exact hgen d'
    have g3 := Good.freezes g r (fun x hx => hδ x (by simp [hx])) _ _ g2 (fun k h => .inl (hS k h)) hgen2
    have : (fun k => (S1 k ∨ (0 < (m d (H d).1).2 ∧ k = (m d (H d).1).1)) ∨ lentS m S r k) = (fun k => S1 k ∨ lentS m S ((d, (H d).1, b) :: r) k) := by
      funext k; apply propext
      constructor
      · rintro ((h | ⟨h, rfl⟩) | h | ⟨d', g', b', h1, h2⟩)
        · exact .inl h
        · exact .inr (.inr ⟨d, _, b, by simp, h, rfl⟩)
        · exact .inr (.inl h)
        · exact .inr (.inr ⟨d', g', b', by simp [h1], h2⟩)
      · rintro (h | h | ⟨d', g', b', h1, h2, h3⟩)
        · exact .inl (.inl h)
        · exact .inr (.inl h)
        · rcases List.mem_cons.1 h1 with h | h
          · cases h; exact .inl (.inr ⟨h2, h3.symm⟩)
          · exact .inr (.inr ⟨d', g', b', h, h2, h3⟩)
    rw [this] at g3
    exact g3

end

/-! ### The call -/
theorem run_enter {P : Program} {a : Act} {w : World} {o : Oper} {f : FuncId} {args : Array Operand} {tys : Array TypeId} (hb : HasBody P f)
    (ho : o.op = .call { callee := .value (.func f), args := args, argTypes := tys }) : (execOp a.eval o).run P w = .ok (.enter f (args.map a.eval)) w := by
  obtain ⟨fn, h1, h2, h3⟩ := hb
  unfold execOp; rw [ho]
  have hn : ¬ fn.body = none := by intro h; simp [h] at h2
  have h3' : ¬ fn.name = "runtime.NumGoroutine" := by simpa using h3
  simp [resolve, Act.eval, Deferred.ofValue, invoke, callFunc, h1, h3', hn]

section
variable {P : Program} {n : Nat} {S0 pass : Nat → Prop} {w0 : World} {F : Nat → AV} {H : Hp} {S : Nat → Prop} {m : Places} {a : Act} {w : World} {o : Oper}

/-- the operation, whatever it is, leads on -/
def Steps1 (P : Program) (n : Nat) (S0 pass : Nat → Prop) (w0 : World) (o : Oper) (F : Nat → AV) (H : Hp) (v : AV) (δ : List (Nat × Nat × Blk)) (a : Act) (w : World) : Prop :=
  ∀ (next : Act → World → Prop) (Q : Exit → Act → World → Prop), (∀ x w' S' m', Good n S0 pass w0 (putF F o.dst v) (updHs H δ) S' m' (a.put o.dst x) w' → next (a.put o.dst x) w') → o.wp P a w next Q

theorem Does.steps {v : AV} {δ : List (Nat × Nat × Blk)} (h : Does P n S0 pass w0 o F H v δ a w) : Steps1 P n S0 pass w0 o F H v δ a w := by
  intro next Q hk
  obtain ⟨nx, x, w', S', m', hr, hx, g⟩ := h
  unfold Oper.wp
  rw [hr]
  rcases hx with rfl | ⟨rfl, rfl⟩
  · exact hk _ _ _ _ g
  · exact hk _ _ _ _ g

def evArgs (T : Tab) (F : Nat → AV) : List Operand → List Nat → List AV
  | x :: r, t :: s => evT T F t x :: evArgs T F r s
  | x :: r, [] => evA F x :: evArgs T F r []
  | [], _ => []

theorem evArgs_rel {G : Nat → Nat} (T : Tab) (hf : ∀ t, RelA S m G w (F t) (a.tmps.getD t undef)) : ∀ (l : List Operand) (ts : List Nat), All2 (RelA S m G w) (evArgs T F l ts) (l.map a.eval)
  | [], _ => by simp [evArgs, All2]
  | x :: r, [] => ⟨evA_rel hf x, evArgs_rel T hf r []⟩
  | x :: r, t :: s => ⟨evT_rel hf T t x, evArgs_rel T hf r s⟩

/-- a call whose arguments are lent for good -/
theorem callF_steps (g : Good n S0 pass w0 F H S m a w) {T : Tab} {f : FuncId} {args : Array Operand} {tys : Array TypeId} (ho : o.op = .call { callee := .value (.func f), args := args, argTypes := tys }) (hd : dstOk n o.dst = true)
    {xs : List AV} {δ : List (Nat × Nat × Blk)} {c : Prop} (hs : snapL H (evArgs T F args.toList tys.toList) = some (xs, δ, c)) (hc : c) {r : AV} (hcall : ACall P f xs r) (hr : r.noLoc = true) :
    Steps1 P n S0 pass w0 o F H r δ a w := by
  intro next Q hk
  have hδ := snapL_frozen H _ hs
  have g1 := g.freezes δ hδ H S g (fun k h => h) (fun d => ⟨rfl, rfl⟩)
  have hargs := snapL_rel (S' := fun k => S k ∨ lentS m S δ k) g.facts (evArgs_rel T g.fr args.toList tys.toList) hs hc (fun k h => .inr h)
  have hcalls := hcall.2 (fun k => S k ∨ lentS m S δ k) w (args.map a.eval) g1.sin (by simpa using hargs)
  unfold Oper.wp
  rw [run_enter hcall.1 ho, Oper.upon_enter]
  refine hcalls.mono ?_
  rintro e w' ⟨v, rfl, he, hv⟩
  refine hk v w' _ m ((g1.world (S' := fun k => (S k ∨ lentS m S δ k) ∨ (w.heap.size ≤ k ∧ k < w'.heap.size)) (fun k h => .inl h) (fun k h => he.block k h (fun h => h)) (g1.eff.trans (he.mono (fun _ _ h => h.elim))) (fun k h => h)).put hd ?_)
  exact hv.noLoc hr

/-- a call whose arguments are lent for its time; what comes back are numbers alone -/
theorem callB_steps (g : Good n S0 pass w0 F H S m a w) {T : Tab} {f : FuncId} {args : Array Operand} {tys : Array TypeId} (ho : o.op = .call { callee := .value (.func f), args := args, argTypes := tys }) (hd : dstOk n o.dst = true)
    {xs : List AV} {δ : List (Nat × Nat × Blk)} {c : Prop} (hs : snapL H (evArgs T F args.toList tys.toList) = some (xs, δ, c)) (hc : c) {r : AV} (hcall : ACall P f xs r) (hr : r.scalar = true) :
    Steps1 P n S0 pass w0 o F H r [] a w := by
  intro next Q hk
  have hδ := snapL_frozen H _ hs
  have hargs := snapL_rel (S' := lentS m S δ) g.facts (evArgs_rel T g.fr args.toList tys.toList) hs hc (fun k h => h)
  have hcalls := hcall.2 (lentS m S δ) w (args.map a.eval) (lentS_ok g hδ) (by simpa using hargs)
  unfold Oper.wp
  rw [run_enter hcall.1 ho, Oper.upon_enter]
  refine hcalls.mono ?_
  rintro e w' ⟨v, rfl, he, hv⟩
  refine hk v w' _ m ((g.world (S' := S) (fun k h => h) (fun k h => he.block k h (fun h => h)) (g.eff.trans (he.mono (fun _ _ h => h.elim))) (fun k h => .inl h)).put hd ?_)
  exact hv.scalar hr

end
end Go.Abs
