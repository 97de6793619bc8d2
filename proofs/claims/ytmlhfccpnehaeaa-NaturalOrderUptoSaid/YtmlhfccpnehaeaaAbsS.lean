/- Soundness, part one: how the state stands after a value is put, a block is made, a cell is written. -/
import Derived.Test.YtmlhfccpnehaeaaAbsB
set_option autoImplicit false
set_option linter.unusedVariables false
namespace Go.Abs

def putF (F : Nat → AV) (d : Option Nat) (v : AV) : Nat → AV :=
  match d with
  | none => F
  | some d => fun t => if t = d then v else F t
def updH (H : Hp) (d g : Nat) (b : Blk) : Hp := fun k => if k = d then (g, b) else H k
def updHs (H : Hp) : List (Nat × Nat × Blk) → Hp
  | [] => H
  | (d, g, b) :: r => updHs (updH H d g b) r
def gen (H : Hp) : Nat → Nat := fun d => (H d).1
def dstOk (n : Nat) : Option Nat → Bool
  | none => true
  | some d => Nat.blt d n

@[simp] theorem updH_same (H : Hp) (d g : Nat) (b : Blk) : updH H d g b d = (g, b) := by simp [updH]
theorem updH_ne (H : Hp) {d k : Nat} (g : Nat) (b : Blk) (h : k ≠ d) : updH H d g b k = H k := by simp [updH, h]

section
variable {n : Nat} {S0 pass : Nat → Prop} {w0 : World} {F : Nat → AV} {H : Hp} {S : Nat → Prop} {m : Places} {a : Act} {w : World}

theorem fr_put {S : Nat → Prop} {m : Places} {G : Nat → Nat} {w : World} {F : Nat → AV} {a : Act} {n : Nat} (hs : a.tmps.size = n) (hf : ∀ t, RelA S m G w (F t) (a.tmps.getD t undef)) {d : Option Nat} {v : AV} {x : Value} (hd : dstOk n d = true) (hv : RelA S m G w v x) :
    ∀ t, RelA S m G w (putF F d v t) ((a.put d x).tmps.getD t undef) := by
  intro t
  cases d with
  | none => exact hf t
  | some d =>
    have hd' : d < a.tmps.size := by rw [hs]; simpa [dstOk, Nat.blt_eq] using hd
    simp only [putF, Act.put, Array.getD_eq_getD_getElem?]
    by_cases h : t = d
    · subst h; rw [if_pos rfl]; simpa [hd'] using hv
    · rw [if_neg h, Array.getElem?_setIfInBounds_ne (Ne.symm h)]
      simpa [Array.getD_eq_getD_getElem?] using hf t

@[simp] theorem put_size (a : Act) (d : Option Nat) (x : Value) : (a.put d x).tmps.size = a.tmps.size := by cases d <;> simp [Act.put]
@[simp] theorem put_defers (a : Act) (d : Option Nat) (x : Value) : (a.put d x).defers = a.defers := by cases d <;> rfl

/-- a value is put; the world stays -/
theorem Good.put (g : Good n S0 pass w0 F H S m a w) {d : Option Nat} {v : AV} {x : Value} (hd : dstOk n d = true) (hv : RelA S m (gen H) w v x) :
    Good n S0 pass w0 (putF F d v) H S m (a.put d x) w where
  size := by simpa using g.size
  defers := by simpa using g.defers
  fr := fr_put g.size g.fr hd hv
  hp := g.hp
  own := g.own
  frz := g.frz
  inj := g.inj
  sin := g.sin
  s0 := g.s0
  s1 := g.s1
  eff := g.eff

/-- the world moves on: nothing of S, nothing of the call's own blocks changes -/
theorem Good.world (g : Good n S0 pass w0 F H S m a w) {w' : World} {S' : Nat → Prop} (hS : ∀ k, S k → S' k)
    (hk : ∀ k, k < w.heap.size → w'.heap[k]? = w.heap[k]?) (he : Eff pass w0 w')
    (hS' : ∀ k, S' k → S k ∨ (w.heap.size ≤ k ∧ k < w'.heap.size)) : Good n S0 pass w0 F H S' m a w' := by
  have hK : Keeps S w w' := fun k h => hk k (g.sin k h)
  have hsz : w.heap.size ≤ w'.heap.size := by
    rcases Nat.lt_or_ge w'.heap.size w.heap.size with h | h
    · have := hk w'.heap.size h
      rw [Array.getElem?_eq_none (Nat.le_refl _), Array.getElem?_eq_getElem h] at this
      cases this
    · exact h
  refine { size := g.size, defers := g.defers, fr := fun t => (g.fr t).mono hS hK (fun _ _ _ => rfl) (fun _ => Nat.le_refl _), hp := fun d hl => ?_, own := fun d ho h0 => ?_, frz := fun d sz k at_ hd h0 => hS _ (g.frz d sz k at_ hd h0), inj := g.inj, sin := fun k hs => ?_, s0 := fun k hs => ?_, s1 := fun k h => hS _ (g.s1 k h), eff := he }
  · obtain ⟨cs, h1, h2, h3⟩ := g.hp d hl
    refine ⟨cs, h1, h2.mono hS hK (fun _ _ _ => rfl) (fun _ => Nat.le_refl _), fun h => ?_⟩
    obtain ⟨e, he⟩ := h3 h
    refine ⟨e, ?_⟩
    rw [hk _ ?_]; · exact he
    rcases Nat.lt_or_ge (m d (H d).1).1 w.heap.size with h | h
    · exact h
    · rw [Array.getElem?_eq_none h] at he; cases he
  · obtain ⟨h1, h2⟩ := g.own d ho h0
    refine ⟨fun hs => ?_, h2⟩
    rcases hS' _ hs with h | h
    · exact h1 h
    · have hl : (H d).2.live = true := by cases e : (H d).2 <;> simp_all [Blk.own, Blk.live]
      obtain ⟨cs, q1, q2, q3⟩ := g.hp d hl
      obtain ⟨e, he⟩ := q3 (by omega)
      rw [Array.getElem?_eq_none (by omega)] at he; cases he
  · rcases hS' _ hs with h | h
    · exact Nat.lt_of_lt_of_le (g.sin k h) hsz
    · exact h.2
  · rcases hS' _ hs with h | h
    · exact g.s0 k h
    · exact .inr (.inl (Nat.le_trans g.eff.size h.1))

theorem Good.lt (g : Good n S0 pass w0 F H S m a w) {d : Nat} (hl : (H d).2.live = true) (h0 : 0 < (m d (H d).1).2) : (m d (H d).1).1 < w.heap.size := by
  obtain ⟨cs, q1, q2, q3⟩ := g.hp d hl
  obtain ⟨e, he⟩ := q3 (by omega)
  rcases Nat.lt_or_ge (m d (H d).1).1 w.heap.size with h | h
  · exact h
  · rw [Array.getElem?_eq_none h] at he; cases he

theorem own_live {b : Blk} (h : b.own = true) : b.live = true := by cases b <;> simp_all [Blk.own, Blk.live]

/-- a generation at site d that is new: the places m' -/
def newM (m : Places) (d g : Nat) (p : Nat × Nat) : Places := fun d' g' => if d' = d ∧ g' = g then p else m d' g'

/-- a new block at site d -/
theorem Good.alloc (g : Good n S0 pass w0 F H S m a w) (d : Nat) (e : TypeId) (cs : Array Value) (b : Blk) (hown : b.own = true)
    (hb : ∀ S' m' G' w', (∀ k, S k → S' k) → Keeps S w w' → (∀ d g, g ≤ gen H d → m' d g = m d g) → (∀ k, gen H k ≤ G' k) → RelB S' m' G' w' b cs) :
    Good n S0 pass w0 F (updH H d ((H d).1 + 1) b) S (newM m d ((H d).1 + 1) (w.heap.size, cs.size)) a (w.alloc (.cells cs e)) := by
  have hk : ∀ k, k < w.heap.size → (w.alloc (.cells cs e)).heap[k]? = w.heap[k]? := fun k hk => RowKit.Below.heap_alloc _ _ _ hk
  have hK : Keeps S w (w.alloc (.cells cs e)) := fun k h => hk k (g.sin k h)
  have hm : ∀ d' g', g' ≤ gen H d' → newM m d ((H d).1 + 1) (w.heap.size, cs.size) d' g' = m d' g' := by
    intro d' g' h
    unfold newM; rw [if_neg]; rintro ⟨rfl, rfl⟩; unfold gen at h; omega
  have hG : ∀ k, gen H k ≤ gen (updH H d ((H d).1 + 1) b) k := by
    intro k; unfold gen updH; split <;> simp_all
  have hsame : newM m d ((H d).1 + 1) (w.heap.size, cs.size) d ((H d).1 + 1) = (w.heap.size, cs.size) := by simp [newM]
  have hold : ∀ d', d' ≠ d → newM m d ((H d).1 + 1) (w.heap.size, cs.size) d' (H d').1 = m d' (H d').1 := fun d' h => hm d' _ (Nat.le_refl _)
  have hnew : (w.alloc (.cells cs e)).heap[w.heap.size]? = some (.cells cs e (0, 0)) := by
    show (w.heap.push _)[w.heap.size]? = _
    rw [Array.getElem?_push, if_pos rfl]
  refine { size := g.size, defers := g.defers, fr := fun t => (g.fr t).mono (fun _ h => h) hK hm hG, hp := fun d' hl => ?_, own := fun d' ho h0 => ?_, frz := fun d' sz k at_ hd h0 => ?_, inj := fun d1 d2 o1 o2 p1 p2 he => ?_, sin := fun k hs => ?_, s0 := g.s0, s1 := g.s1, eff := g.eff.trans (Eff.alloc _ _ _ _) }
  · by_cases h : d' = d
    · subst h
      rw [updH_same] at hl ⊢
      exact ⟨cs, by rw [hsame], hb _ _ _ _ (fun _ h => h) hK hm hG, fun _ => ⟨e, by rw [hsame]; exact hnew⟩⟩
    · rw [updH_ne _ _ _ h] at hl ⊢
      obtain ⟨cs', q1, q2, q3⟩ := g.hp d' hl
      rw [hold d' h]
      refine ⟨cs', q1, q2.mono (fun _ h => h) hK hm hG, fun h0 => ?_⟩
      obtain ⟨e', he'⟩ := q3 h0
      exact ⟨e', by rw [hk _ (g.lt hl (by omega))]; exact he'⟩
  · by_cases h : d' = d
    · subst h
      rw [updH_same, hsame]
      exact ⟨fun hs => by have := g.sin _ hs; simp at this, .inr g.eff.size⟩
    · rw [updH_ne _ _ _ h] at ho h0 ⊢
      rw [hold d' h] at h0 ⊢
      exact g.own d' ho h0
  · by_cases h : d' = d
    · subst h; rw [updH_same] at hd; simp only at hd; subst hd; simp [Blk.own] at hown
    · rw [updH_ne _ _ _ h] at hd h0 ⊢
      rw [hold d' h] at h0 ⊢
      exact g.frz d' sz k at_ hd h0
  · by_cases h1 : d1 = d <;> by_cases h2 : d2 = d
    · rw [h1, h2]
    · subst h1
      rw [updH_same, updH_ne _ _ _ h2, hsame, hold d2 h2] at he
      rw [updH_ne _ _ _ h2] at o2 p2; rw [hold d2 h2] at p2
      have := g.lt (own_live o2) p2
      simp only at he; omega
    · subst h2
      rw [updH_same, updH_ne _ _ _ h1, hsame, hold d1 h1] at he
      rw [updH_ne _ _ _ h1] at o1 p1; rw [hold d1 h1] at p1
      have := g.lt (own_live o1) p1
      simp only at he; omega
    · rw [updH_ne _ _ _ h1] at o1 p1 he; rw [updH_ne _ _ _ h2] at o2 p2 he
      rw [hold d1 h1] at p1 he; rw [hold d2 h2] at p2 he
      exact g.inj d1 d2 o1 o2 p1 p2 he
  · have := g.sin k hs; simp; omega

/-- a block of the call's own gets other contents -/
theorem Good.rewrite (g : Good n S0 pass w0 F H S m a w) {d : Nat} (ho : (H d).2.own = true) (h0 : 0 < (m d (H d).1).2) {cs' : Array Value} {e : TypeId} {w' : World}
    (hsz : cs'.size = (m d (H d).1).2) (hw : w'.heap[(m d (H d).1).1]? = some (.cells cs' e (0, 0))) (hother : ∀ k, k ≠ (m d (H d).1).1 → w'.heap[k]? = w.heap[k]?)
    (hsize : w'.heap.size = w.heap.size) (hos : w'.os = w.os) (htape : w'.tape = w.tape) (hout : w'.output = w.output) {b' : Blk} (ho' : b'.own = true)
    (hb : RelB S m (gen H) w b' cs') : Good n S0 pass w0 F (updH H d (H d).1 b') S m a w' := by
  have hnS := (g.own d ho h0).1
  have hK : Keeps S w w' := fun k h => hother k fun e => hnS (e ▸ h)
  have hgen : ∀ k, (updH H d (H d).1 b' k).1 = (H k).1 := by intro k; unfold updH; split <;> simp_all
  have hG : ∀ k, gen H k ≤ (fun k => (updH H d (H d).1 b' k).1) k := fun k => by simp only [hgen]; exact Nat.le_refl _
  refine { size := g.size, defers := g.defers, fr := fun t => (g.fr t).mono (fun _ h => h) hK (fun _ _ _ => rfl) hG, hp := fun d' hl => ?_, own := fun d' ho1 h1 => ?_, frz := fun d' sz k at_ hd h1 => ?_, inj := fun d1 d2 o1 o2 p1 p2 hq => ?_, sin := fun k hs => by rw [hsize]; exact g.sin k hs, s0 := g.s0, s1 := g.s1, eff := ⟨hos.trans g.eff.os, htape.trans g.eff.tape, hout.trans g.eff.output, by rw [hsize]; exact g.eff.size, fun k hk hp => (hother k fun e => ?_).trans (g.eff.block k hk hp), fun a => Eq.trans ?_ (g.eff.froz a)⟩ }
  · by_cases h : d' = d
    · subst h
      rw [updH_same] at hl ⊢
      exact ⟨cs', hsz, hb.mono (fun _ h => h) hK (fun _ _ _ => rfl) hG, fun _ => ⟨e, hw⟩⟩
    · rw [updH_ne _ _ _ h] at hl ⊢
      obtain ⟨cs, q1, q2, q3⟩ := g.hp d' hl
      refine ⟨cs, q1, q2.mono (fun _ h => h) hK (fun _ _ _ => rfl) hG, fun hc => ?_⟩
      obtain ⟨e', he'⟩ := q3 hc
      refine ⟨e', ?_⟩
      rw [hother]; · exact he'
      intro hq
      cases hb : (H d').2 with
      | dead => rw [hb] at hl; simp [Blk.live] at hl
      | vr _ => exact h (g.inj d' d (by rw [hb]; rfl) ho (by omega) h0 hq)
      | fa _ _ _ => exact h (g.inj d' d (by rw [hb]; rfl) ho (by omega) h0 hq)
      | fz _ _ _ => exact hnS (hq ▸ g.frz d' _ _ _ hb (by omega))
  · rw [hgen] at h1 ⊢
    have ho2 : (H d').2.own = true := by
      by_cases h : d' = d
      · subst h; exact ho
      · rwa [updH_ne _ _ _ h] at ho1
    exact g.own d' ho2 h1
  · rw [hgen] at h1 ⊢
    by_cases h : d' = d
    · subst h; rw [updH_same] at hd; simp only at hd; subst hd; simp [Blk.own] at ho'
    · rw [updH_ne _ _ _ h] at hd; exact g.frz d' _ _ _ hd h1
  · rw [hgen] at p1 p2; rw [hgen, hgen] at hq
    have hx : ∀ x, (updH H d (H d).1 b' x).2.own = true → (H x).2.own = true := by
      intro x hx
      by_cases h : x = d
      · subst h; exact ho
      · rwa [updH_ne _ _ _ h] at hx
    exact g.inj d1 d2 (hx _ o1) (hx _ o2) p1 p2 hq
  · rcases (g.own d ho h0).2 with h | h
    · exact absurd (e ▸ h) hp
    · exact absurd hk (by omega)
  · by_cases h : a.block = (m d (H d).1).1
    · obtain ⟨cs, q1, q2, q3⟩ := g.hp d (own_live ho)
      obtain ⟨e', he'⟩ := q3 (by omega)
      simp [World.frozen?, h, hw, he']
    · exact World.frozen?_of_block (hother _ h)

/-- a block dies, or is from now on for reading only -/
theorem Good.kill (g : Good n S0 pass w0 F H S m a w) (d : Nat) : Good n S0 pass w0 F (updH H d (H d).1 .dead) S m a w := by
  have hgen : ∀ k, (updH H d (H d).1 .dead k).1 = (H k).1 := by intro k; unfold updH; split <;> simp_all
  have hne : ∀ x, (updH H d (H d).1 .dead x).2.live = true → x ≠ d := by rintro x h rfl; rw [updH_same] at h; simp [Blk.live] at h
  have hfun : (fun k => (updH H d (H d).1 .dead k).1) = gen H := funext hgen
  refine { size := g.size, defers := g.defers, fr := fun t => ?_, hp := fun d' hl => ?_, own := fun d' ho h1 => ?_, frz := fun d' sz k at_ hd h1 => ?_, inj := fun d1 d2 o1 o2 p1 p2 hq => ?_, sin := g.sin, s0 := g.s0, s1 := g.s1, eff := g.eff }
  · rw [hfun]; exact g.fr t
  · have h := hne _ hl; rw [hfun]; rw [updH_ne _ _ _ h] at hl ⊢; exact g.hp d' hl
  · have h := hne _ (own_live ho); rw [updH_ne _ _ _ h] at ho h1 ⊢; exact g.own d' ho h1
  · have h := hne d' (by rw [hd]; rfl); rw [updH_ne _ _ _ h] at hd h1 ⊢; exact g.frz d' _ _ _ hd h1
  · have h1 := hne _ (own_live o1); have h2 := hne _ (own_live o2)
    rw [updH_ne _ _ _ h1] at o1 p1 hq; rw [updH_ne _ _ _ h2] at o2 p2 hq
    exact g.inj d1 d2 o1 o2 p1 p2 hq

/-- an empty block without a place in memory -/
theorem Good.fresh0 (g : Good n S0 pass w0 F H S m a w) (d sz : Nat) (at_ : Nat → List FV) :
    Good n S0 pass w0 F (updH H d ((H d).1 + 1) (.fa sz 0 at_)) S (newM m d ((H d).1 + 1) (0, 0)) a w := by
  have hK : Keeps S w w := Keeps.refl _ _
  have hm : ∀ d' g', g' ≤ gen H d' → newM m d ((H d).1 + 1) (0, 0) d' g' = m d' g' := by
    intro d' g' h
    unfold newM; rw [if_neg]; rintro ⟨rfl, rfl⟩; unfold gen at h; omega
  have hG : ∀ k, gen H k ≤ gen (updH H d ((H d).1 + 1) (.fa sz 0 at_)) k := by
    intro k; unfold gen updH; split <;> simp_all
  have hsame : newM m d ((H d).1 + 1) (0, 0) d ((H d).1 + 1) = (0, 0) := by simp [newM]
  have hold : ∀ d', d' ≠ d → newM m d ((H d).1 + 1) (0, 0) d' (H d').1 = m d' (H d').1 := fun d' h => hm d' _ (Nat.le_refl _)
  refine { size := g.size, defers := g.defers, fr := fun t => (g.fr t).mono (fun _ h => h) hK hm hG, hp := fun d' hl => ?_, own := fun d' ho h0 => ?_, frz := fun d' sz k at_ hd h0 => ?_, inj := fun d1 d2 o1 o2 p1 p2 he => ?_, sin := g.sin, s0 := g.s0, s1 := g.s1, eff := g.eff }
  · by_cases h : d' = d
    · subst h
      rw [updH_same] at hl ⊢
      exact ⟨#[], by rw [hsame]; rfl, ⟨by simp, fun i hi => absurd hi (by omega), fun i j x hi _ => absurd hi (by omega)⟩, fun h => absurd h (by simp)⟩
    · rw [updH_ne _ _ _ h] at hl ⊢
      obtain ⟨cs', q1, q2, q3⟩ := g.hp d' hl
      rw [hold d' h]
      exact ⟨cs', q1, q2.mono (fun _ h => h) hK hm hG, q3⟩
  · by_cases h : d' = d
    · subst h; rw [updH_same, hsame] at h0; exact absurd h0 (by simp)
    · rw [updH_ne _ _ _ h] at ho h0 ⊢
      rw [hold d' h] at h0 ⊢
      exact g.own d' ho h0
  · by_cases h : d' = d
    · subst h; rw [updH_same] at hd; simp at hd
    · rw [updH_ne _ _ _ h] at hd h0 ⊢
      rw [hold d' h] at h0 ⊢
      exact g.frz d' sz k at_ hd h0
  · by_cases h1 : d1 = d
    · subst h1; rw [updH_same, hsame] at p1; exact absurd p1 (by simp)
    · by_cases h2 : d2 = d
      · subst h2; rw [updH_same, hsame] at p2; exact absurd p2 (by simp)
      · rw [updH_ne _ _ _ h1] at o1 p1 he; rw [updH_ne _ _ _ h2] at o2 p2 he
        rw [hold d1 h1] at p1 he; rw [hold d2 h2] at p2 he
        exact g.inj d1 d2 o1 o2 p1 p2 he

/-- a block of the call's own moves to another site (what an append in place does) -/
theorem Good.move (g : Good n S0 pass w0 F H S m a w) {d : Nat} (ho : (H d).2.own = true) (k : Nat) :
    Good n S0 pass w0 F (updH (updH H d (H d).1 .dead) k ((H k).1 + 1) (H d).2) S (newM m k ((H k).1 + 1) (m d (H d).1)) a w := by
  have hK : Keeps S w w := Keeps.refl _ _
  have hm : ∀ d' g', g' ≤ gen H d' → newM m k ((H k).1 + 1) (m d (H d).1) d' g' = m d' g' := by
    intro d' g' h
    unfold newM; rw [if_neg]; rintro ⟨rfl, rfl⟩; unfold gen at h; omega
  have hG : ∀ q, gen H q ≤ gen (updH (updH H d (H d).1 .dead) k ((H k).1 + 1) (H d).2) q := by
    intro q; unfold gen updH; split
    · subst_vars; simp
    · split <;> simp_all
  have hsame : newM m k ((H k).1 + 1) (m d (H d).1) k ((H k).1 + 1) = m d (H d).1 := by simp [newM]
  -- what stands at another site
  have hoth : ∀ q, q ≠ k → (updH (updH H d (H d).1 .dead) k ((H k).1 + 1) (H d).2 q).2.live = true → q ≠ d ∧ updH (updH H d (H d).1 .dead) k ((H k).1 + 1) (H d).2 q = H q := by
    intro q hq hl
    rw [updH_ne _ _ _ hq] at hl ⊢
    by_cases h : q = d
    · subst h; rw [updH_same] at hl; simp [Blk.live] at hl
    · rw [updH_ne _ _ _ h]; exact ⟨h, rfl⟩
  have hold : ∀ q, newM m k ((H k).1 + 1) (m d (H d).1) q (H q).1 = m q (H q).1 := fun q => hm q _ (Nat.le_refl _)
  refine { size := g.size, defers := g.defers, fr := fun t => (g.fr t).mono (fun _ h => h) hK hm hG, hp := fun q hl => ?_, own := fun q ho1 h0 => ?_, frz := fun q sz kk at_ hd h0 => ?_, inj := fun d1 d2 o1 o2 p1 p2 he => ?_, sin := g.sin, s0 := g.s0, s1 := g.s1, eff := g.eff }
  · by_cases h : q = k
    · subst h
      rw [updH_same] at hl ⊢
      obtain ⟨cs, q1, q2, q3⟩ := g.hp d (own_live ho)
      rw [hsame]
      exact ⟨cs, q1, q2.mono (fun _ h => h) hK hm hG, q3⟩
    · obtain ⟨h1, h2⟩ := hoth q h hl
      rw [h2] at hl ⊢
      obtain ⟨cs, q1, q2, q3⟩ := g.hp q hl
      rw [hold q]
      exact ⟨cs, q1, q2.mono (fun _ h => h) hK hm hG, q3⟩
  · by_cases h : q = k
    · subst h
      rw [updH_same] at h0 ⊢
      rw [hsame] at h0 ⊢
      exact g.own d ho h0
    · obtain ⟨h1, h2⟩ := hoth q h (own_live ho1)
      rw [h2] at ho1 h0 ⊢
      rw [hold q] at h0 ⊢
      exact g.own q ho1 h0
  · by_cases h : q = k
    · subst h; rw [updH_same] at hd; simp only at hd; rw [hd] at ho; simp [Blk.own] at ho
    · obtain ⟨h1, h2⟩ := hoth q h (by rw [hd]; rfl)
      rw [h2] at hd h0 ⊢
      rw [hold q] at h0 ⊢
      exact g.frz q sz kk at_ hd h0
  · have hx : ∀ q, (updH (updH H d (H d).1 .dead) k ((H k).1 + 1) (H d).2 q).2.own = true → q ≠ k → q ≠ d ∧ (H q).2.own = true := by
      intro q hq hk
      obtain ⟨h1, h2⟩ := hoth q hk (own_live hq)
      rw [h2] at hq; exact ⟨h1, hq⟩
    by_cases h1 : d1 = k <;> by_cases h2 : d2 = k
    · rw [h1, h2]
    · subst h1
      obtain ⟨a1, a2⟩ := hx d2 o2 h2
      obtain ⟨_, e2⟩ := hoth d2 h2 (own_live o2)
      rw [e2] at p2 he; rw [hold d2] at p2 he
      rw [updH_same] at p1 he; rw [hsame] at p1 he
      exact absurd (g.inj d d2 ho a2 p1 p2 he).symm a1
    · subst h2
      obtain ⟨a1, a2⟩ := hx d1 o1 h1
      obtain ⟨_, e1⟩ := hoth d1 h1 (own_live o1)
      rw [e1] at p1 he; rw [hold d1] at p1 he
      rw [updH_same] at p2 he; rw [hsame] at p2 he
      exact absurd (g.inj d1 d a2 ho p1 p2 he) a1
    · obtain ⟨_, e1⟩ := hoth d1 h1 (own_live o1)
      obtain ⟨_, e2⟩ := hoth d2 h2 (own_live o2)
      obtain ⟨_, a1⟩ := hx d1 o1 h1
      obtain ⟨_, a2⟩ := hx d2 o2 h2
      rw [e1] at p1 he; rw [e2] at p2 he
      rw [hold] at p1 p2; rw [hold, hold] at he
      exact g.inj d1 d2 a1 a2 p1 p2 he

end
end Go.Abs
