/- Whole bodies. -/
import Derived.Test.YtmlhfccpnehaeaaAbsE
set_option autoImplicit false
set_option linter.unusedVariables false
set_option linter.unusedSimpArgs false
namespace Go.Abs

/-- one state stands for no less than another -/
def Weak (n : Nat) (F : Nat → AV) (H : Hp) (F' : Nat → AV) (H' : Hp) : Prop :=
  ∀ (S0 pass : Nat → Prop) (w0 : World) (S : Nat → Prop) (m : Places) (a : Act) (w : World), Good n S0 pass w0 F H S m a w → ∃ S' m', Good n S0 pass w0 F' H' S' m' a w

inductive AExec (P : Program) (T : Tab) (n : Nat) : Code → (Nat → AV) → Hp → Exit → (Nat → AV) → Hp → Prop
  | skip {F : Nat → AV} {H : Hp} : AExec P T n .skip F H .normal F H
  | region {id : Nat} {ops : Array Oper} {F F' : Nat → AV} {H H' : Hp} (h : ASteps P T n ops.toList (List.range ops.toList.length) F H F' H') : AExec P T n (.region id ops false) F H .normal F' H'
  | draw {id : Nat} {ops : Array Oper} {items : List It} {F F' : Nat → AV} {H H' : Hp} (hd : drawOk ops.toList items = true) (hi : items.map (·.1) = List.range ops.toList.length) (h : FSteps P T n ops.toList items F H F' H') :
      AExec P T n (.region id ops true) F H .normal F' H'
  | seq {x y : Code} {F F1 F2 : Nat → AV} {H H1 H2 : Hp} {e : Exit} (h1 : AExec P T n x F H .normal F1 H1) (h2 : AExec P T n y F1 H1 e F2 H2) : AExec P T n (.seq x y) F H e F2 H2
  | seqE {x y : Code} {F F1 : Nat → AV} {H H1 : Hp} {e : Exit} (h1 : AExec P T n x F H e F1 H1) (he : e ≠ .normal) : AExec P T n (.seq x y) F H e F1 H1
  | cond {c : Operand} {x y : Code} {t : Bool} {F F1 : Nat → AV} {H H1 : Hp} {e : Exit} (hc : evA F c = .f (.bool t)) (h : AExec P T n (if t then x else y) F H e F1 H1) : AExec P T n (.cond c x y) F H e F1 H1
  | blockX {id : Nat} {x : Code} {F F1 : Nat → AV} {H H1 : Hp} (h : AExec P T n x F H (.exit id) F1 H1) : AExec P T n (.block id x) F H .normal F1 H1
  | block {id : Nat} {x : Code} {F F1 : Nat → AV} {H H1 : Hp} {e : Exit} (h : AExec P T n x F H e F1 H1) (he : ∀ i, e = .exit i → i ≠ id) : AExec P T n (.block id x) F H e F1 H1
  | loopS {x : Code} {F F1 F2 : Nat → AV} {H H1 H2 : Hp} {e : Exit} (h1 : AExec P T n x F H .normal F1 H1) (h2 : AExec P T n (.loop x) F1 H1 e F2 H2) : AExec P T n (.loop x) F H e F2 H2
  | loopX {x : Code} {F F1 : Nat → AV} {H H1 : Hp} {e : Exit} (h1 : AExec P T n x F H e F1 H1) (he : e ≠ .normal) : AExec P T n (.loop x) F H e F1 H1
  | exit {id : Nat} {F : Nat → AV} {H : Hp} : AExec P T n (.exit id) F H (.exit id) F H
  | ret {F : Nat → AV} {H : Hp} : AExec P T n .ret F H .ret F H
  | weakO {x : Code} {F F1 F2 : Nat → AV} {H H1 H2 : Hp} {e : Exit} (h : AExec P T n x F H e F1 H1) (hw : Weak n F1 H1 F2 H2) : AExec P T n x F H e F2 H2
  | weak {x : Code} {F F' F2 : Nat → AV} {H H' H2 : Hp} {e : Exit} (hw : Weak n F H F' H') (h : AExec P T n x F' H' e F2 H2) : AExec P T n x F H e F2 H2

section
variable {P : Program} {T : Tab} {n : Nat} {S0 pass : Nat → Prop} {w0 : World}

def PostA (n : Nat) (S0 pass : Nat → Prop) (w0 : World) (e : Exit) (F : Nat → AV) (H : Hp) : Exit → Act → World → Prop :=
  fun e' a w => e' = e ∧ ∃ S m, Good n S0 pass w0 F H S m a w

/-- a loop, behind its first step -/
def Rounds (P : Program) (x : Code) (Q : Exit → Act → World → Prop) (a : Act) (w : World) : Prop :=
  ∀ (b : Frame) (k : List Item) (cs : List Frame), ∃ e a' w', Q e a' w' ∧ Arrives P (lone (b.at a (.code x :: .inLoop x :: k)) cs w) b k cs e a' w'

theorem rounds_wp {x : Code} {Q : Exit → Act → World → Prop} {a : Act} {w : World} (h : Rounds P x Q a w) : (Code.loop x).wp P Q a w := by
  intro b k cs
  obtain ⟨e, a', w', hq, harr⟩ := h b k cs
  exact ⟨e, a', w', hq, .of_steps (.one step_loop) harr⟩

theorem rounds_step {x : Code} {Q : Exit → Act → World → Prop} {a : Act} {w : World} (h : x.wp P (Exit.then (Rounds P x Q) Q) a w) : Rounds P x Q a w := by
  intro b k cs
  obtain ⟨e, a₁, w₁, hq, harr⟩ := h b (.inLoop x :: k) cs
  cases e with
  | normal =>
    obtain ⟨e₂, a₂, w₂, hq₂, harr₂⟩ := hq b k cs
    exact ⟨e₂, a₂, w₂, hq₂, .of_steps (Steps.trans harr (.one step_inLoop)) harr₂⟩
  | exit id => exact ⟨_, a₁, w₁, hq, .pass (x := .inLoop x) rfl (fun _ _ => .inl (by simp)) harr⟩
  | goto l => exact ⟨_, a₁, w₁, hq, .pass (x := .inLoop x) rfl (fun _ _ => .inl (by simp)) harr⟩
  | ret => exact ⟨_, a₁, w₁, hq, .pass (x := .inLoop x) rfl (fun _ _ => .inl (by simp)) harr⟩
  | panic ch => exact ⟨_, a₁, w₁, hq, .pass (x := .inLoop x) rfl (fun _ _ => .inl (by simp)) harr⟩
  | outgrown => exact ⟨_, a₁, w₁, hq, .pass (x := .inLoop x) rfl (fun _ _ => .inl (by simp)) harr⟩

theorem then_of_ne {e : Exit} (he : e ≠ .normal) {next : Act → World → Prop} {Q : Exit → Act → World → Prop} {a : Act} {w : World} (h : Q e a w) : Exit.then next Q e a w := by
  cases e <;> first | exact h | exact absurd rfl he

theorem AExec.sound {x : Code} {F F' : Nat → AV} {H H' : Hp} {e : Exit} (h : AExec P T n x F H e F' H') (hok : tabOk P T = true) (hm : P.follows .mixedOrders = true) :
    ∀ {S : Nat → Prop} {m : Places} {a : Act} {w : World}, Good n S0 pass w0 F H S m a w →
      x.wp P (PostA n S0 pass w0 e F' H') a w ∧ ∀ y, x = .loop y → Rounds P y (PostA n S0 pass w0 e F' H') a w := by
  induction h with
  | skip => intro S m a w g; exact ⟨wp_skip ⟨rfl, S, m, g⟩, fun y hy => by cases hy⟩
  | @region id ops F F' H H' h =>
    intro S m a w g
    have := region_sound (id := id) h hok g (Q := PostA n S0 pass w0 .normal F' H') (fun a' w' S' m' g' => ⟨rfl, S', m', g'⟩)
    exact ⟨by simpa using this, fun y hy => by cases hy⟩
  | @draw id ops items F F' H H' hd hi h =>
    intro S m a w g
    have := draw_sound (id := id) hok hm hd hi h g (Q := PostA n S0 pass w0 .normal F' H') (fun a' w' S' m' g' => ⟨rfl, S', m', g'⟩)
    exact ⟨by simpa using this, fun y hy => by cases hy⟩
  | seq h1 h2 ih1 ih2 =>
    intro S m a w g
    refine ⟨wp_seq (wp_mono (ih1 g).1 fun e' a' w' hq => ?_), fun y hy => by cases hy⟩
    obtain ⟨rfl, S', m', g'⟩ := hq
    exact (ih2 g').1
  | seqE h1 he ih1 =>
    intro S m a w g
    refine ⟨wp_seq (wp_mono (ih1 g).1 fun e' a' w' hq => ?_), fun y hy => by cases hy⟩
    have he' := hq.1
    rw [he'] at hq ⊢
    exact then_of_ne he hq
  | @cond c x y t F F1 H H1 e hc h ih =>
    intro S m a w g
    refine ⟨?_, fun y hy => by cases hy⟩
    have hr := evA_rel (S := S) (m := m) (w := w) g.fr c
    rw [hc] at hr
    generalize hv : a.eval c = v at hr
    cases hr with
    | f hr => cases hr; exact wp_cond hv (ih g).1
  | blockX h ih =>
    intro S m a w g
    refine ⟨wp_block (wp_mono (ih g).1 fun e' a' w' hq => ?_), fun y hy => by cases hy⟩
    obtain ⟨rfl, hq⟩ := hq
    simp only [Exit.inBlock, if_true]
    exact ⟨rfl, hq⟩
  | @block id x F F1 H H1 e h he ih =>
    intro S m a w g
    refine ⟨wp_block (wp_mono (ih g).1 fun e' a' w' hq => ?_), fun y hy => by cases hy⟩
    obtain ⟨rfl, hq⟩ := hq
    cases e' with
    | exit i => simp only [Exit.inBlock, if_neg (he i rfl)]; exact ⟨rfl, hq⟩
    | _ => exact ⟨rfl, hq⟩
  | loopS h1 h2 ih1 ih2 =>
    intro S m a w g
    have key : Rounds P _ (PostA n S0 pass w0 _ _ _) a w := rounds_step (wp_mono (ih1 g).1 fun e' a' w' hq => by
      obtain ⟨rfl, S', m', g'⟩ := hq
      exact (ih2 g').2 _ rfl)
    exact ⟨rounds_wp key, fun y hy => by cases hy; exact key⟩
  | loopX h1 he ih1 =>
    intro S m a w g
    have key : Rounds P _ (PostA n S0 pass w0 _ _ _) a w := rounds_step (wp_mono (ih1 g).1 fun e' a' w' hq => by
      have he' := hq.1
      rw [he'] at hq ⊢
      exact then_of_ne he hq)
    exact ⟨rounds_wp key, fun y hy => by cases hy; exact key⟩
  | exit => intro S m a w g; exact ⟨wp_exit ⟨rfl, S, m, g⟩, fun y hy => by cases hy⟩
  | ret => intro S m a w g; exact ⟨wp_ret ⟨rfl, S, m, g⟩, fun y hy => by cases hy⟩
  | weakO h hw ih =>
    intro S m a w g
    refine ⟨wp_mono (ih g).1 fun e' a' w' hq => ?_, fun y hy b k cs => ?_⟩
    · obtain ⟨rfl, S', m', g'⟩ := hq; obtain ⟨S2, m2, g2⟩ := hw _ _ _ _ _ _ _ g'; exact ⟨rfl, S2, m2, g2⟩
    · obtain ⟨e', a', w', hq, harr⟩ := (ih g).2 y hy b k cs
      obtain ⟨rfl, S', m', g'⟩ := hq; obtain ⟨S2, m2, g2⟩ := hw _ _ _ _ _ _ _ g'; exact ⟨e', a', w', ⟨rfl, S2, m2, g2⟩, harr⟩
  | weak hw h ih => intro S m a w g; obtain ⟨S', m', g'⟩ := hw _ _ _ _ _ _ _ g; exact ih g'

/-! ### Results -/

/-- what the result variables hold -/
def resA (T : Tab) (F : Nat → AV) (H : Hp) : List ResultVar → Option (List AV)
  | [] => some []
  | .tmp t :: r => match resA T F H r with
    | some l => some (F t :: l)
    | none => none
  | .cell a t :: r => match loadO T H t (F a), resA T F H r with
    | .ok v [], some l => some (v :: l)
    | _, _ => none
def packA : List AV → AV
  | [v] => v
  | l => .tup l

/-- the model's reading of one result variable -/
def readRes (a : Act) : ResultVar → Sem Value
  | .tmp t => pure (a.tmps.getD t undef)
  | .cell c t => do loadVar t (← asAddr (a.tmps.getD c undef))

theorem res_run {F : Nat → AV} {H : Hp} {S : Nat → Prop} {m : Places} {a : Act} {w : World} (g : Good n S0 pass w0 F H S m a w) (hok : tabOk P T = true) : ∀ {l : List ResultVar} {rs : List AV}, resA T F H l = some rs →
    ∃ vs, (l.mapM (readRes a)).run P w = .ok vs w ∧ All2 (RelA S m (gen H) w) rs vs
  | [], rs, h => by simp only [resA, Option.some.injEq] at h; subst h; exact ⟨[], by simp, trivial⟩
  | .tmp t :: r, rs, h => by
    simp only [resA] at h
    cases hr : resA T F H r with
    | none => simp [hr] at h
    | some l =>
    simp only [hr, Option.some.injEq] at h; subst h
    obtain ⟨vs, h1, h2⟩ := res_run g hok hr
    exact ⟨a.tmps.getD t undef :: vs, by simp [List.mapM_cons, h1, readRes], g.fr t, h2⟩
  | .cell c t :: r, rs, h => by
    simp only [resA] at h
    split at h
    · rename_i v l hl hr
      simp only [Option.some.injEq] at h; subst h
      obtain ⟨vs, h1, h2⟩ := res_run g hok hr
      obtain ⟨_, ad, y, he, hy, hrel⟩ := load_value (P := P) (v := v) (δ := []) g hok (x := .tmp c) (by show (loadO T H t (F c)).gives v []; rw [hl]; exact ⟨rfl, rfl⟩)
      refine ⟨y :: vs, ?_, hrel, h2⟩
      have he' : a.tmps.getD c undef = .pointer (some ad) := he
      simp [List.mapM_cons, readRes, he', asAddr, hy, h1]
    · cases h

/-- THE BODY GIVES THE CONTRACT -/
theorem acall_of_exec {f : FuncId} {fn : Func} {c : Code} {args : List AV} {r r' : AV} {rs ls : List AV} {δ : List (Nat × Nat × Blk)} {cc : Prop} {e : Exit} {F0 F' : Nat → AV} {H' : Hp} (hok : tabOk P T = true) (hm : P.follows .mixedOrders = true)
    (hf : P.funcs[f]? = some fn) (hb : fn.body = some c) (hnm : (fn.name == "runtime.NumGoroutine") = false) (hargs : noLocs args = true)
    (hF : ∀ t, F0 t = (args[t]?).getD .top) (hn : n = fn.ntmps) (hle : args.length ≤ n)
    (h : AExec P T n c F0 (fun _ => (0, .dead)) e F' H') (he : e = .normal ∨ e = .ret) (hr : resA T F' H' fn.results.toList = some rs) (hs : snapL H' rs = some (ls, δ, cc)) (hcc : cc) (hp : packA ls = r')
    (hw : ∀ (S : Nat → Prop) (w : World) (v : Value), RelA S m0 G0 w r' v → RelA S m0 G0 w r v) : ACall P f args r := by
  refine ⟨⟨fn, hf, by rw [hb]; rfl, hnm⟩, fun S w cargs hS hrel => ?_⟩
  have hlen := hrel.length
  refine calls_of_wp hf hb ?_
  have g : Good n S (fun _ => False) w F0 (fun _ => (0, .dead)) S m0 { tmps := cargs ++ Array.replicate (fn.ntmps - cargs.size) undef, defers := [] } w := by
    refine { size := ?_, defers := rfl, fr := fun t => ?_, hp := fun d hl => (by simp [Blk.live] at hl), own := fun d ho => (by simp [Blk.own] at ho), frz := fun d sz k at_ hd => (by cases hd), inj := fun d d' ho => (by simp [Blk.own] at ho), sin := hS, s0 := fun k h => .inl h, s1 := fun k h => h, eff := Eff.refl _ _ }
    · simp at hlen ⊢; omega
    · rw [hF]
      cases ha : args[t]? with
      | none => exact .top
      | some x =>
        obtain ⟨v, hv, hr⟩ := hrel.get ha
        have hlt : t < cargs.size := by have := (List.getElem?_eq_some_iff.1 hv).1; simpa using this
        have : (cargs ++ Array.replicate (fn.ntmps - cargs.size) undef).getD t undef = v := by
          simp only [Array.getD_eq_getD_getElem?, Array.getElem?_append, if_pos hlt]
          have : cargs[t]? = some v := by simpa using hv
          rw [this]; rfl
        rw [this]
        exact hr.noLoc (noLocs_get hargs ha)
  have hwp := (h.sound hok hm g).1
  refine wp_mono hwp fun e' a' w' hq => ?_
  obtain ⟨rfl, S', m', g'⟩ := hq
  obtain ⟨vs, h1, h2⟩ := res_run g' hok hr
  have hres : (results fn a'.tmps).run P w' = .ok (if h : vs.length = 1 then vs[0] else .tuple vs.toArray) w' := by
    have hdef : results fn a'.tmps = (do let vs ← fn.results.mapM (readRes a'); pure (if h : vs.size = 1 then vs[0] else .tuple vs) : Sem Value) := by
      unfold results
      have hfun : ∀ x : ResultVar, (match x with | .tmp t => (pure (a'.tmps.getD t undef) : Sem Value) | .cell c t => do loadVar t (← asAddr (a'.tmps.getD c undef))) = readRes a' x := by
        intro x; cases x <;> rfl
      congr 1
    rw [hdef, Array.mapM_eq_mapM_toList]
    simp only [Sem.run_bind, Sem.run_map, h1, Result.andThen_ok, Sem.run_pure, List.size_toArray]
    congr 1
  have hS' : ∀ k, S' k → S k ∨ (w.heap.size ≤ k ∧ k < w'.heap.size) := fun k hk => by
    rcases g'.s0 k hk with h | h | h
    · exact .inl h
    · exact .inr ⟨h, g'.sin k hk⟩
    · exact h.elim
  have hlent : ∀ k, lentS m' S' δ k → S k ∨ (w.heap.size ≤ k ∧ k < w'.heap.size) := by
    rintro k (h | ⟨d, gg, b, hmem, h0, rfl⟩)
    · exact hS' k h
    · obtain ⟨e1, sz, i, cv, hv, hb⟩ := snapL_frozen H' _ hs _ hmem
      simp only at e1 hv hb
      subst e1
      have hlive : (H' d).2.live = true := by cases e : (H' d).2 <;> simp_all [Blk.view, Blk.live]
      have hlt := g'.lt hlive h0
      cases hb' : (H' d).2 with
      | dead => rw [hb'] at hlive; simp [Blk.live] at hlive
      | fz sz k at_ => exact hS' _ (g'.frz d sz k at_ hb' h0)
      | vr cells => rcases (g'.own d (by rw [hb']; rfl) h0).2 with h | h; exact h.elim; exact .inr ⟨h, hlt⟩
      | fa sz k at_ => rcases (g'.own d (by rw [hb']; rfl) h0).2 with h | h; exact h.elim; exact .inr ⟨h, hlt⟩
  have h3 := snapL_rel (S' := fun k => S k ∨ (w.heap.size ≤ k ∧ k < w'.heap.size)) g'.facts h2 hs hcc hlent
  have hrr : RelA (fun k => S k ∨ (w.heap.size ≤ k ∧ k < w'.heap.size)) m0 G0 w' r' (if h : vs.length = 1 then vs[0] else .tuple vs.toArray) := by
    subst hp
    have hl2 := h3.length
    have htup : RelA (fun k => S k ∨ (w.heap.size ≤ k ∧ k < w'.heap.size)) m0 G0 w' (.tup ls) (.tuple vs.toArray) := by
      refine .tup (by simpa using hl2) fun j x v hx hv => ?_
      obtain ⟨b, hb, hr⟩ := h3.get hx
      simp at hv; rw [hv] at hb; cases hb; exact hr
    cases ls with
    | nil => rw [dif_neg (by simp at hl2; omega)]; exact htup
    | cons x r => cases r with
      | nil =>
        rw [dif_pos (by simp at hl2; omega)]
        cases vs with
        | nil => exact h3.elim
        | cons v r => exact h3.1
      | cons _ _ => rw [dif_neg (by simp at hl2; omega)]; exact htup
  have hend : ∃ v, (results fn a'.tmps).run P w' = .ok v w' ∧ ∃ v', Ending.returned v = .returned v' ∧ Eff (fun _ => False) w w' ∧ RelA (fun k => S k ∨ (w.heap.size ≤ k ∧ k < w'.heap.size)) m0 G0 w' r v' :=
    ⟨_, hres, _, rfl, g'.eff, hw _ _ _ hrr⟩
  rcases he with rfl | rfl <;> exact ⟨g'.defers, hend⟩

end
end Go.Abs
