/- One operation, whatever it is; regions in the order of the text and in any order. -/
import Derived.Test.YtmlhfccpnehaeaaAbsX
set_option autoImplicit false
set_option linter.unusedVariables false
set_option linter.unusedSimpArgs false
namespace Go.Abs

def opv (T : Tab) (o : Oper) (F : Nat → AV) (H : Hp) : OpOut :=
  match o.op with
  | .move x | .assign x => .ok (evT T F o.type x) []
  | .pick c x y => match evA F c with
    | .f (.bool b) => .ok (if b = true then evA F x else evA F y) []
    | _ => .bad
  | .alloc e => allocO T H o.dst e
  | .box e x => boxO H o.dst (evT T F e x)
  | .build t ps => buildO T t (evParts F ps.toList)
  | .buildSlice t len ps => buildSliceO T H o.dst t len (evParts F ps.toList)
  | .load t x => loadO T H t (evA F x)
  | .store t x y => storeO T H t (evA F x) (evT T F t y)
  | .nilCheck x => nilO (evA F x)
  | .binOp op t x y _ => binO T op t (evA F x) (evA F y)
  | .unOp op _ x => unO op (evA F x)
  | .convert src dst x => match T.get src with
    | some _ => convO T dst (evA F x)
    | none => .bad
  | .makeSlice t l c => makeO T H o.dst t (evA F l) (evA F c)
  | .slice t x lo hi mx => sliceO T t (evA F x) (evO F lo) (evO F hi) (evO F mx)
  | .fieldAddr s x k => fieldAddrO T s (evA F x) k
  | .field s x k => fieldO T s (evA F x) k
  | .indexAddr t x y => indexAddrO T t (evA F x) (evA F y)
  | .index t x y => indexO T t (evA F x) (evA F y)
  | .extract x k => extractO (evA F x) k
  | .call c => match c.callee with
    | .builtin b => match b, c.args.toList, c.argTypes.toList with
      | .len, [x], t :: _ => lenO T t (evA F x)
      | .cap, [x], t :: _ => capO T t (evA F x)
      | .append, [s, x], [t, tx] => appendO T H o.dst t tx (evT T F t s) (evA F x)
      | .max, [x, y], _ => maxO [evA F x, evA F y]
      | .min, [x, y], _ => minO [evA F x, evA F y]
      | _, _, _ => .bad
    | _ => .bad
  | _ => .bad

section
variable {P : Program} {T : Tab} {n : Nat} {S0 pass : Nat → Prop} {w0 : World} {F : Nat → AV} {H : Hp} {S : Nat → Prop} {m : Places} {a : Act} {w : World} {o : Oper} {v : AV} {δ : List (Nat × Nat × Blk)}

theorem opv_does (g : Good n S0 pass w0 F H S m a w) (hok : tabOk P T = true) (hd : dstOk n o.dst = true) (hv : (opv T o F H).gives v δ) : Does P n S0 pass w0 o F H v δ a w := by
  unfold opv at hv
  split at hv
  · rename_i x ho; obtain ⟨rfl, rfl⟩ := hv; exact move_does (T := T) g (.inl ho) hd rfl
  · rename_i x ho; obtain ⟨rfl, rfl⟩ := hv; exact move_does (T := T) g (.inr ho) hd rfl
  · rename_i c x y ho
    split at hv
    · rename_i b hb; obtain ⟨rfl, rfl⟩ := hv; exact pick_does g ho hd hb rfl
    · exact hv.elim
  · rename_i e ho; exact alloc_does g hok ho hd hv
  · rename_i e x ho; exact box_does g ho hd hv
  · rename_i t ps ho; exact build_does g hok ho hd hv
  · rename_i t len ps ho; exact buildSlice_does g hok ho hd hv
  · rename_i t x ho; exact load_does g hok ho hd hv
  · rename_i t x y ho; exact store_does g hok ho hd hv
  · rename_i x ho; exact nil_does g ho hd hv
  · rename_i op t x y t2 ho; exact bin_does g hok ho hd hv
  · rename_i op t x ho; exact unO_does g ho hd hv
  · rename_i src dst x ho
    split at hv
    · rename_i ti hti; exact conv_does g hok ho ⟨ti, hti⟩ hd hv
    · exact hv.elim
  · rename_i t l c ho; exact make_does g hok ho hd hv
  · rename_i t x lo hi mx ho; exact slice_does g hok ho hd hv
  · rename_i s x k ho; exact fieldAddr_does g hok ho hd hv
  · rename_i s x k ho; exact field_does g hok ho hd hv
  · rename_i t x y ho; exact indexAddr_does g hok ho hd hv
  · rename_i t x y ho; exact index_does g hok ho hd hv
  · rename_i x k ho; exact extract_does g ho hd hv
  · rename_i c ho
    obtain ⟨callee, args, tys⟩ := c
    simp only at hv
    split at hv
    · split at hv
      · rename_i x t r h1 h2
        have e1 : args = #[x] := by cases args; simp_all
        subst e1
        exact len_does g hok ho (by rw [← Array.getElem?_toList, h2]; rfl) hd hv
      · rename_i x t r h1 h2
        have e1 : args = #[x] := by cases args; simp_all
        subst e1
        exact cap_does g hok ho (by rw [← Array.getElem?_toList, h2]; rfl) hd hv
      · rename_i s x t tx h1 h2
        have e1 : args = #[s, x] := by cases args; simp_all
        have e2 : tys = #[t, tx] := by cases tys; simp_all
        subst e1; subst e2
        exact append_does g hok ho hd hv
      · rename_i x y h1
        have e1 : args = #[x, y] := by cases args; simp_all
        subst e1
        exact max_does g ho hd hv
      · rename_i x y h1
        have e1 : args = #[x, y] := by cases args; simp_all
        subst e1
        exact min_does g ho hd hv
      · exact hv.elim
    · exact hv.elim
  · exact hv.elim
end

/-- what an operation may give, and what it does to the call's own blocks -/
inductive AOp (P : Program) (T : Tab) (o : Oper) (F : Nat → AV) (H : Hp) : AV → List (Nat × Nat × Blk) → Prop
  | op {v : AV} {δ : List (Nat × Nat × Blk)} (h : (opv T o F H).gives v δ) : AOp P T o F H v δ
  | callF {f : FuncId} {args : Array Operand} {tys : Array TypeId} {xs : List AV} {δ : List (Nat × Nat × Blk)} {c : Prop} {r : AV} (ho : o.op = .call { callee := .value (.func f), args := args, argTypes := tys })
      (hs : snapL H (evArgs T F args.toList tys.toList) = some (xs, δ, c)) (hc : c) (hcall : ACall P f xs r) (hr : r.noLoc = true) : AOp P T o F H r δ
  | callB {f : FuncId} {args : Array Operand} {tys : Array TypeId} {xs : List AV} {δ : List (Nat × Nat × Blk)} {c : Prop} {r : AV} (ho : o.op = .call { callee := .value (.func f), args := args, argTypes := tys })
      (hs : snapL H (evArgs T F args.toList tys.toList) = some (xs, δ, c)) (hc : c) (hcall : ACall P f xs r) (hr : r.scalar = true) : AOp P T o F H r []

theorem AOp.steps {P : Program} {T : Tab} {n : Nat} {S0 pass : Nat → Prop} {w0 : World} {F : Nat → AV} {H : Hp} {S : Nat → Prop} {m : Places} {a : Act} {w : World} {o : Oper} {v : AV} {δ : List (Nat × Nat × Blk)}
    (h : AOp P T o F H v δ) (g : Good n S0 pass w0 F H S m a w) (hok : tabOk P T = true) (hd : dstOk n o.dst = true) : Steps1 P n S0 pass w0 o F H v δ a w := by
  cases h with
  | op h => exact (opv_does g hok hd h).steps
  | callF ho hs hc hcall hr => exact callF_steps g ho hd hs hc hcall hr
  | callB ho hs hc hcall hr => exact callB_steps g ho hd hs hc hcall hr

/-- is the operation's guard met (none: it can't be told) -/
def guardV (ops : List Oper) (o : Oper) (F : Nat → AV) : Option Bool :=
  match o.guard with
  | none => some true
  | some (j, want) => match (ops[j]?).bind (·.dst) with
    | some d => match F d with
      | .f (.bool b) => some (b == want)
      | .tup [] => some false
      | _ => none
    | none => none

/-- one operation of a region, its guard looked at -/
inductive AStep (P : Program) (T : Tab) (n : Nat) (ops : List Oper) (o : Oper) (F : Nat → AV) (H : Hp) : (Nat → AV) → Hp → Prop
  | run {v : AV} {δ : List (Nat × Nat × Blk)} (hg : guardV ops o F = some true) (hd : dstOk n o.dst = true) (h : AOp P T o F H v δ) : AStep P T n ops o F H (putF F o.dst v) (updHs H δ)
  | skip (hg : guardV ops o F = some false) (hd : dstOk n o.dst = true) : AStep P T n ops o F H (putF F o.dst (.tup [])) H

section
variable {P : Program} {T : Tab} {n : Nat} {S0 pass : Nat → Prop} {w0 : World} {F F' : Nat → AV} {H H' : Hp} {S : Nat → Prop} {m : Places} {a : Act} {w : World} {o : Oper}

theorem guard_wanted {ops : List Oper} {b : Bool} (g : Good n S0 pass w0 F H S m a w) (h : guardV ops o F = some b) : Region.wanted o (yielded ops.toArray a.tmps) = b := by
  unfold guardV at h
  unfold Region.wanted
  cases hgd : o.guard with
  | none => simp [hgd] at h; simp [← h]
  | some jw =>
    obtain ⟨j, want⟩ := jw
    simp only [hgd] at h
    cases hdj : (ops[j]?).bind (·.dst) with
    | none => simp [hdj] at h
    | some d =>
    simp only [hdj] at h
    have hr := g.fr d
    cases hF : F d with
    | f x => cases x with
      | bool q =>
        simp only [hF, Option.some.injEq] at h
        rw [hF] at hr
        have hget : a.tmps[d]? = some (.bool q) := by
          generalize hv : a.tmps.getD d undef = v at hr
          cases hr with
          | f hr =>
          cases hr
          rw [Array.getD_eq_getD_getElem?] at hv
          cases hq : a.tmps[d]? with
          | none => rw [hq] at hv; simp [undef] at hv
          | some v => rw [hq] at hv; simp at hv; rw [hv]
        have : yielded ops.toArray a.tmps j = some q := by
          unfold yielded
          have e : ((ops.toArray[j]?).bind (·.dst)) = some d := by simpa using hdj
          rw [e]; simp [hget]
        simp only [this]
        rw [← h]; cases q <;> cases want <;> rfl
      | _ => simp [hF] at h
    | tup vs =>
      cases vs with
      | cons x r => simp [hF] at h
      | nil =>
      simp only [hF, Option.some.injEq] at h
      rw [hF] at hr
      have : yielded ops.toArray a.tmps j = none := by
        unfold yielded
        have e : ((ops.toArray[j]?).bind (·.dst)) = some d := by simpa using hdj
        rw [e]
        generalize hv : a.tmps.getD d undef = v at hr
        cases hr with
        | tup hn _ =>
        rename_i cs
        rw [Array.getD_eq_getD_getElem?] at hv
        cases hq : a.tmps[d]? with
        | none => simp [hq]
        | some v => rw [hq] at hv; simp at hv; subst hv; simp [hq]
      simp only [this]
      rw [← h]; rfl
    | _ => simp [hF] at h

theorem AStep.wpOp {ops : List Oper} {i : Nat} (h : AStep P T n ops o F H F' H') (g : Good n S0 pass w0 F H S m a w) (hok : tabOk P T = true) (hi : ops[i]? = some o) {K : Act → World → Prop} {Q : Exit → Act → World → Prop}
    (hk : ∀ a' w' S' m', Good n S0 pass w0 F' H' S' m' a' w' → K a' w') : wpOp P ops.toArray Q i K a w := by
  unfold Go.wpOp
  have hi' : ops.toArray[i]? = some o := by simpa using hi
  rw [hi']
  cases h with
  | run hg hd h =>
    simp only [guard_wanted g hg, if_true]
    exact .inl (h.steps g hok hd K Q fun x w' S' m' g' => hk _ _ _ _ g')
  | skip hg hd =>
    simp only [guard_wanted g hg, Bool.false_eq_true, if_false]
    exact hk _ _ S m (g.put hd (.tup rfl (fun j x v hx hv => by simp at hx)))

/-- operations one after the other -/
inductive ASteps (P : Program) (T : Tab) (n : Nat) (ops : List Oper) : List Nat → (Nat → AV) → Hp → (Nat → AV) → Hp → Prop
  | nil {F : Nat → AV} {H : Hp} : ASteps P T n ops [] F H F H
  | cons {i : Nat} {r : List Nat} {o : Oper} {F F1 F2 : Nat → AV} {H H1 H2 : Hp} (hi : ops[i]? = some o) (h : AStep P T n ops o F H F1 H1) (hr : ASteps P T n ops r F1 H1 F2 H2) : ASteps P T n ops (i :: r) F H F2 H2

theorem ASteps.wpOps {ops : List Oper} {l : List Nat} (h : ASteps P T n ops l F H F' H') (hok : tabOk P T = true) {Q : Exit → Act → World → Prop} :
    ∀ {S : Nat → Prop} {m : Places} {a : Act} {w : World}, Good n S0 pass w0 F H S m a w → (∀ a' w' S' m', Good n S0 pass w0 F' H' S' m' a' w' → Q .normal a' w') → wpOps P ops.toArray Q l a w := by
  induction h with
  | nil => intro S m a w g hk; exact hk _ _ _ _ g
  | cons hi h hr ih =>
    intro S m a w g hk
    rw [wpOps_cons]
    exact h.wpOp g hok hi fun a' w' S' m' g' => ih g' hk

theorem region_sound {ops : List Oper} {id : Nat} (h : ASteps P T n ops (List.range ops.length) F H F' H') (hok : tabOk P T = true) (g : Good n S0 pass w0 F H S m a w) {Q : Exit → Act → World → Prop}
    (hk : ∀ a' w' S' m', Good n S0 pass w0 F' H' S' m' a' w' → Q .normal a' w') : (Code.region id ops.toArray false).wp P Q a w :=
  wp_region (by simpa using h.wpOps hok g hk)
end
end Go.Abs
