/- Regions in any order that their edges allow: the theorem. -/
import Derived.Test.YtmlhfccpnehaeaaAbsZ
set_option autoImplicit false
set_option linter.unusedVariables false
set_option linter.unusedSimpArgs false
namespace Go.Abs

/-! ### What stands before what -/

def depMask (masks : List Nat) : List Edge → Nat
  | [] => 0
  | e :: r => if Region.binds .any e = true then (2 ^ e.on ||| masks.getD e.on 0) ||| depMask masks r else depMask masks r
def masksGo : List Oper → List Nat → List Nat
  | [], acc => acc
  | o :: r, acc => masksGo r (acc ++ [depMask acc o.after.toList])
def masksOf (ops : List Oper) : List Nat := masksGo ops []

theorem depMask_spec {masks : List Nat} {i : Nat} : ∀ {es : List Edge}, (depMask masks es).testBit i = true → ∃ e ∈ es, Region.binds .any e = true ∧ (e.on = i ∨ (masks.getD e.on 0).testBit i = true)
  | [], h => by simp [depMask] at h
  | e :: r, h => by
    simp only [depMask] at h
    split at h
    · rename_i hb
      simp only [Nat.testBit_or, Bool.or_eq_true] at h
      rcases h with (h | h) | h
      · rw [Nat.testBit_two_pow] at h; exact ⟨e, by simp, hb, .inl (by simpa using h)⟩
      · exact ⟨e, by simp, hb, .inr h⟩
      · obtain ⟨e', h1, h2⟩ := depMask_spec h; exact ⟨e', by simp [h1], h2⟩
    · obtain ⟨e', h1, h2⟩ := depMask_spec h; exact ⟨e', by simp [h1], h2⟩

theorem masksGo_pre : ∀ (r : List Oper) (acc : List Nat), ∃ t, masksGo r acc = acc ++ t
  | [], acc => ⟨[], by simp [masksGo]⟩
  | o :: r, acc => by
    obtain ⟨t, h⟩ := masksGo_pre r (acc ++ [depMask acc o.after.toList])
    exact ⟨depMask acc o.after.toList :: t, by simp [masksGo, h]⟩

theorem masksGo_get : ∀ (r : List Oper) (acc : List Nat) {j : Nat} {o : Oper}, r[j]? = some o → (masksGo r acc)[acc.length + j]? = some (depMask ((masksGo r acc).take (acc.length + j)) o.after.toList)
  | [], _, _, _, h => by simp at h
  | x :: r, acc, 0, o, h => by
    simp at h; subst h
    obtain ⟨t, ht⟩ := masksGo_pre r (acc ++ [depMask acc x.after.toList])
    simp only [masksGo, ht, Nat.add_zero]
    rw [List.append_assoc, List.take_left, List.getElem?_append_right (Nat.le_refl _)]; simp
  | x :: r, acc, j + 1, o, h => by
    have := masksGo_get r (acc ++ [depMask acc x.after.toList]) (j := j) (o := o) (by simpa using h)
    simp only [List.length_append, List.length_cons, List.length_nil] at this
    simp only [masksGo]
    rw [show acc.length + (j + 1) = acc.length + (0 + 1) + j by omega]; exact this

theorem mask_spec {ops : List Oper} {k i : Nat} {o : Oper} (ho : ops[k]? = some o) (h : ((masksOf ops).getD k 0).testBit i = true) :
    ∃ e ∈ o.after.toList, Region.binds .any e = true ∧ (e.on = i ∨ ((masksOf ops).getD e.on 0).testBit i = true) := by
  have hg := masksGo_get ops [] ho
  simp only [List.length_nil, Nat.zero_add] at hg
  rw [List.getD_eq_getElem?_getD, show (masksOf ops)[k]? = _ from hg, Option.getD_some] at h
  obtain ⟨e, h1, h2, h3⟩ := depMask_spec h
  refine ⟨e, h1, h2, h3.imp id fun h => ?_⟩
  rw [List.getD_eq_getElem?_getD] at h ⊢
  by_cases hk : e.on < k
  · rw [List.getElem?_take_of_lt hk] at h; exact h
  · rw [List.getElem?_eq_none (by simp; omega)] at h; simp at h

/-! ### Operations that do not meet -/

def tmpsOf : List Operand → List Nat
  | [] => []
  | .tmp t :: r => t :: tmpsOf r
  | _ :: r => tmpsOf r
theorem mem_tmpsOf {t : Nat} : ∀ {l : List Operand}, Operand.tmp t ∈ l → t ∈ tmpsOf l
  | [], h => by simp at h
  | x :: r, h => by
    rcases List.mem_cons.1 h with e | h
    · subst e; simp [tmpsOf]
    · have := mem_tmpsOf h
      cases x <;> simp [tmpsOf, this]

def guardTmp (ops : List Oper) (o : Oper) : List Nat :=
  match o.guard with
  | none => []
  | some (j, _) => match (ops[j]?).bind (·.dst) with
    | some d => [d]
    | none => []
def looksL (ops : List Oper) (o : Oper) : List Nat := tmpsOf o.op.operands.toList ++ guardTmp ops o

def noneIn : List Nat → List Nat → Bool
  | [], _ => true
  | x :: r, l => !(l.contains x) && noneIn r l
theorem noneIn_spec {l : List Nat} : ∀ {xs : List Nat}, noneIn xs l = true → ∀ x ∈ xs, x ∉ l
  | [], _, _, h => by simp at h
  | y :: r, h, x, hx => by
    simp only [noneIn, Bool.and_eq_true, Bool.not_eq_true'] at h
    rcases List.mem_cons.1 hx with rfl | hx
    · intro hm; have : l.contains x = true := by simpa using hm
      rw [h.1] at this; cases this
    · exact noneIn_spec h.2 x hx

/-- temporaries apart -/
def apartB (ops : List Oper) (x y : Oper) : Bool := noneIn x.dst.toList (looksL ops y) && noneIn y.dst.toList (looksL ops x) && noneIn x.dst.toList y.dst.toList

structure Apart (ops : List Oper) (x y : Oper) : Prop where
  a1 : ∀ d, x.dst = some d → d ∉ looksL ops y
  a2 : ∀ d, y.dst = some d → d ∉ looksL ops x
  a3 : ∀ d, x.dst = some d → y.dst ≠ some d

theorem apart_of {ops : List Oper} {x y : Oper} (h : apartB ops x y = true) : Apart ops x y := by
  simp only [apartB, Bool.and_eq_true] at h
  exact ⟨fun d hd => noneIn_spec h.1.1 d (by simp [hd]), fun d hd => noneIn_spec h.1.2 d (by simp [hd]), fun d hd he => noneIn_spec h.2 d (by simp [hd]) (by simp [he])⟩

inductive FStep (P : Program) (T : Tab) (n : Nat) (ops : List Oper) (o : Oper) (F : Nat → AV) (H : Hp) : (Nat → AV) → Hp → List Nat → List Nat → Prop
  | run {v : AV} {δ : List (Nat × Nat × Blk)} (hg : guardV ops o F = some true) (hd : dstOk n o.dst = true) (h : AOp P T o F H v δ) : FStep P T n ops o F H (putF F o.dst v) (updHs H δ) (fpR T o F) (keysOf δ)
  | skip (hg : guardV ops o F = some false) (hd : dstOk n o.dst = true) : FStep P T n ops o F H (putF F o.dst (.tup [])) H [] []

section
variable {P : Program} {T : Tab} {n : Nat} {ops : List Oper} {F F' F1 F2 : Nat → AV} {H H' H1 H2 : Hp}

theorem FStep.step {o : Oper} {R W : List Nat} (h : FStep P T n ops o F H F' H' R W) : AStep P T n ops o F H F' H' := by
  cases h with
  | run hg hd h => exact .run hg hd h
  | skip hg hd => exact .skip hg hd

theorem putF_ne {d : Option Nat} {v : AV} {t : Nat} (h : d ≠ some t) : putF F d v t = F t := by
  cases d with
  | none => rfl
  | some d => simp only [putF]; rw [if_neg]; rintro rfl; exact h rfl

theorem putF_comm {d e : Option Nat} {u v : AV} (h : ∀ x, d = some x → e ≠ some x) : putF (putF F d u) e v = putF (putF F e v) d u := by
  cases d with
  | none => rfl
  | some d => cases e with
    | none => rfl
    | some e =>
      funext t
      have hne : d ≠ e := fun he => h d rfl (by rw [he])
      simp only [putF]
      by_cases h1 : t = e <;> by_cases h2 : t = d
      · exact absurd (h2.symm.trans h1) hne
      · simp [h1, h2, Ne.symm hne]
      · simp [h1, h2, hne]
      · simp [h1, h2]

theorem AOp.transfer {o : Oper} {v : AV} {δ : List (Nat × Nat × Blk)} (hF : ∀ x ∈ o.op.operands, evA F x = evA F' x) (hH : ∀ d ∈ fpR T o F, H d = H' d) (h : AOp P T o F H v δ) : AOp P T o F' H' v δ := by
  cases h with
  | op h => refine .op ?_; rw [← opv_congr (H := H') hF, ← opv_loc hH]; exact h
  | callF ho hs hc hcall hr =>
    rename_i f args tys xs c
    have hargs : ∀ y ∈ args.toList, evA F y = evA F' y := fun y hy => hF y (by rw [ho]; simp only [Op.operands, Call.operands]; simp; exact .inr (by simpa using hy))
    refine .callF ho ?_ hc hcall hr
    rw [← evArgs_congr (T := T) hargs, ← snapL_loc (H := H) (fun d hd => hH d (by unfold fpR; rw [ho]; exact hd))]
    exact hs
  | callB ho hs hc hcall hr =>
    rename_i f args tys xs δ' c
    have hargs : ∀ y ∈ args.toList, evA F y = evA F' y := fun y hy => hF y (by rw [ho]; simp only [Op.operands, Call.operands]; simp; exact .inr (by simpa using hy))
    refine .callB (δ := δ') ho ?_ hc hcall hr
    rw [← evArgs_congr (T := T) hargs, ← snapL_loc (H := H) (fun d hd => hH d (by unfold fpR; rw [ho]; exact hd))]
    exact hs

theorem evA_put {d : Option Nat} {v : AV} {x : Operand} {l : List Operand} (hx : x ∈ l) (h : ∀ t, d = some t → t ∉ tmpsOf l) : evA (putF F d v) x = evA F x := by
  cases x with
  | tmp t =>
    simp only [evA]
    exact putF_ne fun e => h t e (mem_tmpsOf hx)
  | _ => rfl

theorem guardV_put {o : Oper} {d : Option Nat} {v : AV} (h : ∀ t, d = some t → t ∉ looksL ops o) : guardV ops o (putF F d v) = guardV ops o F := by
  unfold guardV
  unfold looksL guardTmp at h
  cases hg : o.guard with
  | none => rfl
  | some jw =>
    obtain ⟨j, want⟩ := jw
    simp only [hg] at h ⊢
    cases hd : (ops[j]?).bind (·.dst) with
    | none => rfl
    | some q =>
      simp only [hd] at h ⊢
      rw [putF_ne fun e => h q e (by simp)]

/-- two operations that do not meet change places -/
theorem diamond {o1 o2 : Oper} {R1 W1 R2 W2 : List Nat} (h1 : FStep P T n ops o1 F H F1 H1 R1 W1) (h2 : FStep P T n ops o2 F1 H1 F2 H2 R2 W2) (ap : Apart ops o1 o2)
    (d1 : ∀ d ∈ W1, d ∉ R2) (d2 : ∀ d ∈ W2, d ∉ R1) (d3 : ∀ d ∈ W1, d ∉ W2) : ∃ F3 H3, FStep P T n ops o2 F H F3 H3 R2 W2 ∧ FStep P T n ops o1 F3 H3 F2 H2 R1 W1 := by
  have l1 : ∀ t, o1.dst = some t → t ∉ tmpsOf o2.op.operands.toList := fun t ht hm => ap.a1 t ht (by simp [looksL, hm])
  have l2 : ∀ t, o2.dst = some t → t ∉ tmpsOf o1.op.operands.toList := fun t ht hm => ap.a2 t ht (by simp [looksL, hm])
  -- the second one, moved to the front
  have back : ∀ {u : AV} {δ : List (Nat × Nat × Blk)}, (∀ d ∈ keysOf δ, d ∉ R2) → F1 = putF F o1.dst u → H1 = updHs H δ → (∀ d, d ∈ keysOf δ → d ∉ W2) →
      ∃ v ε, FStep P T n ops o2 F H (putF F o2.dst v) (updHs H ε) R2 W2 ∧ F2 = putF F1 o2.dst v ∧ H2 = updHs H1 ε ∧ (∀ d, d ∈ keysOf ε ↔ d ∈ W2) := by
    intro u δ hR hF hH hW
    cases h2 with
    | run hg hd h =>
      rename_i v ε
      have e : ∀ x ∈ o2.op.operands, evA F1 x = evA F x := fun x hx => by rw [hF]; exact evA_put (by simpa using hx) l1
      have hfp := fpR_congr (T := T) e
      refine ⟨v, ε, ?_, rfl, rfl, fun d => Iff.rfl⟩
      rw [hfp]
      refine .run (by rw [← hg, hF]; exact (guardV_put ap.a1).symm) hd (h.transfer e fun d hd => ?_)
      rw [hH]; exact updHs_ne _ _ fun hm => hR d hm hd
    | skip hg hd =>
      exact ⟨.tup [], [], .skip (by rw [← hg, hF]; exact (guardV_put ap.a1).symm) hd, rfl, rfl, fun d => by simp [keysOf]⟩
  cases h1 with
  | run hg1 hd1 h1 =>
    rename_i u δ
    obtain ⟨v, ε, s2, e1, e2, e3⟩ := back d1 rfl rfl d3
    refine ⟨_, _, s2, ?_⟩
    have hF2 : F2 = putF (putF F o2.dst v) o1.dst u := by rw [e1]; exact putF_comm ap.a3
    have hH2 : H2 = updHs (updHs H ε) δ := by rw [e2]; exact updHs_comm _ _ _ fun d hd he => d3 d hd ((e3 d).1 he)
    have e : ∀ x ∈ o1.op.operands, evA (putF F o2.dst v) x = evA F x := fun x hx => evA_put (by simpa using hx) l2
    have hfp := fpR_congr (T := T) e
    rw [hF2, hH2, ← hfp]
    refine .run (by rw [guardV_put ap.a2]; exact hg1) hd1 (h1.transfer (fun x hx => (e x hx).symm) fun d hd => ?_)
    exact (updHs_ne _ _ fun hm => d2 d ((e3 d).1 hm) hd).symm
  | skip hg1 hd1 =>
    obtain ⟨v, ε, s2, e1, e2, e3⟩ := back (u := .tup []) (δ := []) (by simp [keysOf]) rfl rfl (by simp [keysOf])
    refine ⟨_, _, s2, ?_⟩
    have hF2 : F2 = putF (putF F o2.dst v) o1.dst (.tup []) := by rw [e1]; exact putF_comm ap.a3
    rw [hF2, e2]
    exact .skip (by rw [guardV_put ap.a2]; exact hg1) hd1

/-- a run in the order of the text, with what each operation looked at and wrote -/
inductive FSteps (P : Program) (T : Tab) (n : Nat) (ops : List Oper) : List (Nat × List Nat × List Nat) → (Nat → AV) → Hp → (Nat → AV) → Hp → Prop
  | nil {F : Nat → AV} {H : Hp} : FSteps P T n ops [] F H F H
  | cons {i : Nat} {R W : List Nat} {r : List (Nat × List Nat × List Nat)} {o : Oper} {F F1 F2 : Nat → AV} {H H1 H2 : Hp} (hi : ops[i]? = some o) (h : FStep P T n ops o F H F1 H1 R W)
      (hr : FSteps P T n ops r F1 H1 F2 H2) : FSteps P T n ops ((i, R, W) :: r) F H F2 H2

theorem FSteps.asteps {l : List (Nat × List Nat × List Nat)} (h : FSteps P T n ops l F H F' H') : ASteps P T n ops (l.map (·.1)) F H F' H' := by
  induction h with
  | nil => exact .nil
  | cons hi h hr ih => exact .cons hi h.step ih

/-- they do not meet -/
def Indep (ops : List Oper) (x y : Nat × List Nat × List Nat) : Prop :=
  (∀ o1 o2, ops[x.1]? = some o1 → ops[y.1]? = some o2 → Apart ops o1 o2) ∧ (∀ d ∈ x.2.2, d ∉ y.2.1) ∧ (∀ d ∈ y.2.2, d ∉ x.2.1) ∧ (∀ d ∈ x.2.2, d ∉ y.2.2)

theorem bubble {x : Nat × List Nat × List Nat} : ∀ {l1 l2 : List (Nat × List Nat × List Nat)} {F : Nat → AV} {H : Hp}, FSteps P T n ops (l1 ++ x :: l2) F H F' H' → (∀ y ∈ l1, Indep ops y x) →
    ∃ o F1 H1, ops[x.1]? = some o ∧ FStep P T n ops o F H F1 H1 x.2.1 x.2.2 ∧ FSteps P T n ops (l1 ++ l2) F1 H1 F' H'
  | [], l2, F, H, h, _ => by
    cases h with
    | cons hi h hr => exact ⟨_, _, _, hi, h, hr⟩
  | y :: l1, l2, F, H, h, hy => by
    cases h with
    | cons hi h hr =>
      rename_i i R W oy Fa Ha
      obtain ⟨ox, Fb, Hb, hx, sx, hrest⟩ := bubble hr fun z hz => hy z (by simp [hz])
      obtain ⟨q1, q2, q3, q4⟩ := hy (i, R, W) (by simp)
      obtain ⟨F3, H3, s1, s2⟩ := diamond h sx (q1 oy ox hi hx) q2 q3 q4
      exact ⟨ox, F3, H3, hx, s1, .cons hi s2 hrest⟩

end
end Go.Abs
