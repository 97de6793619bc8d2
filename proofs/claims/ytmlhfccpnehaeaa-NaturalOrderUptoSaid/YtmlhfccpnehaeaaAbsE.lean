/- Regions that draw their order; whole bodies; functions. -/
import Derived.Test.YtmlhfccpnehaeaaAbsD
set_option autoImplicit false
set_option linter.unusedVariables false
set_option linter.unusedSimpArgs false
namespace Go.Abs

/-- the edges that bind point back -/
def edgesBack : List Oper → Nat → Bool
  | [], _ => true
  | o :: r, k => (o.after.toList.all fun e => !Region.binds .any e || Nat.blt e.on k) && edgesBack r (k + 1)

theorem edgesBack_spec : ∀ {r : List Oper} {k j : Nat} {o : Oper}, edgesBack r k = true → r[j]? = some o → ∀ e ∈ o.after.toList, Region.binds .any e = true → e.on < k + j
  | [], _, _, _, _, h => by simp at h
  | x :: r, k, 0, o, h, ho => by
    simp at ho; subst ho
    simp only [edgesBack, Bool.and_eq_true, List.all_eq_true, Bool.or_eq_true, Bool.not_eq_true'] at h
    intro e he hb
    rcases h.1 e he with h1 | h1
    · rw [hb] at h1; cases h1
    · simpa [Nat.blt_eq] using h1
  | x :: r, k, j + 1, o, h, ho => by
    simp only [edgesBack, Bool.and_eq_true] at h
    intro e he hb
    have := edgesBack_spec h.2 (by simpa using ho) e he hb
    omega

section
variable {P : Program} {T : Tab} {n : Nat} {S0 pass : Nat → Prop} {w0 : World} {F F' : Nat → AV} {H H' : Hp} {ops : List Oper}

theorem mem_ready' {j : Nat} {listed : Array Bool} {o : Oper} (ho : ops[j]? = some o) : j ∈ Region.ready .any ops.toArray listed ↔ (listed.getD j true = false ∧ ∀ e ∈ o.after.toList, Region.binds .any e = true → listed.getD e.on false = true) := by
  have hlt : j < ops.length := (List.getElem?_eq_some_iff.1 ho).1
  unfold Region.ready
  simp only [List.mem_filter, List.mem_range, List.size_toArray, List.getElem?_toArray, ho, Option.map_some, Option.getD_some, Bool.and_eq_true, Bool.not_eq_true', ← Array.all_toList, List.all_eq_true, Bool.or_eq_true]
  constructor
  · rintro ⟨_, h1, h2⟩
    refine ⟨h1, fun e he hb => ?_⟩
    rcases h2 e he with h | h
    · rw [hb] at h; cases h
    · exact h
  · rintro ⟨h1, h2⟩
    refine ⟨hlt, h1, fun e he => ?_⟩
    cases hb : Region.binds .any e with
    | false => exact .inl rfl
    | true => exact .inr (h2 e he hb)

theorem ready_get {j : Nat} {listed : Array Bool} (h : j ∈ Region.ready .any ops.toArray listed) : ∃ o, ops[j]? = some o := by
  unfold Region.ready at h
  simp only [List.mem_filter, List.mem_range, List.size_toArray] at h
  exact ⟨_, List.getElem?_eq_getElem h.1⟩

abbrev It := Nat × List Nat × List Nat

theorem any_sound (hok : tabOk P T = true) (hback : edgesBack ops 0 = true) {Q : Exit → Act → World → Prop}
    (hk : ∀ a' w' S' m', Good n S0 pass w0 F' H' S' m' a' w' → Q .normal a' w') :
    ∀ (fuel : Nat) (items : List It) (listed : Array Bool) (F : Nat → AV) (H : Hp) (S : Nat → Prop) (m : Places) (a : Act) (w : World),
      items.length = fuel → listed.size = ops.length → FSteps P T n ops items F H F' H' → items.Pairwise (fun x y => x.1 < y.1) →
      items.Pairwise (fun x y => ((masksOf ops).getD y.1 0).testBit x.1 = true ∨ Indep ops x y) →
      (∀ i, i < ops.length → (listed.getD i true = false ↔ i ∈ items.map (·.1))) →
      (∀ k, listed.getD k false = true → ∀ i, ((masksOf ops).getD k 0).testBit i = true → listed.getD i false = true) →
      Good n S0 pass w0 F H S m a w → wpAny P .any ops.toArray Q fuel listed a w := by
  intro fuel
  induction fuel with
  | zero =>
    intro items listed F H S m a w hlen hsz hst _ _ hU _ g
    have : items = [] := List.eq_nil_of_length_eq_zero hlen
    subst this
    cases hst
    refine ⟨?_, hk _ _ _ _ g⟩
    apply List.eq_nil_iff_forall_not_mem.2
    intro j hj
    obtain ⟨o, ho⟩ := ready_get hj
    have h1 := ((mem_ready' ho).1 hj).1
    have := (hU j (List.getElem?_eq_some_iff.1 ho).1).1 h1
    simp at this
  | succ fuel ih =>
    intro items listed F H S m a w hlen hsz hst hasc hpair hU hDC g
    refine ⟨fun hr => ?_, fun i hi => ?_⟩
    · -- the first one is ready
      exfalso
      cases items with
      | nil => simp at hlen
      | cons x r =>
        have hx : ∃ o, ops[x.1]? = some o := by cases hst with | cons hi _ _ => exact ⟨_, hi⟩
        obtain ⟨o, ho⟩ := hx
        have hlt := (List.getElem?_eq_some_iff.1 ho).1
        have : x.1 ∈ Region.ready .any ops.toArray listed := by
          refine (mem_ready' ho).2 ⟨(hU x.1 hlt).2 (by simp), fun e he hb => ?_⟩
          have hlt2 := edgesBack_spec hback ho e he hb
          simp only [Nat.zero_add] at hlt2
          have hne : listed.getD e.on true ≠ false := by
            intro h
            have hm := (hU e.on (by omega)).1 h
            simp only [List.map_cons, List.mem_cons, List.mem_map] at hm
            rcases hm with h | ⟨y, hy, h⟩
            · omega
            · have := (List.pairwise_cons.1 hasc).1 y hy; omega
          have hlt3 : e.on < listed.size := by omega
          simp only [Array.getD_eq_getD_getElem?, Array.getElem?_eq_getElem hlt3, Option.getD_some] at hne ⊢
          simpa using hne
        rw [hr] at this; cases this
    · obtain ⟨o, ho⟩ := ready_get hi
      obtain ⟨h1, h2⟩ := (mem_ready' ho).1 hi
      have hlt := (List.getElem?_eq_some_iff.1 ho).1
      have hmem := (hU i hlt).1 h1
      obtain ⟨x, hx, hxi⟩ := List.mem_map.1 hmem
      obtain ⟨l1, l2, rfl⟩ := List.append_of_mem hx
      -- what stands before it among the unlisted does not meet it
      have hbit : ∀ j, ((masksOf ops).getD i 0).testBit j = true → listed.getD j false = true := by
        intro j hj
        obtain ⟨e, he, hb, h3⟩ := mask_spec ho hj
        rcases h3 with h3 | h3
        · rw [← h3]; exact h2 e he hb
        · exact hDC e.on (h2 e he hb) j h3
      have hind : ∀ y ∈ l1, Indep ops y x := by
        intro y hy
        rcases (List.pairwise_append.1 hpair).2.2 y hy x (by simp) with h | h
        · exfalso
          rw [hxi] at h
          have hl := hbit y.1 h
          have hy' : y.1 ∈ (l1 ++ x :: l2).map (·.1) := List.mem_map.2 ⟨y, by simp [hy], rfl⟩
          have hylt : y.1 < ops.length := by
            have := (List.pairwise_append.1 hasc).2.2 y hy x (by simp); omega
          have := (hU y.1 hylt).2 hy'
          have hlt3 : y.1 < listed.size := by omega
          simp only [Array.getD_eq_getD_getElem?, Array.getElem?_eq_getElem hlt3, Option.getD_some] at hl this
          rw [hl] at this; cases this
        · exact h
      obtain ⟨o', F1, H1, ho', s1, hrest⟩ := bubble hst hind
      rw [hxi] at ho'
      refine s1.step.wpOp g hok ho' fun a' w' S' m' g' => ?_
      have hsub : (l1 ++ l2).Sublist (l1 ++ x :: l2) := List.Sublist.append_left (List.sublist_cons_self x l2) l1
      refine ih (l1 ++ l2) _ F1 H1 S' m' a' w' (by simp at hlen ⊢; omega) (by simp [hsz]) hrest (hasc.sublist hsub) (hpair.sublist hsub) (fun j hj => ?_) (fun k hk' j hj => ?_) g'
      · have hasc' := List.pairwise_append.1 hasc
        have hnot : i ∉ (l1 ++ l2).map (·.1) := by
          intro hm
          obtain ⟨y, hy, hyi⟩ := List.mem_map.1 hm
          rcases List.mem_append.1 hy with h | h
          · have := hasc'.2.2 y h x (by simp); omega
          · have := (List.pairwise_cons.1 hasc'.2.1).1 y h; omega
        by_cases hji : j = i
        · subst hji
          have : (listed.setIfInBounds j true).getD j true = true := by simp [Array.getD_eq_getD_getElem?, Array.getElem?_setIfInBounds]; split <;> simp_all
          rw [this]; simp only [Bool.true_eq_false, false_iff]; exact hnot
        · have : (listed.setIfInBounds i true).getD j true = listed.getD j true := by
            simp only [Array.getD_eq_getD_getElem?, Array.getElem?_setIfInBounds_ne (Ne.symm hji)]
          rw [this, hU j hj]
          simp only [List.map_append, List.map_cons, List.mem_append, List.mem_cons, hxi]
          constructor
          · rintro (h | h | h)
            · exact .inl h
            · exact absurd h hji
            · exact .inr h
          · rintro (h | h)
            · exact .inl h
            · exact .inr (.inr h)
      · have keep : ∀ j, listed.getD j false = true → (listed.setIfInBounds i true).getD j false = true := by
          intro j hj
          by_cases hji : j = i
          · subst hji
            have hlt3 : j < listed.size := by omega
            simp [Array.getD_eq_getD_getElem?, Array.getElem?_setIfInBounds, hlt3]
          · simp only [Array.getD_eq_getD_getElem?, Array.getElem?_setIfInBounds_ne (Ne.symm hji)] at hj ⊢; exact hj
        by_cases hki : k = i
        · subst hki; exact keep j (hbit j hj)
        · have : listed.getD k false = true := by
            simp only [Array.getD_eq_getD_getElem?, Array.getElem?_setIfInBounds_ne (Ne.symm hki)] at hk' ⊢; exact hk'
          exact keep j (hDC k this j hj)

/-! ### The check, as a Bool -/
def indepB (ops : List Oper) (x y : It) : Bool :=
  (match ops[x.1]?, ops[y.1]? with | some o1, some o2 => apartB ops o1 o2 | _, _ => true) && noneIn x.2.2 y.2.1 && noneIn y.2.2 x.2.1 && noneIn x.2.2 y.2.2
def pairB (ops : List Oper) (masks : List Nat) (x : It) : List It → Bool
  | [] => true
  | y :: r => (Nat.testBit (masks.getD y.1 0) x.1 || indepB ops x y) && pairB ops masks x r
def pairsB (ops : List Oper) (masks : List Nat) : List It → Bool
  | [] => true
  | x :: r => pairB ops masks x r && pairsB ops masks r
def drawOk (ops : List Oper) (items : List It) : Bool := edgesBack ops 0 && pairsB ops (masksOf ops) items

theorem indepB_spec {x y : It} (h : indepB ops x y = true) : Indep ops x y := by
  simp only [indepB, Bool.and_eq_true] at h
  obtain ⟨⟨⟨h1, h2⟩, h3⟩, h4⟩ := h
  refine ⟨fun o1 o2 e1 e2 => ?_, noneIn_spec h2, noneIn_spec h3, noneIn_spec h4⟩
  rw [e1, e2] at h1; exact apart_of h1

theorem pairB_spec {masks : List Nat} {x : It} : ∀ {l : List It}, pairB ops masks x l = true → ∀ y ∈ l, (masks.getD y.1 0).testBit x.1 = true ∨ Indep ops x y
  | [], _, _, h => by simp at h
  | z :: r, h, y, hy => by
    simp only [pairB, Bool.and_eq_true, Bool.or_eq_true] at h
    rcases List.mem_cons.1 hy with rfl | hy
    · exact h.1.imp id indepB_spec
    · exact pairB_spec h.2 y hy
theorem pairsB_spec {masks : List Nat} : ∀ {l : List It}, pairsB ops masks l = true → l.Pairwise (fun x y => (masks.getD y.1 0).testBit x.1 = true ∨ Indep ops x y)
  | [], _ => .nil
  | x :: r, h => by
    simp only [pairsB, Bool.and_eq_true] at h
    exact .cons (pairB_spec h.1) (pairsB_spec h.2)

theorem draw_sound (hok : tabOk P T = true) (hm : P.follows .mixedOrders = true) {items : List It} (hd : drawOk ops items = true) (hi : items.map (·.1) = List.range ops.length) (hst : FSteps P T n ops items F H F' H')
    {S : Nat → Prop} {m : Places} {a : Act} {w : World} {id : Nat} (g : Good n S0 pass w0 F H S m a w) {Q : Exit → Act → World → Prop}
    (hk : ∀ a' w' S' m', Good n S0 pass w0 F' H' S' m' a' w' → Q .normal a' w') : (Code.region id ops.toArray true).wp P Q a w := by
  simp only [drawOk, Bool.and_eq_true] at hd
  refine wp_region_any hm ?_
  have hlen : items.length = ops.length := by have := congrArg List.length hi; simpa using this
  have gw : Good n S0 pass w0 F H S m a w.drew := g.world (fun _ h => h) (fun _ _ => rfl) (g.eff.trans (Eff.drew _ _)) (fun _ h => .inl h)
  refine any_sound hok hd.1 hk _ items _ F H S m a w.drew (by simpa using hlen) (by simp) hst ?_ (pairsB_spec hd.2) (fun i hi' => ?_) (fun k hk' => ?_) gw
  · have : (items.map (·.1)).Pairwise (· < ·) := by rw [hi]; exact List.pairwise_lt_range
    exact List.pairwise_map.1 this
  · rw [hi]; simp [Array.getD_eq_getD_getElem?, hi']
  · simp [Array.getD_eq_getD_getElem?] at hk'
    by_cases h : k < ops.length <;> simp [h] at hk'

end
end Go.Abs
