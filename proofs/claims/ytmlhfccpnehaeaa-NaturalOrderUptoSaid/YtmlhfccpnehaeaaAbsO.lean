/- Soundness, part two: each operation, against the model's own run. -/
import Derived.Test.YtmlhfccpnehaeaaAbsS
import Derived.Laws.CopyRow
import Derived.Laws.MakeOwn
import Derived.Laws.Append
import Derived.Laws.Entries
import Derived.Tactics
set_option autoImplicit false
set_option linter.unusedVariables false
set_option linter.unusedSimpArgs false
namespace Go.Abs

/-- what the table says of a type, in the model's words -/
structure TyFacts (P : Program) (t : Nat) (ti : TI) (inf : TypeInfo) (u : TypeDesc) (z : Value) : Prop where
  info : P.info? t = some inf
  und : P.underlying t = some u
  size : inf.size = ti.size
  bytes : inf.bytes = ti.bytes
  desc : descOk u ti.d = true
  zero : inf.zero = some z
  zok : zerosOk z.cells.toList ti.zero = true
  zlen : ti.zero.length = ti.size

theorem tab_ty {P : Program} : ∀ {T : Tab} {t : Nat} {ti : TI}, tabOk P T = true → T.get t = some ti → tyOk P t ti = true
  | [], _, _, _, h => by simp [Tab.get] at h
  | (u, i) :: r, t, ti, hok, h => by
    simp only [tabOk, Bool.and_eq_true] at hok
    simp only [Tab.get] at h
    cases e : Nat.beq u t with
    | true =>
      rw [e] at h; simp only [cond_true, Option.some.injEq] at h
      have : u = t := Nat.eq_of_beq_eq_true e
      subst this; subst h; exact hok.1
    | false => rw [e] at h; exact tab_ty hok.2 h

theorem ty_facts {P : Program} {t : Nat} {ti : TI} (h : tyOk P t ti = true) : ∃ inf u z, TyFacts P t ti inf u z := by
  unfold tyOk at h
  cases h1 : P.info? t with
  | none => simp [h1] at h
  | some inf => cases h2 : P.underlying t with
    | none => simp [h1, h2] at h
    | some u => cases h3 : inf.zero with
      | none => simp [h1, h2, h3] at h
      | some z =>
        simp only [h1, h2, h3, Bool.and_eq_true, beq_iff_eq] at h
        obtain ⟨⟨⟨⟨a, b⟩, c⟩, d⟩, e⟩ := h
        exact ⟨inf, u, z, ⟨h1, h2, a, b, c, h3, d, e⟩⟩

theorem facts {P : Program} {T : Tab} {t : Nat} {ti : TI} (hok : tabOk P T = true) (h : T.get t = some ti) : ∃ inf u z, TyFacts P t ti inf u z := ty_facts (tab_ty hok h)

section
variable {P : Program} {w : World} {t : Nat} {ti : TI} {inf : TypeInfo} {u : TypeDesc} {z : Value}

theorem TyFacts.run_und (f : TyFacts P t ti inf u z) : (underlying t).run P w = .ok u w := run_underlying f.und w
theorem TyFacts.run_info (f : TyFacts P t ti inf u z) : (typeInfo t).run P w = .ok inf w := by simp [typeInfo, f.info]
theorem TyFacts.run_size (f : TyFacts P t ti inf u z) : (sizeOf t).run P w = .ok ti.size w := by simp [sizeOf, f.run_info, f.size]
theorem TyFacts.run_zero (f : TyFacts P t ti inf u z) : (zeroValue t).run P w = .ok z w := by simp [zeroValue, f.run_info, f.zero]
theorem TyFacts.run_agg (f : TyFacts P t ti inf u z) : (isAgg t).run P w = .ok ti.d.isAgg w := by
  have h := f.desc
  simp only [isAgg, Sem.run_bind, f.run_und, Result.andThen_ok]
  cases u <;> cases hd : ti.d <;> simp_all [descOk, TD.isAgg]

theorem TyFacts.slice {e : Nat} (f : TyFacts P t ti inf u z) (h : ti.d = .slice e) : u = .slice e := by
  have := f.desc; rw [h] at this; cases u <;> simp_all [descOk]
theorem TyFacts.struct {fs : List (Nat × Nat)} (f : TyFacts P t ti inf u z) (h : ti.d = .struct fs) : ∃ gs, u = .struct gs ∧ fieldsOk gs.toList fs = true := by
  have := f.desc; rw [h] at this; cases u <;> simp_all [descOk]
theorem TyFacts.arr {n e : Nat} (f : TyFacts P t ti inf u z) (h : ti.d = .arr n e) : u = .array n e := by
  have := f.desc; rw [h] at this; cases u <;> simp_all [descOk]
theorem TyFacts.int {k : IntKind} (f : TyFacts P t ti inf u z) (h : ti.d = .int k) : u = .int k := by
  have := f.desc; rw [h] at this; cases u <;> simp_all [descOk]
theorem TyFacts.bool (f : TyFacts P t ti inf u z) (h : ti.d = .bool) : u = .bool := by
  have := f.desc; rw [h] at this; cases u <;> simp_all [descOk]
theorem TyFacts.str (f : TyFacts P t ti inf u z) (h : ti.d = .str) : u = .string := by
  have := f.desc; rw [h] at this; cases u <;> simp_all [descOk]
end

theorem zero_rel {S : Nat → Prop} {w : World} : ∀ {v : Value} {x : FV}, zeroOk v x = true → RelF S w x v := by
  intro v x h
  unfold zeroOk at h
  split at h
  · simp at h; obtain ⟨rfl, rfl⟩ := h; exact .int
  · simp at h; subst h; exact .bool
  · rename_i s s'
    simp at h
    obtain ⟨h1, h2⟩ := h
    rw [h1, h2]; exact .str
  · exact .sl (fun _ _ => undef) (Nat.le_refl _) (by simp) (fun _ => rfl) (by omega) (by simp) (by simp) (by omega)
  all_goals first | (exact .any rfl) | (simp at h)

theorem zeros_rel {S : Nat → Prop} {w : World} : ∀ {vs : List Value} {xs : List FV}, zerosOk vs xs = true → All2 (RelF S w) xs vs
  | [], [], _ => trivial
  | v :: vs, x :: xs, h => by simp only [zerosOk, Bool.and_eq_true] at h; exact ⟨zero_rel h.1, zeros_rel h.2⟩
  | [], _ :: _, h => by simp [zerosOk] at h
  | _ :: _, [], h => by simp [zerosOk] at h

theorem all2_fL {S : Nat → Prop} {m : Places} {G : Nat → Nat} {w : World} : ∀ {xs : List FV} {vs : List Value}, All2 (RelF S w) xs vs → All2 (RelA S m G w) (fL xs) vs
  | [], [], _ => trivial
  | _ :: _, _ :: _, ⟨a, b⟩ => ⟨.f a, all2_fL b⟩
  | [], _ :: _, h => h.elim
  | _ :: _, [], h => h.elim
theorem all2_unfL {S : Nat → Prop} {m : Places} {G : Nat → Nat} {w : World} : ∀ {xs : List FV} {vs : List Value}, All2 (RelA S m G w) (fL xs) vs → All2 (RelF S w) xs vs
  | [], [], _ => trivial
  | _ :: _, _ :: _, ⟨.f a, b⟩ => ⟨a, all2_unfL b⟩
  | [], _ :: _, h => h.elim
  | _ :: _, [], h => h.elim
theorem fL_length (xs : List FV) : (fL xs).length = xs.length := by rw [fL_eq]; simp

theorem one_of_relF {S : Nat → Prop} {w : World} : ∀ {xs : List FV} {vs : List Value}, All2 (RelF S w) xs vs → ∀ v ∈ vs, v.oneCell' = true
  | _, [], _ => by simp
  | _ :: _, _ :: _, ⟨a, b⟩ => by
    intro v hv
    rcases List.mem_cons.1 hv with rfl | h
    · exact a.one
    · exact one_of_relF b v h
  | [], _ :: _, h => h.elim

/-! ### Operands -/
section
variable {S : Nat → Prop} {m : Places} {G : Nat → Nat} {w : World}

theorem constA_rel (v : Value) : RelA S m G w (constA v) v := by
  unfold constA
  split
  · exact .f .int
  · exact .f .bool
  · exact .f .str
  · exact .f (.sl (fun _ _ => undef) (Nat.le_refl _) (by simp) (fun _ => rfl) (by omega) (by simp) (by simp) (by omega))
  · exact .top

theorem constT_rel (T : Tab) (t : Nat) (v : Value) : RelA S m G w (constT T t v) v := by
  have hnil : ∀ sz (l : List FV), RelA S m G w (.f (.sl sz (fun _ => l) 0 (some 0))) (.slice none 0 0) := fun sz l =>
    .f (.sl (fun _ _ => undef) (Nat.le_refl _) (by simp) (fun _ => rfl) (by omega) (by simp) (by simp) (by omega))
  unfold constT
  split
  · split
    · split <;> exact hnil _ _
    · exact hnil _ _
  · exact constA_rel v

theorem evA_rel {F : Nat → AV} {a : Act} (hf : ∀ t, RelA S m G w (F t) (a.tmps.getD t undef)) (o : Operand) : RelA S m G w (evA F o) (a.eval o) := by
  cases o with
  | tmp t => exact hf t
  | const v => exact constA_rel v
  | global g => exact .top
  | func f => exact .top
theorem evT_rel {F : Nat → AV} {a : Act} (hf : ∀ t, RelA S m G w (F t) (a.tmps.getD t undef)) (T : Tab) (t : Nat) (o : Operand) : RelA S m G w (evT T F t o) (a.eval o) := by
  cases o with
  | const v => exact constT_rel T t v
  | tmp t => exact hf t
  | global g => exact .top
  | func f => exact .top

theorem mkV_rel {agg : Bool} {xs : List AV} {vs : List Value} {v : AV} (h : All2 (RelA S m G w) xs vs) (h1 : ∀ c ∈ vs, c.oneCell' = true) (hv : mkV agg xs = some v) :
    RelA S m G w v (if agg then .agg vs.toArray else vs.getD 0 undef) := by
  cases agg with
  | true =>
    simp only [mkV, Option.some.injEq] at hv; subst hv
    refine .agg (by simpa using h.length) (fun j x v hx hv => ?_) (fun j v hv => h1 v ?_)
    · obtain ⟨b, hb, hr⟩ := h.get hx
      simp at hv; rw [hv] at hb; cases hb; exact hr
    · simp at hv; exact List.mem_of_getElem? hv
  | false =>
    cases xs with
    | nil => simp [mkV] at hv
    | cons x r => cases r with
      | nil =>
        simp only [mkV, Option.some.injEq] at hv; subst hv
        cases vs with
        | nil => exact h.elim
        | cons b r => exact h.1
      | cons _ _ => simp [mkV] at hv

theorem mkV_len {xs : List AV} {v : AV} (hv : mkV false xs = some v) : xs.length = 1 := by
  cases xs with
  | nil => simp [mkV] at hv
  | cons x r => cases r with
    | nil => rfl
    | cons _ _ => simp [mkV] at hv
end

theorem addr_add (b o j : Nat) : (Addr.add ⟨b, o, none⟩ j) = ⟨b, o + j, none⟩ := by
  unfold Addr.add; split
  · rename_i h; subst h; rfl
  · rfl

/-- a load of cells that are known -/
theorem run_load_at {P : Program} {t : Nat} {ti : TI} {inf : TypeInfo} {u : TypeDesc} {z : Value} (f : TyFacts P t ti inf u z) (w : World) (b o : Nat) (vs : List Value)
    (hl : vs.length = ti.size) (h : ∀ (j : Nat) (v : Value), vs[j]? = some v → w.cell? ⟨b, o + j, none⟩ = some v) (h1 : ti.d.isAgg = false → ti.size = 1) :
    (Instr.loadAt t (.pointer (some ⟨b, o, none⟩))).run P w = .ok (if ti.d.isAgg then .agg vs.toArray else vs.getD 0 undef) w := by
  simp only [Instr.loadAt, Instr.sureAddr, Sem.run_bind, Sem.run_pure, Result.andThen_ok, loadVar, f.run_agg]
  cases ha : ti.d.isAgg with
  | true =>
    simp only [if_true, Sem.run_bind, f.run_size, Result.andThen_ok]
    rw [← hl, run_loadCells_list w ⟨b, o, none⟩ vs (fun j v hv => by rw [addr_add]; exact h j v hv)]
    rfl
  | false =>
    have hs := h1 ha
    cases vs with
    | nil => simp at hl; omega
    | cons v r =>
      have := h 0 v rfl
      simp only [Nat.add_zero] at this
      simp [this]

def OpOut.gives : OpOut → AV → List (Nat × Nat × Blk) → Prop
  | .bad, _, _ => False
  | .ok v δ, v', δ' => v' = v ∧ δ' = δ
  | .chk c v δ, v', δ' => c ∧ v' = v ∧ δ' = δ
  | .ari k e, v', δ' => ∃ z, v' = .f (.int k z) ∧ δ' = [] ∧ ((k.min ≤ e ∧ e ≤ k.max ∧ z = e) ∨ z = k.wrap e)

/-- an operation that does not call does what is said of it -/
def Does (P : Program) (n : Nat) (S0 pass : Nat → Prop) (w0 : World) (o : Oper) (F : Nat → AV) (H : Hp) (v : AV) (δ : List (Nat × Nat × Blk)) (a : Act) (w : World) : Prop :=
  ∃ nx x w' S' m', (execOp a.eval o).run P w = .ok nx w' ∧ (nx = .value x ∨ (nx = .skip ∧ x = undef)) ∧ Good n S0 pass w0 (putF F o.dst v) (updHs H δ) S' m' (a.put o.dst x) w'

section ops
variable {P : Program} {T : Tab} {n : Nat} {S0 pass : Nat → Prop} {w0 : World} {F : Nat → AV} {H : Hp} {S : Nat → Prop} {m : Places} {a : Act} {w : World} {o : Oper} {v : AV} {δ : List (Nat × Nat × Blk)}

/-- an operation that gives a value and leaves the world -/
theorem does_value (g : Good n S0 pass w0 F H S m a w) (hd : dstOk n o.dst = true) {x : Value} (hr : (execOp a.eval o).run P w = .ok (.value x) w) (hv : RelA S m (gen H) w v x) :
    Does P n S0 pass w0 o F H v [] a w := ⟨_, x, w, S, m, hr, .inl rfl, g.put hd hv⟩

theorem gives_ok {v v' : AV} {δ δ' : List (Nat × Nat × Blk)} (h : (OpOut.ok v δ).gives v' δ') : v' = v ∧ δ' = δ := h

/-- cells of a block of the call's own, as the world has them -/
theorem Good.cells (g : Good n S0 pass w0 F H S m a w) {d : Nat} (hl : (H d).2.live = true) : ∃ cs : Array Value, cs.size = (m d (H d).1).2 ∧ RelB S m (gen H) w (H d).2 cs ∧
    ∀ (j : Nat) (v : Value), cs[j]? = some v → w.cell? ⟨(m d (H d).1).1, j, none⟩ = some v := by
  obtain ⟨cs, h1, h2, h3⟩ := g.hp d hl
  refine ⟨cs, h1, h2, fun j v hj => ?_⟩
  have hpos : 0 < cs.size := by have := (Array.getElem?_eq_some_iff.1 hj).1; omega
  obtain ⟨e, he⟩ := h3 hpos
  simp [World.cell?, he, hj]

theorem ite_false_of {α : Type} {b : Bool} {x y : α} (h : b = false) : (if b = true then x else y) = y := by simp [h]

theorem load_value (g : Good n S0 pass w0 F H S m a w) (hok : tabOk P T = true) {t : Nat} {x : Operand} (hv : (loadO T H t (evA F x)).gives v δ) :
    δ = [] ∧ ∃ ad y, a.eval x = .pointer (some ad) ∧ (loadVar t ad).run P w = .ok y w ∧ RelA S m (gen H) w v y := by
  have hx := evA_rel (S := S) (m := m) (w := w) g.fr x
  unfold loadO at hv
  cases ht : T.get t with
  | none => simp [ht, OpOut.gives] at hv
  | some ti =>
  obtain ⟨inf, u, z, f⟩ := facts hok ht
  simp only [ht] at hv
  -- the common end
  have fin : ∀ (b off : Nat) (xs : List AV) (vs : List Value), a.eval x = .pointer (some ⟨b, off, none⟩) → All2 (RelA S m (gen H) w) xs vs → (∀ c ∈ vs, c.oneCell' = true) → vs.length = ti.size →
      (∀ (j : Nat) (v : Value), vs[j]? = some v → w.cell? ⟨b, off + j, none⟩ = some v) → mkV ti.d.isAgg xs = some v → ([] : List (Nat × Nat × Blk)) = [] ∧ ∃ ad y, a.eval x = .pointer (some ad) ∧ (loadVar t ad).run P w = .ok y w ∧ RelA S m (gen H) w v y := by
    intro b off xs vs he hr h1 hl hc hm
    refine ⟨rfl, ⟨b, off, none⟩, _, he, ?_, mkV_rel hr h1 hm⟩
    have := run_load_at f w b off vs hl hc (fun ha => by rw [ha] at hm; have := mkV_len hm; have := hr.length; omega)
    simpa only [Instr.loadAt, Instr.sureAddr, Sem.run_bind, Sem.run_pure, Result.andThen_ok] using this
  cases hp : evA F x with
  | f fv =>
    rw [hp] at hx hv
    cases fv with
    | ptr cells =>
      simp only at hv
      cases hx with
      | f hx =>
      obtain ⟨y, he⟩ : ∃ y, a.eval x = y := ⟨_, rfl⟩
      rw [he] at hx
      cases hx with
      | @ptr _ ad vs hs hS hcv hr =>
      cases hb : Nat.ble ti.size cells.length with
      | false => simp [hb, OpOut.gives] at hv
      | true =>
      have hle := Nat.le_of_ble_eq_true hb
      simp only [hb, cond_true] at hv
      cases hm : mkV ti.d.isAgg (fL (cells.take ti.size)) with
      | none => simp [hm, OpOut.gives] at hv
      | some v' =>
      simp only [hm] at hv
      obtain ⟨rfl, rfl⟩ := hv
      have hrel : All2 (RelF S w) (cells.take ti.size) ((List.range ti.size).map vs) := by
        refine All2.of (by simp [hle]) fun j a b ha hb => ?_
        have hj : j < ti.size := by have := (List.getElem?_eq_some_iff.1 hb).1; simpa using this
        rw [List.getElem?_take_of_lt hj] at ha
        simp [hj] at hb; subst hb
        exact hr j a ha
      have had : ad = ⟨ad.block, ad.off, none⟩ := by cases ad; simp at hs; simp [hs]
      refine fin ad.block ad.off _ _ (by rw [he, ← had]) (all2_fL hrel) (one_of_relF hrel) (by simp) (fun j v hj => ?_) hm
      have hj' : j < ti.size := by have := (List.getElem?_eq_some_iff.1 hj).1; simpa using this
      simp [hj'] at hj; subst hj
      exact hcv j (by omega)
    | _ => simp [OpOut.gives] at hv
  | lptr d gg sz i sub =>
    rw [hp] at hx hv
    simp only at hv
    obtain ⟨y, he⟩ : ∃ y, a.eval x = y := ⟨_, rfl⟩
    rw [he] at hx
    cases hx with
    | lptr hg =>
    cases hb : Nat.beq (H d).1 gg with
    | false => simp [hb, OpOut.gives] at hv
    | true =>
    have hgg : (H d).1 = gg := Nat.eq_of_beq_eq_true hb
    simp only [hb, cond_true] at hv
    subst hgg
    cases hblk : (H d).2 with
    | dead => simp [hblk, OpOut.gives] at hv
    | vr cells =>
      obtain ⟨cs, q1, q2, q3⟩ := g.cells (d := d) (by rw [hblk]; rfl)
      rw [hblk] at q2
      simp only [hblk] at hv
      cases hb2 : Nat.ble (i * sz + sub + ti.size) cells.length with
      | false => simp [hb2, OpOut.gives] at hv
      | true =>
      have hle := Nat.le_of_ble_eq_true hb2
      simp only [hb2, cond_true] at hv
      cases hm : mkV ti.d.isAgg ((cells.drop (i * sz + sub)).take ti.size) with
      | none => simp [hm, OpOut.gives] at hv
      | some v' =>
      simp only [hm] at hv
      obtain ⟨rfl, rfl⟩ := hv
      have hlen := q2.1.length
      refine fin _ _ _ ((cs.toList.drop (i * sz + sub)).take ti.size) he ((q2.1.drop _).take _) (fun c hc => q2.2 c (List.mem_of_mem_drop (List.mem_of_mem_take hc))) (by simp at hlen ⊢; omega) (fun j v hj => ?_) hm
      have hj' : j < ti.size := by have := (List.getElem?_eq_some_iff.1 hj).1; simp at this; omega
      rw [List.getElem?_take_of_lt hj', List.getElem?_drop] at hj
      exact q3 _ v (by simpa using hj)
    | fa sz' k at_ | fz sz' k at_ =>
      obtain ⟨cs, q1, q2, q3⟩ := g.cells (d := d) (by rw [hblk]; rfl)
      rw [hblk] at q2
      simp only [hblk] at hv
      cases hb2 : (Nat.beq sz' sz && Nat.ble (sub + ti.size) sz) with
      | false => simp [hb2, OpOut.gives] at hv
      | true =>
      simp only [hb2, cond_true] at hv
      simp only [Bool.and_eq_true] at hb2
      have hsz : sz' = sz := Nat.eq_of_beq_eq_true hb2.1
      have hle := Nat.le_of_ble_eq_true hb2.2
      subst hsz
      cases hm : mkV ti.d.isAgg (fL (((at_ i).drop sub).take ti.size)) with
      | none => simp [hm, OpOut.gives] at hv
      | some v' =>
      simp only [hm] at hv
      obtain ⟨hik, rfl, rfl⟩ := hv
      obtain ⟨r1, r2, r3⟩ := q2
      have hlen := r2 i hik
      have hrel : All2 (RelF S w) (((at_ i).drop sub).take ti.size) ((List.range ti.size).map fun j => (cs[i * sz' + sub + j]?).getD undef) := by
        refine All2.of (by simp [hlen]; omega) fun j a b ha hb => ?_
        have hj : j < ti.size := by have := (List.getElem?_eq_some_iff.1 hb).1; simpa using this
        rw [List.getElem?_take_of_lt hj, List.getElem?_drop] at ha
        simp [hj] at hb; subst hb
        obtain ⟨v, hv, hr⟩ := r3 i (sub + j) a hik ha
        rw [← Nat.add_assoc] at hv
        simp [hv]; exact hr
      refine fin _ _ _ _ he (all2_fL hrel) (one_of_relF hrel) (by simp) (fun j v hj => ?_) hm
      have hj' : j < ti.size := by have := (List.getElem?_eq_some_iff.1 hj).1; simpa using this
      simp [hj'] at hj
      obtain ⟨v2, hv2, _⟩ := r3 i (sub + j) _ hik (List.getElem?_eq_getElem (by omega))
      rw [← Nat.add_assoc] at hv2
      rw [hv2] at hj; simp at hj; subst hj
      exact q3 _ _ hv2
  | top | lsl _ _ _ _ _ _ | agg _ | tup _ => rw [hp] at hv; simp [OpOut.gives] at hv

theorem load_does (g : Good n S0 pass w0 F H S m a w) (hok : tabOk P T = true) {t : Nat} {x : Operand} (ho : o.op = .load t x) (hd : dstOk n o.dst = true)
    (hv : (loadO T H t (evA F x)).gives v δ) : Does P n S0 pass w0 o F H v δ a w := by
  obtain ⟨rfl, ad, y, he, hy, hr⟩ := load_value g hok hv
  refine does_value g hd ?_ hr
  unfold execOp; rw [ho]; simp only [he, Instr.loadAt, Instr.sureAddr, Sem.run_bind, Sem.run_pure, Result.andThen_ok, hy]

theorem setD_length {α : Type} : ∀ (l : List α) (o : Nat) (xs : List α), o + xs.length ≤ l.length → (setD l o xs).length = l.length
  | l, 0, xs, h => by simp [setD]; omega
  | [], o + 1, xs, h => by simp at h
  | x :: l, o + 1, xs, h => by simp only [setD, List.length_cons]; rw [setD_length l o xs (by simp at h; omega)]

theorem setD_eq {α : Type} : ∀ (l : List α) (o : Nat) (xs : List α), o ≤ l.length → setD l o xs = l.take o ++ xs ++ l.drop (o + xs.length)
  | l, 0, xs, _ => by simp [setD]
  | [], o + 1, xs, h => by simp at h
  | x :: l, o + 1, xs, h => by
    simp only [setD, setD_eq l o xs (by simpa using h), List.take_succ_cons, List.cons_append]
    congr 2
    rw [show o + 1 + xs.length = (o + xs.length) + 1 by omega, List.drop_succ_cons]

theorem all2_setD {α β : Type} {R : α → β → Prop} {l : List α} {k : List β} {xs : List α} {ys : List β} (h : All2 R l k) (h2 : All2 R xs ys) {o : Nat} (ho : o + xs.length ≤ l.length) :
    All2 R (setD l o xs) (k.take o ++ ys ++ k.drop (o + ys.length)) := by
  rw [setD_eq l o xs (by omega), ← h2.length]
  exact ((h.take o).append h2).append (h.drop _)

/-- the model's store into cells of a block of the call's own -/
theorem run_store_at {t : Nat} {ti : TI} {inf : TypeInfo} {u : TypeDesc} {z : Value} (f : TyFacts P t ti inf u z) (w : World) (b off : Nat) (y : Value) {cs : Array Value} {e : TypeId}
    (hh : w.heap[b]? = some (.cells cs e (0, 0))) (hl : y.cells.size = ti.size) (hfit : off + ti.size ≤ cs.size) (h1 : ∀ c ∈ y.cells.toList, c.oneCell' = true) :
    (Instr.storeAt t (.pointer (some ⟨b, off, none⟩)) y).run P w = .ok () (w.setRow b (cs.toList.take off ++ y.cells.toList ++ cs.toList.drop (off + y.cells.toList.length)).toArray) := by
  have := run_storeCells_at P b off e y.cells.toList 0 cs w hh (by simp [hl]; omega) h1
  simp only [Nat.add_zero] at this
  simp only [Instr.storeAt, Instr.sureAddr, Sem.run_bind, Sem.run_pure, Result.andThen_ok, storeVar, f.run_size, hl, ne_eq, not_true_eq_false, if_false, this]

theorem store_does (g : Good n S0 pass w0 F H S m a w) (hok : tabOk P T = true) {t : Nat} {x y : Operand} (ho : o.op = .store t x y) (hd : dstOk n o.dst = true)
    (hv : (storeO T H t (evA F x) (evT T F t y)).gives v δ) : Does P n S0 pass w0 o F H v δ a w := by
  have hx := evA_rel (S := S) (m := m) (w := w) g.fr x
  have hy := evT_rel (S := S) (m := m) (w := w) g.fr T t y
  unfold storeO at hv
  cases ht : T.get t with
  | none => simp [ht, OpOut.gives] at hv
  | some ti =>
  cases hc : (evT T F t y).cells with
  | none => simp [ht, hc, OpOut.gives] at hv
  | some xs =>
  obtain ⟨inf, u, z, f⟩ := facts hok ht
  obtain ⟨hyr, hy1⟩ := hy.cells hc
  simp only [ht, hc] at hv
  cases hb : Nat.beq xs.length ti.size with
  | false => simp [hb, OpOut.gives] at hv
  | true =>
  have hlen : xs.length = ti.size := Nat.eq_of_beq_eq_true hb
  simp only [hb, cond_true] at hv
  have hylen : (a.eval y).cells.size = ti.size := by have := hyr.length; simp at this; omega
  cases hp : evA F x with
  | lptr d gg sz i sub =>
    rw [hp] at hx hv
    simp only at hv
    generalize he : a.eval x = p at hx
    cases hx with
    | lptr hg =>
    cases hb : Nat.beq (H d).1 gg with
    | false => simp [hb, OpOut.gives] at hv
    | true =>
    have hgg : (H d).1 = gg := Nat.eq_of_beq_eq_true hb
    simp only [hb, cond_true] at hv
    subst hgg
    -- the common end
    have fin : ∀ (b' : Blk) (cs : Array Value), (H d).2.own = true → cs.size = (m d (H d).1).2 → (0 < cs.size → ∃ e, w.heap[(m d (H d).1).1]? = some (.cells cs e (0, 0))) → i * sz + sub + ti.size ≤ cs.size → b'.own = true →
        RelB S m (gen H) w b' (cs.toList.take (i * sz + sub) ++ (a.eval y).cells.toList ++ cs.toList.drop (i * sz + sub + (a.eval y).cells.toList.length)).toArray →
        0 < cs.size → Does P n S0 pass w0 o F H .top [(d, (H d).1, b')] a w := by
      intro b' cs hown q1 q3 hfit ho' hrel hpos
      obtain ⟨e, hh⟩ := q3 hpos
      have hrun := run_store_at f w (m d (H d).1).1 (i * sz + sub) (a.eval y) hh hylen hfit hy1
      refine ⟨.skip, undef, w.setRow (m d (H d).1).1 (cs.toList.take (i * sz + sub) ++ (a.eval y).cells.toList ++ cs.toList.drop (i * sz + sub + (a.eval y).cells.toList.length)).toArray, S, m, ?_, .inr ⟨rfl, rfl⟩, ?_⟩
      · unfold execOp; rw [ho]; simp only [he, Sem.run_bind, hrun, Result.andThen_ok, Sem.run_pure]
      · refine (g.rewrite hown (by omega) (e := e) ?_ (setRow_heap w _ cs _ e _ hh) (fun k hk => setRow_other w _ k _ hk) (by simp) rfl rfl rfl ho' hrel).put hd .top
        simp only [List.size_toArray, List.length_append, List.length_take, List.length_drop, Array.length_toList]
        omega
    cases hblk : (H d).2 with
    | dead => simp [hblk, OpOut.gives] at hv
    | vr cells =>
      obtain ⟨cs, q1, q2, q3⟩ := g.hp d (by rw [hblk]; rfl)
      rw [hblk] at q2
      simp only [hblk] at hv
      cases hb2 : Nat.ble (i * sz + sub + ti.size) cells.length with
      | false => simp [hb2, OpOut.gives] at hv
      | true =>
      have hle := Nat.le_of_ble_eq_true hb2
      simp only [hb2, cond_true] at hv
      obtain ⟨rfl, rfl⟩ := hv
      have hl2 := q2.1.length
      simp at hl2
      by_cases hpos : 0 < cs.size
      · refine fin _ cs (by rw [hblk]; rfl) q1 q3 (by omega) rfl ⟨?_, fun c hc => ?_⟩ hpos
        · simp only []
          exact all2_setD q2.1 hyr (by omega)
        · simp only [List.mem_append] at hc
          rcases hc with (hc | hc) | hc
          · exact q2.2 c (List.mem_of_mem_take hc)
          · exact hy1 c hc
          · exact q2.2 c (List.mem_of_mem_drop hc)
      · -- a store of nothing into an empty variable
        have hz : ti.size = 0 := by omega
        have hcells : cells = [] := by cases cells with | nil => rfl | cons _ _ => simp at hl2; omega
        have hxs : xs = [] := by cases xs with | nil => rfl | cons _ _ => simp at hlen; omega
        have hoff : i * sz + sub = 0 := by rw [hcells] at hle; simp at hle; omega
        have hy0 : (a.eval y).cells.toList = [] := by cases hq : (a.eval y).cells.toList with | nil => rfl | cons _ _ => rw [hq] at hyr; rw [hxs] at hyr; exact hyr.elim
        refine ⟨.skip, undef, w, S, m, ?_, .inr ⟨rfl, rfl⟩, ?_⟩
        · unfold execOp; rw [ho]
          simp only [he, Instr.storeAt, Instr.sureAddr, Sem.run_bind, Sem.run_pure, Result.andThen_ok, storeVar, f.run_size, hylen, ne_eq, not_true_eq_false, if_false, hy0, storeCells]
        · have : updHs H [(d, (H d).1, .vr (setD cells (i * sz + sub) xs))] = H := by
            funext k; simp only [updHs, updH]; split
            · rename_i h; subst h; rw [hcells, hxs, hoff]; simp only [setD, List.length_nil, List.drop_nil, List.append_nil]; rw [← hcells, ← hblk]
            · rfl
          rw [this]; exact g.put hd .top
    | fa sz' k at_ =>
      obtain ⟨cs, q1, q2, q3⟩ := g.hp d (by rw [hblk]; rfl)
      rw [hblk] at q2
      simp only [hblk] at hv
      cases hl : FV.toL xs with
      | none => simp [hl, OpOut.gives] at hv
      | some ys =>
      simp only [hl] at hv
      cases hb2 : (Nat.beq sz' sz && Nat.ble (sub + ti.size) sz) with
      | false => simp [hb2, OpOut.gives] at hv
      | true =>
      simp only [hb2, cond_true] at hv
      simp only [Bool.and_eq_true] at hb2
      have hsz : sz' = sz := Nat.eq_of_beq_eq_true hb2.1
      have hle := Nat.le_of_ble_eq_true hb2.2
      subst hsz
      obtain ⟨hik, rfl, rfl⟩ := hv
      obtain ⟨r1, r2, r3⟩ := q2
      have hxy := toL_eq hl
      rw [hxy] at hyr hlen
      have hyf := all2_unfL hyr
      rw [fL_length] at hlen
      have hrow : i * sz' + sz' ≤ k * sz' := by
        have := Nat.mul_le_mul_right sz' (show i + 1 ≤ k by omega)
        rw [Nat.add_mul, Nat.one_mul] at this; exact this
      by_cases hpos : 0 < cs.size
      · refine fin _ cs (by rw [hblk]; rfl) q1 q3 (by omega) rfl ⟨?_, fun i' hi' => ?_, fun i' j x hi' hx => ?_⟩ hpos
        · simp only [List.size_toArray, List.length_append, List.length_take, List.length_drop, Array.length_toList]; omega
        · unfold upd; split
          · rw [setD_length _ _ _ (by rw [r2 i hik]; omega)]; exact r2 i hik
          · exact r2 i' hi'
        · have hylen2 : (a.eval y).cells.toList.length = ti.size := by simpa using hylen
          have hlook : ∀ q, (cs.toList.take (i * sz' + sub) ++ (a.eval y).cells.toList ++ cs.toList.drop (i * sz' + sub + (a.eval y).cells.toList.length)).toArray[q]? =
              if i * sz' + sub ≤ q ∧ q < i * sz' + sub + ti.size then (a.eval y).cells.toList[q - (i * sz' + sub)]? else cs[q]? := by
            intro q
            rw [List.getElem?_toArray, hylen2]
            have hta : (cs.toList.take (i * sz' + sub)).length = i * sz' + sub := by simp; omega
            by_cases h1 : q < i * sz' + sub
            · rw [if_neg (by omega), List.append_assoc, List.getElem?_append_left (by omega), List.getElem?_take_of_lt h1]; simp
            · rw [List.append_assoc, List.getElem?_append_right (by omega), hta]
              by_cases h2 : q < i * sz' + sub + ti.size
              · rw [if_pos ⟨by omega, h2⟩, List.getElem?_append_left (by omega)]
              · rw [if_neg (by omega), List.getElem?_append_right (by omega), List.getElem?_drop, hylen2]
                rw [show i * sz' + sub + ti.size + (q - (i * sz' + sub) - ti.size) = q by omega]; simp
          rw [hlook]
          unfold upd at hx
          split at hx
          · rename_i hii; subst hii
            rw [setD_eq _ _ _ (by rw [r2 _ hik]; omega)] at hx
            have hta : ((at_ i').take sub).length = sub := by simp [r2 _ hik]; omega
            by_cases h1 : j < sub
            · rw [if_neg (by omega)]
              rw [List.append_assoc, List.getElem?_append_left (by omega), List.getElem?_take_of_lt h1] at hx
              exact r3 i' j x hik hx
            · rw [List.append_assoc, List.getElem?_append_right (by omega), hta] at hx
              by_cases h2 : j < sub + ti.size
              · rw [if_pos ⟨by omega, by omega⟩]
                rw [List.getElem?_append_left (by omega)] at hx
                obtain ⟨v, hv, hr⟩ := hyf.get hx
                refine ⟨v, ?_, hr⟩
                rw [← hv]; congr 1; omega
              · rw [if_neg (by omega)]
                rw [List.getElem?_append_right (by omega), List.getElem?_drop] at hx
                rw [show sub + ys.length + (j - sub - ys.length) = j by omega] at hx
                exact r3 i' j x hik hx
          · rename_i hne
            have hj : j < sz' := by have := (List.getElem?_eq_some_iff.1 hx).1; rw [r2 i' hi'] at this; exact this
            rw [if_neg]
            · exact r3 i' j x hi' hx
            · rintro ⟨ha, hb⟩
              rcases Nat.lt_or_gt_of_ne hne with h | h
              · have := Nat.mul_le_mul_right sz' (show i' + 1 ≤ i by omega)
                rw [Nat.add_mul, Nat.one_mul] at this; omega
              · have := Nat.mul_le_mul_right sz' (show i + 1 ≤ i' by omega)
                rw [Nat.add_mul, Nat.one_mul] at this; omega
      · have hz : ti.size = 0 := by omega
        have hys : ys = [] := by cases ys with | nil => rfl | cons _ _ => simp at hlen; omega
        have hy0 : (a.eval y).cells.toList = [] := by cases hq : (a.eval y).cells.toList with | nil => rfl | cons _ _ => rw [hq, hys] at hyf; exact hyf.elim
        refine ⟨.skip, undef, w, S, m, ?_, .inr ⟨rfl, rfl⟩, ?_⟩
        · unfold execOp; rw [ho]
          simp only [he, Instr.storeAt, Instr.sureAddr, Sem.run_bind, Sem.run_pure, Result.andThen_ok, storeVar, f.run_size, hylen, ne_eq, not_true_eq_false, if_false, hy0, storeCells]
        · have : updHs H [(d, (H d).1, .fa sz' k (upd at_ i (setD (at_ i) sub ys)))] = H := by
            funext q; simp only [updHs, updH]; split
            · rename_i h; subst h
              have : upd at_ i (setD (at_ i) sub ys) = at_ := by
                funext j; unfold upd; split
                · rename_i h; subst h; rw [hys, setD_eq _ _ _ (by rw [r2 _ hik]; omega)]; simp
                · rfl
              rw [this, ← hblk]
            · rfl
          rw [this]; exact g.put hd .top
    | fz sz' k at_ => simp [hblk, OpOut.gives] at hv
  | top | f _ | lsl _ _ _ _ _ _ | agg _ | tup _ => rw [hp] at hv; simp [OpOut.gives] at hv

end ops
end Go.Abs
