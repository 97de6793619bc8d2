/- Soundness, part seven: composite literals. -/
import Derived.Test.YtmlhfccpnehaeaaAbsU
import Derived.Laws.Tables
set_option autoImplicit false
set_option linter.unusedVariables false
set_option linter.unusedSimpArgs false
namespace Go.Abs
section fill
variable {S : Nat → Prop} {m : Places} {G : Nat → Nat} {w : World}

theorem setD_step {α : Type} : ∀ (l : List α) (o : Nat) (c : α) (r : List α), o < l.length → setD (l.set o c) (o + 1) r = setD l o (c :: r)
  | [], o, c, r, h => by simp at h
  | x :: l, 0, c, r, _ => by simp [setD]
  | x :: l, o + 1, c, r, h => by simp only [List.set_cons_succ, setD]; rw [setD_step l o c r (by simpa using h)]

theorem fold_set : ∀ (vs : List Value) (k off : Nat) (cs : Array Value), off + k + vs.length ≤ cs.size →
    ((vs.zipIdx k).foldl (fun cs (x : Value × Nat) => cs.setIfInBounds (off + x.2) x.1) cs).toList = setD cs.toList (off + k) vs
  | [], k, off, cs, h => by
    simp only [List.zipIdx_nil, List.foldl_nil]
    rw [setD_eq _ _ _ (by simp at h ⊢; omega)]; simp
  | c :: r, k, off, cs, h => by
    simp only [List.length_cons] at h
    simp only [List.zipIdx_cons, List.foldl_cons]
    rw [fold_set r (k + 1) off _ (by simp; omega), Array.toList_setIfInBounds, ← Nat.add_assoc]
    exact setD_step _ _ _ _ (by simp; omega)

theorem fill_rel {place : Nat → Option (Nat × Nat)} {place' : Nat → Option (Nat × Nat)} (hp : ∀ i p, place i = some p → place' i = some p) :
    ∀ {parts : List (Nat × AV)} {vals : List (Nat × Value)} {cells cs : List AV} {zs : Array Value}, All2 (fun (p : Nat × AV) (q : Nat × Value) => p.1 = q.1 ∧ RelA S m G w p.2 q.2) parts vals →
      All2 (RelA S m G w) cells zs.toList → (∀ c ∈ zs.toList, c.oneCell' = true) → fillA place cells parts = some cs →
      ∃ ys, Instr.fill place' zs vals = some ys ∧ All2 (RelA S m G w) cs ys.toList ∧ (∀ c ∈ ys.toList, c.oneCell' = true) ∧ ys.size = zs.size
  | [], [], cells, cs, zs, _, h, h1, hf => by
    simp only [fillA, Option.some.injEq] at hf; subst hf
    exact ⟨zs, by simp [Instr.fill], h, h1, rfl⟩
  | (i, x) :: parts, (j, y) :: vals, cells, cs, zs, ⟨⟨hij, hxy⟩, hr⟩, h, h1, hf => by
    simp only at hij hxy; subst hij
    simp only [fillA] at hf
    cases hpl : place i with
    | none => simp [hpl] at hf
    | some pq =>
    obtain ⟨off, size⟩ := pq
    cases hc : x.cells with
    | none => simp [hpl, hc] at hf
    | some xs =>
    simp only [hpl, hc] at hf
    cases hb : (Nat.beq xs.length size && Nat.ble (off + size) cells.length) with
    | false => simp [hb] at hf
    | true =>
    simp only [hb, cond_true] at hf
    simp only [Bool.and_eq_true] at hb
    have e1 : xs.length = size := Nat.eq_of_beq_eq_true hb.1
    have e2 := Nat.le_of_ble_eq_true hb.2
    obtain ⟨q1, q2⟩ := hxy.cells hc
    have hyl : y.cells.size = size := by have := q1.length; simp at this; omega
    have hcl : cells.length = zs.size := by have := h.length; simpa using this
    have hfold : (y.cells.zipIdx.foldl (fun cs (x : Value × Nat) => cs.setIfInBounds (off + x.2) x.1) zs).toList = setD zs.toList off y.cells.toList := by
      rw [← Array.foldl_toList, Array.toList_zipIdx, fold_set _ 0 off zs (by simp; omega)]; rfl
    have hset : All2 (RelA S m G w) (setD cells off xs) (y.cells.zipIdx.foldl (fun cs (x : Value × Nat) => cs.setIfInBounds (off + x.2) x.1) zs).toList := by
      rw [hfold, setD_eq zs.toList off _ (by simp; omega)]
      exact all2_setD h q1 (by omega)
    have hone : ∀ c ∈ (y.cells.zipIdx.foldl (fun cs (x : Value × Nat) => cs.setIfInBounds (off + x.2) x.1) zs).toList, c.oneCell' = true := by
      rw [hfold, setD_eq zs.toList off _ (by simp; omega)]
      intro c hc
      simp only [List.mem_append] at hc
      rcases hc with (hc | hc) | hc
      · exact h1 c (List.mem_of_mem_take hc)
      · exact q2 c hc
      · exact h1 c (List.mem_of_mem_drop hc)
    have hsz : (y.cells.zipIdx.foldl (fun cs (x : Value × Nat) => cs.setIfInBounds (off + x.2) x.1) zs).size = zs.size := by
      have := congrArg List.length hfold
      rw [setD_length _ _ _ (by simp; omega)] at this
      simpa using this
    obtain ⟨ys, r1, r2, r3, r4⟩ := fill_rel hp hr hset hone hf
    refine ⟨ys, ?_, r2, r3, by rw [r4, hsz]⟩
    unfold Instr.fill
    simp only [hp i _ hpl]
    rw [if_neg (by simp; omega)]
    exact r1
  | [], _ :: _, _, _, _, h, _, _, _ => h.elim
  | _ :: _, [], _, _, _, h, _, _, _ => h.elim
end fill

section ops
variable {P : Program} {T : Tab} {n : Nat} {S0 pass : Nat → Prop} {w0 : World} {F : Nat → AV} {H : Hp} {S : Nat → Prop} {m : Places} {a : Act} {w : World} {o : Oper} {v : AV} {δ : List (Nat × Nat × Blk)}

theorem places_spec (hok : tabOk P T = true) : ∀ {gs : List Field} {fs : List (Nat × Nat)}, fieldsOk gs fs = true → knownAll T fs = true →
    ∃ places, gs.mapM (fun f => (P.info? f.type).map fun i => (f.offset, i.size)) = some places ∧ ∀ i p, fieldPlaces T fs i = some p → places[i]? = some p
  | [], [], _, _ => ⟨[], by simp, fun i p h => by cases i <;> simp [fieldPlaces] at h⟩
  | f :: gs, (off, t) :: fs, h, hk => by
    simp only [fieldsOk, Bool.and_eq_true, beq_iff_eq] at h
    obtain ⟨⟨h1, h2⟩, h3⟩ := h
    simp only [knownAll] at hk
    cases ht : T.get t with
    | none => simp [ht] at hk
    | some ti =>
    simp only [ht] at hk
    obtain ⟨inf, u, z, ff⟩ := facts hok ht
    obtain ⟨places, q1, q2⟩ := places_spec hok h3 hk
    refine ⟨(f.offset, inf.size) :: places, ?_, fun i p hp => ?_⟩
    · simp only [List.mapM_cons, Option.bind_eq_bind, Option.pure_def, h2, ff.info, Option.map_some, Option.bind_some, q1]
    · cases i with
      | zero => simp only [fieldPlaces, ht, Option.some.injEq] at hp; subst hp; simp [h1, ff.size]
      | succ i => simpa using q2 i p (by simpa [fieldPlaces] using hp)
  | [], _ :: _, h, _ => by simp [fieldsOk] at h
  | _ :: _, [], h, _ => by simp [fieldsOk] at h

/-- the parts of a literal: each operand at its own type (nil slices get their size) -/
def evParts (F : Nat → AV) : List (Nat × Operand) → List (Nat × AV)
  | [] => []
  | (i, x) :: r => (i, evA F x) :: evParts F r

theorem parts_rel {G : Nat → Nat} (hf : ∀ t, RelA S m G w (F t) (a.tmps.getD t undef)) : ∀ (l : List (Nat × Operand)), All2 (fun (p : Nat × AV) (q : Nat × Value) => p.1 = q.1 ∧ RelA S m G w p.2 q.2) (evParts F l) (l.map fun x => (x.1, a.eval x.2))
  | [] => trivial
  | (i, x) :: r => ⟨⟨rfl, evA_rel hf x⟩, parts_rel hf r⟩

theorem zero_cells {t : Nat} {ti : TI} {inf : TypeInfo} {u : TypeDesc} {z : Value} {G : Nat → Nat} (f : TyFacts P t ti inf u z) : All2 (RelA S m G w) (fL ti.zero) z.cells.toList := all2_fL (zeros_rel f.zok)

theorem build_does (g : Good n S0 pass w0 F H S m a w) (hok : tabOk P T = true) {t : Nat} {parts : Array (Nat × Operand)} (ho : o.op = .build t parts) (hd : dstOk n o.dst = true)
    (hv : (buildO T t (evParts F parts.toList)).gives v δ) : Does P n S0 pass w0 o F H v δ a w := by
  unfold buildO at hv
  cases ht : T.get t with
  | none => simp [ht, OpOut.gives] at hv
  | some ti =>
  obtain ⟨inf, u, z, f⟩ := facts hok ht
  simp only [ht] at hv
  have hpar : (parts.map fun x => (x.1, a.eval x.2)).toList = parts.toList.map fun x => (x.1, a.eval x.2) := by simp
  have hrun : ∀ ys, P.built t (parts.map fun x => (x.1, a.eval x.2)).toList = some ys → (execOp a.eval o).run P w = .ok (.value (.agg ys)) w := by
    intro ys h
    unfold execOp; rw [ho]
    simp only [Sem.run_bind, run_build w t _ ys h, Result.andThen_ok, Sem.run_pure]
  have hagg : ∀ {cs : List AV} {ys : Array Value}, All2 (RelA S m (gen H) w) cs ys.toList → (∀ c ∈ ys.toList, c.oneCell' = true) → RelA S m (gen H) w (.agg cs) (.agg ys) := by
    intro cs ys h h1
    refine .agg (by simpa using h.length) (fun j x v hx hv => ?_) (fun j v hv => h1 v (List.mem_of_getElem? (by simpa using hv)))
    obtain ⟨b, hb, hr⟩ := h.get hx
    simp at hb; rw [hv] at hb; cases hb; exact hr
  split at hv
  · rename_i fs hd'
    obtain ⟨gs, rfl, hgs⟩ := f.struct hd'
    cases hk : knownAll T fs with
    | false => simp [hk, OpOut.gives] at hv
    | true =>
    simp only [hk, cond_true] at hv
    cases hfl : fillA (fieldPlaces T fs) (fL ti.zero) (evParts F parts.toList) with
    | none => simp [hfl, OpOut.gives] at hv
    | some cs =>
    simp only [hfl] at hv
    obtain ⟨rfl, rfl⟩ := hv
    obtain ⟨places, q1, q2⟩ := places_spec hok hgs hk
    obtain ⟨ys, r1, r2, r3, r4⟩ := fill_rel (S := S) (m := m) (G := gen H) (w := w) (place' := (places.toArray[·]?)) (fun i p h => by simpa using q2 i p h) (parts_rel g.fr parts.toList) (zero_cells f) (zeros_one f.zok) hfl
    refine does_value g hd (hrun ys ?_) (hagg r2 r3)
    unfold Program.built
    simp only [f.info, f.und, f.zero, q1, hpar]
    exact r1
  · rename_i k e hd'
    have hu := f.arr hd'; subst hu
    cases hte : T.get e with
    | none => simp [hte, OpOut.gives] at hv
    | some te =>
    obtain ⟨inf2, u2, z2, f2⟩ := facts hok hte
    simp only [hte] at hv
    cases hfl : fillA (fun i => some (i * te.size, te.size)) (fL ti.zero) (evParts F parts.toList) with
    | none => simp [hfl, OpOut.gives] at hv
    | some cs =>
    simp only [hfl] at hv
    obtain ⟨rfl, rfl⟩ := hv
    obtain ⟨ys, r1, r2, r3, r4⟩ := fill_rel (S := S) (m := m) (G := gen H) (w := w) (place' := fun i => some (i * te.size, te.size)) (fun i p h => h) (parts_rel g.fr parts.toList) (zero_cells f) (zeros_one f.zok) hfl
    refine does_value g hd (hrun ys ?_) (hagg r2 r3)
    unfold Program.built
    simp only [f.info, f.und, f.zero, f2.info, f2.size, hpar]
    exact r1
  · simp [OpOut.gives] at hv

theorem repeat_rel {R : AV → Value → Prop} {zs : List AV} {vs : List Value} (h : All2 R zs vs) : ∀ k, All2 R (repeatL zs k) (repeatL vs k)
  | 0 => trivial
  | k + 1 => h.append (repeat_rel h k)
theorem repeatL_length {α : Type} (z : List α) : ∀ k, (repeatL z k).length = k * z.length
  | 0 => by simp [repeatL]
  | k + 1 => by simp [repeatL, repeatL_length z k, Nat.add_mul]; omega
theorem repeatL_get {α : Type} [Inhabited α] (z : Array α) : ∀ (k : Nat), ((Array.range (k * z.size)).map (z[· % z.size]!)).toList = repeatL z.toList k
  | 0 => by simp [repeatL]
  | k + 1 => by
    have ih := repeatL_get z k
    simp only [Array.toList_map, Array.toList_range] at ih ⊢
    rw [show (k + 1) * z.size = z.size + k * z.size by rw [Nat.add_mul]; omega, List.range_add, List.map_append, repeatL]
    congr 1
    · apply List.ext_getElem?
      intro j
      by_cases hj : j < z.size
      · simp [hj, Nat.mod_eq_of_lt hj, getElem!_pos]
      · simp [hj, List.getElem?_eq_none (show z.toList.length ≤ j by simp; omega)]
    · rw [← ih, List.map_map]
      apply List.map_congr_left
      intro j hj
      simp

theorem buildSlice_does (g : Good n S0 pass w0 F H S m a w) (hok : tabOk P T = true) {t len : Nat} {parts : Array (Nat × Operand)} (ho : o.op = .buildSlice t len parts) (hd : dstOk n o.dst = true)
    (hv : (buildSliceO T H o.dst t len (evParts F parts.toList)).gives v δ) : Does P n S0 pass w0 o F H v δ a w := by
  unfold buildSliceO at hv
  split at hv
  · rename_i d e sz0 by' ze hdst ht
    obtain ⟨inf, u, z, f⟩ := facts hok ht
    have hu := f.slice rfl; subst hu
    cases hte : T.get e with
    | none => simp [hte, OpOut.gives] at hv
    | some te =>
    obtain ⟨inf2, u2, z2, f2⟩ := facts hok hte
    simp only [hte] at hv
    cases hb : Nat.ble (len * te.size) 16777216 with
    | false => simp [hb, OpOut.gives] at hv
    | true =>
    have hle := Nat.le_of_ble_eq_true hb
    simp only [hb, cond_true] at hv
    cases hfl : fillA (fun i => some (i * te.size, te.size)) (repeatL (fL te.zero) len) (evParts F parts.toList) with
    | none => simp [hfl, OpOut.gives] at hv
    | some cs =>
    simp only [hfl] at hv
    obtain ⟨rfl, rfl⟩ := hv
    have hzl : z2.cells.size = te.size := by have := (zeros_rel (S := S) (w := w) f2.zok).length; rw [f2.zlen] at this; simpa using this.symm
    have hpar : (parts.map fun x => (x.1, a.eval x.2)).toList = parts.toList.map fun x => (x.1, a.eval x.2) := by simp
    have hone : ∀ c ∈ repeatL z2.cells.toList len, c.oneCell' = true := by
      have h1 := zeros_one f2.zok
      intro c hc
      have : ∀ k, ∀ c ∈ repeatL z2.cells.toList k, c.oneCell' = true := by
        intro k; induction k with
        | zero => simp [repeatL]
        | succ k ih => intro c hc; simp only [repeatL, List.mem_append] at hc; exact hc.elim (h1 c) (ih c)
      exact this len c hc
    obtain ⟨ys, r1, r2, r3, r4⟩ := fill_rel (S := S) (m := m) (G := gen H) (w := w) (place' := fun i => some (i * te.size, te.size)) (fun i p h => h) (parts_rel g.fr parts.toList) (zs := (repeatL z2.cells.toList len).toArray)
      (by simpa using repeat_rel (zero_cells f2) len) (by simpa using hone) hfl
    have hys : ys.size = len * te.size := by rw [r4]; simp [repeatL_length, hzl]
    have hzero : ((Array.range (len * te.size)).map (z2.cells[· % z2.cells.size]!)) = (repeatL z2.cells.toList len).toArray := by
      rw [← hzl]; apply Array.ext'; rw [repeatL_get]
    have hrun : (Instr.buildSlice t len (parts.map fun x => (x.1, a.eval x.2))).run P w = .ok (.slice (some ⟨w.heap.size, 0, none⟩) len len) (w.alloc (.cells ys e)) := by
      simp only [Instr.buildSlice, Sem.run_bind, f.run_und, f2.run_size, Result.andThen_ok]
      rw [if_neg (by omega)]
      by_cases h0 : len * te.size = 0
      · have hz : ((Array.range (len * te.size)).map ((#[] : Array Value)[· % (#[] : Array Value).size]!)) = (repeatL z2.cells.toList len).toArray := by
          rw [← hzero, h0]; simp
        simp only [if_pos h0, Sem.run_bind, Sem.run_pure, Result.andThen_ok, hz, hpar, r1, newRow, run_newObj, World.alloc_eq]
      · simp only [if_neg h0, Sem.run_bind, Sem.run_pure, Result.andThen_ok, f2.run_zero, hzero, hpar, r1, newRow, run_newObj, World.alloc_eq]
    refine does_alloc g hdst hd (e := e) (cs := ys) rfl (fun S' m' G' w' h1 h2 h3 h4 => ⟨r2.imp fun _ _ => RelA.mono h1 h2 h3 h4, r3⟩) (x := .slice (some ⟨w.heap.size, 0, none⟩) len len) ?_ ?_
    · unfold execOp; rw [ho]; simp only [Sem.run_bind, hrun, Result.andThen_ok, Sem.run_pure]
    · refine .lsl (gen_le H d _) (Nat.le_refl _) (by intro k hk; cases hk; rfl) (fun h => ?_) (by simp)
      rw [newM_same]
      exact ⟨by simp, by simp [hys]⟩
  · simp [OpOut.gives] at hv

end ops
end Go.Abs
