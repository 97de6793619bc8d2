/- Soundness, part three: operations that make memory, take addresses, compute. -/
import Derived.Test.YtmlhfccpnehaeaaAbsO
set_option autoImplicit false
set_option linter.unusedVariables false
set_option linter.unusedSimpArgs false
namespace Go.Abs
section ops
variable {P : Program} {T : Tab} {n : Nat} {S0 pass : Nat → Prop} {w0 : World} {F : Nat → AV} {H : Hp} {S : Nat → Prop} {m : Places} {a : Act} {w : World} {o : Oper} {v : AV} {δ : List (Nat × Nat × Blk)}

theorem newM_same (m : Places) (d g : Nat) (p : Nat × Nat) : newM m d g p d g = p := by simp [newM]

/-- a new block of cells that are known -/
theorem does_alloc (g : Good n S0 pass w0 F H S m a w) {d : Nat} (hdst : o.dst = some d) (hd : dstOk n o.dst = true) {e : TypeId} {cs : Array Value} {b : Blk} (hown : b.own = true) {x : Value}
    (hb : ∀ S' m' G' w', (∀ k, S k → S' k) → Keeps S w w' → (∀ d g, g ≤ gen H d → m' d g = m d g) → (∀ k, gen H k ≤ G' k) → RelB S' m' G' w' b cs)
    (hr : (execOp a.eval o).run P w = .ok (.value x) (w.alloc (.cells cs e)))
    (hv : RelA S (newM m d ((H d).1 + 1) (w.heap.size, cs.size)) (gen (updH H d ((H d).1 + 1) b)) (w.alloc (.cells cs e)) v x) :
    Does P n S0 pass w0 o F H v [(d, (H d).1 + 1, b)] a w :=
  ⟨_, x, _, S, _, hr, .inl rfl, (g.alloc d e cs b hown hb).put hd hv⟩

theorem gen_le (H : Hp) (d : Nat) (b : Blk) : (H d).1 + 1 ≤ gen (updH H d ((H d).1 + 1) b) d := by simp [gen]

theorem zeros_one {ti : TI} {z : Value} (h : zerosOk z.cells.toList ti.zero = true) : ∀ c ∈ z.cells.toList, c.oneCell' = true :=
  one_of_relF (S := fun _ => True) (w := default) (zeros_rel h)

theorem alloc_does (g : Good n S0 pass w0 F H S m a w) (hok : tabOk P T = true) {e : Nat} (ho : o.op = .alloc e) (hd : dstOk n o.dst = true)
    (hv : (allocO T H o.dst e).gives v δ) : Does P n S0 pass w0 o F H v δ a w := by
  unfold allocO at hv
  cases hdst : o.dst with
  | none => simp [hdst, OpOut.gives] at hv
  | some d =>
  cases ht : T.get e with
  | none => simp [hdst, ht, OpOut.gives] at hv
  | some ti =>
  obtain ⟨inf, u, z, f⟩ := facts hok ht
  simp only [hdst, ht] at hv
  obtain ⟨rfl, rfl⟩ := hv
  refine does_alloc g hdst hd (e := e) (cs := z.cells) rfl (x := .pointer (some ⟨w.heap.size, 0, none⟩)) (fun S' m' G' w' _ _ _ _ => ⟨all2_fL (zeros_rel f.zok), zeros_one f.zok⟩) ?_ ?_
  · unfold execOp; rw [ho]
    simp only [Instr.alloc, Sem.run_bind, f.run_zero, Result.andThen_ok, newVar, newRow, run_newObj, Sem.run_pure, World.alloc_eq]
  · have := RelA.lptr (S := S) (m := newM m d ((H d).1 + 1) (w.heap.size, z.cells.size)) (w := w.alloc (.cells z.cells e)) (sz := ti.size) (i := 0) (sub := 0) (gen_le H d (.vr (fL ti.zero)))
    rw [newM_same] at this
    simpa using this

theorem box_does (g : Good n S0 pass w0 F H S m a w) {e : Nat} {y : Operand} (ho : o.op = .box e y) (hd : dstOk n o.dst = true)
    (hv : (boxO H o.dst (evT T F e y)).gives v δ) : Does P n S0 pass w0 o F H v δ a w := by
  have hy := evT_rel (S := S) (m := m) (w := w) g.fr T e y
  unfold boxO at hv
  cases hdst : o.dst with
  | none => simp [hdst, OpOut.gives] at hv
  | some d =>
  cases hc : (evT T F e y).cells with
  | none => simp [hdst, hc, OpOut.gives] at hv
  | some xs =>
  obtain ⟨hyr, hy1⟩ := hy.cells hc
  simp only [hdst, hc] at hv
  obtain ⟨rfl, rfl⟩ := hv
  refine does_alloc g hdst hd (e := e) (cs := (a.eval y).cells) rfl (x := .pointer (some ⟨w.heap.size, 0, none⟩)) (fun S' m' G' w' h1 h2 h3 h4 => ⟨hyr.imp fun _ _ => RelA.mono h1 h2 h3 h4, hy1⟩) ?_ ?_
  · unfold execOp; rw [ho]
    simp only [Instr.box, Sem.run_bind, Result.andThen_ok, newVar, newRow, run_newObj, Sem.run_pure, World.alloc_eq]
  · have := RelA.lptr (S := S) (m := newM m d ((H d).1 + 1) (w.heap.size, (a.eval y).cells.size)) (w := w.alloc (.cells (a.eval y).cells e)) (sz := xs.length) (i := 0) (sub := 0) (gen_le H d (.vr xs))
    rw [newM_same] at this
    simpa using this

theorem make_does (g : Good n S0 pass w0 F H S m a w) (hok : tabOk P T = true) {t : Nat} {x y : Operand} (ho : o.op = .makeSlice t x y) (hd : dstOk n o.dst = true)
    (hv : (makeO T H o.dst t (evA F x) (evA F y)).gives v δ) : Does P n S0 pass w0 o F H v δ a w := by
  have hx := evA_rel (S := S) (m := m) (w := w) g.fr x
  have hy := evA_rel (S := S) (m := m) (w := w) g.fr y
  unfold makeO at hv
  split at hv
  · rename_i d e sz by' ze hdst ht
    obtain ⟨inf, u, z, f⟩ := facts hok ht
    have hu := f.slice rfl
    subst hu
    cases hte : T.get e with
    | none => simp [hte, OpOut.gives] at hv
    | some te =>
    obtain ⟨inf2, u2, z2, f2⟩ := facts hok hte
    simp only [hte] at hv
    split at hv
    · rename_i l c hl hc
      rw [hl] at hx; rw [hc] at hy
      cases hx with | f hx =>
      cases hy with | f hy =>
      generalize he1 : a.eval x = q1 at hx
      generalize he2 : a.eval y = q2 at hy
      cases hx; cases hy
      obtain ⟨⟨h0, hlc, hb, h63⟩, rfl, rfl⟩ := hv
      have hrun := run_make (P := P) w t e inf2 z2 f.und f2.info f2.zero .i64 .i64 l c h0 hlc (by rw [f2.bytes]; exact hb) h63
      have hzl : z2.cells.size = te.size := by have := (zeros_rel (S := S) (w := w) f2.zok).length; rw [f2.zlen] at this; simpa using this.symm
      have hsz : (madeCells z2.cells (c.toNat * inf2.size)).size = c.toNat * te.size := by simp [madeCells, f2.size]
      refine does_alloc g hdst hd (e := e) (cs := madeCells z2.cells (c.toNat * inf2.size)) rfl (fun S' m' G' w' h1 h2 h3 h4 => ⟨by rw [hsz]; exact Nat.le_refl _, fun i hi => f2.zlen, fun i j x hi hx => ?_⟩) ?_ ?_ (x := .slice (some ⟨w.heap.size, 0, none⟩) l.toNat c.toNat)
      · have hj : j < te.size := by have := (List.getElem?_eq_some_iff.1 hx).1; rw [f2.zlen] at this; exact this
        obtain ⟨v, hv, hr⟩ := (zeros_rel (S := S') (w := w') f2.zok).get hx
        refine ⟨v, ?_, hr⟩
        have hlt : i * te.size + j < c.toNat * te.size := by
          have := Nat.mul_le_mul_right te.size (show i + 1 ≤ c.toNat by omega)
          rw [Nat.add_mul, Nat.one_mul] at this; omega
        have hmod : (i * te.size + j) % z2.cells.size = j := by rw [hzl, Nat.mul_comm, Nat.mul_add_mod, Nat.mod_eq_of_lt hj]
        have hv' : z2.cells[j]? = some v := by simpa using hv
        have hjs : j < z2.cells.size := (Array.getElem?_eq_some_iff.1 hv').1
        have hvj : z2.cells[j] = v := (Array.getElem?_eq_some_iff.1 hv').2
        simp [madeCells, f2.size, hlt, hmod, getElem!_pos, hjs, hvj]
      · unfold execOp; rw [ho]
        simp only [he1, he2, Sem.run_bind, hrun, Result.andThen_ok, Sem.run_pure]
      · refine .lsl (gen_le H d _) (by omega) (by intro k hk; cases hk; rfl) (fun h => ?_) (by simp)
        rw [newM_same]
        refine ⟨by simp, ?_⟩
        rw [hsz]; simp
    · simp [OpOut.gives] at hv
  · simp [OpOut.gives] at hv

theorem capSub_spec {cap : Option Nat} {c l : Nat} (h : ∀ k, cap = some k → c = k) : ∀ k, capSub cap l = some k → c - l = k := by
  intro k hk; cases cap with
  | none => simp [capSub] at hk
  | some q => simp [capSub] at hk; have := h q rfl; omega

theorem move_does (g : Good n S0 pass w0 F H S m a w) {x : Operand} (ho : o.op = .move x ∨ o.op = .assign x) (hd : dstOk n o.dst = true)
    (hv : v = evT T F o.type x) : Does P n S0 pass w0 o F H v [] a w := by
  subst hv
  refine does_value g hd (x := a.eval x) ?_ (evT_rel g.fr T o.type x)
  unfold execOp; rcases ho with h | h <;> rw [h] <;> rfl

theorem pick_does (g : Good n S0 pass w0 F H S m a w) {c x y : Operand} (ho : o.op = .pick c x y) (hd : dstOk n o.dst = true) {b : Bool} (hc : evA F c = .f (.bool b))
    (hv : v = if b then evA F x else evA F y) : Does P n S0 pass w0 o F H v [] a w := by
  have h := evA_rel (S := S) (m := m) (w := w) g.fr c
  rw [hc] at h
  generalize he : a.eval c = q at h
  cases h with
  | f h =>
  cases h
  subst hv
  refine does_value g hd (x := if b then a.eval x else a.eval y) ?_ (by cases b <;> exact evA_rel g.fr _)
  unfold execOp; rw [ho]; simp [he, asBool]

theorem fieldOf_spec : ∀ {gs : List Field} {fs : List (Nat × Nat)} {k off t : Nat}, fieldsOk gs fs = true → fieldOf fs k = some (off, t) → ∃ fl, gs[k]? = some fl ∧ fl.offset = off ∧ fl.type = t
  | [], [], k, _, _, _, h => by cases k <;> simp [fieldOf] at h
  | f :: gs, (o, t) :: fs, 0, _, _, h1, h => by
    simp only [fieldsOk, Bool.and_eq_true, beq_iff_eq] at h1; simp only [fieldOf, Option.some.injEq, Prod.mk.injEq] at h
    obtain ⟨rfl, rfl⟩ := h
    exact ⟨f, rfl, h1.1.1, h1.1.2⟩
  | f :: gs, (o, t) :: fs, k + 1, _, _, h1, h => by
    simp only [fieldsOk, Bool.and_eq_true] at h1
    simpa using fieldOf_spec h1.2 (by simpa [fieldOf] using h)
  | [], _ :: _, _, _, _, h, _ => by simp [fieldsOk] at h
  | _ :: _, [], _, _, _, h, _ => by simp [fieldsOk] at h

theorem fieldAddr_does (g : Good n S0 pass w0 F H S m a w) (hok : tabOk P T = true) {s k : Nat} {x : Operand} (ho : o.op = .fieldAddr s x k) (hd : dstOk n o.dst = true)
    (hv : (fieldAddrO T s (evA F x) k).gives v δ) : Does P n S0 pass w0 o F H v δ a w := by
  have hx := evA_rel (S := S) (m := m) (w := w) g.fr x
  unfold fieldAddrO at hv
  split at hv
  · rename_i fs sz by' ze ht
    obtain ⟨inf, u, z, f⟩ := facts hok ht
    obtain ⟨gs, rfl, hgs⟩ := f.struct rfl
    split at hv
    · rename_i off t hf
      obtain ⟨fl, hfl, rfl, rfl⟩ := fieldOf_spec hgs hf
      split at hv
      · rename_i ti hti
        obtain ⟨inf2, u2, z2, f2⟩ := facts hok hti
        cases hb : Nat.beq ti.size 0 with
        | true => simp [hb, OpOut.gives] at hv
        | false =>
        have hne : ti.size ≠ 0 := fun e => by rw [e] at hb; simp at hb
        simp only [hb, cond_false] at hv
        have hrun : ∀ b q, a.eval x = .pointer (some ⟨b, q, none⟩) → (execOp a.eval o).run P w = .ok (.value (.pointer (some ⟨b, q + fl.offset, none⟩))) w := by
          intro b q he
          unfold execOp; rw [ho]
          have h1 : (gs : Array Field)[k]? = some fl := by simpa using hfl
          simp only [he, Sem.run_bind, Instr.fieldAt, f.run_und, Result.andThen_ok, h1, Instr.sureAddr, Sem.run_pure, fieldPlace, f2.run_size, if_neg hne, addr_add]
        split at hv
        · rename_i cells hp
          rw [hp] at hx
          cases hx with | f hx =>
          generalize he : a.eval x = q at hx
          cases hx with
          | @ptr _ ad vs hs hS hcv hr =>
          obtain ⟨rfl, rfl⟩ := hv
          have had : ad = ⟨ad.block, ad.off, none⟩ := by cases ad; simp at hs; simp [hs]
          refine does_value g hd (hrun ad.block ad.off (by rw [he, ← had])) (.f (.ptr (fun j => vs (fl.offset + j)) rfl hS (fun j hj => ?_) (fun j x hx => ?_)))
          · simp only [List.length_drop] at hj
            rw [Nat.add_assoc]; exact hcv _ (by omega)
          · rw [List.getElem?_drop] at hx; exact hr _ x hx
        · rename_i d gg sz i sub hp
          rw [hp] at hx
          generalize he : a.eval x = q at hx
          cases hx with
          | lptr hg =>
          obtain ⟨rfl, rfl⟩ := hv
          refine does_value g hd (hrun _ _ he) ?_
          rw [Nat.add_assoc]; exact .lptr hg
        · simp [OpOut.gives] at hv
      · simp [OpOut.gives] at hv
    · simp [OpOut.gives] at hv
  · simp [OpOut.gives] at hv

theorem part_run {ti : TI} {t : Nat} {inf : TypeInfo} {u : TypeDesc} {z : Value} (f : TyFacts P t ti inf u z) {cs : List AV} {vs : Array Value} {off : Nat} (hfit : off + ti.size ≤ cs.length)
    (hn : cs.length = vs.size) (hr : ∀ (j : Nat) (x : AV) (v : Value), cs[j]? = some x → vs[j]? = some v → RelA S m (gen H) w x v) (h1 : ∀ (j : Nat) (v : Value), vs[j]? = some v → v.oneCell' = true)
    {r : AV} (hm : mkV ti.d.isAgg ((cs.drop off).take ti.size) = some r) : ∃ x, (part t vs off).run P w = .ok x w ∧ RelA S m (gen H) w r x := by
  have hall : All2 (RelA S m (gen H) w) cs vs.toList := All2.of (by simpa using hn) fun j a b ha hb => hr j a b ha (by simpa using hb)
  have hsub := (hall.drop off).take ti.size
  have hone : ∀ c ∈ (vs.toList.drop off).take ti.size, c.oneCell' = true := fun c hc => by
    obtain ⟨j, hj⟩ := List.mem_iff_getElem?.1 (List.mem_of_mem_drop (List.mem_of_mem_take hc))
    exact h1 j c (by simpa using hj)
  refine ⟨_, ?_, mkV_rel hsub hone hm⟩
  simp only [part, Sem.run_bind, f.run_agg, Result.andThen_ok]
  cases ha : ti.d.isAgg with
  | true =>
    simp only [if_true, Sem.run_bind, f.run_size, Result.andThen_ok, Sem.run_pure]
    congr 2
    apply Array.ext'
    simp [Array.toList_extract, List.extract_eq_take_drop]
  | false =>
    rw [ha] at hm
    have h1 := mkV_len hm
    simp only [List.length_take, List.length_drop] at h1
    have hlt : off < vs.size := by omega
    have : vs[off]? = some vs[off] := by simp [hlt]
    simp only [Bool.false_eq_true, if_false, this]
    have hg : ((vs.toList.drop off).take ti.size).getD 0 undef = vs[off] := by
      rw [List.getD_eq_getElem?_getD, List.getElem?_take_of_lt (by omega), List.getElem?_drop]
      simp [hlt]
    rw [hg]; rfl

theorem field_does (g : Good n S0 pass w0 F H S m a w) (hok : tabOk P T = true) {s k : Nat} {x : Operand} (ho : o.op = .field s x k) (hd : dstOk n o.dst = true)
    (hv : (fieldO T s (evA F x) k).gives v δ) : Does P n S0 pass w0 o F H v δ a w := by
  have hx := evA_rel (S := S) (m := m) (w := w) g.fr x
  unfold fieldO at hv
  split at hv
  · rename_i fs sz by' ze ht
    obtain ⟨inf, u, z, f⟩ := facts hok ht
    obtain ⟨gs, rfl, hgs⟩ := f.struct rfl
    split at hv
    · rename_i off t hf
      obtain ⟨fl, hfl, rfl, rfl⟩ := fieldOf_spec hgs hf
      split at hv
      · rename_i ti hti
        obtain ⟨inf2, u2, z2, f2⟩ := facts hok hti
        split at hv
        · rename_i cs hp
          rw [hp] at hx
          generalize he : a.eval x = q at hx
          cases hx with
          | @agg _ vs hn hr h1 =>
          cases hb : Nat.ble (fl.offset + ti.size) cs.length with
          | false => simp [hb, OpOut.gives] at hv
          | true =>
          simp only [hb, cond_true] at hv
          cases hm : mkV ti.d.isAgg ((cs.drop fl.offset).take ti.size) with
          | none => simp [hm, OpOut.gives] at hv
          | some r =>
          simp only [hm] at hv
          obtain ⟨rfl, rfl⟩ := hv
          obtain ⟨y, hy, hry⟩ := part_run (S := S) (m := m) (H := H) (w := w) f2 (Nat.le_of_ble_eq_true hb) hn hr h1 hm
          refine does_value g hd (x := y) ?_ hry
          unfold execOp; rw [ho]
          have h1 : (gs : Array Field)[k]? = some fl := by simpa using hfl
          simp only [he, Sem.run_bind, Instr.field, f.run_und, Result.andThen_ok, h1, asAgg, Sem.run_pure, hy]
        · simp [OpOut.gives] at hv
      · simp [OpOut.gives] at hv
    · simp [OpOut.gives] at hv
  · simp [OpOut.gives] at hv

theorem nthA_spec : ∀ {l : List AV} {k : Nat} {v : AV}, nthA l k = some v → l[k]? = some v
  | [], _, _, h => by simp [nthA] at h
  | _ :: _, 0, _, h => by simpa [nthA] using h
  | _ :: r, k + 1, _, h => by simpa using nthA_spec (l := r) (by simpa [nthA] using h)

theorem extract_does (g : Good n S0 pass w0 F H S m a w) {x : Operand} {k : Nat} (ho : o.op = .extract x k) (hd : dstOk n o.dst = true)
    (hv : (extractO (evA F x) k).gives v δ) : Does P n S0 pass w0 o F H v δ a w := by
  have hx := evA_rel (S := S) (m := m) (w := w) g.fr x
  unfold extractO at hv
  split at hv
  · rename_i vs hp
    rw [hp] at hx
    generalize he : a.eval x = q at hx
    cases hx with
    | @tup _ cs hn hr =>
    split at hv
    · rename_i r hm
      obtain ⟨rfl, rfl⟩ := hv
      have hk := nthA_spec hm
      have hlt : k < cs.size := by have := (List.getElem?_eq_some_iff.1 hk).1; omega
      have hc : cs[k]? = some cs[k] := by simp [hlt]
      refine does_value g hd (x := cs[k]) ?_ (hr k _ _ hk hc)
      unfold execOp; rw [ho]
      simp only [he, Sem.run_bind, Instr.extract, hc, Sem.run_pure, Result.andThen_ok]
    · simp [OpOut.gives] at hv
  · simp [OpOut.gives] at hv

theorem nil_does (g : Good n S0 pass w0 F H S m a w) {x : Operand} (ho : o.op = .nilCheck x) (hd : dstOk n o.dst = true)
    (hv : (nilO (evA F x)).gives v δ) : Does P n S0 pass w0 o F H v δ a w := by
  have hx := evA_rel (S := S) (m := m) (w := w) g.fr x
  unfold nilO at hv
  have fin : ∀ ad, a.eval x = .pointer (some ad) → RelA S m (gen H) w v (a.eval x) → Does P n S0 pass w0 o F H v [] a w := by
    intro ad he hr
    refine does_value g hd (x := a.eval x) ?_ hr
    unfold execOp; rw [ho]; simp only [he, Sem.run_pure]
  split at hv
  · rename_i cells hp
    rw [hp] at hx
    obtain ⟨rfl, rfl⟩ := hv
    have hx2 := hx
    cases hx with | f hx =>
    generalize he : a.eval x = q at hx
    cases hx with
    | @ptr _ ad vs hs hS hcv hr => exact fin ad he hx2
  · rename_i d gg sz i sub hp
    rw [hp] at hx
    obtain ⟨rfl, rfl⟩ := hv
    have hx2 := hx
    generalize he : a.eval x = q at hx
    cases hx with
    | lptr hg => exact fin _ he hx2
  · simp [OpOut.gives] at hv

end ops
end Go.Abs
