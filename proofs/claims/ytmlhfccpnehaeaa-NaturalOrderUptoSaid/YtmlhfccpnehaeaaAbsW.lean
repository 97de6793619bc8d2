/- Soundness, part eight: append. -/
import Derived.Test.YtmlhfccpnehaeaaAbsV
import Derived.Deep.AppendSrc
set_option autoImplicit false
set_option linter.unusedVariables false
set_option linter.unusedSimpArgs false
namespace Go.Abs
section ops
variable {P : Program} {T : Tab} {n : Nat} {S0 pass : Nat → Prop} {w0 : World} {F : Nat → AV} {H : Hp} {S : Nat → Prop} {m : Places} {a : Act} {w : World} {o : Oper} {v : AV} {δ : List (Nat × Nat × Blk)}

theorem row_lt {r c j sz : Nat} (hr : r < c) (hj : j < sz) : r * sz + j < c * sz := by
  have := Nat.mul_le_mul_right sz (show r + 1 ≤ c by omega)
  rw [Nat.add_mul, Nat.one_mul] at this; omega

/-- what a block holds from element i on -/
theorem view_rel {G : Nat → Nat} {b : Blk} {cs : Array Value} {sz i c : Nat} {at_ : Nat → List FV} (h : RelB S m G w b cs) (hv : b.view sz i = some (c, at_)) :
    (∀ r, r < c → (at_ r).length = sz) ∧ (∀ (r j : Nat) (x : FV), r < c → (at_ r)[j]? = some x → ∃ v, cs[(i + r) * sz + j]? = some v ∧ RelF S w x v) := by
  cases b with
  | dead => simp [Blk.view] at hv
  | vr cells =>
    simp only [Blk.view] at hv
    cases hl : FV.toL cells with
    | none => simp [hl] at hv
    | some l =>
    simp only [hl] at hv
    cases hz : Nat.beq sz 0 with
    | true => simp [hz] at hv
    | false =>
    simp only [hz, cond_false, Option.some.injEq, Prod.mk.injEq] at hv
    obtain ⟨rfl, rfl⟩ := hv
    have hsz : 0 < sz := by cases sz with | zero => simp at hz | succ k => omega
    have hrel := all2_unfL (by rw [← toL_eq hl]; exact h.1 : All2 (RelA S m G w) (fL l) cs.toList)
    have hlen : ∀ r, r < l.length / sz - i → (i + r) * sz + sz ≤ l.length := by
      intro r hr
      have h1 : (i + r + 1) * sz ≤ (l.length / sz) * sz := Nat.mul_le_mul_right _ (by omega)
      have h2 := Nat.div_mul_le_self l.length sz
      rw [Nat.add_mul (i + r), Nat.one_mul] at h1; omega
    refine ⟨fun r hr => by have := hlen r hr; simp; omega, fun r j x hr hx => ?_⟩
    have hj : j < sz := by have := (List.getElem?_eq_some_iff.1 hx).1; simp at this; omega
    rw [List.getElem?_take_of_lt hj, List.getElem?_drop] at hx
    obtain ⟨v, hv, hr⟩ := hrel.get hx
    exact ⟨v, by simpa using hv, hr⟩
  | fa sz' k at' | fz sz' k at' =>
    simp only [Blk.view] at hv
    cases hz : Nat.beq sz' sz with
    | false => simp [hz] at hv
    | true =>
    simp only [hz, cond_true, Option.some.injEq, Prod.mk.injEq] at hv
    obtain ⟨rfl, rfl⟩ := hv
    have := Nat.eq_of_beq_eq_true hz; subst this
    obtain ⟨h1, h2, h3⟩ := h
    exact ⟨fun r hr => h2 _ (by omega), fun r j x hr hx => h3 (i + r) j x (by omega) hx⟩

/-- what is appended, in the model's words -/
theorem src_spec (g : Good n S0 pass w0 F H S m a w) (hok : tabOk P T = true) {te : TI} {tx : Nat} {x : Operand} {k : Nat} {at2 : Nat → List FV} {c2 : Prop}
    (h : srcO T H te tx (evA F x) = some (k, at2, c2)) (hc2 : c2) :
    0 < te.size ∧ ∃ news, Src P te.size tx (a.eval x) k news w ∧ (∀ r, r < k → (at2 r).length = te.size) ∧ ∀ (r j : Nat) (y : FV), r < k → (at2 r)[j]? = some y → ∃ v, news[r * te.size + j]? = some v ∧ RelF S w y v := by
  have hx := evA_rel (S := S) (m := m) (w := w) g.fr x
  unfold srcO at h
  split at h
  · rename_i e' sz0 by' ze ht
    obtain ⟨inf, u, z, f⟩ := facts hok ht
    have hu := f.slice rfl; subst hu
    split at h
    · rename_i sz at_ len cap hp
      rw [hp] at hx
      cases hb : (Nat.beq sz te.size && Nat.blt 0 sz) with
      | false => simp [hb] at h
      | true =>
      simp only [hb, cond_true, Option.some.injEq, Prod.mk.injEq] at h
      obtain ⟨rfl, rfl, rfl⟩ := h
      simp only [Bool.and_eq_true] at hb
      have hsz := Nat.eq_of_beq_eq_true hb.1; subst hsz
      have hpos : 0 < te.size := by simpa [Nat.blt_eq] using hb.2
      refine ⟨hpos, ?_⟩
      cases hx with
      | f hx =>
      generalize he : a.eval x = q at hx
      cases hx with
      | @sl _ _ c _ _ base vs hc hcap hn hl hbs hvs hr =>
      have hget : ∀ r j, r < len → j < te.size → ((List.range (len * te.size)).map fun q => vs (q / te.size) (q % te.size))[r * te.size + j]? = some (vs r j) := by
        intro r j hr hj
        have := row_lt hr hj
        simp only [List.getElem?_map, List.getElem?_range this, Option.map_some, Option.some.injEq]
        rw [Nat.mul_comm, Nat.mul_add_div hpos, Nat.mul_add_mod, Nat.mod_eq_of_lt hj, Nat.div_eq_of_lt hj, Nat.add_zero]
      have hone : ∀ u ∈ (List.range (len * te.size)).map (fun q => vs (q / te.size) (q % te.size)), u.oneCell' = true := by
        intro u hu
        simp only [List.mem_map, List.mem_range] at hu
        obtain ⟨q, hq, rfl⟩ := hu
        have h1 : q / te.size < len := (Nat.div_lt_iff_lt_mul hpos).2 hq
        have h2 : q % te.size < te.size := Nat.mod_lt _ hpos
        exact (hr _ _ _ h1 (List.getElem?_eq_getElem (by rw [hl _ h1]; exact h2))).one
      refine ⟨(List.range (len * te.size)).map fun q => vs (q / te.size) (q % te.size), ?_, hl, fun r j y hr' hy => ?_⟩
      · cases base with
        | none =>
          have := hn rfl
          have h0 : len = 0 := by omega
          subst h0; subst this
          simp only [Nat.zero_mul, List.range_zero, List.map_nil]
          exact Src.ofNil w f.und 0
        | some ad =>
          by_cases h0 : 0 < len
          · obtain ⟨hs, hS⟩ := hbs ad rfl h0 hpos
            refine Src.ofSlice w f.und ad len c _ (by simp) (fun j u hj => ?_) hone
            have hjlt : j < len * te.size := by have := (List.getElem?_eq_some_iff.1 hj).1; simpa using this
            have h1 : j / te.size < len := (Nat.div_lt_iff_lt_mul hpos).2 hjlt
            have h2 : j % te.size < te.size := Nat.mod_lt _ hpos
            simp only [List.getElem?_map, List.getElem?_range hjlt, Option.map_some, Option.some.injEq] at hj
            rw [addr_eta hs, addr_add, ← hj]
            have := hvs ad rfl _ _ h1 h2
            rw [Nat.mul_comm, Nat.div_add_mod] at this
            exact this
          · have h0' : len = 0 := by omega
            subst h0'
            exact Src.ofSlice w f.und ad 0 c _ (by simp) (fun j u hj => by simp at hj) (by simp)
      · have hj : j < te.size := by have := (List.getElem?_eq_some_iff.1 hy).1; rw [hl _ hr'] at this; exact this
        exact ⟨_, hget r j hr' hj, hr _ _ _ hr' hy⟩
    · rename_i d gg sz i len cap hp
      rw [hp] at hx
      cases hb : (Nat.beq (H d).1 gg && Nat.beq sz te.size && Nat.blt 0 sz) with
      | false => simp [hb] at h
      | true =>
      simp only [hb, cond_true] at h
      simp only [Bool.and_eq_true] at hb
      have hgg := Nat.eq_of_beq_eq_true hb.1.1; subst hgg
      have hsz := Nat.eq_of_beq_eq_true hb.1.2; subst hsz
      have hpos : 0 < te.size := by simpa [Nat.blt_eq] using hb.2
      refine ⟨hpos, ?_⟩
      cases hvw : (H d).2.view te.size i with
      | none => simp [hvw] at h
      | some cv =>
      obtain ⟨c, at_⟩ := cv
      simp only [hvw, Option.some.injEq, Prod.mk.injEq] at h
      obtain ⟨rfl, rfl, rfl⟩ := h
      generalize he : a.eval x = q at hx
      cases hx with
      | @lsl _ _ _ _ _ cc _ base hg hc hcap hbs hn =>
      have hlive : (H d).2.live = true := by cases e : (H d).2 <;> simp_all [Blk.view, Blk.live]
      obtain ⟨cs, q1, q2, q3⟩ := g.cells hlive
      obtain ⟨v1, v2⟩ := view_rel q2 hvw
      have hrow : ∀ r j, r < len → j < te.size → ∃ v, cs[(i + r) * te.size + j]? = some v ∧ v.oneCell' = true := by
        intro r j hr hj
        obtain ⟨v, hv, hrr⟩ := v2 r j _ (by omega) (List.getElem?_eq_getElem (by rw [v1 r (by omega)]; exact hj))
        exact ⟨v, hv, hrr.one⟩
      have hget : ∀ q, q < len * te.size → ∃ v, cs[i * te.size + q]? = some v ∧ v.oneCell' = true := by
        intro q hq
        have h1 : q / te.size < len := (Nat.div_lt_iff_lt_mul hpos).2 hq
        obtain ⟨v, hv, h1⟩ := hrow _ _ h1 (Nat.mod_lt q hpos)
        refine ⟨v, ?_, h1⟩
        rw [← hv]; congr 1
        rw [Nat.add_mul]
        have := Nat.div_add_mod q te.size
        rw [Nat.mul_comm te.size] at this
        omega
      refine ⟨(cs.toList.drop (i * te.size)).take (len * te.size), ?_, fun r hr => v1 r (by omega), fun r j y hr hy => ?_⟩
      · have hlen : ((cs.toList.drop (i * te.size)).take (len * te.size)).length = len * te.size := by
          by_cases h0 : len = 0
          · subst h0; simp
          · obtain ⟨v, hv, _⟩ := hget (len * te.size - 1) (by have := Nat.mul_pos (Nat.pos_of_ne_zero h0) hpos; omega)
            have := (Array.getElem?_eq_some_iff.1 hv).1
            have hp2 := Nat.mul_pos (Nat.pos_of_ne_zero h0) hpos
            simp; omega
        cases base with
        | none =>
          have := hn rfl
          have h0 : len = 0 := by omega
          subst h0; subst this
          simp only [Nat.zero_mul, List.take_zero]
          exact Src.ofNil w f.und 0
        | some ad =>
          refine Src.ofSlice w f.und ad len cc _ hlen (fun j u hj => ?_) (fun u hu => ?_)
          · have hjlt : j < len * te.size := by have := (List.getElem?_eq_some_iff.1 hj).1; omega
            have hc0 : 0 < cc := by
              rcases Nat.eq_zero_or_pos len with h | h
              · subst h; simp at hjlt
              · omega
            obtain ⟨e1, e2⟩ := hbs hc0
            simp only [Option.some.injEq] at e1
            subst e1
            rw [List.getElem?_take_of_lt hjlt, List.getElem?_drop] at hj
            rw [addr_add]
            exact q3 _ u (by simpa using hj)
          · obtain ⟨j, hj⟩ := List.mem_iff_getElem?.1 hu
            have hjlt : j < len * te.size := by have := (List.getElem?_eq_some_iff.1 hj).1; omega
            rw [List.getElem?_take_of_lt hjlt, List.getElem?_drop] at hj
            obtain ⟨v, hv, h1⟩ := hget j hjlt
            simp only [Array.getElem?_toList] at hj
            rw [hv] at hj; cases hj; exact h1
      · have hj : j < te.size := by have := (List.getElem?_eq_some_iff.1 hy).1; rw [v1 r (by omega)] at this; exact this
        obtain ⟨v, hv, hrr⟩ := v2 r j y (by omega) hy
        refine ⟨v, ?_, hrr⟩
        have := row_lt hr hj
        rw [List.getElem?_take_of_lt this, List.getElem?_drop, Array.getElem?_toList, ← hv]
        congr 1; rw [Nat.add_mul]; omega
    · simp at h
  · simp at h

theorem run_append_room_row (w : World) (t tx ty e : TypeId) (i : TypeInfo) (ht : P.underlying t = some (.slice e)) (hi : P.info? e = some i) (b off sLen sCap : Nat) (x : Value) (k : Nat) (news : List Value) (hs : Src P i.size tx x k news w)
    (hroom : sLen + k ≤ sCap) {cur : Array Value} {et : TypeId} (hh : w.heap[b]? = some (.cells cur et (0, 0))) (hfit : off + sLen * i.size + news.length ≤ cur.size) :
    (Builtin.append_ #[t, tx] ty #[.slice (some ⟨b, off, none⟩) sLen sCap, x]).run P w = .ok (.slice (some ⟨b, off, none⟩) (sLen + k) sCap)
      (w.setRow b (cur.toList.take (off + sLen * i.size) ++ news ++ cur.toList.drop (off + sLen * i.size + news.length)).toArray) := by
  have hst := run_storeCells_at P b (off + sLen * i.size) et news 0 cur w hh (by simpa using hfit) hs.one
  simp only [Nat.add_zero] at hst
  rcases hs.kind with ⟨e', hk⟩ | hk <;> simp [Builtin.append_, run_underlying ht, run_underlying hk, sizeOf, typeInfo, hi, hs.len, hroom, hs.cells, addr_add, hst]

theorem run_append_none (w : World) (t tx ty e : TypeId) (i : TypeInfo) (ht : P.underlying t = some (.slice e)) (hi : P.info? e = some i) (base : Option Addr) (sLen : Nat) (x : Value) (news : List Value) (hs : Src P i.size tx x 0 news w) :
    (Builtin.append_ #[t, tx] ty #[.slice base sLen sLen, x]).run P w = .ok (.slice base sLen sLen) w := by
  have hn : news = [] := List.eq_nil_of_length_eq_zero (by have := hs.newsLen; omega)
  rcases hs.kind with ⟨e', hk⟩ | hk <;> cases base <;> simp [Builtin.append_, run_underlying ht, run_underlying hk, sizeOf, typeInfo, hi, hs.len, hs.cells, hn, storeCells]

theorem grownCap_ge' (w : World) {need old : Nat} {e : TypeId} : need ≤ grownCap w need old e := Nat.le_add_right _ _

theorem size_zeroCells' (zero : Array Value) (k : Nat) : (Builtin.zeroCells zero k).size = k * zero.size := by simp [Builtin.zeroCells]

/-- a grown row, as a new block -/
theorem grown_block (g : Good n S0 pass w0 F H S m a w) {te : TI} {e : Nat} {inf : TypeInfo} {u : TypeDesc} {z : Value} (f : TyFacts P e te inf u z) {k : Nat} {olds news : List Value} {l1 l2 : Nat} {at1 at2 : Nat → List FV} (old : Nat)
    (hol : olds.length = l1 * te.size) (hnl : news.length = l2 * te.size)
    (h1 : ∀ r, r < l1 → (at1 r).length = te.size) (h1r : ∀ (r j : Nat) (y : FV), r < l1 → (at1 r)[j]? = some y → ∃ v, olds[r * te.size + j]? = some v ∧ RelF S w y v)
    (h2 : ∀ r, r < l2 → (at2 r).length = te.size) (h2r : ∀ (r j : Nat) (y : FV), r < l2 → (at2 r)[j]? = some y → ∃ v, news[r * te.size + j]? = some v ∧ RelF S w y v) :
    ∀ S' m' G' w', (∀ k, S k → S' k) → Keeps S w w' → RelB S' m' G' w' (.fa te.size (l1 + l2) (fun j => if j < l1 then at1 j else at2 (j - l1)))
      ((olds ++ news).toArray ++ Builtin.zeroCells z.cells (grownCap w (l1 + l2) old e - (l1 + l2))) := by
  intro S' m' G' w' hS hK
  refine ⟨?_, fun i hi => ?_, fun i j x hi hx => ?_⟩
  · simp only [Array.size_append, List.size_toArray, List.length_append, hol, hnl, Nat.add_mul]; omega
  · dsimp only
    split
    · exact h1 i (by omega)
    · exact h2 _ (by omega)
  · dsimp only at hx
    have hlt : ∀ (q : Nat) (v : Value), (olds ++ news)[q]? = some v → ((olds ++ news).toArray ++ Builtin.zeroCells z.cells (grownCap w (l1 + l2) old e - (l1 + l2)))[q]? = some v := by
      intro q v hq
      have hql := (List.getElem?_eq_some_iff.1 hq).1
      rw [Array.getElem?_append, if_pos (by simpa using hql)]
      simpa using hq
    by_cases hlo : i < l1
    · rw [if_pos hlo] at hx
      obtain ⟨v, hv, hr⟩ := h1r i j x hlo hx
      refine ⟨v, hlt _ v ?_, hr.mono hS hK⟩
      rw [List.getElem?_append_left (List.getElem?_eq_some_iff.1 hv).1]; exact hv
    · rw [if_neg hlo] at hx
      obtain ⟨v, hv, hr⟩ := h2r (i - l1) j x (by omega) hx
      refine ⟨v, hlt _ v ?_, hr.mono hS hK⟩
      have hq : i * te.size + j = olds.length + ((i - l1) * te.size + j) := by
        have : i = l1 + (i - l1) := by omega
        conv => lhs; rw [this]
        rw [Nat.add_mul, hol]; omega
      rw [hq, List.getElem?_append_right (by omega)]
      rw [show olds.length + ((i - l1) * te.size + j) - olds.length = (i - l1) * te.size + j by omega]; exact hv

theorem append_does (g : Good n S0 pass w0 F H S m a w) (hok : tabOk P T = true) {t tx : Nat} {x y : Operand} (ho : o.op = .call { callee := .builtin .append, args := #[x, y], argTypes := #[t, tx] }) (hd : dstOk n o.dst = true)
    (hv : (appendO T H o.dst t tx (evT T F t x) (evA F y)).gives v δ) : Does P n S0 pass w0 o F H v δ a w := by
  have hx := evT_rel (S := S) (m := m) (w := w) g.fr T t x
  unfold appendO at hv
  split at hv
  · rename_i k e sz0 by' ze hdst ht
    obtain ⟨inf, u, z, f⟩ := facts hok ht
    have hu := f.slice rfl; subst hu
    cases hte : T.get e with
    | none => simp [hte, OpOut.gives] at hv
    | some te =>
    obtain ⟨inf2, u2, z2, f2⟩ := facts hok hte
    simp only [hte] at hv
    cases hsrc : srcO T H te tx (evA F y) with
    | none => simp [hsrc, OpOut.gives] at hv
    | some sc =>
    obtain ⟨k2, at2, c2⟩ := sc
    simp only [hsrc] at hv
    have hrun : ∀ {r w'}, (Builtin.append_ #[t, tx] o.type #[a.eval x, a.eval y]).run P w = .ok r w' → (execOp a.eval o).run P w = .ok (.value r) w' := by
      intro r w' h
      exact call_run .append ho fun cs => by simp [builtin, h]
    have hzl : z2.cells.size = te.size := by have := (zeros_rel (S := S) (w := w) f2.zok).length; rw [f2.zlen] at this; simpa using this.symm
    split at hv
    · -- onto nil
      rename_i sz at0 hp
      cases hb : Nat.beq sz te.size with
      | false => simp [hb, OpOut.gives] at hv
      | true =>
      have hsz := Nat.eq_of_beq_eq_true hb; subst hsz
      simp only [hb, cond_true] at hv
      obtain ⟨⟨hc2, h63, hroom⟩, rfl, rfl⟩ := hv
      obtain ⟨hpos, news, hs, hl, hnr⟩ := src_spec g hok hsrc hc2
      rw [hp] at hx
      cases hx with
      | f hx =>
      generalize he : a.eval x = q at hx hrun
      cases hx with
      | @sl _ _ c _ _ base vs hc hcap hn hl0 hbs hvs hr =>
      have := hcap 0 rfl; subst this
      rw [← f2.size] at hs
      by_cases h0 : k2 = 0
      · subst h0
        refine ⟨_, _, w, S, newM m k ((H k).1 + 1) (0, 0), hrun (run_append_none w t tx o.type e inf2 f.und f2.info base 0 _ news hs), .inl rfl, ?_⟩
        exact (g.fresh0 k te.size at2).put hd (.lsl (by simp [gen]) (Nat.le_refl _) (by simp) (by omega) (fun _ => rfl))
      · have hnl : news.length = k2 * te.size := by rw [hs.newsLen, f2.size]
        have hgrow := run_append_grow_src w t tx o.type e inf2 z2 f.und f2.info f2.zero base 0 0 [] (by cases base <;> simp [Builtin.firstCells, loadCells, loadCellsFrom]) (a.eval y) k2 news hs (by omega) (by simpa using (by omega : (k2 : Int) ≤ 9223372036854775807)) (by rw [Nat.zero_add, nextslicecap_zero (by omega), f2.bytes]; exact hroom)
        simp only [Nat.zero_add] at hgrow
        have gw : Good n S0 pass w0 F H S m a w.drew := g.world (fun _ h => h) (fun _ _ => rfl) (g.eff.trans (Eff.drew _ _)) (fun _ h => .inl h)
        have hblk := grown_block (S := S) g f2 (olds := []) (news := news) (l1 := 0) (l2 := k2) (at1 := fun _ => []) (at2 := at2) (k := 0) 0 (by simp) hnl (fun r hr => absurd hr (by omega)) (fun r j y hr _ => absurd hr (by omega)) hl hnr
        simp only [Nat.zero_add, Nat.not_lt_zero, if_false, Nat.sub_zero] at hblk
        refine ⟨_, _, _, S, _, hrun hgrow, .inl rfl, (gw.alloc k e ((news.toArray ++ Builtin.zeroCells z2.cells (grownCap w k2 0 e - k2))) (.fa te.size k2 at2) rfl (fun S' m' G' w' h1 h2 h3 h4 => hblk S' m' G' w' h1 h2)).put hd ?_⟩
        refine .lsl (by simp [gen]) (by rw [show k2 = 0 + k2 by omega]; exact grownCap_ge' w) (by simp) (fun hp => ?_) (by simp)
        rw [newM_same]
        refine ⟨by simp, ?_⟩
        have := grownCap_ge' w (need := k2) (old := 0) (e := e)
        simp only [Nat.zero_add, List.nil_append, Array.size_append, List.size_toArray, hnl, size_zeroCells', hzl, Nat.sub_mul]
        have := Nat.mul_le_mul_right te.size this
        omega
    · -- onto a slice of the call's own
      rename_i d gg sz len cap hp
      cases hb : (Nat.beq (H d).1 gg && Nat.beq sz te.size && (H d).2.own) with
      | false => simp [hb, OpOut.gives] at hv
      | true =>
      simp only [hb, cond_true] at hv
      simp only [Bool.and_eq_true] at hb
      have hgg := Nat.eq_of_beq_eq_true hb.1.1; subst hgg
      have hsz := Nat.eq_of_beq_eq_true hb.1.2; subst hsz
      have hown := hb.2
      cases hvw : (H d).2.view te.size 0 with
      | none => simp [hvw, OpOut.gives] at hv
      | some cv =>
      obtain ⟨c, at1⟩ := cv
      simp only [hvw] at hv
      obtain ⟨⟨hc2, hlc, h63, hroom⟩, rfl, rfl⟩ := hv
      obtain ⟨hpos, news, hs, hl, hnr⟩ := src_spec g hok hsrc hc2
      rw [hp] at hx
      generalize he : a.eval x = q at hx hrun
      cases hx with
      | @lsl _ _ _ _ _ cc _ base hg hcc hcap hbs hn =>
      have hnl : news.length = k2 * te.size := hs.newsLen
      rw [← f2.size] at hs
      obtain ⟨cs, q1, q2, q3⟩ := g.hp d (own_live hown)
      obtain ⟨v1, v2⟩ := view_rel q2 hvw
      simp only [Nat.zero_add] at v2
      by_cases hfit : len + k2 ≤ cc
      · by_cases hc0 : cc = 0
        · -- nothing onto nothing
          subst hc0
          have hlen : len = 0 := by omega
          have hk2 : k2 = 0 := by omega
          subst hlen; subst hk2
          refine ⟨_, _, w, S, newM m k ((H k).1 + 1) (0, 0), hrun (run_append_none w t tx o.type e inf2 f.und f2.info base 0 _ news hs), .inl rfl, ?_⟩
          have g1 := (g.kill d).fresh0 k te.size (fun j => if j < 0 then at1 j else at2 (j - 0))
          have hgen : (updH H d (H d).1 .dead k).1 = (H k).1 := by unfold updH; split <;> simp_all
          rw [hgen] at g1
          exact g1.put hd (.lsl (by simp [gen]) (Nat.le_refl _) (by simp) (by omega) (fun _ => rfl))
        · -- there is room
          obtain ⟨e1, e2⟩ := hbs (by omega)
          subst e1
          simp only [Nat.zero_mul, Nat.zero_add] at e2 hrun
          have hcpos : 0 < cs.size := by
            have := Nat.mul_le_mul_right te.size (show 1 ≤ cc by omega); omega
          obtain ⟨et, hh⟩ := q3 hcpos
          have hfit2 : len * te.size + news.length ≤ cs.size := by
            rw [hnl, ← Nat.add_mul]; have := Nat.mul_le_mul_right te.size hfit; omega
          have hro := run_append_room_row w t tx o.type e inf2 f.und f2.info (m d (H d).1).1 0 len cc (a.eval y) k2 news hs hfit hh (by rw [f2.size]; omega)
          simp only [Nat.zero_add, f2.size] at hro
          have hlenlist : (cs.toList.take (len * te.size) ++ news ++ cs.toList.drop (len * te.size + news.length)).length = cs.size := by simp; omega
          have hta : (cs.toList.take (len * te.size)).length = len * te.size := by simp; omega
          have g1 : Good n S0 pass w0 F (updH H d (H d).1 (.fa te.size (len + k2) (fun j => if j < len then at1 j else at2 (j - len)))) S m a
              (w.setRow (m d (H d).1).1 (cs.toList.take (len * te.size) ++ news ++ cs.toList.drop (len * te.size + news.length)).toArray) := by
            refine g.rewrite hown (by omega) (e := et) (by rw [← q1]; simpa using hlenlist) (setRow_heap w _ cs _ et _ hh) (fun k hk => setRow_other w _ k _ hk) (by simp) rfl rfl rfl rfl ⟨?_, fun i hi => ?_, fun i j x hi hx => ?_⟩
            · rw [List.size_toArray, hlenlist, Nat.add_mul]; omega
            · dsimp only; split
              · exact v1 i (by omega)
              · exact hl _ (by omega)
            · dsimp only at hx
              rw [List.getElem?_toArray]
              by_cases hlo : i < len
              · rw [if_pos hlo] at hx
                obtain ⟨v, hv, hr⟩ := v2 i j x (by omega) hx
                refine ⟨v, ?_, hr⟩
                have hj : j < te.size := by have := (List.getElem?_eq_some_iff.1 hx).1; rw [v1 i (by omega)] at this; exact this
                have hlt := row_lt hlo hj
                rw [List.append_assoc, List.getElem?_append_left (by omega), List.getElem?_take_of_lt hlt]; simpa using hv
              · rw [if_neg hlo] at hx
                obtain ⟨v, hv, hr⟩ := hnr (i - len) j x (by omega) hx
                refine ⟨v, ?_, hr⟩
                have hq : i * te.size + j = len * te.size + ((i - len) * te.size + j) := by
                  have : i = len + (i - len) := by omega
                  conv => lhs; rw [this]
                  rw [Nat.add_mul]; omega
                have hvl := (List.getElem?_eq_some_iff.1 hv).1
                rw [hq, List.append_assoc, List.getElem?_append_right (by omega), hta, Nat.add_sub_cancel_left, List.getElem?_append_left hvl]; exact hv
          have g2 := g1.move (d := d) (by rw [updH_same]; rfl) k
          rw [updH_same] at g2
          have hgen : (updH H d (H d).1 (.fa te.size (len + k2) (fun j => if j < len then at1 j else at2 (j - len))) k).1 = (H k).1 := by unfold updH; split <;> simp_all
          rw [hgen] at g2
          have hup : updH (updH H d (H d).1 (.fa te.size (len + k2) (fun j => if j < len then at1 j else at2 (j - len)))) d (H d).1 .dead = updH H d (H d).1 .dead := by
            funext q; unfold updH; split <;> rfl
          simp only [hup] at g2
          refine ⟨_, _, _, S, _, hrun hro, .inl rfl, g2.put hd (.lsl (by simp [gen]) hfit (by simp) (fun _ => ?_) (by simp))⟩
          rw [newM_same]
          exact ⟨by simp, by simpa using e2⟩
      · -- a new row
        have hfc : (Builtin.firstCells inf2.size len (.slice base len cc)).run P w.drew = .ok (cs.toList.take (len * te.size)).toArray w.drew := by
          cases base with
          | none =>
            have := hn rfl; subst this
            have : len = 0 := by omega
            subst this; simp [Builtin.firstCells]
          | some ad =>
            have hlen : (cs.toList.take (len * te.size)).length = len * te.size ∨ len = 0 := by
              by_cases h0 : len = 0
              · exact .inr h0
              · obtain ⟨e1, e2⟩ := hbs (by omega)
                rw [Nat.zero_add] at e2; left; have := Nat.mul_le_mul_right te.size hcc; simp; omega
            rcases hlen with hlen | hlen
            · have hl' : (cs.toList.take (len * te.size)).length = len * inf2.size := by rw [hlen, f2.size]
              refine run_firstCells_some w.drew inf2.size len ad len cc _ hl' (fun j v hj => ?_)
              have hjlt : j < len * te.size := by have := (List.getElem?_eq_some_iff.1 hj).1; omega
              have hc0 : 0 < cc := by
                rcases Nat.eq_zero_or_pos len with h | h
                · subst h; simp at hjlt
                · omega
              obtain ⟨e1, e2⟩ := hbs hc0
              simp only [Option.some.injEq] at e1; subst e1
              rw [List.getElem?_take_of_lt hjlt] at hj
              have hj' : cs[j]? = some v := by simpa using hj
              obtain ⟨et, hh⟩ := q3 (by have := (Array.getElem?_eq_some_iff.1 hj').1; omega)
              rw [addr_add]
              simp only [Nat.zero_mul, Nat.zero_add]
              show w.cell? _ = _
              simp [World.cell?, hh, hj']
            · subst hlen; simp [Builtin.firstCells, loadCells, loadCellsFrom]
        have hol : (cs.toList.take (len * te.size)).length = len * te.size := by
          by_cases h0 : len = 0
          · subst h0; simp
          · obtain ⟨e1, e2⟩ := hbs (by omega)
            rw [Nat.zero_add] at e2
            have := Nat.mul_le_mul_right te.size hcc; simp; omega
        have hfit2 : Builtin.nextslicecap (len + k2) cc * inf2.bytes ≤ 281474976710656 := by
          rw [f2.bytes]
          cases cap with
          | none => exact growslice_fits (by omega) hroom
          | some q =>
            have := hcap q rfl; subst this
            rcases hroom with h | h
            · omega
            · exact h
        have hgrow := run_append_grow_src w t tx o.type e inf2 z2 f.und f2.info f2.zero base len cc _ hfc (a.eval y) k2 news hs (by omega) (by omega) hfit2
        have gw : Good n S0 pass w0 F H S m a w.drew := g.world (fun _ h => h) (fun _ _ => rfl) (g.eff.trans (Eff.drew _ _)) (fun _ h => .inl h)
        have hblk := grown_block (S := S) g f2 (olds := cs.toList.take (len * te.size)) (news := news) (l1 := len) (l2 := k2) (at1 := at1) (at2 := at2) (k := 0) cc hol hnl (fun r hr => v1 r (by omega)) (fun r j y hr hy => by
          obtain ⟨v, hv, hr'⟩ := v2 r j y (by omega) hy
          refine ⟨v, ?_, hr'⟩
          have hj : j < te.size := by have := (List.getElem?_eq_some_iff.1 hy).1; rw [v1 r (by omega)] at this; exact this
          rw [List.getElem?_take_of_lt (row_lt hr hj)]; simpa using hv) hl hnr
        have g1 := (gw.kill d).alloc k e _ (.fa te.size (len + k2) (fun j => if j < len then at1 j else at2 (j - len))) rfl (fun S' m' G' w' h1 h2 h3 h4 => hblk S' m' G' w' h1 h2)
        have hgen : (updH H d (H d).1 .dead k).1 = (H k).1 := by unfold updH; split <;> simp_all
        rw [hgen] at g1
        refine ⟨_, _, _, S, _, hrun hgrow, .inl rfl, g1.put hd ?_⟩
        refine .lsl (by simp [gen]) (grownCap_ge' w) (by simp) (fun hp => ?_) (by simp)
        rw [newM_same]
        refine ⟨by simp, ?_⟩
        have := grownCap_ge' w (need := len + k2) (old := cc) (e := e)
        simp only [Nat.zero_add, Array.size_append, List.size_toArray, List.length_append, hol, hnl, size_zeroCells', hzl, Nat.sub_mul]
        have := Nat.mul_le_mul_right te.size this
        rw [Nat.add_mul] at this ⊢
        omega
    · simp [OpOut.gives] at hv
  · simp [OpOut.gives] at hv

end ops
end Go.Abs
