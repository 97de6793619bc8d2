/- Soundness, part four: indexes, slices, arithmetic. -/
import Derived.Test.YtmlhfccpnehaeaaAbsP
set_option autoImplicit false
set_option linter.unusedVariables false
set_option linter.unusedSimpArgs false
namespace Go.Abs
section ops
variable {P : Program} {T : Tab} {n : Nat} {S0 pass : Nat → Prop} {w0 : World} {F : Nat → AV} {H : Hp} {S : Nat → Prop} {m : Places} {a : Act} {w : World} {o : Oper} {v : AV} {δ : List (Nat × Nat × Blk)}

theorem wrap_in {k : IntKind} {e : Int} (h1 : k.min ≤ e) (h2 : e ≤ k.max) : k.wrap e = e := by
  unfold IntKind.wrap
  cases k <;> simp [IntKind.min, IntKind.max, IntKind.bits, IntKind.signed] at h1 h2 ⊢ <;> (try split) <;> omega

theorem addr_eta {ad : Addr} (h : ad.spot = none) : ad = ⟨ad.block, ad.off, none⟩ := by cases ad; simp at h; simp [h]

theorem indexAddr_does (g : Good n S0 pass w0 F H S m a w) (hok : tabOk P T = true) {t : Nat} {x y : Operand} (ho : o.op = .indexAddr t x y) (hd : dstOk n o.dst = true)
    (hv : (indexAddrO T t (evA F x) (evA F y)).gives v δ) : Does P n S0 pass w0 o F H v δ a w := by
  have hx := evA_rel (S := S) (m := m) (w := w) g.fr x
  have hy := evA_rel (S := S) (m := m) (w := w) g.fr y
  unfold indexAddrO at hv
  split at hv
  · rename_i e sz0 by' ze kk i ht hi
    obtain ⟨inf, u, z, f⟩ := facts hok ht
    have hu := f.slice rfl; subst hu
    rw [hi] at hy
    generalize hey : a.eval y = qy at hy
    cases hy with
    | f hy =>
    cases hy
    split at hv
    · rename_i te hte
      obtain ⟨inf2, u2, z2, f2⟩ := facts hok hte
      have hrun : ∀ ad len c, a.eval x = .slice (some ad) len c → 0 ≤ i ∧ i < len → (execOp a.eval o).run P w = .ok (.value (.pointer (some (ad.add (i.toNat * te.size))))) w := by
        intro ad len c he hin
        unfold execOp; rw [ho]
        simp only [he, hey, Sem.run_bind, Instr.indexAt, asIntOf, Sem.run_pure, Result.andThen_ok, f.run_und, if_pos hin, f2.run_size]
      split at hv
      · rename_i sz at_ len cap hp
        rw [hp] at hx
        cases hb : (Nat.beq te.size sz && Nat.blt 0 sz) with
        | false => simp [hb, OpOut.gives] at hv
        | true =>
        simp only [hb, cond_true] at hv
        simp only [Bool.and_eq_true] at hb
        have hsz := Nat.eq_of_beq_eq_true hb.1; subst hsz
        have hz : 0 < te.size := by simpa [Nat.blt_eq] using hb.2
        obtain ⟨hin, rfl, rfl⟩ := hv
        cases hx with
        | f hx =>
        generalize he : a.eval x = q at hx
        cases hx with
        | @sl _ _ c _ _ base vs hc hcap hn hl hbs hvs hr =>
        cases base with
        | none => have := hn rfl; omega
        | some ad =>
        have hi' : i.toNat < len := by omega
        obtain ⟨hs, hS⟩ := hbs ad rfl (by omega) hz
        refine does_value g hd (hrun ad len c he hin) (.f ?_)
        rw [addr_eta hs, addr_add]
        exact .ptr (fun j => vs i.toNat j) rfl hS (fun j hj => by rw [Nat.add_assoc]; exact hvs ad rfl _ _ hi' (by rw [hl _ hi'] at hj; exact hj)) (fun j x hx => hr _ _ _ hi' hx)
      · rename_i d gg sz i0 len cap hp
        rw [hp] at hx
        cases hb : Nat.beq te.size sz with
        | false => simp [hb, OpOut.gives] at hv
        | true =>
        have hsz := Nat.eq_of_beq_eq_true hb; subst hsz
        simp only [hb, cond_true] at hv
        obtain ⟨hin, rfl, rfl⟩ := hv
        generalize he : a.eval x = q at hx
        cases hx with
        | @lsl _ _ _ _ _ c _ base hg hc hcap hbs hn =>
        have hc0 : 0 < c := by omega
        obtain ⟨hb1, hb2⟩ := hbs hc0
        subst hb1
        refine does_value g hd (hrun _ len c he hin) ?_
        rw [addr_add, ← Nat.add_mul]
        exact .lptr (sub := 0) hg
      · simp [OpOut.gives] at hv
    · simp [OpOut.gives] at hv
  · rename_i nn e sz0 by' ze kk i ht hi
    obtain ⟨inf, u, z, f⟩ := facts hok ht
    have hu := f.arr rfl; subst hu
    rw [hi] at hy
    generalize hey : a.eval y = qy at hy
    cases hy with
    | f hy =>
    cases hy
    split at hv
    · rename_i te hte
      obtain ⟨inf2, u2, z2, f2⟩ := facts hok hte
      have hrun : ∀ ad, a.eval x = .pointer (some ad) → 0 ≤ i ∧ i < nn → (execOp a.eval o).run P w = .ok (.value (.pointer (some (ad.add (i.toNat * te.size))))) w := by
        intro ad he hin
        unfold execOp; rw [ho]
        simp only [he, hey, Sem.run_bind, Instr.indexAt, asIntOf, Sem.run_pure, Result.andThen_ok, f.run_und, Instr.sureAddr, if_pos hin, f2.run_size]
      split at hv
      · rename_i cells hp
        rw [hp] at hx
        obtain ⟨hin, rfl, rfl⟩ := hv
        cases hx with
        | f hx =>
        generalize he : a.eval x = q at hx
        cases hx with
        | @ptr _ ad vs hs hS hcv hr =>
        refine does_value g hd (hrun ad he hin) (.f ?_)
        rw [addr_eta hs, addr_add]
        refine .ptr (fun j => vs (i.toNat * te.size + j)) rfl hS (fun j hj => ?_) (fun j x hx => ?_)
        · simp only [List.length_drop] at hj
          rw [Nat.add_assoc]; exact hcv _ (by omega)
        · rw [List.getElem?_drop] at hx; exact hr _ x hx
      · rename_i d gg sz i0 sub hp
        rw [hp] at hx
        obtain ⟨hin, rfl, rfl⟩ := hv
        generalize he : a.eval x = q at hx
        cases hx with
        | lptr hg =>
        refine does_value g hd (hrun _ he hin) ?_
        rw [addr_add, Nat.add_assoc]
        exact .lptr hg
      · simp [OpOut.gives] at hv
    · simp [OpOut.gives] at hv
  · simp [OpOut.gives] at hv

theorem index_does (g : Good n S0 pass w0 F H S m a w) (hok : tabOk P T = true) {t : Nat} {x y : Operand} (ho : o.op = .index t x y) (hd : dstOk n o.dst = true)
    (hv : (indexO T t (evA F x) (evA F y)).gives v δ) : Does P n S0 pass w0 o F H v δ a w := by
  have hx := evA_rel (S := S) (m := m) (w := w) g.fr x
  have hy := evA_rel (S := S) (m := m) (w := w) g.fr y
  unfold indexO at hv
  split at hv
  · rename_i sz0 by' ze kk i ht hi
    obtain ⟨inf, u, z, f⟩ := facts hok ht
    have hu := f.str rfl; subst hu
    rw [hi] at hy
    generalize hey : a.eval y = qy at hy
    cases hy with
    | f hy =>
    cases hy
    split at hv
    · rename_i s hp
      rw [hp] at hx
      obtain ⟨hin, rfl, rfl⟩ := hv
      cases hx with
      | f hx =>
      generalize he : a.eval x = q at hx
      cases hx
      have hlt : i.toNat < s.size := by omega
      have hb : s[i.toNat]? = some s[i.toNat] := by simp [hlt]
      refine does_value g hd (x := .int .u8 (s[i.toNat].toNat)) ?_ ?_
      · unfold execOp; rw [ho]
        simp only [he, hey, Sem.run_bind, Instr.index, asIntOf, Sem.run_pure, Result.andThen_ok, f.run_und, if_pos hin.1, hb]
      · have : byteAt s i.toNat = (s[i.toNat].toNat : Int) := by simp [byteAt, hb]
        rw [this]; exact .f .int
    · simp [OpOut.gives] at hv
  · rename_i nn e sz0 by' ze kk i ht hi
    obtain ⟨inf, u, z, f⟩ := facts hok ht
    have hu := f.arr rfl; subst hu
    rw [hi] at hy
    generalize hey : a.eval y = qy at hy
    cases hy with
    | f hy =>
    cases hy
    split at hv
    · rename_i te hte
      obtain ⟨inf2, u2, z2, f2⟩ := facts hok hte
      split at hv
      · rename_i cs hp
        rw [hp] at hx
        generalize he : a.eval x = q at hx
        cases hx with
        | @agg _ vs hn hr h1 =>
        cases hb : Nat.ble (i.toNat * te.size + te.size) cs.length with
        | false => simp [hb, OpOut.gives] at hv
        | true =>
        simp only [hb, cond_true] at hv
        cases hm : mkV te.d.isAgg ((cs.drop (i.toNat * te.size)).take te.size) with
        | none => simp [hm, OpOut.gives] at hv
        | some r =>
        simp only [hm] at hv
        obtain ⟨hin, rfl, rfl⟩ := hv
        obtain ⟨q, hq, hrq⟩ := part_run (S := S) (m := m) (H := H) (w := w) f2 (Nat.le_of_ble_eq_true hb) hn hr h1 hm
        refine does_value g hd (x := q) ?_ hrq
        unfold execOp; rw [ho]
        simp only [he, hey, Sem.run_bind, Instr.index, asIntOf, Sem.run_pure, Result.andThen_ok, f.run_und, if_pos hin, f2.run_size, hq]
      · simp [OpOut.gives] at hv
    · simp [OpOut.gives] at hv
  · simp [OpOut.gives] at hv

theorem unO_does (g : Good n S0 pass w0 F H S m a w) {op : UnOp} {t : Nat} {x : Operand} (ho : o.op = .unOp op t x) (hd : dstOk n o.dst = true)
    (hv : (unO op (evA F x)).gives v δ) : Does P n S0 pass w0 o F H v δ a w := by
  have hx := evA_rel (S := S) (m := m) (w := w) g.fr x
  unfold unO at hv
  split at hv
  · rename_i b hp
    rw [hp] at hx
    obtain ⟨rfl, rfl⟩ := hv
    cases hx with
    | f hx =>
    generalize he : a.eval x = q at hx
    cases hx
    exact does_value g hd (x := .bool !b) (by unfold execOp; rw [ho]; simp only [he, Sem.run_bind, Op.unary, Sem.run_pure, Result.andThen_ok]) (.f .bool)
  · rename_i k z hp
    rw [hp] at hx
    obtain ⟨z', rfl, rfl, hz⟩ := hv
    cases hx with
    | f hx =>
    generalize he : a.eval x = q at hx
    cases hx
    have hz' : z' = k.wrap (0 - z) := by
      rcases hz with ⟨h1, h2, h3⟩ | h
      · rw [h3, wrap_in h1 h2]
      · exact h
    exact does_value g hd (x := .int k z') (by unfold execOp; rw [ho]; simp only [he, Sem.run_bind, Op.unary, Op.intArith, Sem.run_pure, Result.andThen_ok, hz']) (.f .int)
  · rename_i k z hp
    rw [hp] at hx
    obtain ⟨rfl, rfl⟩ := hv
    cases hx with
    | f hx =>
    generalize he : a.eval x = q at hx
    cases hx
    exact does_value g hd (x := .int k (intBitsA .xor k (if k.signed then -1 else k.max) z)) (by unfold execOp; rw [ho]; simp only [he, Sem.run_bind, Op.unary, Op.intBits, Sem.run_pure, Result.andThen_ok, intBitsA]) (.f .int)
  · simp [OpOut.gives] at hv

end ops
end Go.Abs
