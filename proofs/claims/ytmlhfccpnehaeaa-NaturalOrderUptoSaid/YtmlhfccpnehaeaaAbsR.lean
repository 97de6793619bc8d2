/- Soundness, part five: arithmetic on two operands, conversions, slices of slices, small builtins. -/
import Derived.Test.YtmlhfccpnehaeaaAbsQ
set_option autoImplicit false
set_option linter.unusedVariables false
set_option linter.unusedSimpArgs false
namespace Go.Abs
section ops
variable {P : Program} {T : Tab} {n : Nat} {S0 pass : Nat → Prop} {w0 : World} {F : Nat → AV} {H : Hp} {S : Nat → Prop} {m : Places} {a : Act} {w : World} {o : Oper} {v : AV} {δ : List (Nat × Nat × Blk)}

theorem conv_does (g : Good n S0 pass w0 F H S m a w) (hok : tabOk P T = true) {src dst : Nat} {x : Operand} (ho : o.op = .convert src dst x) (hsrc : ∃ ti, T.get src = some ti) (hd : dstOk n o.dst = true)
    (hv : (convO T dst (evA F x)).gives v δ) : Does P n S0 pass w0 o F H v δ a w := by
  have hx := evA_rel (S := S) (m := m) (w := w) g.fr x
  obtain ⟨tis, hts⟩ := hsrc
  obtain ⟨inf0, u0, z0, f0⟩ := facts hok hts
  unfold convO at hv
  split at hv
  · rename_i k sz by' ze kk z ht hp
    obtain ⟨inf, u, zz, f⟩ := facts hok ht
    have hu := f.int rfl; subst hu
    rw [hp] at hx
    obtain ⟨z', rfl, rfl, hz⟩ := hv
    cases hx with
    | f hx =>
    generalize he : a.eval x = q at hx
    cases hx
    have hz' : z' = k.wrap z := by
      rcases hz with ⟨h1, h2, h3⟩ | h
      · rw [h3, wrap_in h1 h2]
      · exact h
    refine does_value g hd (x := .int k z') ?_ (.f .int)
    unfold execOp; rw [ho]
    simp only [he, Sem.run_bind, convert, f0.run_und, f.run_und, Result.andThen_ok, Conv.intToInt, Sem.run_pure, hz']
  · simp [OpOut.gives] at hv

theorem bin_run (op : BinOp) (t t2 : Nat) (x y : Operand) (ho : o.op = .binOp op t x y t2) {k k' : IntKind} {p q : Int} (hx : a.eval x = .int k p) (hy : a.eval y = .int k' q) {r : Value}
    (h : (binOp op t (.int k p) (.int k' q)).run P w = .ok r w) : (execOp a.eval o).run P w = .ok (.value r) w := by
  unfold execOp; rw [ho]
  have hg : (eqGuard op t x y (.int k p) (.int k' q)).run P w = .ok () w := by
    unfold eqGuard; cases op <;> simp
  simp only [hx, hy, Sem.run_bind, hg, h, Result.andThen_ok, Sem.run_pure]

theorem bin_does (g : Good n S0 pass w0 F H S m a w) (hok : tabOk P T = true) {op : BinOp} {t t2 : Nat} {x y : Operand} (ho : o.op = .binOp op t x y t2) (hd : dstOk n o.dst = true)
    (hv : (binO T op t (evA F x) (evA F y)).gives v δ) : Does P n S0 pass w0 o F H v δ a w := by
  have hx := evA_rel (S := S) (m := m) (w := w) g.fr x
  have hy := evA_rel (S := S) (m := m) (w := w) g.fr y
  unfold binO at hv
  split at hv
  · rename_i k p k' q hp hq
    rw [hp] at hx; rw [hq] at hy
    generalize he : a.eval x = ex at hx
    generalize he2 : a.eval y = ey at hy
    cases hx with
    | f hx =>
    cases hx
    cases hy with
    | f hy =>
    cases hy
    have fin : ∀ r, (binOp op t (.int k p) (.int k' q)).run P w = .ok r w → RelA S m (gen H) w v r → Does P n S0 pass w0 o F H v [] a w :=
      fun r h hr => does_value g hd (bin_run op t t2 x y ho he he2 h) hr
    have hk : ∀ {b : OpOut}, (bif k == k' then b else OpOut.bad).gives v δ → k = k' ∧ b.gives v δ := by
      intro b h
      cases e : (k == k') with
      | false => rw [e] at h; exact h.elim
      | true => rw [e] at h; exact ⟨by simpa using e, h⟩
    have ari : ∀ {e : Int} {z : Int}, ((k.min ≤ e ∧ e ≤ k.max ∧ z = e) ∨ z = k.wrap e) → z = k.wrap e := by
      intro e z h
      rcases h with ⟨h1, h2, h3⟩ | h
      · rw [h3, wrap_in h1 h2]
      · exact h
    cases op with
    | add => obtain ⟨rfl, z, rfl, rfl, hz⟩ := hk hv; exact fin (.int k z) (by simp [binOp, Op.intArith, ari hz]) (.f .int)
    | sub => obtain ⟨rfl, z, rfl, rfl, hz⟩ := hk hv; exact fin (.int k z) (by simp [binOp, Op.intArith, ari hz]) (.f .int)
    | mul => obtain ⟨rfl, z, rfl, rfl, hz⟩ := hk hv; exact fin (.int k z) (by simp [binOp, Op.intArith, ari hz]) (.f .int)
    | quo => obtain ⟨rfl, h0, rfl, rfl⟩ := hk hv; exact fin _ (by simp [binOp, Op.intDiv, h0]) (.f .int)
    | rem => obtain ⟨rfl, h0, rfl, rfl⟩ := hk hv; exact fin _ (by simp [binOp, Op.intDiv, h0]) (.f .int)
    | shl => obtain ⟨h0, rfl, rfl⟩ := hv; exact fin (.int k (k.wrap (p * 2 ^ (min q.toNat k.bits)))) (by simp [binOp, Op.shift, Int.not_lt.2 h0]) (.f .int)
    | shr => obtain ⟨h0, rfl, rfl⟩ := hv; exact fin (.int k (p.fdiv (2 ^ (min q.toNat k.bits)))) (by simp [binOp, Op.shift, Int.not_lt.2 h0]) (.f .int)
    | and => obtain ⟨rfl, rfl, rfl⟩ := hk hv; exact fin (.int k (intBitsA .and k p q)) (by simp [binOp, Op.intBits, intBitsA]) (.f .int)
    | or => obtain ⟨rfl, rfl, rfl⟩ := hk hv; exact fin (.int k (intBitsA .or k p q)) (by simp [binOp, Op.intBits, intBitsA]) (.f .int)
    | xor => obtain ⟨rfl, rfl, rfl⟩ := hk hv; exact fin (.int k (intBitsA .xor k p q)) (by simp [binOp, Op.intBits, intBitsA]) (.f .int)
    | andNot => obtain ⟨rfl, rfl, rfl⟩ := hk hv; exact fin (.int k (intBitsA .andNot k p q)) (by simp [binOp, Op.intBits, intBitsA]) (.f .int)
    | eql => obtain ⟨rfl, rfl, rfl⟩ := hk hv; exact fin (.bool (decide (p = q))) (by simp [binOp, Op.intCmp]; rfl) (.f .bool)
    | neq => obtain ⟨rfl, rfl, rfl⟩ := hk hv; exact fin (.bool (!decide (p = q))) (by simp [binOp, Op.intCmp]; rfl) (.f .bool)
    | lss => obtain ⟨rfl, rfl, rfl⟩ := hk hv; exact fin (.bool (decide (p < q))) (by simp [binOp, Op.intCmp]) (.f .bool)
    | leq => obtain ⟨rfl, rfl, rfl⟩ := hk hv; exact fin (.bool (decide (p ≤ q))) (by simp [binOp, Op.intCmp]) (.f .bool)
    | gtr => obtain ⟨rfl, rfl, rfl⟩ := hk hv; exact fin (.bool (decide (p > q))) (by simp [binOp, Op.intCmp]) (.f .bool)
    | geq => obtain ⟨rfl, rfl, rfl⟩ := hk hv; exact fin (.bool (decide (p ≥ q))) (by simp [binOp, Op.intCmp]) (.f .bool)
  · rename_i p q hp hq
    rw [hp] at hx; rw [hq] at hy
    generalize he : a.eval x = ex at hx
    generalize he2 : a.eval y = ey at hy
    cases hx with
    | f hx =>
    cases hx
    cases hy with
    | f hy =>
    cases hy
    split at hv
    · rename_i sz by' ze ht
      obtain ⟨inf, u, zz, f⟩ := facts hok ht
      have hu := f.bool rfl; subst hu
      have hq : ∀ w : World, (Op.equal t (.bool p) (.bool q)).run P w = .ok (p == q) w := by
        intro w
        unfold Op.equal Op.maxDepth Op.equalIn
        simp [f.run_und]
      split at hv
      · obtain ⟨rfl, rfl⟩ := hv
        refine does_value g hd (x := .bool (p == q)) ?_ (.f .bool)
        unfold execOp; rw [ho]
        simp [he, he2, eqGuard, binOp, hq]
      · obtain ⟨rfl, rfl⟩ := hv
        refine does_value g hd (x := .bool (!(p == q))) ?_ (.f .bool)
        unfold execOp; rw [ho]
        simp [he, he2, eqGuard, binOp, hq]
      · simp [OpOut.gives] at hv
    · simp [OpOut.gives] at hv
  · simp [OpOut.gives] at hv

theorem call_run (b : Builtin) {args : Array Operand} {tys : Array TypeId} (ho : o.op = .call { callee := .builtin b, args := args, argTypes := tys }) {r : Result Next}
    (h : ∀ cs, (builtin b tys o.type cs (args.map a.eval)).run P w = r) : (execOp a.eval o).run P w = r := by
  unfold execOp; rw [ho]; simp only [resolve, Sem.run_bind, Sem.run_pure, Result.andThen_ok, invoke, h]

theorem len_does (g : Good n S0 pass w0 F H S m a w) (hok : tabOk P T = true) {x : Operand} {t : Nat} {tys : Array TypeId} (ho : o.op = .call { callee := .builtin .len, args := #[x], argTypes := tys }) (hty : tys[0]? = some t) (hd : dstOk n o.dst = true)
    (hv : (lenO T t (evA F x)).gives v δ) : Does P n S0 pass w0 o F H v δ a w := by
  have hx := evA_rel (S := S) (m := m) (w := w) g.fr x
  unfold lenO at hv
  have fin : ∀ (r : Int), (Builtin.len_ tys o.type #[a.eval x]).run P w = .ok (.int .i64 r) w → Does P n S0 pass w0 o F H (.f (.int .i64 r)) [] a w := by
    intro r h
    refine does_value g hd (x := .int .i64 r) (call_run .len ho fun cs => ?_) (.f .int)
    simp [builtin, h]
  split at hv
  · rename_i e sz by' ze ht
    obtain ⟨inf, u, z, f⟩ := facts hok ht
    have hu := f.slice rfl; subst hu
    split at hv
    · rename_i sz at_ len cap hp
      rw [hp] at hx
      obtain ⟨rfl, rfl⟩ := hv
      cases hx with
      | f hx =>
      generalize he : a.eval x = q at hx
      cases hx
      exact fin _ (by simp [Builtin.len_, hty, he, f.run_und, goInt])
    · rename_i d gg sz i len cap hp
      rw [hp] at hx
      obtain ⟨rfl, rfl⟩ := hv
      generalize he : a.eval x = q at hx
      cases hx
      exact fin _ (by simp [Builtin.len_, hty, he, f.run_und, goInt])
    · simp [OpOut.gives] at hv
  · rename_i sz by' ze ht
    obtain ⟨inf, u, z, f⟩ := facts hok ht
    have hu := f.str rfl; subst hu
    split at hv
    · rename_i s hp
      rw [hp] at hx
      obtain ⟨rfl, rfl⟩ := hv
      cases hx with
      | f hx =>
      generalize he : a.eval x = q at hx
      cases hx
      exact fin _ (by simp [Builtin.len_, hty, he, f.run_und, goInt])
    · simp [OpOut.gives] at hv
  · simp [OpOut.gives] at hv

theorem cap_does (g : Good n S0 pass w0 F H S m a w) (hok : tabOk P T = true) {x : Operand} {t : Nat} {tys : Array TypeId} (ho : o.op = .call { callee := .builtin .cap, args := #[x], argTypes := tys }) (hty : tys[0]? = some t) (hd : dstOk n o.dst = true)
    (hv : (capO T t (evA F x)).gives v δ) : Does P n S0 pass w0 o F H v δ a w := by
  have hx := evA_rel (S := S) (m := m) (w := w) g.fr x
  unfold capO at hv
  have fin : ∀ (r : Int), (Builtin.cap_ tys o.type #[a.eval x]).run P w = .ok (.int .i64 r) w → Does P n S0 pass w0 o F H (.f (.int .i64 r)) [] a w := by
    intro r h
    refine does_value g hd (x := .int .i64 r) (call_run .cap ho fun cs => ?_) (.f .int)
    simp [builtin, h]
  split at hv
  · rename_i e sz by' ze ht
    obtain ⟨inf, u, z, f⟩ := facts hok ht
    have hu := f.slice rfl; subst hu
    split at hv
    · rename_i sz at_ len cc hp
      rw [hp] at hx
      obtain ⟨rfl, rfl⟩ := hv
      cases hx with
      | f hx =>
      generalize he : a.eval x = q at hx
      cases hx with
      | sl vs hc hcap hn hl hbs hvs hr =>
      have := hcap _ rfl; subst this
      exact fin _ (by simp [Builtin.cap_, hty, he, f.run_und, goInt])
    · rename_i d gg sz i len cc hp
      rw [hp] at hx
      obtain ⟨rfl, rfl⟩ := hv
      generalize he : a.eval x = q at hx
      cases hx with
      | lsl hg hc hcap hb hn =>
      have := hcap _ rfl; subst this
      exact fin _ (by simp [Builtin.cap_, hty, he, f.run_und, goInt])
    · simp [OpOut.gives] at hv
  · simp [OpOut.gives] at hv

theorem max_does (g : Good n S0 pass w0 F H S m a w) {x y : Operand} {tys : Array TypeId} (ho : o.op = .call { callee := .builtin .max, args := #[x, y], argTypes := tys }) (hd : dstOk n o.dst = true)
    (hv : (maxO [evA F x, evA F y]).gives v δ) : Does P n S0 pass w0 o F H v δ a w := by
  have hx := evA_rel (S := S) (m := m) (w := w) g.fr x
  have hy := evA_rel (S := S) (m := m) (w := w) g.fr y
  unfold maxO at hv
  split at hv
  · rename_i k p k' q hq
    simp only [List.cons.injEq, and_true] at hq
    rw [hq.1] at hx; rw [hq.2] at hy
    obtain ⟨rfl, rfl⟩ := hv
    cases hx with
    | f hx =>
    generalize he : a.eval x = ex at hx
    cases hx
    cases hy with
    | f hy =>
    generalize he2 : a.eval y = ey at hy
    cases hy
    refine does_value g hd (x := .int k (if q > p then q else p)) (call_run .max ho fun cs => ?_) (.f .int)
    simp [builtin, Builtin.max_, Builtin.max2, he, he2, List.foldlM]
  · simp [OpOut.gives] at hv

theorem min_does (g : Good n S0 pass w0 F H S m a w) {x y : Operand} {tys : Array TypeId} (ho : o.op = .call { callee := .builtin .min, args := #[x, y], argTypes := tys }) (hd : dstOk n o.dst = true)
    (hv : (minO [evA F x, evA F y]).gives v δ) : Does P n S0 pass w0 o F H v δ a w := by
  have hx := evA_rel (S := S) (m := m) (w := w) g.fr x
  have hy := evA_rel (S := S) (m := m) (w := w) g.fr y
  unfold minO at hv
  split at hv
  · rename_i k p k' q hq
    simp only [List.cons.injEq, and_true] at hq
    rw [hq.1] at hx; rw [hq.2] at hy
    obtain ⟨rfl, rfl⟩ := hv
    cases hx with
    | f hx =>
    generalize he : a.eval x = ex at hx
    cases hx
    cases hy with
    | f hy =>
    generalize he2 : a.eval y = ey at hy
    cases hy
    refine does_value g hd (x := .int k (if q < p then q else p)) (call_run .min ho fun cs => ?_) (.f .int)
    simp [builtin, Builtin.min_, Builtin.min2, he, he2, List.foldlM]
  · simp [OpOut.gives] at hv

end ops
end Go.Abs
