/- Blocks brought into another form; the loop's rule with it. -/
import Derived.Test.YtmlhfccpnehaeaaAbsJ
set_option autoImplicit false
set_option linter.unusedVariables false
set_option linter.unusedSimpArgs false
namespace Go.Abs

/-- a block's contents seen in another way -/
inductive BLe : Blk → Blk → Prop
  | refl (b : Blk) : BLe b b
  | fa {sz n : Nat} {at_ at' : Nat → List FV} (h : ∀ i, i < n → All2 FVle (at_ i) (at' i)) : BLe (.fa sz n at_) (.fa sz n at')
  | vf {cells : List AV} {l : List FV} {sz n : Nat} {at' : Nat → List FV} (hl : FV.toL cells = some l) (hz : Nat.beq sz 0 = false) (hn : n ≤ l.length / sz) (h : ∀ i, i < n → All2 FVle ((l.drop (i * sz)).take sz) (at' i)) :
      BLe (.vr cells) (.fa sz n at')

def HlLe : Hl → Hl → Prop
  | [], [] => True
  | (d, g, b) :: r, (d', g', b') :: r' => (d = d' ∧ g = g') ∧ BLe b b' ∧ HlLe r r'
  | _, _ => False

theorem HlLe.refl : ∀ (hp : Hl), HlLe hp hp
  | [] => trivial
  | _ :: r => ⟨⟨rfl, rfl⟩, .refl _, HlLe.refl r⟩
theorem HlLe.get : ∀ {hp hp' : Hl}, HlLe hp hp' → ∀ d, (lookH hp d).1 = (lookH hp' d).1 ∧ BLe (lookH hp d).2 (lookH hp' d).2
  | [], [], _, d => ⟨rfl, .refl _⟩
  | (d1, g1, b1) :: r, (d2, g2, b2) :: r', ⟨⟨e1, e2⟩, hb, hr⟩, d => by
    subst e1; subst e2
    rw [lookH_cons, lookH_cons]
    simp only [updH]
    split
    · exact ⟨rfl, hb⟩
    · exact HlLe.get hr d
  | [], _ :: _, h, _ => h.elim
  | _ :: _, [], h, _ => h.elim

theorem all2_fle {S : Nat → Prop} {w : World} : ∀ {l l' : List FV}, All2 FVle l l' → ∀ (j : Nat) (x' : FV), l'[j]? = some x' → ∃ x, l[j]? = some x ∧ FVle x x'
  | [], [], _, j, x', h => by simp at h
  | x :: l, y :: l', ⟨a, b⟩, 0, x', h => by simp at h; subst h; exact ⟨x, rfl, a⟩
  | x :: l, y :: l', ⟨a, b⟩, j + 1, x', h => by simpa using all2_fle (S := S) (w := w) b j x' (by simpa using h)
  | [], _ :: _, h, _, _, _ => h.elim
  | _ :: _, [], h, _, _, _ => h.elim

theorem BLe.rel {b b' : Blk} (h : BLe b b') {S : Nat → Prop} {m : Places} {G : Nat → Nat} {w : World} {cs : Array Value} (hr : RelB S m G w b cs) : RelB S m G w b' cs := by
  cases h with
  | refl => exact hr
  | fa h =>
    refine ⟨hr.1, fun i hi => by rw [← (h i hi).length]; exact hr.2.1 i hi, fun i j x hi hx => ?_⟩
    obtain ⟨y, hy, hle⟩ := all2_fle (S := S) (w := w) (h i hi) j x hx
    obtain ⟨v, h1, h2⟩ := hr.2.2 i j y hi hy
    exact ⟨v, h1, hle S w v h2⟩
  | @vf cells l sz n at' hl hz hn h =>
    have hv : Blk.view (.vr cells) sz 0 = some (l.length / sz - 0, fun j => (l.drop ((0 + j) * sz)).take sz) := by simp [Blk.view, hl, hz]
    obtain ⟨h1, h2⟩ := view_rel hr hv
    have hlen : cells.length = cs.size := by simpa using hr.1.length
    have hll : cells.length = l.length := by rw [toL_eq hl, fL_eq]; simp
    have hmul : n * sz ≤ cs.size := by
      rw [← hlen, hll]
      exact Nat.le_trans (Nat.mul_le_mul_right sz hn) (Nat.div_mul_le_self _ _)
    refine ⟨hmul, fun i hi => ?_, fun i j x hi hx => ?_⟩
    · have := h1 i (by omega); rw [← (h i hi).length]; simpa using this
    · obtain ⟨y, hy, hle⟩ := all2_fle (S := S) (w := w) (h i hi) j x hx
      obtain ⟨v, q1, q2⟩ := h2 i j y (by omega) (by simpa using hy)
      exact ⟨v, by simpa using q1, hle S w v q2⟩

theorem BLe.kind {b b' : Blk} (h : BLe b b') : b'.live = b.live ∧ b'.own = b.own ∧ (∀ sz k at_, b' = .fz sz k at_ → b = .fz sz k at_) := by
  cases h with
  | refl => exact ⟨rfl, rfl, fun _ _ _ h => h⟩
  | fa => exact ⟨rfl, rfl, fun _ _ _ h => by cases h⟩
  | vf => exact ⟨rfl, rfl, fun _ _ _ h => by cases h⟩

section
variable {P : Program} {T : Tab} {n : Nat}

theorem hl_weak {fr : Fr} {hp hp' : Hl} (h : HlLe hp hp') : WeakL n fr hp fr hp' := by
  intro S0 pass w0 S m a w g
  have hG : (fun d => (lookH hp' d).1) = (fun d => (lookH hp d).1) := by funext d; exact (h.get d).1.symm
  refine ⟨S, m, { size := g.size, defers := g.defers, fr := fun t => ?_, hp := fun d hl => ?_, own := fun d ho h0 => ?_, frz := fun d sz k at_ hd h0 => ?_, inj := fun d d' ho ho' h0 h0' he => ?_, sin := g.sin, s0 := g.s0, s1 := g.s1, eff := g.eff }⟩
  · rw [hG]; exact g.fr t
  · obtain ⟨e, hb⟩ := h.get d
    obtain ⟨cs, q1, q2, q3⟩ := g.hp d (by rw [← hb.kind.1]; exact hl)
    refine ⟨cs, by rw [← e]; exact q1, ?_, by rw [← e]; exact q3⟩
    rw [hG]; exact hb.rel q2
  · obtain ⟨e, hb⟩ := h.get d
    rw [← e] at h0 ⊢
    exact g.own d (by rw [← hb.kind.2.1]; exact ho) h0
  · obtain ⟨e, hb⟩ := h.get d
    rw [← e] at h0 ⊢
    exact g.frz d sz k at_ (hb.kind.2.2 _ _ _ hd) h0
  · obtain ⟨e, hb⟩ := h.get d
    obtain ⟨e', hb'⟩ := h.get d'
    rw [← e] at h0; rw [← e'] at h0'; rw [← e, ← e'] at he
    exact g.inj d d' (by rw [← hb.kind.2.1]; exact ho) (by rw [← hb'.kind.2.1]; exact ho') h0 h0' he

theorem weakL_trans {fr fr1 fr2 : Fr} {hp hp1 hp2 : Hl} (h : WeakL n fr hp fr1 hp1) (k : WeakL n fr1 hp1 fr2 hp2) : WeakL n fr hp fr2 hp2 := Weak.trans h k

/-- THE RULE, the blocks' contents up to how they are written -/
theorem loop_rule2 {keep : List Nat} {c : Code} {fr : Fr} {hp : Hl} {Q : Exit → Fr → Hl → Prop} {σ : Type} (ts ks : List Nat) (mk : σ → Fr × Hl) (I : σ → Prop) (μ : σ → Nat) (s0 : σ)
    (h0 : ∃ hp', normSt ts ks fr hp = some ((mk s0).1, hp') ∧ HlLe hp' (mk s0).2) (hI : I s0)
    (hstep : ∀ s, I s → wpC P T n keep c (mk s).1 (mk s).2 fun e fr hp => match e with
      | .normal => ∃ s' hp', normSt ts ks fr hp = some ((mk s').1, hp') ∧ HlLe hp' (mk s').2 ∧ I s' ∧ μ s' < μ s
      | e => Q e fr hp) : LoopP P T keep c n (fun fr hp Q => wpC P T n keep c fr hp Q) Q fr hp := by
  have key : ∀ k s, μ s = k → I s → LoopP P T keep c n (fun fr hp Q => wpC P T n keep c fr hp Q) Q (mk s).1 (mk s).2 := by
    intro k
    induction k using Nat.strongRecOn with
    | _ k ih =>
      intro s hk hs
      refine .step (fun fr hp => ∃ s' hp', normSt ts ks fr hp = some ((mk s').1, hp') ∧ HlLe hp' (mk s').2 ∧ I s' ∧ μ s' < μ s) (wpC_mono (fun e fr hp h => ?_) (hstep s hs)) ?_
      · cases e with
        | normal => exact h
        | _ => exact ⟨_, _, Weak.refl _ _ _, h⟩
      rintro fr' hp' ⟨s', hp2, h1, h2, h3, h4⟩
      exact .weak (weakL_trans (norm_weak h1) (hl_weak h2)) (ih (μ s') (hk ▸ h4) s' rfl h3)
  obtain ⟨hp', h1, h2⟩ := h0
  exact .weak (weakL_trans (norm_weak h1) (hl_weak h2)) (key _ s0 rfl hI)

/-- a state as it is wanted -/
def Norm (ts ks : List Nat) (fr : Fr) (hp : Hl) (X : Fr → Hl → Prop) : Prop := ∃ fr' hp1 hp2, normSt ts ks fr hp = some (fr', hp1) ∧ HlLe hp1 hp2 ∧ X fr' hp2
theorem Norm.weak {ts ks : List Nat} {fr : Fr} {hp : Hl} {X : Fr → Hl → Prop} (h : Norm ts ks fr hp X) : ∃ fr' hp', WeakL n fr hp fr' hp' ∧ X fr' hp' :=
  let ⟨fr', _, hp2, h1, h2, h3⟩ := h; ⟨fr', hp2, weakL_trans (norm_weak h1) (hl_weak h2), h3⟩

/-- THE RULE, a round by itself: 'R' at the head of a round (with the measure), 'X' at the exits (with the temporaries 'tx' and sites 'kx' kept) -/
theorem loop_mod {keep : List Nat} {c : Code} {fr : Fr} {hp : Hl} {Q : Exit → Fr → Hl → Prop} (ts ks tx kx : List Nat) (R : Nat → Fr → Hl → Prop) (X : Exit → Fr → Hl → Prop)
    (h0 : ∃ k, Norm ts ks fr hp (R k))
    (hexit : ∀ e fr hp, X e fr hp → Q e fr hp)
    (hstep : ∀ k fr hp, R k fr hp → wpC P T n keep c fr hp fun e fr hp => match e with
      | .normal => ∃ k', k' < k ∧ Norm ts ks fr hp (R k')
      | e => Norm tx kx fr hp (X e)) : LoopP P T keep c n (fun fr hp Q => wpC P T n keep c fr hp Q) Q fr hp := by
  have key : ∀ k fr hp, R k fr hp → LoopP P T keep c n (fun fr hp Q => wpC P T n keep c fr hp Q) Q fr hp := by
    intro k
    induction k using Nat.strongRecOn with
    | _ k ih =>
      intro fr hp hR
      refine .step (fun fr hp => ∃ k', k' < k ∧ Norm ts ks fr hp (R k')) (wpC_mono (fun e fr hp h => ?_) (hstep k fr hp hR)) ?_
      · cases e with
        | normal => exact h
        | _ => obtain ⟨fr', hp', hw, hx⟩ := Norm.weak (n := n) h; exact ⟨fr', hp', hw, hexit _ _ _ hx⟩
      · rintro fr' hp' ⟨k', hk, h⟩
        obtain ⟨fr2, hp2, hw, hx⟩ := Norm.weak (n := n) h
        exact .weak hw (ih k' hk _ _ hx)
  obtain ⟨k, h⟩ := h0
  obtain ⟨fr2, hp2, hw, hx⟩ := Norm.weak (n := n) h
  exact .weak hw (key k _ _ hx)
end

/-- room for an append -/
theorem room_any {cap : Option Nat} {need bytes : Nat} (h : need * bytes ≤ 140737488355328) : roomA cap need bytes := by
  cases cap with
  | none => exact h
  | some c =>
    by_cases hc : need ≤ c
    · exact .inl hc
    · exact .inr (growslice_fits (by omega) h)

/-! ### Lists of limbs -/
theorem All2.one {α β : Type} {R : α → β → Prop} {a : α} {b : β} (h : R a b) : All2 R [a] [b] := ⟨h, trivial⟩
theorem BLe.set {k : IntKind} {n : Nat} {g : Nat → Nat} {i i' x : Nat} {l : List FV} (hi : i' = i) (hl : l.length = 1) : BLe (.fa 1 n (upd (fun j => [FV.int k (g j : Nat)]) i' (setD l 0 [FV.int k (x : Nat)]))) (.fa 1 n (fun j => [FV.int k ((if j = i then x else g j : Nat) : Int)])) := by
  subst hi; rw [upd_set g i' x l hl]; exact .refl _
theorem AVle.raw_of {at_ : Nat → List FV} {g : Nat → Nat} {n : Nat} {c : Option Nat} (h : ∀ j, j < n → at_ j = [.int .u32 (g j : Nat)]) : AVle (.f (.sl 1 at_ n c)) (raw g n) :=
  .f (.sl (fun i hi => by rw [h i hi]; exact .one (.refl _)) (.inl rfl))
theorem AVle.raw_ofn {at_ : Nat → List FV} {g : Nat → Nat} {n n' : Nat} {c : Option Nat} (hn : n' = n) (h : ∀ j, j < n → at_ j = [.int .u32 (g j : Nat)]) : AVle (.f (.sl 1 at_ n' c)) (raw g n) :=
  hn ▸ .raw_of (hn ▸ h)
theorem AVle.raw_set {g : Nat → Nat} {n i i' x : Nat} {l : List FV} {c : Option Nat} (hi : i' = i) (hl : l.length = 1) : AVle (.f (.sl 1 (fun j => upd (fun j => [FV.int .u32 (g j : Nat)]) i' (setD l 0 [FV.int .u32 (x : Nat)]) (0 + j)) n c)) (raw (fun j => if j = i then x else g j) n) :=
  .raw_of fun j _ => by subst hi; rw [upd_set g i' x l hl, Nat.zero_add]
theorem AVle.raw_refl {g : Nat → Nat} {n : Nat} {c : Option Nat} : AVle (.f (.sl 1 (fun j => (fun j => [FV.int .u32 (g j : Nat)]) (0 + j)) n c)) (raw g n) :=
  .raw_of fun j _ => by simp
theorem AVle.nil_nat {sz : Nat} {at_ : Nat → List FV} {c : Option Nat} : AVle (.f (.sl sz at_ 0 c)) (nat 0) := .f .nil

theorem AVle.bool_of {a b : Bool} (h : a = b) : AVle (.f (.bool a)) (.f (.bool b)) := h ▸ .refl _
theorem nval_set (g : Nat → Nat) (k x : Nat) : nval (fun j => if j = k then x else g j) (k + 1) = nval g k + x * pw k := by
  rw [nval_succ, if_pos rfl]
  congr 1
  exact nval_congr fun j hj => by rw [if_neg (by omega)]
theorem Dig_set {g : Nat → Nat} {k x n : Nat} (h : Dig g n) (hx : x < 4294967296) : Dig (fun j => if j = k then x else g j) n := by
  intro j hj
  show (if j = k then x else g j) < _
  split
  · exact hx
  · exact h j hj
theorem Dig_set1 {g : Nat → Nat} {k x : Nat} (h : Dig g k) (hx : x < 4294967296) : Dig (fun j => if j = k then x else g j) (k + 1) := by
  intro j hj
  show (if j = k then x else g j) < _
  split
  · exact hx
  · exact h j (by omega)

end Go.Abs
