/- What is to be shown of a body, as a proposition that can be run (conv => whnf). -/
import Derived.Test.YtmlhfccpnehaeaaAbsF
set_option autoImplicit false
set_option linter.unusedVariables false
set_option linter.unusedSimpArgs false
namespace Go.Abs

abbrev Fr := List (Nat × AV)
abbrev Hl := List (Nat × Nat × Blk)

def lookDc (u : Nat) (x : Nat × AV) (_ : Fr) (ih : AV) : AV := bif Nat.beq x.1 u then x.2 else ih
noncomputable def lookD (fr : Fr) (u : Nat) : AV := List.rec (motive := fun _ => AV) .top (lookDc u) fr
def lookHc (u : Nat) (x : Nat × Nat × Blk) (_ : Hl) (ih : Nat × Blk) : Nat × Blk := bif Nat.beq x.1 u then x.2 else ih
noncomputable def lookH (hp : Hl) (u : Nat) : Nat × Blk := List.rec (motive := fun _ => Nat × Blk) (0, .dead) (lookHc u) hp
theorem lookD_nil (u : Nat) : lookD [] u = .top := rfl
theorem lookD_c (t : Nat) (v : AV) (r : Fr) (u : Nat) : lookD ((t, v) :: r) u = bif Nat.beq t u then v else lookD r u := rfl
theorem lookH_c (d g : Nat) (b : Blk) (r : Hl) (u : Nat) : lookH ((d, g, b) :: r) u = bif Nat.beq d u then (g, b) else lookH r u := rfl
def pushF (fr : Fr) : Option Nat → AV → Fr
  | none, _ => fr
  | some d, v => (d, v) :: fr
def pushH : Hl → List (Nat × Nat × Blk) → Hl
  | hp, [] => hp
  | hp, x :: r => pushH (x :: hp) r

theorem beq_self (n : Nat) : Nat.beq n n = true := by simp
theorem lookD_cons (t : Nat) (v : AV) (fr : Fr) : lookD ((t, v) :: fr) = putF (lookD fr) (some t) v := by
  funext u
  simp only [lookD_c, putF]
  by_cases h : u = t
  · subst h; simp
  · have : Nat.beq t u = false := by
      cases hb : Nat.beq t u with
      | true => exact absurd (Nat.eq_of_beq_eq_true hb).symm h
      | false => rfl
    simp only [this, cond_false, if_neg h]
theorem lookD_push (fr : Fr) (d : Option Nat) (v : AV) : lookD (pushF fr d v) = putF (lookD fr) d v := by
  cases d with
  | none => rfl
  | some d => exact lookD_cons d v fr
theorem lookH_cons (d g : Nat) (b : Blk) (hp : Hl) : lookH ((d, g, b) :: hp) = updH (lookH hp) d g b := by
  funext u
  simp only [lookH_c, updH]
  by_cases h : u = d
  · subst h; simp
  · have : Nat.beq d u = false := by
      cases hb : Nat.beq d u with
      | true => exact absurd (Nat.eq_of_beq_eq_true hb).symm h
      | false => rfl
    simp only [this, cond_false, if_neg h]
theorem lookH_push : ∀ (δ : List (Nat × Nat × Blk)) (hp : Hl), lookH (pushH hp δ) = updHs (lookH hp) δ
  | [], _ => rfl
  | (d, g, b) :: r, hp => by simp only [pushH, updHs]; rw [lookH_push r, lookH_cons]

/-! ### Values made plain -/
mutual
def forceF : FV → (FV → Prop) → Prop
  | .ptr cells, k => forceFL cells fun cs => k (.ptr cs)
  | .sl sz at_ len none, k => k (.sl sz at_ len none)
  | .sl sz at_ len (some c), k => k (.sl sz at_ len (some c))
  | .any, k => k .any
  | .int kd n, k => k (.int kd n)
  | .bool b, k => k (.bool b)
  | .str s, k => k (.str s)
def forceFL : List FV → (List FV → Prop) → Prop
  | [], k => k []
  | x :: r, k => forceF x fun x => forceFL r fun r => k (x :: r)
end
mutual
def forceA : AV → (AV → Prop) → Prop
  | .top, k => k .top
  | .f x, k => forceF x fun x => k (.f x)
  | .lsl d g sz i len none, k => k (.lsl d g sz i len none)
  | .lsl d g sz i len (some c), k => k (.lsl d g sz i len (some c))
  | .lptr d g sz i sub, k => k (.lptr d g sz i sub)
  | .agg cs, k => forceL cs fun cs => k (.agg cs)
  | .tup vs, k => forceL vs fun vs => k (.tup vs)
def forceL : List AV → (List AV → Prop) → Prop
  | [], k => k []
  | x :: r, k => forceA x fun x => forceL r fun r => k (x :: r)
end
def forceB : Blk → (Blk → Prop) → Prop
  | .dead, k => k .dead
  | .vr cells, k => forceL cells fun cs => k (.vr cs)
  | .fa sz n at_, k => k (.fa sz n at_)
  | .fz sz n at_, k => k (.fz sz n at_)
def forceG : Nat → (Nat → Prop) → Prop
  | 0, k => k 0
  | n + 1, k => forceG n fun n => k (n + 1)
def forceD : List (Nat × Nat × Blk) → (List (Nat × Nat × Blk) → Prop) → Prop
  | [], k => k []
  | (d, g, b) :: r, k => forceG g fun g => forceB b fun b => forceD r fun r => k ((d, g, b) :: r)
def forceN : List Nat → (List Nat → Prop) → Prop
  | [], k => k []
  | x :: r, k => forceN r fun r => k (x :: r)

mutual
theorem forceF_eq : ∀ (x : FV) (k : FV → Prop), forceF x k = k x
  | .ptr cells, k => by simp only [forceF, forceFL_eq cells]
  | .sl sz at_ len none, k => by simp only [forceF]
  | .sl sz at_ len (some c), k => by simp only [forceF]
  | .any, k => by simp only [forceF]
  | .int kd n, k => by simp only [forceF]
  | .bool b, k => by simp only [forceF]
  | .str s, k => by simp only [forceF]
theorem forceFL_eq : ∀ (l : List FV) (k : List FV → Prop), forceFL l k = k l
  | [], k => by simp only [forceFL]
  | x :: r, k => by simp only [forceFL, forceF_eq x, forceFL_eq r]
end
mutual
theorem forceA_eq : ∀ (x : AV) (k : AV → Prop), forceA x k = k x
  | .top, k => by simp only [forceA]
  | .f x, k => by simp only [forceA, forceF_eq x]
  | .lsl d g sz i len none, k => by simp only [forceA]
  | .lsl d g sz i len (some c), k => by simp only [forceA]
  | .lptr d g sz i sub, k => by simp only [forceA]
  | .agg cs, k => by simp only [forceA, forceL_eq cs]
  | .tup vs, k => by simp only [forceA, forceL_eq vs]
theorem forceL_eq : ∀ (l : List AV) (k : List AV → Prop), forceL l k = k l
  | [], k => by simp only [forceL]
  | x :: r, k => by simp only [forceL, forceA_eq x, forceL_eq r]
end
theorem forceB_eq (b : Blk) (k : Blk → Prop) : forceB b k = k b := by cases b <;> simp only [forceB, forceL_eq]
theorem forceG_eq : ∀ (n : Nat) (k : Nat → Prop), forceG n k = k n
  | 0, k => by simp only [forceG]
  | n + 1, k => by simp only [forceG, forceG_eq n]
theorem forceD_eq : ∀ (l : List (Nat × Nat × Blk)) (k : List (Nat × Nat × Blk) → Prop), forceD l k = k l
  | [], k => by simp only [forceD]
  | (d, g, b) :: r, k => by simp only [forceD, forceG_eq, forceB_eq, forceD_eq r]
theorem forceN_eq : ∀ (l : List Nat) (k : List Nat → Prop), forceN l k = k l
  | [], k => by simp only [forceN]
  | x :: r, k => by simp only [forceN, forceN_eq r]

/-! ### Where the run stops -/

/-- a test -/
@[reducible] def Spl (b : Bool) (F : Bool → Prop) : Prop := Bool.rec (motive := fun _ => Prop) (F false) (F true) b
/-- a sum: as it is, or wrapped -/
inductive Ari (k : IntKind) (e : Int) (K : Int → Prop) : Prop
  | fit (h1 : k.min ≤ e) (h2 : e ≤ k.max) (h : K e)
  | wrap (h : K (k.wrap e))
/-- a number that is computed by bits or by division: in a form of one's own -/
inductive LetI (e : Int) (K : Int → Prop) : Prop
  | as (v : Int) (h : e = v) (hk : K v)
theorem LetI.elim {e : Int} {K : Int → Prop} (h : LetI e K) : K e := by cases h with | as v h hk => rw [h]; exact hk
/-- a call -/
inductive CallP (P : Program) (f : FuncId) (xs : List AV) (δ : List (Nat × Nat × Blk)) (c : Prop) (K : AV → List (Nat × Nat × Blk) → Prop) : Prop
  | F (r : AV) (hc : c) (h : ACall P f xs r) (hr : r.noLoc = true) (hk : K r δ)
  | B (r : AV) (hc : c) (h : ACall P f xs r) (hr : r.scalar = true) (hk : K r [])

theorem Spl.intro {b : Bool} {F : Bool → Prop} (h1 : b = true → F true) (h2 : b = false → F false) : Spl b F := by
  cases b <;> first | exact h2 rfl | exact h1 rfl
theorem Spl.elim {b : Bool} {F : Bool → Prop} (h : Spl b F) : F b := by cases b <;> exact h
theorem spl {b : Bool} {A B : Prop} (h1 : b = true → A) (h2 : b = false → B) : Bool.rec (motive := fun _ => Prop) B A b := by
  cases b <;> first | exact h2 rfl | exact h1 rfl
theorem splT {b : Bool} {A B : Prop} (hb : b = true) (h1 : A) : Bool.rec (motive := fun _ => Prop) B A b := by subst hb; exact h1
theorem splF {b : Bool} {A B : Prop} (hb : b = false) (h2 : B) : Bool.rec (motive := fun _ => Prop) B A b := by subst hb; exact h2

def outK : OpOut → (AV → List (Nat × Nat × Blk) → Prop) → Prop
  | .bad, _ => False
  | .ok v δ, K => forceA v fun v => forceD δ fun δ => K v δ
  | .chk c v δ, K => c ∧ forceA v fun v => forceD δ fun δ => K v δ
  | .ari k e, K => Ari k e fun z => K (.f (.int k z)) []

def letK (o : Op) (K : AV → List (Nat × Nat × Blk) → Prop) (v : AV) (δ : List (Nat × Nat × Blk)) : Prop :=
  match o, v with
  | .binOp .shl .., .f (.int k z) => LetI z fun z => K (.f (.int k z)) δ
  | .binOp .shr .., .f (.int k z) => LetI z fun z => K (.f (.int k z)) δ
  | .binOp .quo .., .f (.int k z) => LetI z fun z => K (.f (.int k z)) δ
  | .binOp .rem .., .f (.int k z) => LetI z fun z => K (.f (.int k z)) δ
  | .binOp .and .., .f (.int k z) => LetI z fun z => K (.f (.int k z)) δ
  | .binOp .or .., .f (.int k z) => LetI z fun z => K (.f (.int k z)) δ
  | .binOp .xor .., .f (.int k z) => LetI z fun z => K (.f (.int k z)) δ
  | .binOp .andNot .., .f (.int k z) => LetI z fun z => K (.f (.int k z)) δ
  | _, v => K v δ
theorem letK_eq {o : Op} {K : AV → List (Nat × Nat × Blk) → Prop} {v : AV} {δ : List (Nat × Nat × Blk)} (h : letK o K v δ) : K v δ := by
  unfold letK at h
  split at h <;> first | exact h | exact LetI.elim h

noncomputable def opK (P : Program) (T : Tab) (o : Oper) (fr : Fr) (hp : Hl) (K : AV → List (Nat × Nat × Blk) → Prop) : Prop :=
  match o.op with
  | .call { callee := .value (.func f), args, argTypes } => match snapL (lookH hp) (evArgs T (lookD fr) args.toList argTypes.toList) with
    | some (xs, δ, c) => forceL xs fun xs => forceD δ fun δ => CallP P f xs δ c K
    | none => False
  | _ => outK (opv T o (lookD fr) (lookH hp)) (letK o.op K)

def isGuardc (j : Nat) (o : Oper) (_ : List Oper) (ih : Bool) : Bool :=
  match o.guard with
  | some x => bif Nat.beq x.1 j then true else ih
  | none => ih
noncomputable def isGuard (l : List Oper) (j : Nat) : Bool := List.rec (motive := fun _ => Bool) false (isGuardc j) l

def opsKn (K : Fr → Hl → Prop) (_ : Nat) (fr : Fr) (hp : Hl) : Prop := K fr hp
/-- behind an operation that gave 'v' -/
noncomputable def opsKr (r : List Oper) (o : Oper) (j : Nat) (fr : Fr) (hp : Hl) (ih : Nat → Fr → Hl → Prop) (v : AV) (δ : List (Nat × Nat × Blk)) : Prop :=
  bif isGuard r j then (match v with
    | .f (.bool b) => Spl b fun b => ih (j + 1) (pushF fr o.dst (.f (.bool b))) (pushH hp δ)
    | _ => False)
  else ih (j + 1) (pushF fr o.dst v) (pushH hp δ)
noncomputable def opsKc (P : Program) (T : Tab) (n : Nat) (all : List Oper) (o : Oper) (r : List Oper) (ih : Nat → Fr → Hl → Prop) (j : Nat) (fr : Fr) (hp : Hl) : Prop :=
  match dstOk n o.dst, guardV all o (lookD fr) with
  | true, some true => opK P T o fr hp (opsKr r o j fr hp ih)
  | true, some false => ih (j + 1) (pushF fr o.dst (.tup [])) hp
  | _, _ => False
noncomputable def opsK (P : Program) (T : Tab) (n : Nat) (all : List Oper) (j : Nat) (r : List Oper) (fr : Fr) (hp : Hl) (K : Fr → Hl → Prop) : Prop :=
  List.rec (motive := fun _ => Nat → Fr → Hl → Prop) (opsKn K) (opsKc P T n all) r j fr hp
theorem opsK_nil {P : Program} {T : Tab} {n : Nat} {all : List Oper} {j : Nat} {fr : Fr} {hp : Hl} {K : Fr → Hl → Prop} : opsK P T n all j [] fr hp K = K fr hp := rfl
theorem opsK_cons {P : Program} {T : Tab} {n : Nat} {all : List Oper} {j : Nat} {o : Oper} {r : List Oper} {fr : Fr} {hp : Hl} {K : Fr → Hl → Prop} : opsK P T n all j (o :: r) fr hp K =
    (match dstOk n o.dst, guardV all o (lookD fr) with
    | true, some true => opK P T o fr hp fun v δ =>
      bif isGuard r j then (match v with
        | .f (.bool b) => Spl b fun b => opsK P T n all (j + 1) r (pushF fr o.dst (.f (.bool b))) (pushH hp δ) K
        | _ => False)
      else opsK P T n all (j + 1) r (pushF fr o.dst v) (pushH hp δ) K
    | true, some false => opsK P T n all (j + 1) r (pushF fr o.dst (.tup [])) hp K
    | _, _ => False) := rfl

def opsDn (all : List Oper) (K : Fr → Hl → Prop) (_ : Nat) (items : List It) (fr : Fr) (hp : Hl) : Prop := drawOk all items.reverse = true ∧ K fr hp
noncomputable def opsDw (r : List Oper) (o : Oper) (j : Nat) (fr : Fr) (hp : Hl) (items : List It) (ih : Nat → List It → Fr → Hl → Prop) (R : List Nat) (v : AV) (δ : List (Nat × Nat × Blk)) (W : List Nat) : Prop :=
  bif isGuard r j then (match v with
    | .f (.bool b) => Spl b fun b => ih (j + 1) ((j, R, W) :: items) (pushF fr o.dst (.f (.bool b))) (pushH hp δ)
    | _ => False)
  else ih (j + 1) ((j, R, W) :: items) (pushF fr o.dst v) (pushH hp δ)
noncomputable def opsDr (r : List Oper) (o : Oper) (j : Nat) (fr : Fr) (hp : Hl) (items : List It) (ih : Nat → List It → Fr → Hl → Prop) (R : List Nat) (v : AV) (δ : List (Nat × Nat × Blk)) : Prop :=
  forceN (keysOf δ) (opsDw r o j fr hp items ih R v δ)
noncomputable def opsDp (P : Program) (T : Tab) (r : List Oper) (o : Oper) (j : Nat) (fr : Fr) (hp : Hl) (items : List It) (ih : Nat → List It → Fr → Hl → Prop) (R : List Nat) : Prop :=
  opK P T o fr hp (opsDr r o j fr hp items ih R)
noncomputable def opsDc (P : Program) (T : Tab) (n : Nat) (all : List Oper) (o : Oper) (r : List Oper) (ih : Nat → List It → Fr → Hl → Prop) (j : Nat) (items : List It) (fr : Fr) (hp : Hl) : Prop :=
  match dstOk n o.dst, guardV all o (lookD fr) with
  | true, some true => forceN (fpR T o (lookD fr)) (opsDp P T r o j fr hp items ih)
  | true, some false => ih (j + 1) ((j, [], []) :: items) (pushF fr o.dst (.tup [])) hp
  | _, _ => False
noncomputable def opsD (P : Program) (T : Tab) (n : Nat) (all : List Oper) (j : Nat) (r : List Oper) (items : List It) (fr : Fr) (hp : Hl) (K : Fr → Hl → Prop) : Prop :=
  List.rec (motive := fun _ => Nat → List It → Fr → Hl → Prop) (opsDn all K) (opsDc P T n all) r j items fr hp
theorem opsD_nil {P : Program} {T : Tab} {n : Nat} {all : List Oper} {j : Nat} {items : List It} {fr : Fr} {hp : Hl} {K : Fr → Hl → Prop} : opsD P T n all j [] items fr hp K = (drawOk all items.reverse = true ∧ K fr hp) := rfl
theorem opsD_cons {P : Program} {T : Tab} {n : Nat} {all : List Oper} {j : Nat} {o : Oper} {r : List Oper} {items : List It} {fr : Fr} {hp : Hl} {K : Fr → Hl → Prop} : opsD P T n all j (o :: r) items fr hp K =
    (match dstOk n o.dst, guardV all o (lookD fr) with
    | true, some true => forceN (fpR T o (lookD fr)) fun R => opK P T o fr hp fun v δ => forceN (keysOf δ) fun W =>
      bif isGuard r j then (match v with
        | .f (.bool b) => Spl b fun b => opsD P T n all (j + 1) r ((j, R, W) :: items) (pushF fr o.dst (.f (.bool b))) (pushH hp δ) K
        | _ => False)
      else opsD P T n all (j + 1) r ((j, R, W) :: items) (pushF fr o.dst v) (pushH hp δ) K
    | true, some false => opsD P T n all (j + 1) r ((j, [], []) :: items) (pushF fr o.dst (.tup [])) hp K
    | _, _ => False) := rfl

/-- the temporaries that are kept behind a region -/
def keepKv (t : Nat) (ih : Fr → Prop) (acc : Fr) (v : AV) : Prop :=
  match v with
  | .top => ih acc
  | v => ih ((t, v) :: acc)
noncomputable def keepKc (fr : Fr) (t : Nat) (_ : List Nat) (ih : Fr → Prop) (acc : Fr) : Prop := forceA (lookD fr t) (keepKv t ih acc)
def keepKn (k : Fr → Prop) (acc : Fr) : Prop := k acc.reverse
noncomputable def keepK (ts : List Nat) (fr : Fr) (acc : Fr) (k : Fr → Prop) : Prop :=
  List.rec (motive := fun _ => Fr → Prop) (keepKn k) (keepKc fr) ts acc
theorem keepK_nil {fr acc : Fr} {k : Fr → Prop} : keepK [] fr acc k = k acc.reverse := rfl
theorem keepK_cons {t : Nat} {r : List Nat} {fr acc : Fr} {k : Fr → Prop} : keepK (t :: r) fr acc k = forceA (lookD fr t) fun v => match v with
    | .top => keepK r fr acc k
    | v => keepK r fr ((t, v) :: acc) k := rfl

def WeakL (n : Nat) (fr : Fr) (hp : Hl) (fr' : Fr) (hp' : Hl) : Prop := Weak n (lookD fr) (lookH hp) (lookD fr') (lookH hp')

/-- a loop: round after round -/
inductive LoopP (P : Program) (T : Tab) (keep : List Nat) (c : Code) (n : Nat) (body : Fr → Hl → (Exit → Fr → Hl → Prop) → Prop) (Q : Exit → Fr → Hl → Prop) : Fr → Hl → Prop
  | step {fr : Fr} {hp : Hl} (N : Fr → Hl → Prop) (h : body fr hp fun e fr' hp' => match e with
      | .normal => N fr' hp'
      | e => ∃ fr2 hp2, WeakL n fr' hp' fr2 hp2 ∧ Q e fr2 hp2) (hn : ∀ fr' hp', N fr' hp' → LoopP P T keep c n body Q fr' hp') : LoopP P T keep c n body Q fr hp
  | weak {fr fr' : Fr} {hp hp' : Hl} (hw : WeakL n fr hp fr' hp') (h : LoopP P T keep c n body Q fr' hp') : LoopP P T keep c n body Q fr hp

abbrev Post := Exit → Fr → Hl → Prop
def wSkip (fr : Fr) (hp : Hl) (Q : Post) : Prop := Q .normal fr hp
def wEnd (Q : Post) (fr : Fr) (hp : Hl) : Prop := Q .normal fr hp
def wKept (Q : Post) (hp : Hl) (fr : Fr) : Prop := forceD hp (wEnd Q fr)
noncomputable def wKeep (keep : List Nat) (Q : Post) (fr : Fr) (hp : Hl) : Prop := keepK keep fr [] (wKept Q hp)
noncomputable def wRegion (P : Program) (T : Tab) (n : Nat) (keep : List Nat) (_ : Nat) (ops : Array Oper) (draw : Bool) (fr : Fr) (hp : Hl) (Q : Post) : Prop :=
  match draw with
  | false => opsK P T n ops.toList 0 ops.toList fr hp (wKeep keep Q)
  | true => opsD P T n ops.toList 0 ops.toList [] fr hp (wKeep keep Q)
def wSeqQ (b : Fr → Hl → Post → Prop) (Q : Post) (e : Exit) (fr : Fr) (hp : Hl) : Prop :=
  match e with
  | .normal => b fr hp Q
  | e => Q e fr hp
def wSeq (_ _ : Code) (a b : Fr → Hl → Post → Prop) (fr : Fr) (hp : Hl) (Q : Post) : Prop := a fr hp (wSeqQ b Q)
def wIf (a b : Fr → Hl → Post → Prop) (fr : Fr) (hp : Hl) (Q : Post) (t : Bool) : Prop :=
  match t with
  | true => a fr hp Q
  | false => b fr hp Q
def wCond (c : Operand) (_ _ : Code) (a b : Fr → Hl → Post → Prop) (fr : Fr) (hp : Hl) (Q : Post) : Prop :=
  match evA (lookD fr) c with
  | .f (.bool t) => Spl t (wIf a b fr hp Q)
  | _ => False
def wBlockQ (id : Nat) (Q : Post) (e : Exit) (fr : Fr) (hp : Hl) : Prop :=
  match e with
  | .exit i => bif Nat.beq i id then Q .normal fr hp else Q (.exit i) fr hp
  | e => Q e fr hp
def wBlock (id : Nat) (_ : Code) (a : Fr → Hl → Post → Prop) (fr : Fr) (hp : Hl) (Q : Post) : Prop := a fr hp (wBlockQ id Q)
def wLoop (P : Program) (T : Tab) (n : Nat) (keep : List Nat) (c : Code) (a : Fr → Hl → Post → Prop) (fr : Fr) (hp : Hl) (Q : Post) : Prop := LoopP P T keep c n a Q fr hp
def wExit (id : Nat) (fr : Fr) (hp : Hl) (Q : Post) : Prop := Q (.exit id) fr hp
def wRet (fr : Fr) (hp : Hl) (Q : Post) : Prop := Q .ret fr hp
def wNo (_ : Fr) (_ : Hl) (_ : Post) : Prop := False
noncomputable def wpC (P : Program) (T : Tab) (n : Nat) (keep : List Nat) (c : Code) : Fr → Hl → Post → Prop :=
  Code.rec (motive := fun _ => Fr → Hl → Post → Prop)
    (skip := wSkip) (region := wRegion P T n keep) (seq := wSeq) (cond := wCond) (block := wBlock) (loop := wLoop P T n keep)
    (rangeFunc := fun _ _ _ _ _ _ => wNo) (exit := wExit) (scope := fun _ _ => wNo) (label := fun _ => wNo) (goto := fun _ => wNo) (ret := wRet) (refuse := fun _ => wNo) c

section
variable {P : Program} {T : Tab} {n : Nat} {keep : List Nat} {fr : Fr} {hp : Hl} {Q : Post}
theorem wpC_region {id : Nat} {ops : Array Oper} {draw : Bool} : wpC P T n keep (.region id ops draw) fr hp Q = (match draw with
      | false => opsK P T n ops.toList 0 ops.toList fr hp fun fr hp => keepK keep fr [] fun fr => forceD hp fun hp => Q .normal fr hp
      | true => opsD P T n ops.toList 0 ops.toList [] fr hp fun fr hp => keepK keep fr [] fun fr => forceD hp fun hp => Q .normal fr hp) := rfl
theorem wpC_seq {a b : Code} : wpC P T n keep (.seq a b) fr hp Q = wpC P T n keep a fr hp fun e fr hp => match e with
      | .normal => wpC P T n keep b fr hp Q
      | e => Q e fr hp := rfl
theorem wpC_cond {c : Operand} {a b : Code} : wpC P T n keep (.cond c a b) fr hp Q = (match evA (lookD fr) c with
      | .f (.bool t) => Spl t fun t => match t with
        | true => wpC P T n keep a fr hp Q
        | false => wpC P T n keep b fr hp Q
      | _ => False) := rfl
theorem wpC_block {id : Nat} {a : Code} : wpC P T n keep (.block id a) fr hp Q = wpC P T n keep a fr hp fun e fr hp => match e with
      | .exit i => bif Nat.beq i id then Q .normal fr hp else Q (.exit i) fr hp
      | e => Q e fr hp := rfl
theorem wpC_loop {a : Code} : wpC P T n keep (.loop a) fr hp Q = LoopP P T keep a n (fun fr hp Q => wpC P T n keep a fr hp Q) Q fr hp := rfl
end

/-! ### It is sound -/
section
variable {P : Program} {T : Tab} {n : Nat}

theorem outK_spec {out : OpOut} {K : AV → List (Nat × Nat × Blk) → Prop} (h : outK out K) : ∃ v δ, out.gives v δ ∧ K v δ := by
  cases out with
  | bad => exact h.elim
  | ok v δ => simp only [outK, forceA_eq, forceD_eq] at h; exact ⟨v, δ, ⟨rfl, rfl⟩, h⟩
  | chk c v δ => simp only [outK, forceA_eq, forceD_eq] at h; exact ⟨v, δ, ⟨h.1, rfl, rfl⟩, h.2⟩
  | ari k e =>
    simp only [outK] at h
    cases h with
    | fit h1 h2 h => exact ⟨_, _, ⟨e, rfl, rfl, .inl ⟨h1, h2, rfl⟩⟩, h⟩
    | wrap h => exact ⟨_, _, ⟨k.wrap e, rfl, rfl, .inr rfl⟩, h⟩

theorem opK_spec {o : Oper} {fr : Fr} {hp : Hl} {K : AV → List (Nat × Nat × Blk) → Prop} (h : opK P T o fr hp K) : ∃ v δ, AOp P T o (lookD fr) (lookH hp) v δ ∧ K v δ := by
  unfold opK at h
  split at h
  · rename_i f args tys ho
    split at h
    · rename_i xs δ c hs
      simp only [forceL_eq, forceD_eq] at h
      cases h with
      | F r hc hcall hr hk => exact ⟨r, δ, .callF ho hs hc hcall hr, hk⟩
      | B r hc hcall hr hk => exact ⟨r, [], .callB (δ := δ) ho hs hc hcall hr, hk⟩
    · exact h.elim
  · obtain ⟨v, δ, h1, h2⟩ := outK_spec h
    exact ⟨v, δ, .op h1, letK_eq h2⟩

theorem opsK_spec {all : List Oper} : ∀ {r : List Oper} {j : Nat} {fr : Fr} {hp : Hl} {K : Fr → Hl → Prop}, (∀ i, r[i]? = all[j + i]?) → opsK P T n all j r fr hp K →
    ∃ fr' hp', ASteps P T n all (List.range' j r.length) (lookD fr) (lookH hp) (lookD fr') (lookH hp') ∧ K fr' hp'
  | [], j, fr, hp, K, _, h => ⟨fr, hp, .nil, h⟩
  | o :: r, j, fr, hp, K, hr, h => by
    have ho : all[j]? = some o := by simpa using (hr 0).symm
    have hr' : ∀ i, r[i]? = all[j + 1 + i]? := fun i => by have := hr (i + 1); rw [show j + 1 + i = j + (i + 1) by omega]; simpa using this
    simp only [opsK_cons] at h
    split at h
    · rename_i hd hg
      obtain ⟨v, δ, h1, h2⟩ := opK_spec h
      have key : opsK P T n all (j + 1) r (pushF fr o.dst v) (pushH hp δ) K := by
        cases hgd : isGuard r j with
        | false => simpa [hgd] using h2
        | true =>
          simp only [hgd, cond_true] at h2
          split at h2
          · exact Spl.elim h2
          · exact h2.elim
      obtain ⟨fr', hp', h3, h4⟩ := opsK_spec hr' key
      rw [lookD_push, lookH_push] at h3
      exact ⟨fr', hp', .cons ho (.run hg hd h1) h3, h4⟩
    · rename_i hd hg
      obtain ⟨fr', hp', h3, h4⟩ := opsK_spec hr' h
      rw [lookD_push] at h3
      exact ⟨fr', hp', .cons ho (.skip hg hd) h3, h4⟩
    · exact h.elim

theorem opsD_spec {all : List Oper} : ∀ {r : List Oper} {j : Nat} {items : List It} {fr : Fr} {hp : Hl} {K : Fr → Hl → Prop}, (∀ i, r[i]? = all[j + i]?) → opsD P T n all j r items fr hp K →
    ∃ its fr' hp', FSteps P T n all its (lookD fr) (lookH hp) (lookD fr') (lookH hp') ∧ its.map (·.1) = List.range' j r.length ∧ drawOk all (items.reverse ++ its) = true ∧ K fr' hp'
  | [], j, items, fr, hp, K, _, h => ⟨[], fr, hp, .nil, rfl, by simpa using h.1, h.2⟩
  | o :: r, j, items, fr, hp, K, hr, h => by
    have ho : all[j]? = some o := by simpa using (hr 0).symm
    have hr' : ∀ i, r[i]? = all[j + 1 + i]? := fun i => by have := hr (i + 1); rw [show j + 1 + i = j + (i + 1) by omega]; simpa using this
    simp only [opsD_cons] at h
    split at h
    · rename_i hd hg
      rw [forceN_eq] at h
      obtain ⟨v, δ, h1, h2⟩ := opK_spec h
      rw [forceN_eq] at h2
      have key : opsD P T n all (j + 1) r ((j, fpR T o (lookD fr), keysOf δ) :: items) (pushF fr o.dst v) (pushH hp δ) K := by
        cases hgd : isGuard r j with
        | false => simpa [hgd] using h2
        | true =>
          simp only [hgd, cond_true] at h2
          split at h2
          · exact Spl.elim h2
          · exact h2.elim
      obtain ⟨its, fr', hp', h3, h4, h5, h6⟩ := opsD_spec hr' key
      rw [lookD_push, lookH_push] at h3
      exact ⟨_, fr', hp', .cons ho (.run hg hd h1) h3, by simp [h4, List.range'_succ], by simpa using h5, h6⟩
    · rename_i hd hg
      obtain ⟨its, fr', hp', h3, h4, h5, h6⟩ := opsD_spec hr' h
      rw [lookD_push] at h3
      exact ⟨_, fr', hp', .cons ho (.skip hg hd) h3, by simp [h4, List.range'_succ], by simpa using h5, h6⟩
    · exact h.elim

theorem Weak.refl (n : Nat) (F : Nat → AV) (H : Hp) : Weak n F H F H := fun _ _ _ S m _ _ g => ⟨S, m, g⟩
theorem Weak.trans {F1 F2 F3 : Nat → AV} {H1 H2 H3 : Hp} (h : Weak n F1 H1 F2 H2) (k : Weak n F2 H2 F3 H3) : Weak n F1 H1 F3 H3 :=
  fun _ _ _ _ _ _ _ g => let ⟨_, _, g1⟩ := h _ _ _ _ _ _ _ g; k _ _ _ _ _ _ _ g1

/-- forgetting temporaries -/
theorem weak_frame {F F' : Nat → AV} {H : Hp} (h : ∀ t, F' t = F t ∨ F' t = .top) : Weak n F H F' H := by
  intro S0 pass w0 S m a w g
  exact ⟨S, m, { g with fr := fun t => by rcases h t with e | e <;> rw [e] <;> first | exact g.fr t | exact .top }⟩

theorem keepK_spec {fr : Fr} : ∀ {keep : List Nat} {acc : Fr} {k : Fr → Prop}, (∀ t, lookD acc.reverse t = lookD fr t ∨ lookD acc.reverse t = .top) → keepK keep fr acc k → ∃ fr', (∀ t, lookD fr' t = lookD fr t ∨ lookD fr' t = .top) ∧ k fr'
  | [], acc, k, ha, h => ⟨acc.reverse, ha, h⟩
  | t :: r, acc, k, ha, h => by
    have app : ∀ (l : Fr) (v : AV) (u : Nat), lookD (l ++ [(t, v)]) u = if (∃ x ∈ l, x.1 = u) then lookD l u else (if u = t then v else .top) := by
      intro l v u
      induction l with
      | nil => simp only [List.nil_append, lookD_cons, putF]; simp [lookD]
      | cons x l ih =>
        obtain ⟨d, y⟩ := x
        simp only [List.cons_append, lookD_cons, putF]
        by_cases hu : u = d
        · subst hu; simp
        · simp only [if_neg hu, ih, List.mem_cons, exists_eq_or_imp]
          have : ¬ d = u := fun e => hu e.symm
          simp only [this, false_or]
    have hnew : ∀ v, v = lookD fr t → ∀ u, lookD ((t, v) :: acc).reverse u = lookD fr u ∨ lookD ((t, v) :: acc).reverse u = .top := by
      intro v hv u
      rw [List.reverse_cons, app]
      split
      · exact ha u
      · split
        · rename_i h; rw [hv, h]; exact .inl rfl
        · exact .inr rfl
    simp only [keepK_cons, forceA_eq] at h
    split at h
    · exact keepK_spec ha h
    · exact keepK_spec (hnew _ rfl) h

theorem wpC_sound {keep : List Nat} : ∀ {c : Code} {fr : Fr} {hp : Hl} {Q : Exit → Fr → Hl → Prop}, wpC P T n keep c fr hp Q → ∃ e fr' hp', AExec P T n c (lookD fr) (lookH hp) e (lookD fr') (lookH hp') ∧ Q e fr' hp' := by
  intro c
  induction c with
  | skip => intro fr hp Q h; exact ⟨_, fr, hp, .skip, h⟩
  | region id ops draw =>
    intro fr hp Q h
    cases draw with
    | false =>
      obtain ⟨fr1, hp1, h1, h2⟩ := opsK_spec (all := ops.toList) (r := ops.toList) (j := 0) (fun i => by simp) h
      obtain ⟨fr2, h3, h4⟩ := keepK_spec (acc := []) (by intro t; exact .inr rfl) h2
      replace h4 : forceD hp1 (wEnd Q fr2) := h4
      rw [forceD_eq] at h4
      rw [← List.range_eq_range'] at h1
      exact ⟨_, fr2, hp1, .weakO (.region h1) (weak_frame h3), h4⟩
    | true =>
      obtain ⟨its, fr1, hp1, h1, h2, h3, h4⟩ := opsD_spec (all := ops.toList) (r := ops.toList) (j := 0) (fun i => by simp) h
      obtain ⟨fr2, h5, h6⟩ := keepK_spec (acc := []) (by intro t; exact .inr rfl) h4
      replace h6 : forceD hp1 (wEnd Q fr2) := h6
      rw [forceD_eq] at h6
      rw [← List.range_eq_range'] at h2
      exact ⟨_, fr2, hp1, .weakO (.draw (by simpa using h3) h2 h1) (weak_frame h5), h6⟩
  | seq a b iha ihb =>
    intro fr hp Q h
    obtain ⟨e, fr1, hp1, h1, h2⟩ := iha h
    cases e with
    | normal =>
      obtain ⟨e2, fr2, hp2, h3, h4⟩ := ihb h2
      exact ⟨e2, fr2, hp2, .seq h1 h3, h4⟩
    | _ => exact ⟨_, fr1, hp1, .seqE h1 (by simp), h2⟩
  | cond c a b iha ihb =>
    intro fr hp Q h
    rw [wpC_cond] at h
    split at h
    · rename_i t ht
      have h := Spl.elim h
      cases t with
      | true => obtain ⟨e, fr1, hp1, h1, h2⟩ := iha h; exact ⟨e, fr1, hp1, .cond ht (by simpa using h1), h2⟩
      | false => obtain ⟨e, fr1, hp1, h1, h2⟩ := ihb h; exact ⟨e, fr1, hp1, .cond ht (by simpa using h1), h2⟩
    · exact h.elim
  | block id a iha =>
    intro fr hp Q h
    obtain ⟨e, fr1, hp1, h1, h2⟩ := iha h
    cases e with
    | exit i =>
      replace h2 : (bif Nat.beq i id then Q .normal fr1 hp1 else Q (.exit i) fr1 hp1) := h2
      cases hb : Nat.beq i id with
      | true =>
        have := Nat.eq_of_beq_eq_true hb; subst this
        simp only [hb, cond_true] at h2
        exact ⟨_, fr1, hp1, .blockX h1, h2⟩
      | false =>
        simp only [hb, cond_false] at h2
        exact ⟨_, fr1, hp1, .block h1 (by rintro k hk rfl; cases hk; simp at hb), h2⟩
    | _ => exact ⟨_, fr1, hp1, .block h1 (by simp), h2⟩
  | loop a iha =>
    intro fr hp Q h
    rw [wpC_loop] at h
    induction h with
    | step N h hn ih =>
      obtain ⟨e, fr1, hp1, h1, h2⟩ := iha h
      cases e with
      | normal =>
        obtain ⟨e3, fr3, hp3, h3, h4⟩ := ih _ _ h2
        exact ⟨e3, fr3, hp3, .loopS h1 h3, h4⟩
      | _ => obtain ⟨fr2, hp2, hw, h2⟩ := h2; exact ⟨_, fr2, hp2, .weakO (.loopX h1 (by simp)) hw, h2⟩
    | weak hw h ih =>
      obtain ⟨e, fr', hp', h1, h2⟩ := ih
      exact ⟨e, fr', hp', .weak hw h1, h2⟩
  | exit id => intro fr hp Q h; exact ⟨_, fr, hp, .exit, h⟩
  | ret => intro fr hp Q h; exact ⟨_, fr, hp, .ret, h⟩
  | rangeFunc => intro fr hp Q h; exact h.elim
  | scope => intro fr hp Q h; exact h.elim
  | label => intro fr hp Q h; exact h.elim
  | goto => intro fr hp Q h; exact h.elim
  | refuse => intro fr hp Q h; exact h.elim

end
end Go.Abs
