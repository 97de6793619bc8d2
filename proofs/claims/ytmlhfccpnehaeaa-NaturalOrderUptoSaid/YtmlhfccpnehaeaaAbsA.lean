/- Abstract values for Go data and how they stand to the model's values; no program in sight. -/
import Derived.Orders
import Derived.Below
import Derived.RowKit3
import Derived.KernelRfl
set_option autoImplicit false
set_option linter.unusedVariables false
namespace Go.Abs

/-- Data that nobody writes any more, cell by cell. -/
inductive FV where
  | any
  | int (k : IntKind) (n : Int)
  | bool (b : Bool)
  | str (s : ByteArray)
  | sl (sz : Nat) (at_ : Nat → List FV) (len : Nat) (cap : Option Nat)
  | ptr (cells : List FV)

/-- Values of a frame: data, or references to blocks of the call's own (site, generation). -/
inductive AV where
  | top
  | f (v : FV)
  | lsl (d g sz i len : Nat) (cap : Option Nat)
  | lptr (d g sz i sub : Nat)
  | agg (cells : List AV)
  | tup (vs : List AV)

/-- Blocks of the call's own. -/
inductive Blk where
  | dead
  | vr (cells : List AV)
  | fa (sz n : Nat) (at_ : Nat → List FV)
  | fz (sz n : Nat) (at_ : Nat → List FV)

/-! ### What stands for what -/

inductive RelF (S : Nat → Prop) (w : World) : FV → Value → Prop
  | any {v : Value} (h : v.oneCell' = true) : RelF S w .any v
  | int {k : IntKind} {n : Int} : RelF S w (.int k n) (.int k n)
  | bool {b : Bool} : RelF S w (.bool b) (.bool b)
  | str {s : ByteArray} : RelF S w (.str s) (.string s)
  | sl {sz len c : Nat} {at_ : Nat → List FV} {cap : Option Nat} {base : Option Addr} (vs : Nat → Nat → Value)
      (hc : len ≤ c) (hcap : ∀ k, cap = some k → c = k) (hn : base = none → c = 0) (hl : ∀ i, i < len → (at_ i).length = sz)
      (hb : ∀ a, base = some a → 0 < len → 0 < sz → a.spot = none ∧ S a.block)
      (hv : ∀ a, base = some a → ∀ i j, i < len → j < sz → w.cell? ⟨a.block, a.off + (i * sz + j), none⟩ = some (vs i j))
      (hr : ∀ (i j : Nat) (x : FV), i < len → (at_ i)[j]? = some x → RelF S w x (vs i j)) :
      RelF S w (.sl sz at_ len cap) (.slice base len c)
  | ptr {cells : List FV} {a : Addr} (vs : Nat → Value) (hs : a.spot = none) (hS : S a.block)
      (hv : ∀ j, j < cells.length → w.cell? ⟨a.block, a.off + j, none⟩ = some (vs j))
      (hr : ∀ (j : Nat) (x : FV), cells[j]? = some x → RelF S w x (vs j)) : RelF S w (.ptr cells) (.pointer (some a))

theorem RelF.one {S : Nat → Prop} {w : World} {x : FV} {v : Value} (h : RelF S w x v) : v.oneCell' = true := by
  cases h <;> first | rfl | assumption

/-- blocks of S read the same in w' -/
def Keeps (S : Nat → Prop) (w w' : World) : Prop := ∀ k, S k → w'.heap[k]? = w.heap[k]?

theorem Keeps.refl (S : Nat → Prop) (w : World) : Keeps S w w := fun _ _ => rfl
theorem Keeps.trans {S : Nat → Prop} {a b c : World} (h : Keeps S a b) (k : Keeps S b c) : Keeps S a c := fun i hi => (k i hi).trans (h i hi)
theorem Keeps.mono {S S' : Nat → Prop} {a b : World} (h : Keeps S a b) (hs : ∀ k, S' k → S k) : Keeps S' a b := fun i hi => h i (hs i hi)
theorem Keeps.cell {S : Nat → Prop} {w w' : World} (h : Keeps S w w') {a : Addr} (ha : S a.block) : w'.cell? a = w.cell? a :=
  World.cell?_of_block (w := w) (h a.block ha)

theorem RelF.mono {S S' : Nat → Prop} {w w' : World} (hs : ∀ k, S k → S' k) (hk : Keeps S w w') {x : FV} {v : Value} (h : RelF S w x v) : RelF S' w' x v := by
  induction h with
  | any h => exact .any h
  | int => exact .int
  | bool => exact .bool
  | str => exact .str
  | @sl sz len c at_ cap base vs hc hcap hn hl hb hv hr ih =>
    refine .sl vs hc hcap hn hl (fun a ha h1 h2 => ⟨(hb a ha h1 h2).1, hs _ (hb a ha h1 h2).2⟩) (fun a ha i j hi hj => ?_) ih
    rw [hk.cell (a := ⟨a.block, _, none⟩) (hb a ha (by omega) (by omega)).2]
    exact hv a ha i j hi hj
  | @ptr cells a vs h1 h2 hv hr ih =>
    refine .ptr vs h1 (hs _ h2) (fun j hj => ?_) ih
    rw [hk.cell (a := ⟨a.block, _, none⟩) h2]
    exact hv j hj

/-- one list against another, place by place -/
def All2 {α β : Type} (R : α → β → Prop) : List α → List β → Prop
  | [], [] => True
  | a :: l, b :: m => R a b ∧ All2 R l m
  | _, _ => False

theorem All2.imp {α β : Type} {R R' : α → β → Prop} (h : ∀ a b, R a b → R' a b) : ∀ {l : List α} {m : List β}, All2 R l m → All2 R' l m
  | [], [], _ => trivial
  | _ :: _, _ :: _, ⟨a, b⟩ => ⟨h _ _ a, All2.imp h b⟩
  | [], _ :: _, h => h.elim
  | _ :: _, [], h => h.elim
theorem All2.length {α β : Type} {R : α → β → Prop} : ∀ {l : List α} {m : List β}, All2 R l m → l.length = m.length
  | [], [], _ => rfl
  | _ :: _, _ :: _, ⟨_, b⟩ => by simp [All2.length b]
  | [], _ :: _, h => h.elim
  | _ :: _, [], h => h.elim
theorem All2.get {α β : Type} {R : α → β → Prop} : ∀ {l : List α} {m : List β} {j : Nat} {a : α}, All2 R l m → l[j]? = some a → ∃ b, m[j]? = some b ∧ R a b
  | [], _, _, _, _, h => by simp at h
  | _ :: _, [], _, _, h, _ => h.elim
  | x :: l, y :: m, 0, a, ⟨h, _⟩, e => by simp at e; subst e; exact ⟨y, rfl, h⟩
  | x :: l, y :: m, j + 1, a, ⟨_, h⟩, e => by simpa using All2.get h (by simpa using e)
theorem All2.of {α β : Type} {R : α → β → Prop} : ∀ {l : List α} {m : List β}, l.length = m.length → (∀ (j : Nat) (a : α) (b : β), l[j]? = some a → m[j]? = some b → R a b) → All2 R l m
  | [], [], _, _ => trivial
  | _ :: _, [], h, _ => by simp at h
  | [], _ :: _, h, _ => by simp at h
  | x :: l, y :: m, h, hr => ⟨hr 0 x y rfl rfl, All2.of (by simpa using h) fun j a b ha hb => hr (j + 1) a b (by simpa using ha) (by simpa using hb)⟩
theorem All2.append {α β : Type} {R : α → β → Prop} : ∀ {l : List α} {m : List β} {l' : List α} {m' : List β}, All2 R l m → All2 R l' m' → All2 R (l ++ l') (m ++ m')
  | [], [], _, _, _, h => h
  | _ :: _, _ :: _, _, _, ⟨a, b⟩, h => ⟨a, All2.append b h⟩
  | [], _ :: _, _, _, h, _ => h.elim
  | _ :: _, [], _, _, h, _ => h.elim
theorem All2.take {α β : Type} {R : α → β → Prop} : ∀ {l : List α} {m : List β} (n : Nat), All2 R l m → All2 R (l.take n) (m.take n)
  | _, _, 0, _ => by simp [All2]
  | [], [], n + 1, _ => by simp [All2]
  | _ :: _, _ :: _, n + 1, ⟨a, b⟩ => by simp only [List.take_succ_cons]; exact ⟨a, All2.take n b⟩
  | [], _ :: _, _ + 1, h => h.elim
  | _ :: _, [], _ + 1, h => h.elim
theorem All2.drop {α β : Type} {R : α → β → Prop} : ∀ {l : List α} {m : List β} (n : Nat), All2 R l m → All2 R (l.drop n) (m.drop n)
  | _, _, 0, h => by simpa using h
  | [], [], n + 1, _ => by simp [All2]
  | _ :: _, _ :: _, n + 1, ⟨_, b⟩ => by simp only [List.drop_succ_cons]; exact All2.drop n b
  | [], _ :: _, _ + 1, h => h.elim
  | _ :: _, [], _ + 1, h => h.elim

/-- where a block of the call's own lies (block number, number of cells): 'm site generation' -/
abbrev Places := Nat → Nat → Nat × Nat

inductive RelA (S : Nat → Prop) (m : Places) (G : Nat → Nat) (w : World) : AV → Value → Prop
  | top {v : Value} : RelA S m G w .top v
  | f {x : FV} {v : Value} (h : RelF S w x v) : RelA S m G w (.f x) v
  | lsl {d g sz i len c : Nat} {cap : Option Nat} {base : Option Addr} (hg : g ≤ G d) (hc : len ≤ c) (hcap : ∀ k, cap = some k → c = k)
      (hb : 0 < c → base = some ⟨(m d g).1, i * sz, none⟩ ∧ (i + c) * sz ≤ (m d g).2) (hn : base = none → c = 0) : RelA S m G w (.lsl d g sz i len cap) (.slice base len c)
  | lptr {d g sz i sub : Nat} (hg : g ≤ G d) : RelA S m G w (.lptr d g sz i sub) (.pointer (some ⟨(m d g).1, i * sz + sub, none⟩))
  | agg {cells : List AV} {cs : Array Value} (hn : cells.length = cs.size) (h : ∀ (j : Nat) (x : AV) (v : Value), cells[j]? = some x → cs[j]? = some v → RelA S m G w x v)
      (h1 : ∀ (j : Nat) (v : Value), cs[j]? = some v → v.oneCell' = true) : RelA S m G w (.agg cells) (.agg cs)
  | tup {vs : List AV} {cs : Array Value} (hn : vs.length = cs.size) (h : ∀ (j : Nat) (x : AV) (v : Value), vs[j]? = some x → cs[j]? = some v → RelA S m G w x v) :
      RelA S m G w (.tup vs) (.tuple cs)

theorem RelA.mono {S S' : Nat → Prop} {m m' : Places} {G G' : Nat → Nat} {w w' : World} (hs : ∀ k, S k → S' k) (hk : Keeps S w w')
    (hm : ∀ d g, g ≤ G d → m' d g = m d g) (hG : ∀ d, G d ≤ G' d) {x : AV} {v : Value} (h : RelA S m G w x v) : RelA S' m' G' w' x v := by
  induction h with
  | top => exact .top
  | f h => exact .f (h.mono hs hk)
  | lsl hg hc hcap hb hn => exact .lsl (Nat.le_trans hg (hG _)) hc hcap (by rw [hm _ _ hg]; exact hb) hn
  | lptr hg => rw [← hm _ _ hg]; exact .lptr (Nat.le_trans hg (hG _))
  | agg hn h h1 ih => exact .agg hn ih h1
  | tup hn h ih => exact .tup hn ih

/-- cells of a value -/
def AV.cells : AV → Option (List AV)
  | .top | .tup _ => none
  | .agg cs => some cs
  | v => some [v]

theorem RelA.cells {S : Nat → Prop} {m : Places} {G : Nat → Nat} {w : World} {x : AV} {v : Value} (h : RelA S m G w x v) {xs : List AV} (hx : x.cells = some xs) :
    All2 (RelA S m G w) xs v.cells.toList ∧ ∀ c ∈ v.cells.toList, c.oneCell' = true := by
  cases h with
  | top => simp [AV.cells] at hx
  | f h =>
    simp only [AV.cells, Option.some.injEq] at hx; subst hx
    have h1 := h.one
    have : v.cells = #[v] := by cases v <;> first | rfl | (simp [Value.oneCell'] at h1; done)
    rw [this]; exact ⟨⟨.f h, trivial⟩, by simpa using h1⟩
  | lsl hg hc hcap hb hn => simp only [AV.cells, Option.some.injEq] at hx; subst hx; exact ⟨⟨.lsl hg hc hcap hb hn, trivial⟩, by simp [Value.cells, Value.oneCell']⟩
  | lptr hg => simp only [AV.cells, Option.some.injEq] at hx; subst hx; exact ⟨⟨.lptr hg, trivial⟩, by simp [Value.cells, Value.oneCell']⟩
  | @agg cells cs hn h h1 =>
    simp only [AV.cells, Option.some.injEq] at hx; subst hx
    show All2 _ cells cs.toList ∧ ∀ c ∈ cs.toList, _
    refine ⟨All2.of (by simpa using hn) fun j a b ha hb => h j a b ha (by simpa using hb), fun c hc => ?_⟩
    obtain ⟨j, hj⟩ := List.mem_iff_getElem?.1 hc
    exact h1 j c (by simpa using hj)
  | tup => simp [AV.cells] at hx

/-- what a block holds -/
def RelB (S : Nat → Prop) (m : Places) (G : Nat → Nat) (w : World) : Blk → Array Value → Prop
  | .dead, _ => True
  | .vr cells, cs => All2 (RelA S m G w) cells cs.toList ∧ ∀ c ∈ cs.toList, c.oneCell' = true
  | .fa sz n at_, cs | .fz sz n at_, cs => n * sz ≤ cs.size ∧ (∀ i, i < n → (at_ i).length = sz) ∧
      ∀ (i j : Nat) (x : FV), i < n → (at_ i)[j]? = some x → ∃ v, cs[i * sz + j]? = some v ∧ RelF S w x v

theorem RelB.mono {S S' : Nat → Prop} {m m' : Places} {G G' : Nat → Nat} {w w' : World} (hs : ∀ k, S k → S' k) (hk : Keeps S w w')
    (hm : ∀ d g, g ≤ G d → m' d g = m d g) (hG : ∀ d, G d ≤ G' d) {b : Blk} {cs : Array Value} (h : RelB S m G w b cs) : RelB S' m' G' w' b cs := by
  cases b with
  | dead => trivial
  | vr cells => exact ⟨h.1.imp fun _ _ => RelA.mono hs hk hm hG, h.2⟩
  | fa sz n at_ => exact ⟨h.1, h.2.1, fun i j x hi hx => let ⟨v, hv, hr⟩ := h.2.2 i j x hi hx; ⟨v, hv, hr.mono hs hk⟩⟩
  | fz sz n at_ => exact ⟨h.1, h.2.1, fun i j x hi hx => let ⟨v, hv, hr⟩ := h.2.2 i j x hi hx; ⟨v, hv, hr.mono hs hk⟩⟩

def Blk.live : Blk → Bool
  | .dead => false
  | _ => true
def Blk.own : Blk → Bool
  | .vr _ | .fa .. => true
  | _ => false

/-- what a call may do to the world: old blocks outside `pass` stay -/
structure Eff (pass : Nat → Prop) (w w' : World) : Prop where
  os : w'.os = w.os
  tape : w'.tape = w.tape
  output : w'.output = w.output
  size : w.heap.size ≤ w'.heap.size
  block : ∀ k, k < w.heap.size → ¬ pass k → w'.heap[k]? = w.heap[k]?
  froz : ∀ a, w'.frozen? a = w.frozen? a

theorem Eff.refl (p : Nat → Prop) (w : World) : Eff p w w := ⟨rfl, rfl, rfl, Nat.le_refl _, fun _ _ _ => rfl, fun _ => rfl⟩
theorem Eff.trans {p : Nat → Prop} {a b c : World} (h : Eff p a b) (k : Eff p b c) : Eff p a c :=
  ⟨k.os.trans h.os, k.tape.trans h.tape, k.output.trans h.output, Nat.le_trans h.size k.size, fun i hi hp => (k.block i (Nat.lt_of_lt_of_le hi h.size) hp).trans (h.block i hi hp), fun x => (k.froz x).trans (h.froz x)⟩
theorem Eff.mono {p q : Nat → Prop} {a b : World} (h : Eff p a b) (hq : ∀ k, k < a.heap.size → p k → q k) : Eff q a b :=
  ⟨h.os, h.tape, h.output, h.size, fun i hi hp => h.block i hi fun hh => hp (hq i hi hh), h.froz⟩
theorem Eff.drew (p : Nat → Prop) (w : World) : Eff p w w.drew := ⟨rfl, rfl, rfl, Nat.le_refl _, fun _ _ _ => rfl, fun _ => rfl⟩
theorem Eff.alloc (p : Nat → Prop) (w : World) (c : Array Value) (t : TypeId) : Eff p w (w.alloc (.cells c t)) := ⟨rfl, rfl, rfl, by simp, fun k hk _ => RowKit.Below.heap_alloc _ _ _ hk, fun a => RowKit.frozen?_alloc_cells w c t a⟩
theorem Eff.setCell {p : Nat → Prop} (w : World) (a : Addr) (v : Value) (ha : p a.block) : Eff p w (w.setCell a v) :=
  ⟨rfl, rfl, rfl, by simp, fun k _ hp => RowKit.Below.heap_setCell _ _ _ _ fun e => hp (e ▸ ha), fun x => World.frozen?_setCell _ _ _ _⟩

/-- The state of a run: frame F, the call's own blocks H (site ↦ generation, block), the world. `S`: blocks that nobody writes. `S0`, `pass`, `w0`: as at the call's beginning. -/
structure Good (n : Nat) (S0 : Nat → Prop) (pass : Nat → Prop) (w0 : World) (F : Nat → AV) (H : Nat → Nat × Blk) (S : Nat → Prop) (m : Places) (a : Act) (w : World) : Prop where
  size : a.tmps.size = n
  defers : a.defers = []
  fr : ∀ t, RelA S m (fun d => (H d).1) w (F t) (a.tmps.getD t undef)
  hp : ∀ d, (H d).2.live = true → ∃ cs : Array Value, cs.size = (m d (H d).1).2 ∧ RelB S m (fun d => (H d).1) w (H d).2 cs ∧
    (0 < cs.size → ∃ e, w.heap[(m d (H d).1).1]? = some (.cells cs e (0, 0)))
  own : ∀ d, (H d).2.own = true → 0 < (m d (H d).1).2 → ¬ S (m d (H d).1).1 ∧ (pass (m d (H d).1).1 ∨ w0.heap.size ≤ (m d (H d).1).1)
  frz : ∀ d sz k at_, (H d).2 = .fz sz k at_ → 0 < (m d (H d).1).2 → S (m d (H d).1).1
  inj : ∀ d d', (H d).2.own = true → (H d').2.own = true → 0 < (m d (H d).1).2 → 0 < (m d' (H d').1).2 → (m d (H d).1).1 = (m d' (H d').1).1 → d = d'
  sin : ∀ k, S k → k < w.heap.size
  s0 : ∀ k, S k → S0 k ∨ w0.heap.size ≤ k ∨ pass k
  s1 : ∀ k, S0 k → S k
  eff : Eff pass w0 w

end Go.Abs
