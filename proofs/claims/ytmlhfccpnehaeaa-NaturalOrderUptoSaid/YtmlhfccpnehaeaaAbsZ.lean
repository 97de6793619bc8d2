/- Regions in any order that their edges allow. -/
import Derived.Test.YtmlhfccpnehaeaaAbsY
set_option autoImplicit false
set_option linter.unusedVariables false
set_option linter.unusedSimpArgs false
namespace Go.Abs

mutual
/-- the sites that a value refers to -/
def sites : AV → List Nat
  | .lsl d .. | .lptr d .. => [d]
  | .agg cs => sitesL cs
  | .tup vs => sitesL vs
  | .top | .f _ => []
def sitesL : List AV → List Nat
  | [] => []
  | v :: r => sites v ++ sitesL r
end

/-- the sites at which an operation looks -/
def fpR (T : Tab) (o : Oper) (F : Nat → AV) : List Nat :=
  match o.op with
  | .alloc _ | .box .. | .buildSlice .. | .makeSlice .. => o.dst.toList
  | .load _ x | .store _ x _ => sites (evA F x)
  | .call c => match c.callee with
    | .builtin .append => o.dst.toList ++ sitesL (evArgs T F c.args.toList c.argTypes.toList)
    | .builtin _ => []
    | _ => sitesL (evArgs T F c.args.toList c.argTypes.toList)
  | _ => []

def keysOf : List (Nat × Nat × Blk) → List Nat
  | [] => []
  | (d, _, _) :: r => d :: keysOf r

theorem updHs_ne : ∀ (δ : List (Nat × Nat × Blk)) (H : Hp) {d : Nat}, d ∉ keysOf δ → updHs H δ d = H d
  | [], _, _, _ => rfl
  | (k, g, b) :: r, H, d, h => by
    simp only [keysOf, List.mem_cons, not_or] at h
    simp only [updHs]
    rw [updHs_ne r _ h.2, updH_ne _ _ _ h.1]

theorem updHs_eq : ∀ (δ : List (Nat × Nat × Blk)) (H H' : Hp) {d : Nat}, d ∈ keysOf δ → updHs H δ d = updHs H' δ d
  | [], _, _, _, h => by simp [keysOf] at h
  | (k, g, b) :: r, H, H', d, h => by
    simp only [updHs]
    by_cases hr : d ∈ keysOf r
    · exact updHs_eq r _ _ hr
    · rw [updHs_ne r _ hr, updHs_ne r _ hr]
      simp only [keysOf, List.mem_cons] at h
      rcases h with rfl | h
      · simp [updH]
      · exact absurd h hr

theorem updHs_comm (H : Hp) (δ ε : List (Nat × Nat × Blk)) (h : ∀ d, d ∈ keysOf δ → d ∉ keysOf ε) : updHs (updHs H δ) ε = updHs (updHs H ε) δ := by
  funext d
  by_cases h1 : d ∈ keysOf δ
  · rw [updHs_ne ε _ (h d h1), updHs_eq δ _ (updHs H ε) h1]
  · rw [updHs_ne δ (updHs H ε) h1]
    by_cases h2 : d ∈ keysOf ε
    · exact updHs_eq ε _ _ h2
    · rw [updHs_ne ε _ h2, updHs_ne ε _ h2, updHs_ne δ _ h1]

/-! ### What an operation depends on -/

theorem view_eq {H H' : Hp} {d : Nat} (h : H d = H' d) : True := trivial

section loc
variable {T : Tab} {o : Oper} {F F' : Nat → AV} {H H' : Hp}

theorem sites_evT {t : Nat} {x : Operand} : sites (evT T F t x) = sites (evA F x) := by
  cases x with
  | const v =>
    have h1 : ∀ v, sites (constA v) = [] := by intro v; unfold constA; split <;> rfl
    have h2 : sites (constT T t v) = [] := by
      unfold constT
      split
      · split
        · split <;> rfl
        · rfl
      · exact h1 _
    simp only [evT, evA, h1, h2]
  | _ => rfl

theorem loadO_loc {t : Nat} {p : AV} (h : ∀ d ∈ sites p, H d = H' d) : loadO T H t p = loadO T H' t p := by
  unfold loadO
  cases T.get t with
  | none => rfl
  | some ti =>
    cases p with
    | lptr d g sz i sub => simp only [h d (by simp [sites])]
    | f x => cases x <;> rfl
    | _ => rfl
theorem storeO_loc {t : Nat} {p v : AV} (h : ∀ d ∈ sites p, H d = H' d) : storeO T H t p v = storeO T H' t p v := by
  unfold storeO
  cases T.get t with
  | none => rfl
  | some ti =>
    cases v.cells with
    | none => rfl
    | some xs =>
    cases p with
    | lptr d g sz i sub => simp only [h d (by simp [sites])]
    | _ => rfl
theorem allocO_loc {e : Nat} {dst : Option Nat} (h : ∀ d ∈ dst.toList, H d = H' d) : allocO T H dst e = allocO T H' dst e := by
  unfold allocO
  cases dst with
  | none => rfl
  | some d => cases T.get e with
    | none => rfl
    | some ti => simp only [h d (by simp)]
theorem boxO_loc {v : AV} {dst : Option Nat} (h : ∀ d ∈ dst.toList, H d = H' d) : boxO H dst v = boxO H' dst v := by
  unfold boxO
  cases dst with
  | none => rfl
  | some d => cases v.cells with
    | none => rfl
    | some xs => simp only [h d (by simp)]
theorem buildSliceO_loc {t len : Nat} {ps : List (Nat × AV)} {dst : Option Nat} (h : ∀ d ∈ dst.toList, H d = H' d) : buildSliceO T H dst t len ps = buildSliceO T H' dst t len ps := by
  unfold buildSliceO
  cases dst with
  | none => rfl
  | some d => cases T.get t with
    | none => rfl
    | some ti => obtain ⟨td, s, b, z⟩ := ti; cases td <;> first | rfl | simp only [h d (by simp)]
theorem makeO_loc {t : Nat} {l c : AV} {dst : Option Nat} (h : ∀ d ∈ dst.toList, H d = H' d) : makeO T H dst t l c = makeO T H' dst t l c := by
  unfold makeO
  cases dst with
  | none => rfl
  | some d => cases T.get t with
    | none => rfl
    | some ti => obtain ⟨td, s, b, z⟩ := ti; cases td <;> first | rfl | simp only [h d (by simp)]
theorem srcO_loc {te : TI} {tx : Nat} {x : AV} (h : ∀ d ∈ sites x, H d = H' d) : srcO T H te tx x = srcO T H' te tx x := by
  unfold srcO
  cases T.get tx with
  | none => rfl
  | some ti =>
    obtain ⟨td, s, b, z⟩ := ti
    cases td <;> try rfl
    cases x with
    | lsl d g sz i n c => simp only [h d (by simp [sites])]
    | f x => cases x <;> rfl
    | _ => rfl
theorem appendO_loc {t tx : Nat} {s x : AV} {dst : Option Nat} (h : ∀ d ∈ dst.toList ++ (sites s ++ sites x), H d = H' d) : appendO T H dst t tx s x = appendO T H' dst t tx s x := by
  unfold appendO
  cases dst with
  | none => rfl
  | some k =>
    have hk := h k (by simp)
    have hx : ∀ te, srcO T H te tx x = srcO T H' te tx x := fun te => srcO_loc fun d hd => h d (by simp [hd])
    cases T.get t with
    | none => rfl
    | some ti =>
    obtain ⟨td, sz, b, z⟩ := ti
    cases td <;> try rfl
    rename_i e
    simp only
    cases T.get e with
    | none => rfl
    | some te =>
    simp only [hx]
    cases srcO T H' te tx x with
    | none => rfl
    | some q =>
    obtain ⟨n, at2, c2⟩ := q
    simp only
    cases s with
    | lsl d g sz i len c =>
      have hd := h d (by simp [sites])
      cases i with
      | zero => simp only [hk, hd]
      | succ i => rfl
    | f y =>
      cases y with
      | sl sz at_ len cap =>
        cases len with
        | zero => cases cap with
          | none => rfl
          | some c => cases c with
            | zero => simp only [hk]
            | succ c => rfl
        | succ l => rfl
      | _ => rfl
    | _ => rfl

mutual
theorem snapA_loc : ∀ {v : AV}, (∀ d ∈ sites v, H d = H' d) → snapA H v = snapA H' v
  | .top, _ => by simp [snapA]
  | .f x, _ => by cases x <;> simp [snapA]
  | .lsl d g sz i len c, h => by simp only [snapA, h d (by simp [sites])]
  | .lptr .., _ => by simp [snapA]
  | .agg cs, h => by simp only [snapA]; rw [snapL_loc (by simpa [sites] using h)]
  | .tup vs, _ => by simp [snapA]
theorem snapL_loc : ∀ {l : List AV}, (∀ d ∈ sitesL l, H d = H' d) → snapL H l = snapL H' l
  | [], _ => by simp [snapL]
  | v :: r, h => by
    simp only [snapL]
    rw [snapA_loc (v := v) (fun d hd => h d (by simp [sitesL, hd])), snapL_loc (l := r) (fun d hd => h d (by simp [sitesL, hd]))]
end

/-- nothing of the blocks but what stands at the operation's own sites -/
theorem opv_loc (h : ∀ d ∈ fpR T o F, H d = H' d) : opv T o F H = opv T o F H' := by
  unfold opv
  unfold fpR at h
  cases ho : o.op with
  | alloc e => rw [ho] at h; exact allocO_loc h
  | box e x => rw [ho] at h; exact boxO_loc h
  | buildSlice t len ps => rw [ho] at h; exact buildSliceO_loc h
  | makeSlice t l c => rw [ho] at h; exact makeO_loc h
  | load t x => rw [ho] at h; exact loadO_loc h
  | store t x y => rw [ho] at h; exact storeO_loc h
  | call c =>
    rw [ho] at h
    simp only at h ⊢
    cases hc : c.callee with
    | builtin b =>
      rw [hc] at h
      cases b with
      | append =>
        simp only at h ⊢
        split
        · rename_i h1 _ _; cases h1
        · rename_i h1 _ _; cases h1
        · rename_i s x t tx h1 h2 h3
          rw [h2, h3] at h
          refine appendO_loc fun d hd => h d ?_
          simp only [evArgs, sitesL, List.append_nil, sites_evT] at hd ⊢
          exact hd
        · rename_i h1 _; cases h1
        · rename_i h1 _; cases h1
        · rfl
      | _ => first | (simp only; done) | (simp only; split <;> first | rfl | (rename_i h1 _ _; cases h1))
    | _ => rfl
  | _ => rfl

/-! ### The operands -/
theorem evT_congr {t : Nat} {x : Operand} (h : evA F x = evA F' x) : evT T F t x = evT T F' t x := by cases x <;> first | rfl | exact h
theorem evO_congr {x : Option Operand} (h : ∀ y ∈ x.toList, evA F y = evA F' y) : evO F x = evO F' x := by
  cases x with
  | none => rfl
  | some y => simp only [evO, h y (by simp)]
theorem evParts_congr : ∀ {ps : List (Nat × Operand)}, (∀ y ∈ ps.map (·.2), evA F y = evA F' y) → evParts F ps = evParts F' ps
  | [], _ => rfl
  | (i, x) :: r, h => by simp only [evParts, h x (by simp), evParts_congr (ps := r) (fun y hy => h y (by simp only [List.map_cons, List.mem_cons]; exact .inr hy))]
theorem evArgs_congr : ∀ {l : List Operand} {ts : List Nat}, (∀ y ∈ l, evA F y = evA F' y) → evArgs T F l ts = evArgs T F' l ts
  | [], _, _ => rfl
  | x :: r, [], h => by simp only [evArgs, h x (by simp), evArgs_congr (l := r) (fun y hy => h y (by simp [hy]))]
  | x :: r, t :: s, h => by simp only [evArgs, evT_congr (h x (by simp)), evArgs_congr (l := r) (fun y hy => h y (by simp [hy]))]

theorem fpR_congr (h : ∀ x ∈ o.op.operands, evA F x = evA F' x) : fpR T o F = fpR T o F' := by
  unfold fpR
  cases ho : o.op <;> rw [ho] at h <;> try rfl
  · rename_i t x; simp only [h x (by simp [Op.operands])]
  · rename_i t x y; simp only [h x (by simp [Op.operands])]
  · rename_i c
    have : ∀ y ∈ c.args.toList, evA F y = evA F' y := fun y hy => h y (by simp only [Op.operands, Call.operands]; simp; exact .inr (by simpa using hy))
    simp only [evArgs_congr (T := T) this]

theorem opv_congr (h : ∀ x ∈ o.op.operands, evA F x = evA F' x) : opv T o F H = opv T o F' H := by
  unfold opv
  cases ho : o.op <;> rw [ho] at h <;> try rfl
  case move x => simp only [evT_congr (h x (by simp [Op.operands]))]
  case assign x => simp only [evT_congr (h x (by simp [Op.operands]))]
  case pick c x y => simp only [h c (by simp [Op.operands]), h x (by simp [Op.operands]), h y (by simp [Op.operands])]
  case box e x => simp only [evT_congr (h x (by simp [Op.operands]))]
  case build t ps => simp only [evParts_congr (ps := ps.toList) (fun y hy => h y (by simp only [Op.operands]; simpa using hy))]
  case buildSlice t len ps => simp only [evParts_congr (ps := ps.toList) (fun y hy => h y (by simp only [Op.operands]; simpa using hy))]
  case load t x => simp only [h x (by simp [Op.operands])]
  case store t x y => simp only [h x (by simp [Op.operands]), evT_congr (h y (by simp [Op.operands]))]
  case nilCheck x => simp only [h x (by simp [Op.operands])]
  case binOp op t x y t2 => simp only [h x (by simp [Op.operands]), h y (by simp [Op.operands])]
  case unOp op t x => simp only [h x (by simp [Op.operands])]
  case convert src dst x => simp only [h x (by simp [Op.operands])]
  case makeSlice t l c => simp only [h l (by simp [Op.operands]), h c (by simp [Op.operands])]
  case slice t x lo hi mx =>
    simp only [h x (by simp [Op.operands]), evO_congr (x := lo) (fun y hy => h y (by simp only [Op.operands]; simp at hy ⊢; simp [hy])), evO_congr (x := hi) (fun y hy => h y (by simp only [Op.operands]; simp at hy ⊢; simp [hy])),
      evO_congr (x := mx) (fun y hy => h y (by simp only [Op.operands]; simp at hy ⊢; simp [hy]))]
  case fieldAddr s x k => simp only [h x (by simp [Op.operands])]
  case field s x k => simp only [h x (by simp [Op.operands])]
  case indexAddr t x y => simp only [h x (by simp [Op.operands]), h y (by simp [Op.operands])]
  case index t x y => simp only [h x (by simp [Op.operands]), h y (by simp [Op.operands])]
  case extract x k => simp only [h x (by simp [Op.operands])]
  case call c =>
    have hargs : ∀ y ∈ c.args.toList, evA F y = evA F' y := fun y hy => h y (by simp only [Op.operands, Call.operands]; simp; exact .inr (by simpa using hy))
    simp only
    cases hc : c.callee with
    | builtin b =>
      simp only
      split
      · rename_i x t r h1 h2; simp only [hargs x (by rw [h1]; simp)]
      · rename_i x t r h1 h2; simp only [hargs x (by rw [h1]; simp)]
      · rename_i s x t tx h1 h2; simp only [evT_congr (hargs s (by rw [h1]; simp)), hargs x (by rw [h1]; simp)]
      · rename_i x y h1; simp only [hargs x (by rw [h1]; simp), hargs y (by rw [h1]; simp)]
      · rename_i x y h1; simp only [hargs x (by rw [h1]; simp), hargs y (by rw [h1]; simp)]
      · rfl
    | _ => rfl

end loc
end Go.Abs
