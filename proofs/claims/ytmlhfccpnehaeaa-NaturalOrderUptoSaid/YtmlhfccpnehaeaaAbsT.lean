/- From a contract to a row's step. -/
import Derived.Test.YtmlhfccpnehaeaaAbsL
import Derived.WalkKit
import Derived.ProofKit
import Derived.OpenShut
import Derived.JoinedCond
set_option autoImplicit false
set_option linter.unusedVariables false
set_option linter.unusedSimpArgs false
namespace Go.Abs
open Go.ChangeShapes Go.WideShapes Go.ChangeAt Go.RowKit

section
variable {H : Type} {enc : TypeId × Value → H} {P : Program}

def rowedB (P : Program) : List TypeId → Bool
  | [] => true
  | t :: r => P.readableRec t && decide (t < P.types.size) && rowedB P r

/-- the arguments read as they did -/
theorem trodAll_stays (hl : laidOutB P = true) {W W' : World} (hb : RowKit.Below W.heap.size W W') {sp : Nat → Bool} : ∀ {ts : List TypeId} {vs : List Value} {ds : List (DataW H)} {ps : List MemPlace}, rowedB P ts = true →
    DataW.TrodAll enc P W 0 (fun _ => true) true ts vs ds ps → (∀ x ∈ ps, x.block < W.heap.size ∧ sp x.block = true) → DataW.TrodAll enc P W' 0 sp true ts vs ds ps
  | [], [], [], ps, _, h, _ => h
  | t :: ts, v :: vs, d :: ds, ps, hr, ⟨p, q, h1, h2, e⟩, hp => by
    simp only [rowedB, Bool.and_eq_true, decide_eq_true_eq] at hr
    subst e
    exact ⟨p, q, WideElems.Trod_stays hl hr.1.1 hr.1.2 h1 (fun x hx => hb.same (hp x (by simp [hx])).1) (fun x hx => (hp x (by simp [hx])).2),
      trodAll_stays hl hb hr.2 h2 (fun x hx => hp x (by simp [hx])), rfl⟩
  | [], _ :: _, _, _, _, h, _ => h.elim
  | [], [], _ :: _, _, _, h, _ => h.elim
  | _ :: _, [], _, _, _, h, _ => h.elim
  | _ :: _, _ :: _, [], _, _, h, _ => h.elim

/-- THE STEP: a law that answers true -/
theorem law_post {f : FuncId} {fn : Func} {spec : ChangeSpec} {tb : TypeId} {W : World} {args : Array Value} {ds gs : List (DataW H)} {before : List MemPlace} {avs : List AV}
    (hA : ACall P f avs (.f (.bool true))) (hl : laidOutB P = true) (hrow : rowedB P fn.params.toList = true) (hres : fn.resultTypes = #[tb]) (htb : P.underlying tb = some .bool)
    (hvars : spec.vars = []) (h1 : (spec.fn H (ds ++ gs)).results = [.lit (.bool true)]) (h2 : (spec.fn H (ds ++ gs)).args = ds) (h3 : (spec.fn H (ds ++ gs)).vars = [])
    (hW : DataW.Whole enc P fn.params.toList spec.vars false W args.toList ds gs before) (hrel : All2 (RelA (fun k => k < W.heap.size) m0 G0 W) avs args.toList) :
    Calls P f args W fun e W' => ∃ v, e = .returned v ∧ spec.post enc P fn false true false false W args v W' := by
  have hlt := hW.lt
  refine (hA.2 _ W args (fun k h => h) hrel).mono ?_
  rintro e W' ⟨v, rfl, he, hv⟩
  have hb : RowKit.Below W.heap.size W W' := ⟨he.os, he.tape, he.output, he.size, fun k hk => he.block k hk (fun h => h)⟩
  have hv' : v = .bool true := by cases hv with | f hv => cases hv; rfl
  subst hv'
  have hW2 := hW
  obtain ⟨p, q, hT, hV, rfl, hfz, hnd⟩ := hW2
  rw [hvars] at hV
  obtain ⟨_, rfl⟩ := trodVars_none hV
  refine ⟨_, rfl, post_of_same (pa := p) (pv := []) hW (fun b sp hd => ?_) (fun sp hsp => ?_) (fun sp _ => ?_) rfl (hb.frame _) he.froz ?_⟩
  · rw [h1, hres]; exact trodAll_cons_mk (shut_bool htb _) trodAll_mk0
  · rw [h2]; exact trodAll_stays hl hb hrow hT fun x hx => ⟨hlt x (by simpa using hx), hsp x (by simpa using hx)⟩
  · rw [h3, hvars]; rfl
  · exact ok_one hres rfl (okWide_bool_mk htb _)

/-- a list of limbs, as it comes in -/
theorem limbs_in {t e : TypeId} {W : World} {r : Reach} {b0 : Nat} {v : Value} {d : DataW H} {ps : List MemPlace} (ht : P.underlying t = some (.slice e)) (he : P.underlying e = some (.int .u32)) (hc : P.cellsOf e = 1)
    (hval : Value.okWide P W r b0 t v) (h : DataW.Trod enc P W 0 (fun _ => true) true t v d ps) (hlt : ∀ x ∈ ps, x.block < W.heap.size) :
    ∃ (g : Nat → Nat) (n : Nat), Dig g n ∧ RelA (fun k => k < W.heap.size) m0 G0 W (raw g n) v ∧ (n = 0 ∨ ∃ elems spare, d = .slice elems spare ∧ elems.length = n) := by
  obtain ⟨a', len', cap', rfl⟩ := okWide_slice ht hval
  obtain ⟨fuel, h⟩ := h
  rcases open_ints ht he hc h with ⟨hcs, hx⟩ | ⟨a, len, cap, zs, hcs, hb, hle, hm, hz, hx, hcell, hw⟩
  · simp [Value.cells] at hcs
    obtain ⟨rfl, rfl, rfl⟩ := hcs
    refine ⟨fun _ => 0, 0, fun j hj => by omega, ?_, .inl rfl⟩
    exact .f (.sl (fun _ _ => .bool true) (Nat.le_refl _) (by simp) (fun _ => rfl) (by omega) (by omega) (fun a ha i j hi => by omega) (fun i j x hi => by omega))
  · simp [Value.cells] at hcs
    obtain ⟨rfl, rfl, rfl⟩ := hcs
    simp only [if_true] at hz
    simp only [Prod.mk.injEq] at hx
    have hwf : ∀ i, i < zs.length → 0 ≤ zs.getD i 0 ∧ zs.getD i 0 < 4294967296 := by
      intro i hi
      have := hw _ (List.getElem_mem hi)
      simp only [Lit.wf, Bool.and_eq_true, decide_eq_true_eq, IntKind.min, IntKind.max, IntKind.signed, IntKind.bits] at this
      rw [List.getD_eq_getElem?_getD, List.getElem?_eq_getElem hi]
      simp at this ⊢
      omega
    have hspot : ∀ i, i < zs.length → W.cell? ⟨a.block, a.off + i, none⟩ = some (.int .u32 (zs.getD i 0)) := by
      intro i hi
      have := hcell i hi
      unfold Addr.add at this
      split at this
      · rename_i h0; subst h0
        have hs : a.spot = none := by
          unfold World.cell? at this
          split at this
          · split at this
            · cases this
            · rename_i h; simpa using h
          · cases this
        rw [show (⟨a.block, a.off + 0, none⟩ : Addr) = a by rw [← hs]; simp]; exact this
      · exact this
    refine ⟨fun i => (zs.getD i 0).toNat, len', ?_, ?_, .inr ⟨_, _, hx.1, ?_⟩⟩
    · intro j hj
      have := hwf j (by omega)
      show (zs.getD j 0).toNat < _
      omega
    · refine .f (.sl (fun i _ => .int .u32 ((zs.getD i 0).toNat : Int)) hle (by simp) (by simp) (fun i hi => rfl) (fun b hb h0 h1 => ?_) (fun b hb i j hi hj => ?_) (fun i j x hi hx => ?_))
      · cases hb
        have h0' := hcell 0 (by omega)
        refine ⟨?_, ?_⟩
        · unfold World.cell? at h0'
          simp only [Addr.add, if_true] at h0'
          split at h0'
          · split at h0'
            · cases h0'
            · rename_i h; simpa using h
          · cases h0'
        · unfold World.cell? at h0'
          simp only [Addr.add, if_true] at h0'
          split at h0'
          · rename_i h
            exact (Array.getElem?_eq_some_iff.1 h).1
          · cases h0'
      · cases hb
        have : j = 0 := by omega
        subst this
        rw [Nat.mul_one, Nat.add_zero, hspot i (by omega)]
        have := hwf i (by omega)
        rw [show ((zs.getD i 0).toNat : Int) = zs.getD i 0 by omega]
      · cases j with
        | zero => obtain rfl : FV.int .u32 ((zs.getD i 0).toNat : Int) = x := Option.some.inj hx; exact .int
        | succ j => simp at hx
    · simp [lits]; omega

theorem natu64_in {t : TypeId} {W : World} {r : Reach} {b0 : Nat} {v : Value} {d : DataW H} {ps : List MemPlace} (ht : P.underlying t = some (.int .u64)) (hval : Value.okWide P W r b0 t v) (h : DataW.Trod enc P W 0 (fun _ => true) true t v d ps) :
    ∃ x : Nat, RelA (fun k => k < W.heap.size) m0 G0 W (.f (.int .u64 (x : Nat))) v ∧ x < 18446744073709551616 := by
  obtain ⟨n, rfl, _, _, hw⟩ := open_int ht hval h
  simp only [Lit.wf, Bool.and_eq_true, decide_eq_true_eq, IntKind.min, IntKind.max, IntKind.signed, IntKind.bits] at hw
  simp at hw
  refine ⟨n.toNat, ?_, by omega⟩
  rw [show ((n.toNat : Nat) : Int) = n by omega]
  exact .f .int
theorem natu8_in {t : TypeId} {W : World} {r : Reach} {b0 : Nat} {v : Value} {d : DataW H} {ps : List MemPlace} (ht : P.underlying t = some (.int .u8)) (hval : Value.okWide P W r b0 t v) (h : DataW.Trod enc P W 0 (fun _ => true) true t v d ps) :
    ∃ x : Nat, RelA (fun k => k < W.heap.size) m0 G0 W (.f (.int .u8 (x : Nat))) v ∧ x < 256 := by
  obtain ⟨n, rfl, _, _, hw⟩ := open_int ht hval h
  simp only [Lit.wf, Bool.and_eq_true, decide_eq_true_eq, IntKind.min, IntKind.max, IntKind.signed, IntKind.bits] at hw
  simp at hw
  refine ⟨n.toNat, ?_, by omega⟩
  rw [show ((n.toNat : Nat) : Int) = n by omega]
  exact .f .int
theorem int_in {t : TypeId} {W : World} {r : Reach} {b0 : Nat} {v : Value} {d : DataW H} {ps : List MemPlace} (ht : P.underlying t = some (.int .i64)) (hval : Value.okWide P W r b0 t v) (h : DataW.Trod enc P W 0 (fun _ => true) true t v d ps) :
    ∃ x : Int, RelA (fun k => k < W.heap.size) m0 G0 W (.f (.int .i64 x)) v ∧ -9223372036854775808 ≤ x ∧ x ≤ 9223372036854775807 := by
  obtain ⟨n, rfl, _, _, hw⟩ := open_int ht hval h
  simp only [Lit.wf, Bool.and_eq_true, decide_eq_true_eq, IntKind.min, IntKind.max, IntKind.signed, IntKind.bits] at hw
  simp at hw
  exact ⟨n, .f .int, by omega, by omega⟩
end
end Go.Abs
