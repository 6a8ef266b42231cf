/- A slice held against nil; one slot told otherwise; function values without captures. -/
import Derived.Test.YtekkpgfklhhacaaE1
set_option linter.all false
namespace Go.Proofs.Vl
open Go Go.RowKit
/-- A slice held against nil: of an empty one it is not known which it is. -/
theorem OpTo.nilS {P : Program} {cx : Cx} {kp : Bool} {st : St} {K : St → Prop} {dst : Option Tmp} {ty tx t2 E : TypeId} {pos : String} {af : Array Edge} {gd : Option (Nat × Bool)} {x : Operand} {xs : List (List PV)} (hx : st.op cx x = .c (.p (.fro xs))) (ho : okOp x = true) (hu : P.underlying tx = some (.slice E))
    (h : ∀ b : Bool, (xs ≠ [] → b = false) → K (st.put dst (.c (.p (.s (.bool b)))))) : OpTo P cx kp ⟨dst, .binOp .eql tx x (.const (.slice none 0 0)) t2, ty, pos, af, gd⟩ st K := by
  unfold OpTo
  intro a w next Qx ⟨fz, β, hs⟩ hn
  have hr : RepA w fz β (.c (.p (.fro xs))) (a.eval x) := by have := hs.op x ho; rw [hx] at this; exact this
  have hv : ∃ b : Bool, (xs ≠ [] → b = false) ∧ ∀ w', (execOp a.eval ⟨dst, .binOp .eql tx x (.const (.slice none 0 0)) t2, ty, pos, af, gd⟩).run P w' = .ok (.value (.bool b)) w' := by
    have hy : a.eval (.const (.slice none 0 0)) = .slice none 0 0 := rfl
    have key : ∀ (ad : Option Addr) (n cap : Nat), a.eval x = .slice ad n cap → ∀ w', (execOp a.eval ⟨dst, .binOp .eql tx x (.const (.slice none 0 0)) t2, ty, pos, af, gd⟩).run P w' = .ok (.value (.bool ad.isNone)) w' := by
      intro ad n cap hv w'
      have h1 : (Op.equal tx (.slice ad n cap) (.slice none 0 0)).run P w' = .ok ad.isNone w' := by
        show (Op.equalIn (Nat.succ 9999) tx (.slice ad n cap) (.slice none 0 0)).run P w' = .ok ad.isNone w'
        generalize (9999 : Nat) = m
        cases ad <;> simp [Op.equalIn, run_underlying hu]
      simp [execOp, hv, hy, eqGuard, binOp, h1]
    have hr : RepP w fz (.fro xs) (a.eval x) := hr
    generalize a.eval x = z at hr key
    cases hr with
    | nil ad cap => exact ⟨ad.isNone, fun h => absurd rfl h, key ad 0 cap rfl⟩
    | fro _ b o cap sz val hb hcap hl hc hrr => exact ⟨false, fun _ => rfl, key (some ⟨b, o, none⟩) _ cap rfl⟩
  obtain ⟨b, hb, hv⟩ := hv
  unfold wpv
  rw [hv w]
  exact hn _ _ _ (h b hb) ⟨fz, β, hs.put (show RepA w fz β (.c (.p (.s (.bool b)))) (.bool b) from RepP.s (.bool b) rfl) dst⟩ (fun _ => Old.refl w)
theorem Le.kill {cx : Cx} {st : St} (k : Nat) : Le cx st (st.kill k) := by
  unfold Le
  rintro a w ⟨fz, β, hs⟩
  exact ⟨fz, β, hs.kill k⟩
theorem Le.slot {cx : Cx} {st : St} (t : Nat) {x z : AV} (ht : st.tmps[t]? = some x) (h : ∀ w fz β v, RepA w fz β x v → RepA w fz β z v) : Le cx st ⟨st.tmps.set t z, st.objs⟩ := by
  unfold Le
  rintro a w ⟨fz, β, hs⟩
  refine ⟨fz, β, hs.d, hs.low, hs.rel, hs.h, ?_⟩
  obtain ⟨v, h2, h3⟩ := hs.t.get ht
  have h5 := hs.t.set (h _ _ _ _ h3) t
  have h6 : a.tmps.toList.set t v = a.tmps.toList := by
    apply List.ext_getElem?
    intro i
    rw [List.getElem?_set]
    split
    · rename_i hi; subst hi
      split
      · exact h2.symm
      · rename_i hlt; rw [List.getElem?_eq_none (by omega)]
    · rfl
  rw [h6] at h5
  exact h5
def fnv (f : Nat) : PV := .s (.func (.func f) #[] #[])
theorem fnv_of (f : Nat) (w fz β v) (h : RepA w fz β (.c (.fn f [])) v) : RepA w fz β (.c (.p (fnv f))) v := by
  obtain ⟨cv, rfl, h2⟩ := h
  cases h2
  exact RepP.s _ rfl
theorem of_fnv (f : Nat) (w fz β v) (h : RepA w fz β (.c (.p (fnv f))) v) : RepA w fz β (.c (.fn f [])) v := by
  have h : RepP w fz (fnv f) v := h
  cases RepP.eq h
  exact ⟨[], rfl, .nil⟩
end Go.Proofs.Vl
