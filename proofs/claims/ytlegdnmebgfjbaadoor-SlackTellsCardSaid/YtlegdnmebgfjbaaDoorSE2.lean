/- A slice held against nil; one slot told otherwise; function values without captures. -/
import Derived.Test.YtlegdnmebgfjbaaDoorW4
set_option linter.all false
namespace Go.Proofs.Vl
open Go Go.RowKit
/-- A slice held against nil: of an empty one it is not known which it is. -/
theorem OpTo.nilS {P : Program} {cx : Cx} {kp : Bool} {st : St} {K : St → Prop} {dst : Option Tmp} {ty tx t2 E : TypeId} {pos : String} {af : Array Edge} {gd : Option (Nat × Bool)} {x : Operand} {xs : List (List PV)} (hx : st.op cx x = .c (.p (.fro xs))) (ho : okOp x = true) (hu : P.underlying tx = some (.slice E))
    (h : ∀ b : Bool, (xs ≠ [] → b = false) → K (st.put dst (.c (.p (.s (.bool b)))))) : OpTo P cx kp ⟨dst, .binOp .eql tx x (.const (.slice none 0 0)) t2, ty, pos, af, gd⟩ st K := by
  unfold OpTo
  intro a w next Qx ⟨fz, β, hs⟩ hn
  have hr : RepA w fz β (.c (.p (.fro xs))) (a.eval x) := by have := hs.op x ho; rw [hx] at this; exact this
  have hv : ∃ b : Bool, (xs ≠ [] → b = false) ∧ ∀ w', (execOp a.eval ⟨dst, .binOp .eql tx x (.const (.slice none 0 0)) t2, ty, pos, af, gd⟩).run P w' = .ok (.value (.bool b)) w' := by
    have hy : a.eval (.const (.slice none 0 0)) = .slice none 0 0 := rfl
    have key : ∀ (ad : Option Addr) (n cap : Nat), a.eval x = .slice ad n cap → ∀ w', (execOp a.eval ⟨dst, .binOp .eql tx x (.const (.slice none 0 0)) t2, ty, pos, af, gd⟩).run P w' = .ok (.value (.bool ad.isNone)) w' := by
      intro ad n cap hv w'
      have h1 : (Op.equal tx (.slice ad n cap) (.slice none 0 0)).run P w' = .ok ad.isNone w' := by
        show (Op.equalIn (Nat.succ 9999) tx (.slice ad n cap) (.slice none 0 0)).run P w' = .ok ad.isNone w'
        generalize (9999 : Nat) = m
        cases ad <;> simp [Op.equalIn, run_underlying hu]
      simp [execOp, hv, hy, eqGuard, binOp, h1]
    have hr : RepP w fz (.fro xs) (a.eval x) := hr
    generalize a.eval x = z at hr key
    cases hr with
    | nil ad cap => exact ⟨ad.isNone, fun h => absurd rfl h, key ad 0 cap rfl⟩
    | fro _ b o cap sz val hb hcap hl hc hrr => exact ⟨false, fun _ => rfl, key (some ⟨b, o, none⟩) _ cap rfl⟩
  obtain ⟨b, hb, hv⟩ := hv
  unfold wpv
  rw [hv w]
  exact hn _ _ _ (h b hb) ⟨fz, β, hs.put (show RepA w fz β (.c (.p (.s (.bool b)))) (.bool b) from RepP.s (.bool b) rfl) dst⟩ (fun _ => Old.refl w)
theorem Le.slot {cx : Cx} {st : St} (t : Nat) {x z : AV} (ht : st.tmps[t]? = some x) (h : ∀ w fz β v, RepA w fz β x v → RepA w fz β z v) : Le cx st ⟨st.tmps.set t z, st.objs⟩ := by
  unfold Le
  rintro a w ⟨fz, β, hs⟩
  refine ⟨fz, β, hs.d, hs.low, hs.rel, hs.h, ?_⟩
  obtain ⟨v, h2, h3⟩ := hs.t.get ht
  have h5 := hs.t.set (h _ _ _ _ h3) t
  have h6 : a.tmps.toList.set t v = a.tmps.toList := by
    apply List.ext_getElem?
    intro i
    rw [List.getElem?_set]
    split
    · rename_i hi; subst hi
      split
      · exact h2.symm
      · rename_i hlt; rw [List.getElem?_eq_none (by omega)]
    · rfl
  rw [h6] at h5
  exact h5
def fnv (f : Nat) : PV := .s (.func (.func f) #[] #[])
theorem fnv_of (f : Nat) (w fz β v) (h : RepA w fz β (.c (.fn f [])) v) : RepA w fz β (.c (.p (fnv f))) v := by
  obtain ⟨cv, rfl, h2⟩ := h
  cases h2
  exact RepP.s _ rfl
theorem of_fnv (f : Nat) (w fz β v) (h : RepA w fz β (.c (.p (fnv f))) v) : RepA w fz β (.c (.fn f [])) v := by
  have h : RepP w fz (fnv f) v := h
  cases RepP.eq h
  exact ⟨[], rfl, .nil⟩
theorem SR.reob {cx : Cx} {st : St} {a : Act} {w : World} {fz : Nat → Prop} {β : Nat → Option Nat} (h : SR cx st a w fz β) {k : Nat} {o' : Ob} (ho : RepO w fz β k o') : SR cx ⟨st.tmps, upd st.objs k o'⟩ a w fz β := by
  refine ⟨h.d, h.low, h.rel, ⟨h.h.lt, h.h.fzlt, h.h.inj, h.h.apart, fun j o hj => ?_⟩, h.t⟩
  rw [find_upd] at hj
  split at hj
  · rename_i e
    subst e
    cases hj
    exact ho
  · exact h.h.ob j o hj
/-- A box that holds nil holds a row of the call's own, of no elements. -/
theorem Le.seedBox {cx : Cx} {st : St} (k d sz : Nat) (T E : TypeId) (hf : find st.objs k = some (.pcells E [.s (.slice none 0 0)])) (hlow : d < 1000000) (hkd : k ≠ d) (hn : st.noref d = true) : Le cx st ⟨st.tmps, upd (upd st.objs d (.row T sz [])) k (.cells E [.own d sz 0])⟩ := by
  unfold Le
  rintro a w ⟨fz, β, hs⟩
  have h1 := hs.nilrow (T := T) (sz := sz) hlow hn
  refine ⟨fz, bup β d none, h1.reob (k := k) ?_⟩
  obtain ⟨b, vs, h2, h3, h4⟩ := hs.h.ob k _ hf
  refine ⟨b, vs, (bup_other β d none hkd).trans h2, h3, ?_⟩
  cases h4 with
  | cons g1 g2 =>
    cases g2
    have := RepP.eq g1
    subst this
    exact .cons ⟨rfl, .inl ⟨bup_same _ _ _, rfl, rfl⟩⟩ .nil
/-- A box of plain cells. -/
theorem Le.toP {cx : Cx} {st : St} (k : Nat) (E : TypeId) (x : PV) (hf : find st.objs k = some (.cells E [.p x])) : Le cx st ⟨st.tmps, upd st.objs k (.pcells E [x])⟩ := by
  unfold Le
  rintro a w ⟨fz, β, hs⟩
  refine ⟨fz, β, hs.reob (k := k) ?_⟩
  obtain ⟨b, vs, h2, h3, h4⟩ := hs.h.ob k _ hf
  refine ⟨b, vs, h2, h3, ?_⟩
  cases h4 with
  | cons g1 g2 => cases g2; exact .cons g1.2 .nil

theorem Le.toC {cx : Cx} {st : St} (k : Nat) (E : TypeId) (cs : List PV) (hf : find st.objs k = some (.pcells E cs)) : Le cx st ⟨st.tmps, upd st.objs k (.cells E (cs.map .p))⟩ := by
  unfold Le
  rintro a w ⟨fz, β, hs⟩
  refine ⟨fz, β, hs.reob (k := k) ?_⟩
  obtain ⟨b, vs, h2, h3, h4⟩ := hs.h.ob k _ hf
  exact ⟨b, vs, h2, h3, all2_map_p h4⟩
end Go.Proofs.Vl
