/- Boxes whose slices grow. -/
import Derived.Test.YtekkpgfklhhacaaE2
set_option linter.all false
namespace Go.Proofs.Vl
open Go Go.RowKit
theorem SR.reob {cx : Cx} {st : St} {a : Act} {w : World} {fz : Nat → Prop} {β : Nat → Option Nat} (h : SR cx st a w fz β) {k : Nat} {o' : Ob} (ho : RepO w fz β k o') : SR cx ⟨st.tmps, upd st.objs k o'⟩ a w fz β := by
  refine ⟨h.d, h.low, h.rel, ⟨h.h.lt, h.h.fzlt, h.h.inj, h.h.apart, fun j o hj => ?_⟩, h.t⟩
  rw [find_upd] at hj
  split at hj
  · rename_i e
    subst e
    cases hj
    exact ho
  · exact h.h.ob j o hj
/-- A box that holds nil holds a row of the call's own, of no elements. -/
theorem Le.seedBox {cx : Cx} {st : St} (k d sz : Nat) (T E : TypeId) (hf : find st.objs k = some (.pcells E [.s (.slice none 0 0)])) (hlow : d < 1000000) (hkd : k ≠ d) (hn : st.noref d = true) : Le cx st ⟨st.tmps, upd (upd st.objs d (.row T sz [])) k (.cells E [.own d sz 0])⟩ := by
  unfold Le
  rintro a w ⟨fz, β, hs⟩
  have h1 := hs.nilrow (T := T) (sz := sz) hlow hn
  refine ⟨fz, bup β d none, h1.reob (k := k) ?_⟩
  obtain ⟨b, vs, h2, h3, h4⟩ := hs.h.ob k _ hf
  refine ⟨b, vs, (bup_other β d none hkd).trans h2, h3, ?_⟩
  cases h4 with
  | cons g1 g2 =>
    cases g2
    have := RepP.eq g1
    subst this
    exact .cons ⟨rfl, .inl ⟨bup_same _ _ _, rfl, rfl⟩⟩ .nil
/-- A box of plain cells. -/
theorem Le.toP {cx : Cx} {st : St} (k : Nat) (E : TypeId) (x : PV) (hf : find st.objs k = some (.cells E [.p x])) : Le cx st ⟨st.tmps, upd st.objs k (.pcells E [x])⟩ := by
  unfold Le
  rintro a w ⟨fz, β, hs⟩
  refine ⟨fz, β, hs.reob (k := k) ?_⟩
  obtain ⟨b, vs, h2, h3, h4⟩ := hs.h.ob k _ hf
  refine ⟨b, vs, h2, h3, ?_⟩
  cases h4 with
  | cons g1 g2 => cases g2; exact .cons g1.2 .nil
end Go.Proofs.Vl
