/- Calls that read through a pointer to the caller's own cells. -/
import Derived.Test.YtjfpddgldfaahaaDoorV29
set_option linter.all false
namespace Go.Proofs.Vl
open Go Go.RowKit
def frzP (st : St) : AV → AV
  | .c (.ptr k off) => match find st.objs k with
    | some (.pcells _ cs) => .c (.eptr (cs.drop off))
    | _ => .c (.ptr k off)
  | z => Vl.frz st z
section
variable {P : Program} {cx : Cx} {st st' : St} {a a' : Act} {w w' : World} {fz : Nat → Prop} {β : Nat → Option Nat} {Q : Exit → St → Prop} {c : Code} {K : St → Prop} {kp : Bool} {o : Oper}
variable {dst : Option Tmp} {ty : TypeId} {pos : String} {af : Array Edge} {gd : Option (Nat × Bool)}
theorem SR.frzP (h : SR cx st a w fz β) {z : AV} {v : Value} (hz : RepA w fz β z v) (hk : (Vl.frzP st z).keyless = true) : RepA w (fzAll fz β) (fun _ => none) (Vl.frzP st z) v := by
  cases z with
  | c y =>
    cases y with
    | ptr k off =>
      cases hf : find st.objs k with
      | none => simp [Vl.frzP, hf, AV.keyless] at hk
      | some ob =>
        cases ob with
        | pcells T cs =>
          have e : Vl.frzP st (.c (.ptr k off)) = .c (.eptr (cs.drop off)) := by simp [Vl.frzP, hf]
          rw [e]
          obtain ⟨b, vs, h1, h2, h3⟩ := h.h.ob k _ hf
          obtain ⟨b', h4, h5⟩ := hz
          rw [h1] at h4; cases h4
          subst h5
          refine ⟨b, off, rfl, fun _ => .inr ⟨k, h1⟩, fun c x hx => ?_⟩
          rw [List.getElem?_drop] at hx
          obtain ⟨u, g1, g2⟩ := h3.get hx
          exact ⟨u, by rw [cellAt h2]; exact g1, g2.adv (Adv.refl _ _) (fun b hb => .inl hb)⟩
        | _ => simp [Vl.frzP, hf, AV.keyless] at hk
    | _ => exact h.frz hz hk
  | _ => exact h.frz hz hk
theorem OpTo.callE {f : Nat} {xs : List Operand} {args : List AV} {ats : Array TypeId} {Q : AV → List (Nat × Ob) → Prop} (hf : isFn P f = true) (ho : okOps xs = true) (ha : xs.map (fun x => Vl.frzP st (st.op cx x)) = args) (hk : args.all AV.keyless = true) (hc : AC P cx.G f args [] Q)
    (hq : ∀ r os', Q r os' → ∃ s', Imp false st os' dst r s' ∧ K s') : OpTo P cx kp ⟨dst, .call { callee := .value (.func f), args := xs.toArray, argTypes := ats }, ty, pos, af, gd⟩ st K := by
  intro a w next Qx ⟨fz, β, hs⟩ hn
  subst ha
  have hA : All2 (RepA w (fzAll fz β) (fun _ => none)) (xs.map (fun x => Vl.frzP st (st.op cx x))) (xs.map a.eval) :=
    all2_map_list xs fun x hx => hs.frzP (hs.op x (List.all_eq_true.1 ho x hx)) (by have := List.all_eq_true.1 hk _ (List.mem_map_of_mem (f := fun x => Vl.frzP st (st.op cx x)) hx); exact this)
  have hlt : ∀ b, fzAll fz β b → b < w.heap.size := fun b hb => by rcases hb with h | ⟨k, h⟩; exact hs.h.fzlt b h; exact hs.h.lt k b h
  have hcall := hc w (fzAll fz β) (fun _ => none) (xs.map a.eval) (fun _ _ => rfl) (H.none hlt) hs.glob hA
  unfold wpv
  have hrun : (execOp a.eval ⟨dst, .call { callee := .value (.func f), args := xs.toArray, argTypes := ats }, ty, pos, af, gd⟩).run P w = .ok (.enter f (xs.map a.eval).toArray) w := by
    simp [execOp, resolve, Act.eval, Deferred.ofValue, invoke, run_callFunc hf]
  rw [hrun, upv_enter]
  refine hcall.mono fun e w' ⟨v, r, os', fz', β', h1, h2, h3, h4, h5⟩ => ?_
  subst h1
  obtain ⟨s', h6, h7⟩ := hq r os' h2
  obtain ⟨fz2, β2, h8⟩ := hs.back (m := false) (fun b hb => .inl hb) (fun h => by cases h) h3 h4 h5 h6
  exact hn _ _ _ h7 ⟨fz2, β2, h8⟩ (fun _ => ⟨h3.size, fun b hb => h3.old rfl b hb (fun k => by simp)⟩)
theorem callEN {f : Nat} {xs : List Operand} {args : List AV} {ats : Array TypeId} {v : AV} (hf : isFn P f = true := by rfl) (ho : okOps xs = true := by rfl) (ha : xs.map (fun x => Vl.frzP st (st.op cx x)) = args := by rfl) (hk : args.all AV.keyless = true := by rfl)
    (hc : AC P cx.G f args [] (fun r _ => r = v)) (hi : avOk false v = true := by rfl) (h : K (st.put dst v)) : OpTo P cx kp ⟨dst, .call { callee := .value (.func f), args := xs.toArray, argTypes := ats }, ty, pos, af, gd⟩ st K :=
  OpTo.callE hf ho ha hk hc (fun r os' e => ⟨_, .val (by rw [e]; exact hi), by rw [e]; exact h⟩)
/-- A pointer that is there. -/
theorem Val.nilC {x : Operand} (h1 : okOp x = true) (hA : isAddr (st.op cx x) = true) : Val P cx true ⟨dst, .nilCheck x, ty, pos, af, gd⟩ st (st.op cx x) := fun a w fz β hs => by
  obtain ⟨b, o', h2, h3⟩ := (hs.op x h1).addOff hA
  exact ⟨a.eval x, hs.op x h1, fun w' _ => by simp [execOp, h2]⟩
end
end Go.Proofs.Vl
