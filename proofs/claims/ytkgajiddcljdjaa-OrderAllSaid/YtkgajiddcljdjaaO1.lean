/- Chapter 18: numbers, places, orders that are ones. -/
import Derived.Test.YtkgajiddcljdjaaS3
set_option linter.all false
set_option maxRecDepth 2000
set_option maxHeartbeats 8000000
namespace Go.Proofs.Vl
open Go Go.RowKit
attribute [local irreducible] AWp OpTo Run DL Val UN DR AC Le thn inb nog
/-- A slice held against nil: of an empty one it is not known which it is. -/
theorem OpTo.nilS {P : Program} {cx : Cx} {kp : Bool} {st : St} {K : St → Prop} {dst : Option Tmp} {ty tx t2 E : TypeId} {pos : String} {af : Array Edge} {gd : Option (Nat × Bool)} {x : Operand} {xs : List (List PV)} (hx : st.op cx x = .c (.p (.fro xs))) (ho : okOp x = true) (hu : P.underlying tx = some (.slice E))
    (h : ∀ b : Bool, (xs ≠ [] → b = false) → K (st.put dst (.c (.p (.s (.bool b)))))) : OpTo P cx kp ⟨dst, .binOp .eql tx x (.const (.slice none 0 0)) t2, ty, pos, af, gd⟩ st K := by
  unfold OpTo
  intro a w next Qx ⟨fz, β, hs⟩ hn
  have hr : RepA w fz β (.c (.p (.fro xs))) (a.eval x) := by have := hs.op x ho; rw [hx] at this; exact this
  have hv : ∃ b : Bool, (xs ≠ [] → b = false) ∧ ∀ w', (execOp a.eval ⟨dst, .binOp .eql tx x (.const (.slice none 0 0)) t2, ty, pos, af, gd⟩).run P w' = .ok (.value (.bool b)) w' := by
    have hy : a.eval (.const (.slice none 0 0)) = .slice none 0 0 := rfl
    have key : ∀ (ad : Option Addr) (n cap : Nat), a.eval x = .slice ad n cap → ∀ w', (execOp a.eval ⟨dst, .binOp .eql tx x (.const (.slice none 0 0)) t2, ty, pos, af, gd⟩).run P w' = .ok (.value (.bool ad.isNone)) w' := by
      intro ad n cap hv w'
      have h1 : (Op.equal tx (.slice ad n cap) (.slice none 0 0)).run P w' = .ok ad.isNone w' := by
        show (Op.equalIn (Nat.succ 9999) tx (.slice ad n cap) (.slice none 0 0)).run P w' = .ok ad.isNone w'
        generalize (9999 : Nat) = m
        cases ad <;> simp [Op.equalIn, run_underlying hu]
      simp [execOp, hv, hy, eqGuard, binOp, h1]
    have hr : RepP w fz (.fro xs) (a.eval x) := hr
    generalize a.eval x = z at hr key
    cases hr with
    | nil ad cap => exact ⟨ad.isNone, fun h => absurd rfl h, key ad 0 cap rfl⟩
    | fro _ b o cap sz val hb hcap hl hc hrr => exact ⟨false, fun _ => rfl, key (some ⟨b, o, none⟩) _ cap rfl⟩
  obtain ⟨b, hb, hv⟩ := hv
  unfold wpv
  rw [hv w]
  exact hn _ _ _ (h b hb) ⟨fz, β, hs.put (show RepA w fz β (.c (.p (.s (.bool b)))) (.bool b) from RepP.s (.bool b) rfl) dst⟩ (fun _ => Old.refl w)
theorem rest18_ac (G) (a b : Int) (hb : 0 < b) (hb2 : b < 4611686018427387904) : AC Try.prog G 9 [vi a, vi b] [] (fun r _ => r = vi (a % b)) := by
  refine AC.body' Try.func9 Try.ntmps9 rfl ?_
  intro cx hd hG
  refine nrmL (k := ?_)
  repeat refine w1 (k := ?_)
  first | refine ofN (hv := by exact Val.rem rfl rfl rfl rfl (by omega)) (h := ?_) | refine dlN (hv := by exact Val.rem rfl rfl rfl rfl (by omega)) (h := ?_) | refine dlgN (hv := by exact Val.rem rfl rfl rfl rfl (by omega)) (h := ?_) | refine ofN (hv := by exact Val.rem rfl rfl rfl rfl (by omega)) (h := ?_)
  repeat refine w1 (k := ?_)
  first | refine ofN (hv := by exact Val.rem rfl rfl rfl rfl (by omega)) (h := ?_) | refine dlN (hv := by exact Val.rem rfl rfl rfl rfl (by omega)) (h := ?_) | refine dlgN (hv := by exact Val.rem rfl rfl rfl rfl (by omega)) (h := ?_) | refine ofN (hv := by exact Val.rem rfl rfl rfl rfl (by omega)) (h := ?_)
  repeat refine w1 (k := ?_)
  refine ⟨[.c _], .cons (.tmp rfl) .nil, ?_⟩
  rw [rest_w a b hb hb2]
  rfl
