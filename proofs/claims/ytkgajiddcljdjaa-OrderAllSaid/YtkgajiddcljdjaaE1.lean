/- Equality of values of struct types whose fields are numbers, texts, truths. -/
import Derived.Test.YtkgajiddcljdjaaVC
import Derived.Test.YtkgajiddcljdjaaProg
import Derived.KernelRfl
import Derived.Laws.StructEq
set_option linter.all false
namespace Go.Proofs.Vl
open Go Go.RowKit
def veq : Value → Value → Bool
  | .int _ a, .int _ b => a == b
  | .string a, .string b => a == b
  | .bool a, .bool b => a == b
  | _, _ => false
/-- Two values of one plain kind, and a type of it. -/
def vfit (P : Program) (T : TypeId) : Value → Value → Bool
  | .int k _, .int k' _ => decide (k = k') && (match P.underlying T with | some (.int _) => true | _ => false)
  | .string _, .string _ => match P.underlying T with | some .string => true | _ => false
  | .bool _, .bool _ => match P.underlying T with | some .bool => true | _ => false
  | _, _ => false
theorem run_veq {P : Program} {T : TypeId} {u v : Value} (h : vfit P T u v = true) (d : Nat) (w : World) : (Op.equalIn (d + 1) T u v).run P w = .ok (veq u v) w := by
  unfold vfit at h
  split at h
  · rename_i k a k' b
    rw [Bool.and_eq_true, decide_eq_true_eq] at h
    obtain ⟨rfl, h⟩ := h
    split at h
    · rename_i k2 hu; exact run_equalIn_int w d T k k2 a b hu
    · cases h
  · split at h
    · rename_i a b hu
      rw [run_equalIn_string w d T _ _ hu, ← beq_toListBytes]; rfl
    · cases h
  · split at h
    · rename_i a b hu; exact run_equalIn_bool' w d T _ _ hu
    · cases h
  · cases h
def qeq (vs us : List Value) (q : List (String × TypeId × Nat)) : Bool := q.all fun x => match vs[x.2.2]?, us[x.2.2]? with
  | some u, some v => veq u v
  | _, _ => false
def qfit (P : Program) (vs us : List Value) (q : List (String × TypeId × Nat)) : Bool := q.all fun x => decide (x.1 ≠ "_") && (match tyI P x.2.1 with | some none => true | _ => false) && match vs[x.2.2]?, us[x.2.2]? with
  | some u, some v => vfit P x.2.1 u v
  | _, _ => false
theorem run_eqF {P : Program} {vs us : List Value} (n : Nat) (w : World) : ∀ (fs : List Field) (q : List (String × TypeId × Nat)), fs.map (fun f => (f.name, f.type, f.offset)) = q → qfit P vs us q = true → (Op.eqFields (n + 1) vs.toArray us.toArray fs).run P w = .ok (qeq vs us q) w
  | [], q, h, _ => by subst h; simp [Op.eqFields, qeq]
  | f :: fs, q, h, hq => by
    subst h
    rw [List.map_cons, qfit, List.all_cons, Bool.and_eq_true, Bool.and_eq_true, Bool.and_eq_true] at hq
    obtain ⟨⟨⟨h1, h2⟩, h3⟩, h4⟩ := hq
    have ih := run_eqF n w fs _ rfl h4
    dsimp only at h1 h2 h3
    split at h2
    · rename_i hT
      split at h3
      · rename_i u v hu hv
        have q1 := run_part1 hT hu w
        have q2 := run_part1 hT hv w
        have q3 := run_veq h3 n w
        unfold Op.eqFields
        rw [if_pos (by simpa using h1), Sem.run_bind, q1, Result.andThen_ok, Sem.run_bind, q2, Result.andThen_ok, Sem.run_bind, q3, Result.andThen_ok]
        rw [List.map_cons, qeq, List.all_cons]
        dsimp only
        rw [hu, hv]
        dsimp only
        cases hb : veq u v
        · simp
        · simp only [Bool.not_true, Bool.false_eq_true, if_false, Bool.true_and]
          rw [ih]; rfl
      · cases h3
    · cases h2
theorem all2_sv {w : World} {fz : Nat → Prop} : ∀ {vs us : List Value}, All2 (RepP w fz) (vs.map PV.s) us → us = vs
  | [], _, h => by cases h; rfl
  | v :: vs, _, h => by
    cases h with
    | cons h1 h2 => rw [RepP.eq h1, all2_sv h2]
theorem Val.eqG {P : Program} {cx : Cx} {st : St} {dst : Option Tmp} {ty t2 S : TypeId} {pos : String} {af : Array Edge} {gd : Option (Nat × Bool)} {x y : Operand} {vs us : List Value} (q : List (String × TypeId × Nat)) (b : Bool)
    (hx : st.op cx x = .pag (vs.map PV.s)) (hy : st.op cx y = .pag (us.map PV.s)) (h1 : okOp x = true) (h2 : okOp y = true) (hf : ((P.fieldsOf S).toList.map fun f => (f.name, f.type, f.offset)) = q) (ht : P.underlying S = some (.struct (P.fieldsOf S))) (hs' : P.stoodInHeld S = false) (hg : P.eqGuardType P.depth S = false) (hq : qfit P vs us q = true) (hb : qeq vs us q = b) :
    Val P cx true ⟨dst, .binOp .eql S x y t2, ty, pos, af, gd⟩ st (vb b) := by
  subst hb
  unfold Val
  intro ac w fz β hs
  have hX := hs.op x h1
  rw [hx] at hX
  obtain ⟨vs', e1, hr⟩ := hX
  have hY := hs.op y h2
  rw [hy] at hY
  obtain ⟨us', e2, hr2⟩ := hY
  have k1 := all2_sv hr
  have k2 := all2_sv hr2
  subst k1 k2
  refine ⟨.bool (qeq _ _ q), RepP.s _ rfl, fun w' _ => ?_⟩
  simp only [execOp, Sem.run_bind, e1, e2]
  rw [run_eqGuard_agg w' .eql _ x y _ _ hg]
  simp only [Result.andThen_ok]
  rw [run_eql_struct, show (10000 : Nat) = 9999 + 1 from rfl, run_equalIn_agg w' 9999 _ _ _ ht hs', show (9999 : Nat) = 9998 + 1 from rfl, run_eqF 9998 w' _ q hf hq]
  rfl
theorem Val.neG {P : Program} {cx : Cx} {st : St} {dst : Option Tmp} {ty t2 S : TypeId} {pos : String} {af : Array Edge} {gd : Option (Nat × Bool)} {x y : Operand} {vs us : List Value} (q : List (String × TypeId × Nat)) (b : Bool)
    (hx : st.op cx x = .pag (vs.map PV.s)) (hy : st.op cx y = .pag (us.map PV.s)) (h1 : okOp x = true) (h2 : okOp y = true) (hf : ((P.fieldsOf S).toList.map fun f => (f.name, f.type, f.offset)) = q) (ht : P.underlying S = some (.struct (P.fieldsOf S))) (hs' : P.stoodInHeld S = false) (hg : P.eqGuardType P.depth S = false) (hq : qfit P vs us q = true) (hb : qeq vs us q = b) :
    Val P cx true ⟨dst, .binOp .neq S x y t2, ty, pos, af, gd⟩ st (vb (!b)) := by
  subst hb
  unfold Val
  intro ac w fz β hs
  have hX := hs.op x h1
  rw [hx] at hX
  obtain ⟨vs', e1, hr⟩ := hX
  have hY := hs.op y h2
  rw [hy] at hY
  obtain ⟨us', e2, hr2⟩ := hY
  have k1 := all2_sv hr
  have k2 := all2_sv hr2
  subst k1 k2
  refine ⟨.bool (!qeq _ _ q), RepP.s _ rfl, fun w' _ => ?_⟩
  simp only [execOp, Sem.run_bind, e1, e2]
  rw [run_eqGuard_agg w' .neq _ x y _ _ hg]
  simp only [Result.andThen_ok]
  rw [run_neq_struct, show (10000 : Nat) = 9999 + 1 from rfl, run_equalIn_agg w' 9999 _ _ _ ht hs', show (9999 : Nat) = 9998 + 1 from rfl, run_eqF 9998 w' _ q hf hq]
  rfl
end Go.Proofs.Vl
