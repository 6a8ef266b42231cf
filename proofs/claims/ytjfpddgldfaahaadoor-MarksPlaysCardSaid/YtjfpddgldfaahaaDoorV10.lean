/- Quick operations, reckoned. -/
import Derived.Test.YtjfpddgldfaahaaDoorV9
set_option linter.all false
namespace Go.Proofs.Vl
open Go Go.RowKit
def ikEq : IntKind → IntKind → Bool
  | .i8, .i8 | .i16, .i16 | .i32, .i32 | .i64, .i64 | .u8, .u8 | .u16, .u16 | .u32, .u32 | .u64, .u64 => true
  | _, _ => false
theorem ikEq_eq {a b : IntKind} (h : ikEq a b = true) : a = b := by cases a <;> cases b <;> first | rfl | cases h
/-- A value that is known as it is. -/
def exV : AV → Option Value
  | .c (.p (.s v)) => some v
  | _ => none
theorem exV_eq {x : AV} {v : Value} (h : exV x = some v) : x = .c (.p (.s v)) := by
  unfold exV at h; split at h
  · cases h; rfl
  · cases h
def evBin (op : BinOp) (u v : Value) : Option Value := match u, v with
  | .int k a, .int j b => match op with
    | .shl => cond (decide (0 ≤ b)) (some (.int k (k.wrap (a * 2 ^ (min b.toNat k.bits))))) none
    | .shr => cond (decide (0 ≤ b)) (some (.int k (a.fdiv (2 ^ (min b.toNat k.bits))))) none
    | .quo => cond (ikEq k j && !decide (b = 0)) (some (.int k (k.wrap (a.tdiv b)))) none
    | .rem => cond (ikEq k j && !decide (b = 0)) (some (.int k (a.tmod b))) none
    | o => cond (ikEq k j) (some (iop o k a b)) none
  | _, _ => none
def evUn (op : UnOp) (u : Value) : Option Value := match op, u with
  | .not, .bool b => some (.bool !b)
  | .neg, .int k n => some (.int k (k.wrap (0 - n)))
  | _, _ => none
def tyK (P : Program) (T : TypeId) : Option IntKind := match P.underlying T with
  | some (.int k) => some k
  | _ => none
def tySl (P : Program) (T : TypeId) : Bool := match P.underlying T with
  | some (.slice _) => true
  | _ => false
def tyStr (P : Program) (T : TypeId) : Bool := match P.underlying T with
  | some .string => true
  | _ => false
def hasTy (P : Program) (T : TypeId) : Bool := (P.underlying T).isSome
def evLen (P : Program) (T : TypeId) (x : AV) : Option Value :=
  cond (tySl P T) ((lenA x).map (fun (n : Nat) => Value.int .i64 (n : Int))) (cond (tyStr P T) (match exV x with | some (.string s) => some (.int .i64 s.size) | _ => none) none)
def evMin (op : Builtin) (u v : Value) : Option Value := match op, u, v with
  | .min, .int k a, .int _ b => some (.int k (if b < a then b else a))
  | .max, .int k a, .int _ b => some (.int k (if b > a then b else a))
  | _, _, _ => none
def ev (P : Program) (cx : Cx) (st : St) : Op → Option AV
  | .move x | .assign x => cond (okOp x) (some (st.op cx x)) none
  | .pick c x y => cond (okOp c && okOp x && okOp y) (match st.op cx c with
    | .c (.p (.s (.bool b))) => some (cond b (st.op cx x) (st.op cx y))
    | _ => none) none
  | .binOp op _ x y _ => cond (okOp x && okOp y) (match exV (st.op cx x), exV (st.op cx y) with
    | some u, some v => (evBin op u v).map AV.ofV
    | _, _ => none) none
  | .unOp op _ x => cond (okOp x) (match exV (st.op cx x) with
    | some u => (evUn op u).map AV.ofV
    | none => none) none
  | .convert s d x => cond (okOp x && hasTy P s) (match exV (st.op cx x), tyK P d with
    | some (.int _ n), some k => some (AV.ofV (.int k (k.wrap n)))
    | _, _ => none) none
  | .extract x j => cond (okOp x) (match st.op cx x with
    | .tup xs => (xs[j]?).map TV.av
    | _ => none) none
  | .fieldAddr S x f => cond (okOp x && isAddr (st.op cx x)) ((fldI P S f).map (addOff (st.op cx x))) none
  | .load T x => cond (okOp x) (match tyI P T with
    | some none => match placeP st (st.op cx x) with
      | some (z :: _) => some (.c (.p z))
      | some [] => none
      | none => match placeC st (st.op cx x) with
        | some (z :: _) => some (.c z)
        | _ => none
    | _ => none) none
  | .call { callee := .builtin .len, args := ⟨[x]⟩, argTypes := ⟨[T]⟩ } => cond (okOp x) ((evLen P T (st.op cx x)).map AV.ofV) none
  | .call { callee := .builtin b, args := ⟨[x, y]⟩, .. } => cond (okOp x && okOp y) (match exV (st.op cx x), exV (st.op cx y) with
    | some u, some v => (evMin b u v).map AV.ofV
    | _, _ => none) none
  | _ => none
section
variable {P : Program} {cx : Cx} {st : St} {o : Oper}
theorem cond_some {α : Type} {b : Bool} {x : Option α} {v : α} (h : cond b x none = some v) : b = true ∧ x = some v := by cases b <;> simp_all
theorem evBin_run {op : BinOp} {u v z : Value} (h : evBin op u v = some z) (tx : TypeId) (x y : Operand) : okV z = true ∧ (∀ w, (binOp op tx u v).run P w = .ok z w) ∧ (∀ w, (eqGuard op tx x y u v).run P w = .ok () w) := by
  unfold evBin at h
  split at h
  · rename_i k a j b
    cases op <;> dsimp only at h
    case shl =>
      obtain ⟨h1, h2⟩ := cond_some h; cases h2
      exact ⟨rfl, fun w => by have := of_decide_eq_true h1; simp [binOp, Op.shift, show ¬ b < 0 by omega], fun w => eqGuard_int _ tx x y k j a b w⟩
    case shr =>
      obtain ⟨h1, h2⟩ := cond_some h; cases h2
      exact ⟨rfl, fun w => by have := of_decide_eq_true h1; simp [binOp, Op.shift, show ¬ b < 0 by omega], fun w => eqGuard_int _ tx x y k j a b w⟩
    case quo =>
      obtain ⟨h1, h2⟩ := cond_some h; cases h2
      simp only [Bool.and_eq_true, Bool.not_eq_true', decide_eq_false_iff_not] at h1
      obtain ⟨h1, h3⟩ := h1
      have := ikEq_eq h1; subst this
      exact ⟨rfl, fun w => by simp [binOp, Op.intDiv, h3], fun w => eqGuard_int _ tx x y k k a b w⟩
    case rem =>
      obtain ⟨h1, h2⟩ := cond_some h; cases h2
      simp only [Bool.and_eq_true, Bool.not_eq_true', decide_eq_false_iff_not] at h1
      obtain ⟨h1, h3⟩ := h1
      have := ikEq_eq h1; subst this
      exact ⟨rfl, fun w => by simp [binOp, Op.intDiv, h3], fun w => eqGuard_int _ tx x y k k a b w⟩
    all_goals
      obtain ⟨h1, h2⟩ := cond_some h; cases h2
      have := ikEq_eq h1; subst this
      exact ⟨okV_iop rfl _ _ _, run_iop rfl tx k a b, fun w => eqGuard_int _ tx x y k k a b w⟩
  · cases h
theorem Val.ev {x : _} (h : ev P cx st o.op = some x) : Val P cx false o st x := by
  obtain ⟨dst, op, ty, pos, af, gd⟩ := o
  dsimp only at h
  unfold Vl.ev at h
  split at h
  · obtain ⟨h1, h2⟩ := cond_some h; cases h2; exact Val.imp (Val.move h1)
  · obtain ⟨h1, h2⟩ := cond_some h; cases h2; exact Val.imp (Val.assign h1)
  · obtain ⟨h1, h2⟩ := cond_some h
    simp only [Bool.and_eq_true] at h1
    split at h2
    · rename_i b hb; cases h2
      have := Val.pick (P := P) (dst := dst) (ty := ty) (pos := pos) (af := af) (gd := gd) hb h1.1.2 h1.2 h1.1.1
      cases b <;> exact Val.imp this
    · cases h2
  · obtain ⟨h1, h2⟩ := cond_some h
    simp only [Bool.and_eq_true] at h1
    split at h2
    · rename_i u v hu hv
      obtain ⟨z, hz, rfl⟩ := Option.map_eq_some_iff.1 h2
      obtain ⟨e1, e2, e3⟩ := evBin_run (P := P) hz _ _ _
      exact Val.imp (Val.bin (exV_eq hu) (exV_eq hv) h1.1 h1.2 e1 e2 e3)
    · cases h2
  · obtain ⟨h1, h2⟩ := cond_some h
    split at h2
    · rename_i u hu
      obtain ⟨z, hz, rfl⟩ := Option.map_eq_some_iff.1 h2
      unfold evUn at hz
      split at hz
      · cases hz; exact Val.imp (Val.not (exV_eq hu) h1)
      · cases hz
        refine Val.imp (Val.pure rfl (fun a w fz β hs w' => ?_))
        have e := hs.eq (exV_eq hu) h1
        simp [execOp, e, Op.unary, Op.intArith]
      · cases hz
    · cases h2
  · obtain ⟨h1, h2⟩ := cond_some h
    simp only [Bool.and_eq_true] at h1
    split at h2
    · rename_i n k hu hk; cases h2
      obtain ⟨D, hD⟩ := Option.isSome_iff_exists.1 h1.2
      unfold tyK at hk
      split at hk
      · rename_i hd; cases hk; exact Val.imp (Val.convI (exV_eq hu) h1.1 hD hd)
      · cases hk
    · cases h2
  · obtain ⟨h1, h2⟩ := cond_some h
    split at h2
    · rename_i xs hxs
      obtain ⟨z, hz, rfl⟩ := Option.map_eq_some_iff.1 h2
      exact Val.imp (Val.extract hxs h1 hz)
    · cases h2
  · obtain ⟨h1, h2⟩ := cond_some h
    simp only [Bool.and_eq_true] at h1
    obtain ⟨z, hz, rfl⟩ := Option.map_eq_some_iff.1 h2
    exact Val.imp (Val.fld hz h1.1 h1.2)
  · obtain ⟨h1, h2⟩ := cond_some h
    split at h2
    · rename_i hT
      split at h2
      · rename_i z r hp; cases h2; exact Val.ld1 hT h1 hp rfl
      · cases h2
      · rename_i hp
        split at h2
        · rename_i z r hp; cases h2; exact Val.lc1 hT h1 hp rfl
        · cases h2
    · cases h2
  · rename_i x' T
    obtain ⟨h1, h2⟩ := cond_some h
    unfold evLen at h2
    cases hs : tySl P T with
    | true =>
      rw [hs] at h2
      dsimp only [cond_true] at h2
      unfold tySl at hs
      split at hs
      · rename_i E hE
        obtain ⟨n, hl, rfl⟩ := Option.map_eq_some_iff.1 h2
        obtain ⟨m, hm, rfl⟩ := Option.map_eq_some_iff.1 hl
        exact Val.imp (Val.len hE h1 hm)
      · cases hs
    | false =>
      rw [hs] at h2
      dsimp only [cond_false] at h2
      cases hst : tyStr P T with
      | false => rw [hst] at h2; simp at h2
      | true =>
        rw [hst] at h2
        dsimp only [cond_true] at h2
        unfold tyStr at hst
        split at hst
        · rename_i hS
          split at h2
          · rename_i s hx; simp at h2; subst h2; exact Val.imp (Val.lenS hS h1 (exV_eq hx))
          · simp at h2
        · cases hst
  · obtain ⟨h1, h2⟩ := cond_some h
    simp only [Bool.and_eq_true] at h1
    split at h2
    · rename_i u v hu hv
      obtain ⟨z, hz, rfl⟩ := Option.map_eq_some_iff.1 h2
      unfold evMin at hz
      split at hz
      · cases hz; exact Val.imp (Val.min2 (exV_eq hu) (exV_eq hv) h1.1 h1.2)
      · cases hz; exact Val.imp (Val.max2 (exV_eq hu) (exV_eq hv) h1.1 h1.2)
      · cases hz
    · cases h2
  · cases h
end
end Go.Proofs.Vl
