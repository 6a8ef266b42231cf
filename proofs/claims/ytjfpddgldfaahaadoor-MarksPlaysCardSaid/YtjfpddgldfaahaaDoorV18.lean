/- More operations: functions that are values and hold nothing, strings, arrays that are values. -/
import Derived.Test.YtjfpddgldfaahaaDoorV17
import Derived.Laws.Strings
set_option linter.all false
namespace Go.Proofs.Vl
open Go Go.RowKit
section
variable {P : Program} {cx : Cx} {st : St} {a : Act} {w : World} {fz : Nat → Prop} {β : Nat → Option Nat}
variable {kp : Bool} {K : St → Prop} {dst : Option Tmp} {ty T T' E : TypeId} {pos : String} {af : Array Edge} {gd : Option (Nat × Bool)} {x y : Operand}
/-- A function value that holds nothing of the call's own, called: like a call by name. -/
theorem OpTo.callV {f : Nat} {g : Operand} {xs : List Operand} {args : List AV} {ats : Array TypeId} {Q : AV → List (Nat × Ob) → Prop} (hc : AC P cx.G f args [] Q) (hg : st.op cx g = .c (.fn f [])) (hgo : okOp g = true) (hf : isFn P f = true) (ho : okOps xs = true) (ha : xs.map (fun x => Vl.frz st (st.op cx x)) = args) (hk : args.all AV.keyless = true)
    (hq : ∀ r os', Q r os' → ∃ s', Imp false st os' dst r s' ∧ K s') : OpTo P cx kp ⟨dst, .call { callee := .value g, args := xs.toArray, argTypes := ats }, ty, pos, af, gd⟩ st K := by
  intro a w next Qx ⟨fz, β, hs⟩ hn
  subst ha
  have hG := hs.op g hgo
  rw [hg] at hG
  obtain ⟨cv, hgv, hcv⟩ := hG
  cases hcv
  have hA : All2 (RepA w (fzAll fz β) (fun _ => none)) (xs.map (fun x => Vl.frz st (st.op cx x))) (xs.map a.eval) :=
    all2_map_list xs fun x hx => hs.frz (hs.op x (List.all_eq_true.1 ho x hx)) (by have := List.all_eq_true.1 hk _ (List.mem_map_of_mem (f := fun x => Vl.frz st (st.op cx x)) hx); exact this)
  have hlt : ∀ b, fzAll fz β b → b < w.heap.size := fun b hb => by rcases hb with h | ⟨k, h⟩; exact hs.h.fzlt b h; exact hs.h.lt k b h
  have hcall := hc w (fzAll fz β) (fun _ => none) (xs.map a.eval) (fun _ _ => rfl) (H.none hlt) hs.glob hA
  unfold wpv
  have hrun : (execOp a.eval ⟨dst, .call { callee := .value g, args := xs.toArray, argTypes := ats }, ty, pos, af, gd⟩).run P w = .ok (.enter f (xs.map a.eval).toArray) w := by
    simp [execOp, resolve, hgv, Deferred.ofValue, invoke, run_callFunc hf]
  rw [hrun, upv_enter]
  refine hcall.mono fun e w' ⟨v, r, os', fz', β', h1, h2, h3, h4, h5⟩ => ?_
  subst h1
  obtain ⟨s', h6, h7⟩ := hq r os' h2
  obtain ⟨fz2, β2, h8⟩ := hs.back (m := false) (fun b hb => .inl hb) (fun h => by cases h) h3 h4 h5 h6
  exact hn _ _ _ h7 ⟨fz2, β2, h8⟩ (fun _ => ⟨h3.size, fun b hb => h3.old rfl b hb (fun k => by simp)⟩)
/-! ### Strings -/
theorem Val.idxS {t : TypeId} {s : ByteArray} {k : IntKind} {i : Int} (hu : P.underlying t = some .string) (hx : st.op cx x = .c (.p (.s (.string s)))) (hy : st.op cx y = .c (.p (.s (.int k i)))) (h1 : okOp x = true) (h2 : okOp y = true) (h0 : 0 ≤ i) (hl : i.toNat < s.size) :
    Val P cx true ⟨dst, .index t x y, ty, pos, af, gd⟩ st (.c (.p (.s (.int .u8 (s[i.toNat]'hl).toNat)))) := fun a w fz β hs => by
  have e1 := hs.eq hx h1
  have e2 := hs.eq hy h2
  refine ⟨_, RepP.s _ rfl, fun w' hw => ?_⟩
  have := run_index_string (P := P) w' t s k i hu
  rw [dif_pos (by omega)] at this
  simp [execOp, e1, e2, this]
def strOp (op : BinOp) (a b : ByteArray) : Option Value := match op with
  | .eql => some (.bool (a.toList == b.toList))
  | .neq => some (.bool !(a.toList == b.toList))
  | _ => none
theorem Val.strB {op : BinOp} {tx t2 : TypeId} {u v : ByteArray} {z : Value} (hz : strOp op u v = some z) (hx : st.op cx x = .c (.p (.s (.string u)))) (hy : st.op cx y = .c (.p (.s (.string v)))) (h1 : okOp x = true) (h2 : okOp y = true) :
    Val P cx true ⟨dst, .binOp op tx x y t2, ty, pos, af, gd⟩ st (AV.ofV z) := by
  have hb : ∃ b, z = .bool b := by cases op <;> simp [strOp] at hz <;> exact ⟨_, hz.symm⟩
  obtain ⟨b, rfl⟩ := hb
  refine Val.bin hx hy h1 h2 rfl (fun w => ?_) (fun w => ?_)
  · cases op <;> simp [strOp] at hz <;> simp [binOp, Op.stringOp, hz]
  · unfold eqGuard; split <;> simp
theorem Val.strAdd {tx t2 : TypeId} {u v : ByteArray} (hx : st.op cx x = .c (.p (.s (.string u)))) (hy : st.op cx y = .c (.p (.s (.string v)))) (h1 : okOp x = true) (h2 : okOp y = true) (hl : u.size + v.size ≤ 9223372036854775807) :
    Val P cx true ⟨dst, .binOp .add tx x y t2, ty, pos, af, gd⟩ st (.c (.p (.s (.string (u ++ v))))) := by
  refine Val.bin (z := .string (u ++ v)) hx hy h1 h2 rfl (fun w => ?_) (fun w => ?_)
  · have : ¬ ((u.size + v.size : Nat) : Int) > IntKind.i64.max := by
      rw [show IntKind.i64.max = 9223372036854775807 from rfl]; omega
    simp only [binOp, Op.stringOp]
    rw [if_neg this]; simp
  · unfold eqGuard; simp
/-! ### Arrays that are values -/
theorem run_part1 (hT : tyI P T = some none) {vs : List Value} {off : Nat} {v : Value} (hv : vs[off]? = some v) (w : World) : (part T vs.toArray off).run P w = .ok v w := by
  unfold tyI at hT
  cases hu : P.underlying T with
  | none => simp [hu] at hT
  | some D => cases hi : P.info? T with
    | none => cases D <;> simp [hu, hi] at hT
    | some i => cases D <;> simp [hu, hi] at hT <;> simp [part, isAgg, run_underlying hu, hv]
theorem run_partN {n : Nat} (hT : tyI P T = some (some n)) {vs : List Value} {off : Nat} (w : World) : (part T vs.toArray off).run P w = .ok (.agg ((vs.drop off).take n).toArray) w := by
  unfold tyI at hT
  cases hu : P.underlying T with
  | none => simp [hu] at hT
  | some D => cases hi : P.info? T with
    | none => cases D <;> simp [hu, hi] at hT
    | some i =>
      have e : ∀ m, vs.toArray.extract off (off + m) = ((vs.drop off).take m).toArray := fun m => by simp [List.extract_toArray, List.extract, Nat.add_sub_cancel_left]
      cases D <;> simp [hu, hi] at hT <;> subst hT <;> simp [part, isAgg, run_underlying hu, sizeOf, typeInfo, hi, e]
theorem Val.idxA {S : TypeId} {L n : Nat} {k : IntKind} {i : Int} {cs : List CV} (hu : P.underlying S = some (.array L E)) (hT : tyI P E = some (some n)) (hx : st.op cx x = .agg cs) (hy : st.op cx y = .c (.p (.s (.int k i)))) (h1 : okOp x = true) (h2 : okOp y = true) (h0 : 0 ≤ i) (hl : i < L) :
    Val P cx true ⟨dst, .index S x y, ty, pos, af, gd⟩ st (.agg ((cs.drop (i.toNat * n)).take n)) := fun a w fz β hs => by
  have hX := hs.op x h1
  rw [hx] at hX
  obtain ⟨vs, e1, hr⟩ := hX
  have e2 := hs.eq hy h2
  refine ⟨_, ⟨_, rfl, (hr.drop _).take _⟩, fun w' hw => ?_⟩
  have hsz : P.info? E = none ∨ ∃ i, P.info? E = some i ∧ i.size = n := by
    unfold tyI at hT
    cases hi : P.info? E with
    | none => exact .inl rfl
    | some i => cases hE : P.underlying E with
      | none => simp [hE] at hT
      | some D => cases D <;> simp [hE, hi] at hT <;> exact .inr ⟨i, rfl, hT⟩
  rcases hsz with h | ⟨ti, h, rfl⟩
  · exfalso; unfold tyI at hT; cases hE : P.underlying E with
    | none => simp [hE] at hT
    | some D => cases D <;> simp [hE, h] at hT
  · have hp := run_partN (P := P) hT (vs := vs) (off := i.toNat * ti.size) w'
    simp [execOp, e1, e2, Instr.index, asIntOf, run_underlying hu, h0, hl, sizeOf, typeInfo, h, hp]
theorem Val.idxP {S : TypeId} {L : Nat} {k : IntKind} {i : Int} {cs : List PV} {z : PV} (hu : P.underlying S = some (.array L E)) (hT : tyI P E = some none) (hsz : (P.info? E).map (·.size) = some 1) (hx : st.op cx x = .pag cs) (hy : st.op cx y = .c (.p (.s (.int k i)))) (h1 : okOp x = true) (h2 : okOp y = true) (h0 : 0 ≤ i) (hl : i < L) (hz : cs[i.toNat]? = some z) :
    Val P cx true ⟨dst, .index S x y, ty, pos, af, gd⟩ st (.c (.p z)) := fun a w fz β hs => by
  have hX := hs.op x h1
  rw [hx] at hX
  obtain ⟨vs, e1, hr⟩ := hX
  have e2 := hs.eq hy h2
  obtain ⟨v, hv, hzv⟩ := hr.get hz
  refine ⟨v, hzv, fun w' hw => ?_⟩
  have hp := run_part1 (P := P) hT (vs := vs) (off := i.toNat) hv w'
  obtain ⟨ti, h3, h4⟩ := Option.map_eq_some_iff.1 hsz
  simp [execOp, e1, e2, Instr.index, asIntOf, run_underlying hu, h0, hl, sizeOf, typeInfo, h3, h4, hp]
/-! ### Arrays that are told -/
def plA (P : Program) (T : TypeId) : Option (Nat × List Value) :=
  match P.underlying T, tyZero P T with
  | some (.array _ e), some (.agg zc) => (P.info? e).map fun i => (i.size, zc.toList)
  | _, _ => none
theorem run_builtA {sz : Nat} {zc : List Value} (h : plA P T = some (sz, zc)) {parts : Array (Nat × Value)} {vs : List Value} (hf : Instr.fill (fun i => some (i * sz, sz)) zc.toArray parts.toList = some vs.toArray) : (Instr.build T parts).run P w = .ok (.agg vs.toArray) w := by
  refine run_build w T parts _ ?_
  unfold plA at h
  split at h
  · rename_i L e zc' hu hz
    obtain ⟨ie, hp, he⟩ := Option.map_eq_some_iff.1 h
    cases he
    unfold tyZero at hz
    unfold Program.built
    cases hi : P.info? T with
    | none => simp [hi] at hz
    | some i =>
      have hz' : i.zero = some (.agg zc') := by simpa [hi] using hz
      simp only [hu, hz', hp]
      simpa [Value.cells] using hf
  · cases h
theorem Val.buildAP {parts : List (Nat × Operand)} {sz : Nat} {zc : List Value} {cs : List PV} (hp : plA P T = some (sz, zc)) (hz : zc.all (·.oneCell') = true) (ho : parts.all (fun p => okOp p.2) = true)
    (hf : fillA (fun i => some (i * sz, sz)) (zc.map .s) (parts.map fun p => (p.1, pvs (st.op cx p.2))) = some cs) : Val P cx true ⟨dst, .build T parts.toArray, ty, pos, af, gd⟩ st (.pag cs) := fun a w fz β hs => by
  obtain ⟨vcs, h1, h2⟩ := fill_rep _ _ (zc.map .s) cs zc (all2_s (w := w) (fz := fz) zc fun u hu => List.all_eq_true.1 hz u hu) (hs.parts parts ho) hf
  refine ⟨.agg vcs.toArray, ⟨vcs, rfl, h2⟩, fun w' _ => ?_⟩
  have := run_builtA (P := P) (w := w') (T := T) hp (parts := (parts.map fun p => (p.1, a.eval p.2)).toArray) (vs := vcs) (by simpa using h1)
  simp only [execOp, List.map_toArray, Sem.run_bind]
  rw [this]; rfl
theorem Val.buildAC {parts : List (Nat × Operand)} {sz : Nat} {zc : List Value} {cs : List CV} (hp : plA P T = some (sz, zc)) (hz : zc.all (·.oneCell') = true) (ho : parts.all (fun p => okOp p.2) = true)
    (hf : fillA (fun i => some (i * sz, sz)) (zc.map fun v => .p (.s v)) (parts.map fun p => (p.1, cvs (st.op cx p.2))) = some cs) : Val P cx true ⟨dst, .build T parts.toArray, ty, pos, af, gd⟩ st (.agg cs) := fun a w fz β hs => by
  have h0 : All2 (RepC1 w fz β) (zc.map fun v => CV.p (.s v)) zc := by
    have := all2_map_p (β := β) (all2_s (w := w) (fz := fz) zc fun u hu => List.all_eq_true.1 hz u hu)
    rwa [List.map_map] at this
  obtain ⟨vcs, h1, h2⟩ := fill_rep _ _ _ cs zc h0 (hs.partsC parts ho) hf
  refine ⟨.agg vcs.toArray, ⟨vcs, rfl, h2⟩, fun w' _ => ?_⟩
  have := run_builtA (P := P) (w := w') (T := T) hp (parts := (parts.map fun p => (p.1, a.eval p.2)).toArray) (vs := vcs) (by simpa using h1)
  simp only [execOp, List.map_toArray, Sem.run_bind]
  rw [this]; rfl
/-! ### The least of some -/
theorem Val.minL {ats : Array TypeId} {xs : List Operand} {kd : IntKind} {u : Int} {us : List Int} (ho : okOps xs = true) (hx : xs.map (fun x => st.op cx x) = (u :: us).map fun n => .c (.p (.s (.int kd n)))) :
    Val P cx true ⟨dst, .call { callee := .builtin .min, args := xs.toArray, argTypes := ats }, ty, pos, af, gd⟩ st (.c (.p (.s (.int kd (us.foldl (fun a b => if b < a then b else a) u))))) := fun a w fz β hs => by
  have he : xs.map a.eval = (u :: us).map fun n => Value.int kd n := by
    have : ∀ (xs : List Operand) (ns : List Int), okOps xs = true → xs.map (fun x => st.op cx x) = ns.map (fun n => .c (.p (.s (.int kd n)))) → xs.map a.eval = ns.map fun n => Value.int kd n := by
      intro xs
      induction xs with
      | nil => intro ns _ h; cases ns with | nil => rfl | cons _ _ => cases h
      | cons x xs ih =>
        intro ns ho h
        cases ns with
        | nil => cases h
        | cons n ns =>
          simp only [List.map_cons, List.cons.injEq] at h
          simp only [okOps, List.all_cons, Bool.and_eq_true] at ho
          simp only [List.map_cons, hs.eq h.1 ho.1, ih ns ho.2 h.2]
    exact this xs _ ho hx
  refine ⟨_, RepP.s _ rfl, fun w' hw => ?_⟩
  have hrun : ∀ (us : List Int) (u : Int), ((us.map fun n => Value.int kd n).foldlM (fun a b => Builtin.min2 a b) (Value.int kd u)).run P w' = .ok (.int kd (us.foldl (fun a b => if b < a then b else a) u)) w' := by
    intro us
    induction us with
    | nil => intro u; simp
    | cons n us ih =>
      intro u
      have h2 : (Builtin.min2 (.int kd u) (.int kd n)).run P w' = .ok (.int kd (if n < u then n else u)) w' := by simp [Builtin.min2]
      simp only [List.map_cons, List.foldlM_cons, Sem.run_bind, h2, Result.andThen, List.foldl_cons, ih]
  have hm : (Builtin.min_ ats ty (xs.map a.eval).toArray).run P w' = .ok (.int kd (us.foldl (fun a b => if b < a then b else a) u)) w' := by
    rw [he]
    exact hrun us u
  simp [execOp, resolve, invoke, builtin, hm]
end
end Go.Proofs.Vl
