/- More: maps of the call's own; states told by what changes; numbers that stay in bounds; rows told by a list. -/
import Derived.Test.YtjfpddgldfaahaaDoorV19
import Derived.MapKept
import Derived.Carry
import Derived.Laws.BytesString
set_option linter.all false
namespace Go.Proofs.Vl
open Go Go.RowKit
section
variable {P : Program} {cx : Cx} {st : St} {a : Act} {w : World} {fz : Nat → Prop} {β : Nat → Option Nat} {Q : Exit → St → Prop} {c : Code}
variable {kp : Bool} {K : St → Prop} {dst : Option Tmp} {ty T T' E : TypeId} {pos : String} {af : Array Edge} {gd : Option (Nat × Bool)} {x y : Operand} {k : Nat}
/-! ### Loops told by what changes -/
def sets : List AV → List (Nat × AV) → List AV
  | l, [] => l
  | l, (i, x) :: r => sets (l.set i x) r
theorem AWp.loopI {α : Type} (W : α → List (Nat × AV)) (O : α → List (Nat × Ob)) (μ : α → Nat) (I : α → Prop) (x0 : α) (h0 : I x0) (hl : Le cx st ⟨sets st.tmps (W x0), O x0⟩)
    (hr : ∀ x, I x → AWp P cx c ⟨sets st.tmps (W x), O x⟩ (thn (fun s' => ∃ x', μ x' < μ x ∧ I x' ∧ Le cx s' ⟨sets st.tmps (W x'), O x'⟩) Q)) : AWp P cx (.loop c) st Q := by
  refine AWp.loopW _ (fun n s => ∃ x, I x ∧ μ x = n ∧ s = ⟨sets st.tmps (W x), O x⟩) (μ x0) hl ⟨x0, h0, rfl, rfl⟩ ?_
  rintro n s ⟨x, hi, rfl, rfl⟩
  refine (hr x hi).mono ?_
  intro e s' h
  cases e with
  | normal => obtain ⟨x', h1, h2, h3⟩ := h; exact ⟨_, _, h1, ⟨x', h2, rfl, rfl⟩, h3⟩
  | exit _ => exact h
  | goto _ => exact h
  | ret => exact h
  | panic _ => exact h
  | outgrown => exact h
theorem AWp.cutI {α : Type} {d : Code} {id : Nat} (W : α → List (Nat × AV)) (O : α → List (Nat × Ob)) (I : α → Prop)
    (h1 : AWp P cx c st (inb id (thn (fun s => ∃ x, I x ∧ Le cx s ⟨sets st.tmps (W x), O x⟩) Q))) (h2 : ∀ x, I x → AWp P cx d ⟨sets st.tmps (W x), O x⟩ Q) : AWp P cx c st (inb id (thn (fun s => AWp P cx d s Q) Q)) := by
  refine AWp.cutB (fun s => ∃ x, I x ∧ s = ⟨sets st.tmps (W x), O x⟩) (by rintro s ⟨x, hi, rfl⟩; exact h2 x hi) (h1.mono ?_)
  intro e s h
  have key : ∀ s, (∃ x, I x ∧ Le cx s ⟨sets st.tmps (W x), O x⟩) → ∃ s', (∃ x, I x ∧ s' = ⟨sets st.tmps (W x), O x⟩) ∧ Le cx s s' := fun s ⟨x, hi, hl⟩ => ⟨_, ⟨x, hi, rfl⟩, hl⟩
  cases e with
  | normal => exact key _ h
  | exit i => simp only [inb] at h ⊢; split at h <;> rename_i hh <;> simp only [hh, if_true, if_false] <;> first | exact key _ h | exact h
  | goto _ => exact h
  | ret => exact h
  | panic _ => exact h
  | outgrown => exact h
/-- What follows a statement, once for all its ways out. -/
theorem AWp.cutN {α : Type} {d : Code} (W : α → List (Nat × AV)) (O : α → List (Nat × Ob)) (I : α → Prop)
    (h1 : AWp P cx c st (thn (fun s => ∃ x, I x ∧ Le cx s ⟨sets st.tmps (W x), O x⟩) Q)) (h2 : ∀ x, I x → AWp P cx d ⟨sets st.tmps (W x), O x⟩ Q) : AWp P cx c st (thn (fun s => AWp P cx d s Q) Q) := by
  refine h1.mono ?_
  intro e s h
  cases e with
  | normal => obtain ⟨x, hi, hl⟩ := h; exact AWp.weak hl (h2 x hi)
  | exit i => exact h
  | goto _ => exact h
  | ret => exact h
  | panic _ => exact h
  | outgrown => exact h
theorem leaveZ {α : Type} {s s1 : St} {F : α → St} {I : α → Prop} (hl : Le cx s s1) (h : ∃ x, I x ∧ Le cx s1 (F x)) : ∃ x, I x ∧ Le cx s (F x) :=
  let ⟨x, h1, h2⟩ := h; ⟨x, h1, hl.trans h2⟩
theorem leaveZ3 {α : Type} {s s1 : St} {F : α → St} {I J : α → Prop} (hl : Le cx s s1) (h : ∃ x, I x ∧ J x ∧ Le cx s1 (F x)) : ∃ x, I x ∧ J x ∧ Le cx s (F x) :=
  let ⟨x, h1, h2, h3⟩ := h; ⟨x, h1, h2, hl.trans h3⟩
/-- What is to hold behind, under a name. -/
structure Hid (Q Q' : Exit → St → Prop) : Prop where
  out : ∀ e s, Q e s → Q' e s
theorem AWp.hide (h : ∀ Q', Hid Q Q' → AWp P cx c st Q') : AWp P cx c st Q := h Q ⟨fun _ _ h => h⟩
theorem unhide {Q Q' : Exit → St → Prop} {e : Exit} {s : St} (h : Hid Q Q') (hq : Q e s) : Q' e s := h.out e s hq
/-! ### Maps -/
theorem SR.wrM (h : SR cx st a w fz β) {b : Nat} (hk : β k = some b) {es0 : Array MapEntry} {c0 : Nat} (hb : w.heap[b]? = some (.map es0 c0)) (es : List MapEntry) (cl : Nat) :
    SR cx ⟨st.tmps, upd st.objs k (.mapo es cl)⟩ a { w with heap := w.heap.setIfInBounds b (.map es.toArray cl) } fz β := by
  obtain ⟨hw, ho⟩ := MapKept.heap_set (o' := .map es.toArray cl) hb
  have hA : Adv fz w { w with heap := w.heap.setIfInBounds b (.map es.toArray cl) } := .of (fun j hj => ho j (fun e => h.h.apart j hj k (e ▸ hk))) (fun j s hs => by
    by_cases hj : j = b
    · subst hj; simp [World.shape?, hb] at hs
    · exact (shape_eq (ho j hj)).trans hs)
  have hsz : (w.heap.setIfInBounds b (.map es.toArray cl)).size = w.heap.size := by simp
  have hst : Stp w fz β { w with heap := w.heap.setIfInBounds b (.map es.toArray cl) } fz β := ⟨rfl, rfl, rfl, by show _ ≤ (w.heap.setIfInBounds b _).size; rw [hsz]; exact Nat.le_refl _, fun j _ hn => ho j (fun e => hn k (e ▸ hk)), hA.shp, fun b _ h => .inl h, fun k b _ h => ⟨k, h⟩, fun _ h => h⟩
  refine ⟨h.d.stp hst, h.low, ⟨h.rel.os, h.rel.tape, h.rel.output, by show _ ≤ (w.heap.setIfInBounds b _).size; rw [hsz]; exact h.rel.size, ?_, fun b s hs => hA.shp b s (h.rel.shp b s hs), h.rel.fzin, h.rel.fzout, h.rel.bin, h.rel.bout, fun g cs hg => (h.rel.glob g cs hg).glob_adv hA (fun _ h => h), h.rel.bhi⟩, ⟨?_, ?_, h.h.inj, h.h.apart, ?_⟩, ?_⟩
  · intro hrr j hj hn
    refine (ho j ?_).trans (h.rel.old hrr j hj hn)
    intro e; subst e
    rcases h.rel.bout k j hk with h1 | h1
    · exact hn k h1
    · omega
  · intro k b hk; show b < (w.heap.setIfInBounds _ _).size; rw [hsz]; exact h.h.lt k b hk
  · intro b hb; show b < (w.heap.setIfInBounds _ _).size; rw [hsz]; exact h.h.fzlt b hb
  · intro k' o' hk'
    rw [find_upd] at hk'
    by_cases he : k = k'
    · subst he; rw [if_pos rfl] at hk'; cases hk'; exact ⟨b, hk, hw⟩
    · rw [if_neg he] at hk'
      exact (h.h.ob k' o' hk').adv hA (fun _ h => h) rfl (fun j hj => ho j (fun e => he (h.h.inj _ _ _ hk (e ▸ hj)))) (fun _ _ => rfl) hst
  · exact h.t.mono fun x v hx hv => hv.adv hA (fun _ h => h) (fun _ _ => rfl)
theorem OpTo.makeMap {d : Nat} (hlow : d < 1000000) (hd : st.noref d = true) (kk : K (St.put ⟨st.tmps, upd st.objs d (.mapo [] 0)⟩ (some d) (.c (.mp d)))) :
    OpTo P cx kp ⟨some d, .makeMap T none, ty, pos, af, gd⟩ st K := by
  refine OpTo.made2 (ob := .mapo [] 0) (z := .c (.mp d)) rfl hlow hd rfl (fun a w fz β hs => ⟨.map (some w.heap.size), .map #[] 0, w.alloc (.map #[] 0), ?_, ⟨rfl, rfl, rfl⟩, rfl, fun β' h1 h2 => ⟨⟨w.heap.size, h1, heap_alloc_new w _⟩, ⟨w.heap.size, h1, rfl⟩⟩⟩) kk
  simp [execOp, run_makeMap]
/-- Keys that are whole numbers or strings. -/
def keyOk : TypeDesc → Value → Bool
  | .int _, .int _ _ => true
  | .string, .string _ => true
  | _, _ => false
theorem run_check {kt : TypeId} {D : TypeDesc} {key : Value} (hd : P.underlying kt = some D) (hk : keyOk D key = true) (e : Bool) (w : World) : (Instr.checkKey e 10000 kt key).run P w = .ok () w := by
  show (Instr.checkKey e (Nat.succ 9999) kt key).run P w = .ok () w
  generalize (9999 : Nat) = n
  cases D <;> cases key <;> simp [keyOk] at hk <;> simp [Instr.checkKey, run_underlying hd]
theorem run_find {kt : TypeId} {D : TypeDesc} {key : Value} (hd : P.underlying kt = some D) {es : List MapEntry} {r : Option (Nat × Value)} (hf : Instr.findNow D key es 0 = some r) (w : World) : (Instr.findKey kt key es).run P w = .ok r w := by
  simp [Instr.findKey, run_underlying hd, hf]
def mapI (P : Program) (T : TypeId) : Option (TypeId × TypeDesc × Value) := match P.underlying T with
  | some (.map kt e) => match P.underlying kt, tyZero P e with
    | some D, some z => some (kt, D, z)
    | _, _ => none
  | _ => none
theorem mapI_spec {kt : TypeId} {D : TypeDesc} {z : Value} (h : mapI P T = some (kt, D, z)) : ∃ e, P.underlying T = some (.map kt e) ∧ P.underlying kt = some D ∧ tyZero P e = some z := by
  unfold mapI at h
  split at h
  · rename_i kt' e hu
    split at h
    · rename_i D' z' h1 h2
      simp only [Option.some.injEq, Prod.mk.injEq] at h
      obtain ⟨rfl, rfl, rfl⟩ := h
      exact ⟨e, hu, h1, h2⟩
    · cases h
  · cases h
def foundV (z : Value) : Option (Nat × Value) → Value
  | some (_, v) => v
  | none => z
theorem Val.lookup {kt : TypeId} {D : TypeDesc} {z key : Value} {es : List MapEntry} {cl : Nat} {r : Option (Nat × Value)} (hT : mapI P T = some (kt, D, z)) (h1 : okOp x = true) (h2 : okOp y = true) (hx : st.op cx x = .c (.mp k)) (hf : find st.objs k = some (.mapo es cl))
    (hy : st.op cx y = .c (.p (.s key))) (hk : keyOk D key = true) (hr : Instr.findNow D key es 0 = some r) (ho : (foundV z r).oneCell' = true) :
    Val P cx false ⟨dst, .lookup T x y false, ty, pos, af, gd⟩ st (.c (.p (.s (foundV z r)))) := fun a w fz β hs => by
  obtain ⟨e, hu, hd, hz⟩ := mapI_spec hT
  have hX := hs.op x h1
  rw [hx] at hX
  obtain ⟨b, e1, e2⟩ := hX
  have e3 := hs.eq hy h2
  obtain ⟨b', g1, g2⟩ := hs.h.ob k _ hf
  rw [e1] at g1; cases g1
  refine ⟨foundV z r, RepP.s _ ho, fun w' hw => ?_⟩
  have hO := hw.resolve_left (by simp)
  have hb : w'.heap[b]? = some (.map es.toArray cl) := (hO.2 b (hs.h.lt _ _ e1)).trans g2
  have hzv : (zeroValue e).run P w' = .ok z w' := by
    unfold tyZero at hz
    cases hi : P.info? e with
    | none => simp [hi] at hz
    | some i => simp only [hi, Option.bind_some] at hz; simp [zeroValue, typeInfo, hi, hz]
  have h4 : (Instr.lookup T (.map (some b)) key false).run P w' = .ok (foundV z r) w' := by
    cases r with
    | none => simp [Instr.lookup, run_underlying hu, MapKept.run_getObj_map hb, run_check hd hk, run_find hd hr, hzv, foundV]
    | some p => obtain ⟨i, v⟩ := p; simp [Instr.lookup, run_underlying hu, MapKept.run_getObj_map hb, run_check hd hk, run_find hd hr, foundV]
  simp [execOp, e2, e3, h4]
/-- An entry put in, or its value changed. -/
def putE (es : List MapEntry) (cl : Nat) (key v : Value) : Option (Nat × Value) → List MapEntry × Nat
  | some (i, _) => (es.modify i (fun e => { e with key := key, val := v }), cl)
  | none => (es ++ [⟨key, v, cl⟩], cl + 1)
theorem sameBits_self {D : TypeDesc} {a b : Value} (hk : keyOk D a = true) (h : Instr.sameNow D a b = some true) : Instr.sameBits 10000 b a = true := by
  cases D <;> cases a <;> simp [keyOk] at hk <;> cases b <;> simp [Instr.sameNow] at h <;> simp_all [Instr.sameBits, MapKept.bytes_beq]
theorem findNow_some {D : TypeDesc} {key : Value} : ∀ {es : List MapEntry} {n i : Nat} {v : Value}, Instr.findNow D key es n = some (some (i, v)) → ∃ e, n ≤ i ∧ es[i - n]? = some e ∧ Instr.sameNow D key e.key = some true ∧ v = e.val
  | [], n, i, v, h => by simp [Instr.findNow] at h
  | e :: es, n, i, v, h => by
    unfold Instr.findNow at h
    split at h
    · rename_i hs
      simp only [Option.some.injEq, Prod.mk.injEq] at h
      obtain ⟨rfl, rfl⟩ := h
      exact ⟨e, Nat.le_refl _, by simp, hs, rfl⟩
    · obtain ⟨e', h1, h2, h3, h4⟩ := findNow_some h
      exact ⟨e', by omega, by rw [show i - n = (i - (n + 1)) + 1 by omega]; simpa using h2, h3, h4⟩
    · cases h
theorem OpTo.mapUpd {z : Operand} {kt : TypeId} {D : TypeDesc} {zv key v : Value} {es : List MapEntry} {cl : Nat} {r : Option (Nat × Value)} (hT : mapI P T = some (kt, D, zv)) (h1 : okOp x = true) (h2 : okOp y = true) (h3 : okOp z = true) (hx : st.op cx x = .c (.mp k)) (hf : find st.objs k = some (.mapo es cl))
    (hy : st.op cx y = .c (.p (.s key))) (hz : st.op cx z = .c (.p (.s v))) (hk : keyOk D key = true) (hr : Instr.findNow D key es 0 = some r) {q : List MapEntry × Nat} (hq : putE es cl key v r = q)
    (kk : K ⟨st.tmps, upd st.objs k (.mapo q.1 q.2)⟩) :
    OpTo P cx false ⟨none, .mapUpdate T x y z, ty, pos, af, gd⟩ st K := by
  subst hq
  intro a w next Qx ⟨fz, β, hs⟩ hn
  obtain ⟨e, hu, hd, hzz⟩ := mapI_spec hT
  have hX := hs.op x h1
  rw [hx] at hX
  obtain ⟨b, e1, e2⟩ := hX
  have e3 := hs.eq hy h2
  have e4 := hs.eq hz h3
  obtain ⟨b', g1, hb⟩ := hs.h.ob k _ hf
  rw [e1] at g1; cases g1
  have h5 : (Instr.mapUpdate T (.map (some b)) key v).run P w = .ok () { w with heap := w.heap.setIfInBounds b (.map (putE es cl key v r).1.toArray (putE es cl key v r).2) } := by
    cases r with
    | none => simp [Instr.mapUpdate, run_underlying hu, MapKept.run_getObj_map hb, run_check hd hk, run_find hd hr, MapKept.run_setObj_map _ hb, putE]
    | some p =>
      obtain ⟨i, v0⟩ := p
      obtain ⟨e0, g1, g2, g3, g4⟩ := findNow_some hr
      simp only [Nat.sub_zero] at g2
      have g5 := sameBits_self hk g3
      simp [Instr.mapUpdate, run_underlying hu, MapKept.run_getObj_map hb, run_check hd hk, run_find hd hr, MapKept.run_setObj_map _ hb, putE, g2, Instr.keyThatStays, g5]
  unfold wpv
  have h6 : (execOp a.eval ⟨none, .mapUpdate T x y z, ty, pos, af, gd⟩).run P w = .ok .skip { w with heap := w.heap.setIfInBounds b (.map (putE es cl key v r).1.toArray (putE es cl key v r).2) } := by
    simp [execOp, e2, e3, e4, h5]
  rw [h6, upv_skip]
  exact hn _ _ _ kk ⟨fz, β, hs.wrM e1 hb _ _⟩ (fun h => by cases h)
theorem findNow_none {D : TypeDesc} {key : Value} : ∀ {es : List MapEntry} {n : Nat}, (∀ e ∈ es, Instr.sameNow D key e.key = some false) → Instr.findNow D key es n = some none
  | [], n, h => rfl
  | e :: es, n, h => by unfold Instr.findNow; rw [h e List.mem_cons_self]; exact findNow_none fun e' he => h e' (List.mem_cons_of_mem _ he)
theorem findNow_at {D : TypeDesc} {key : Value} : ∀ {es : List MapEntry} {n i : Nat} {e : MapEntry}, es[i]? = some e → Instr.sameNow D key e.key = some true → (∀ j e', j < i → es[j]? = some e' → Instr.sameNow D key e'.key = some false) → Instr.findNow D key es n = some (some (n + i, e.val))
  | [], n, i, e, h, _, _ => by simp at h
  | e0 :: es, n, 0, e, h, hs, _ => by
    simp at h; subst h
    unfold Instr.findNow; rw [hs]; rfl
  | e0 :: es, n, i + 1, e, h, hs, hl => by
    unfold Instr.findNow
    rw [hl 0 e0 (by omega) rfl]
    have := findNow_at (n := n + 1) (by simpa using h) hs (fun j e' hj he => hl (j + 1) e' (by omega) (by simpa using he))
    rw [show n + (i + 1) = n + 1 + i by omega]; exact this
/-! ### Numbers that stay in bounds -/
theorem wrap_id {n : Int} (h1 : -9223372036854775808 ≤ n) (h2 : n ≤ 9223372036854775807) : IntKind.i64.wrap n = n := by rw [IntKind.wrap_i64]; omega
theorem wrap_idu {n : Int} (h1 : 0 ≤ n) (h2 : n ≤ 18446744073709551615) : IntKind.u64.wrap n = n := by simp [IntKind.wrap, IntKind.bits, IntKind.signed]; omega
section
variable {tx t2 : TypeId} {u v : Int}
theorem Val.addI (hx : st.op cx x = .c (.p (.s (.int .i64 u)))) (hy : st.op cx y = .c (.p (.s (.int .i64 v)))) (h1 : okOp x = true) (h2 : okOp y = true) (hb : -9223372036854775808 ≤ u + v ∧ u + v ≤ 9223372036854775807) :
    Val P cx true ⟨dst, .binOp .add tx x y t2, ty, pos, af, gd⟩ st (.c (.p (.s (.int .i64 (u + v))))) := by
  have := Val.int2 (P := P) (dst := dst) (ty := ty) (pos := pos) (af := af) (gd := gd) (tx := tx) (t2 := t2) (op := .add) rfl hx hy h1 h2
  simp only [iop, wrap_id hb.1 hb.2] at this; exact this
theorem Val.subI (hx : st.op cx x = .c (.p (.s (.int .i64 u)))) (hy : st.op cx y = .c (.p (.s (.int .i64 v)))) (h1 : okOp x = true) (h2 : okOp y = true) (hb : -9223372036854775808 ≤ u - v ∧ u - v ≤ 9223372036854775807) :
    Val P cx true ⟨dst, .binOp .sub tx x y t2, ty, pos, af, gd⟩ st (.c (.p (.s (.int .i64 (u - v))))) := by
  have := Val.int2 (P := P) (dst := dst) (ty := ty) (pos := pos) (af := af) (gd := gd) (tx := tx) (t2 := t2) (op := .sub) rfl hx hy h1 h2
  simp only [iop, wrap_id hb.1 hb.2] at this; exact this
theorem Val.mulI (hx : st.op cx x = .c (.p (.s (.int .i64 u)))) (hy : st.op cx y = .c (.p (.s (.int .i64 v)))) (h1 : okOp x = true) (h2 : okOp y = true) (hb : -9223372036854775808 ≤ u * v ∧ u * v ≤ 9223372036854775807) :
    Val P cx true ⟨dst, .binOp .mul tx x y t2, ty, pos, af, gd⟩ st (.c (.p (.s (.int .i64 (u * v))))) := by
  have := Val.int2 (P := P) (dst := dst) (ty := ty) (pos := pos) (af := af) (gd := gd) (tx := tx) (t2 := t2) (op := .mul) rfl hx hy h1 h2
  simp only [iop, wrap_id hb.1 hb.2] at this; exact this
theorem Val.addU (hx : st.op cx x = .c (.p (.s (.int .u64 u)))) (hy : st.op cx y = .c (.p (.s (.int .u64 v)))) (h1 : okOp x = true) (h2 : okOp y = true) (hb : 0 ≤ u + v ∧ u + v ≤ 18446744073709551615) :
    Val P cx true ⟨dst, .binOp .add tx x y t2, ty, pos, af, gd⟩ st (.c (.p (.s (.int .u64 (u + v))))) := by
  have := Val.int2 (P := P) (dst := dst) (ty := ty) (pos := pos) (af := af) (gd := gd) (tx := tx) (t2 := t2) (op := .add) rfl hx hy h1 h2
  simp only [iop, wrap_idu hb.1 hb.2] at this; exact this
theorem Val.subU (hx : st.op cx x = .c (.p (.s (.int .u64 u)))) (hy : st.op cx y = .c (.p (.s (.int .u64 v)))) (h1 : okOp x = true) (h2 : okOp y = true) (hb : 0 ≤ u - v ∧ u - v ≤ 18446744073709551615) :
    Val P cx true ⟨dst, .binOp .sub tx x y t2, ty, pos, af, gd⟩ st (.c (.p (.s (.int .u64 (u - v))))) := by
  have := Val.int2 (P := P) (dst := dst) (ty := ty) (pos := pos) (af := af) (gd := gd) (tx := tx) (t2 := t2) (op := .sub) rfl hx hy h1 h2
  simp only [iop, wrap_idu hb.1 hb.2] at this; exact this
theorem Val.mulU (hx : st.op cx x = .c (.p (.s (.int .u64 u)))) (hy : st.op cx y = .c (.p (.s (.int .u64 v)))) (h1 : okOp x = true) (h2 : okOp y = true) (hb : 0 ≤ u * v ∧ u * v ≤ 18446744073709551615) :
    Val P cx true ⟨dst, .binOp .mul tx x y t2, ty, pos, af, gd⟩ st (.c (.p (.s (.int .u64 (u * v))))) := by
  have := Val.int2 (P := P) (dst := dst) (ty := ty) (pos := pos) (af := af) (gd := gd) (tx := tx) (t2 := t2) (op := .mul) rfl hx hy h1 h2
  simp only [iop, wrap_idu hb.1 hb.2] at this; exact this
end
section
variable {tx t2 : TypeId} {u v : Int}
theorem Val.remK {kd : IntKind} (hx : st.op cx x = .c (.p (.s (.int kd u)))) (hy : st.op cx y = .c (.p (.s (.int kd v)))) (h1 : okOp x = true) (h2 : okOp y = true) (hb : 0 ≤ u ∧ 0 < v) :
    Val P cx true ⟨dst, .binOp .rem tx x y t2, ty, pos, af, gd⟩ st (.c (.p (.s (.int kd (u % v))))) := by
  have := Val.rem (P := P) (dst := dst) (ty := ty) (pos := pos) (af := af) (gd := gd) (tx := tx) (t2 := t2) hx hy h1 h2 (by omega)
  rw [Int.tmod_eq_emod_of_nonneg hb.1] at this; exact this
theorem Val.quoI (hx : st.op cx x = .c (.p (.s (.int .i64 u)))) (hy : st.op cx y = .c (.p (.s (.int .i64 v)))) (h1 : okOp x = true) (h2 : okOp y = true) (hb : (0 ≤ u ∧ u ≤ 9223372036854775807) ∧ 0 < v) :
    Val P cx true ⟨dst, .binOp .quo tx x y t2, ty, pos, af, gd⟩ st (.c (.p (.s (.int .i64 (u / v))))) := by
  have := Val.quo (P := P) (dst := dst) (ty := ty) (pos := pos) (af := af) (gd := gd) (tx := tx) (t2 := t2) hx hy h1 h2 (by omega)
  have h3 : u / v ≤ u := Int.ediv_le_self _ hb.1.1
  have h4 : 0 ≤ u / v := Int.ediv_nonneg hb.1.1 (by omega)
  rw [Int.tdiv_eq_ediv_of_nonneg hb.1.1, wrap_id (by omega) (by omega)] at this; exact this
theorem Val.quoU (hx : st.op cx x = .c (.p (.s (.int .u64 u)))) (hy : st.op cx y = .c (.p (.s (.int .u64 v)))) (h1 : okOp x = true) (h2 : okOp y = true) (hb : (0 ≤ u ∧ u ≤ 18446744073709551615) ∧ 0 < v) :
    Val P cx true ⟨dst, .binOp .quo tx x y t2, ty, pos, af, gd⟩ st (.c (.p (.s (.int .u64 (u / v))))) := by
  have := Val.quo (P := P) (dst := dst) (ty := ty) (pos := pos) (af := af) (gd := gd) (tx := tx) (t2 := t2) hx hy h1 h2 (by omega)
  have h3 : u / v ≤ u := Int.ediv_le_self _ hb.1.1
  have h4 : 0 ≤ u / v := Int.ediv_nonneg hb.1.1 (by omega)
  rw [Int.tdiv_eq_ediv_of_nonneg hb.1.1, wrap_idu (by omega) (by omega)] at this; exact this
end
section
variable {sr ds : TypeId} {kj : IntKind} {u : Int}
theorem Val.convB (hx : st.op cx x = .c (.p (.s (.int kj u)))) (h1 : okOp x = true) (hs : hasTy P sr = true) (hd : tyK P ds = some .u8) (hb : 0 ≤ u ∧ u ≤ 255) : Val P cx true ⟨dst, .convert sr ds x, ty, pos, af, gd⟩ st (.c (.p (.s (.int .u8 u)))) := by
  unfold hasTy at hs; unfold tyK at hd
  obtain ⟨D, hD⟩ := Option.isSome_iff_exists.1 hs
  cases hu : P.underlying ds with
  | none => simp [hu] at hd
  | some D' =>
    cases D' <;> simp [hu] at hd
    subst hd
    have := Val.convI (P := P) (dst := dst) (ty := ty) (pos := pos) (af := af) (gd := gd) hx h1 hD hu
    rw [show IntKind.u8.wrap u = u by simp [IntKind.wrap, IntKind.bits, IntKind.signed]; omega] at this; exact this
theorem Val.convU (hx : st.op cx x = .c (.p (.s (.int kj u)))) (h1 : okOp x = true) (hs : hasTy P sr = true) (hd : tyK P ds = some .u64) (hb : 0 ≤ u ∧ u ≤ 18446744073709551615) : Val P cx true ⟨dst, .convert sr ds x, ty, pos, af, gd⟩ st (.c (.p (.s (.int .u64 u)))) := by
  unfold hasTy at hs; unfold tyK at hd
  obtain ⟨D, hD⟩ := Option.isSome_iff_exists.1 hs
  cases hu : P.underlying ds with
  | none => simp [hu] at hd
  | some D' =>
    cases D' <;> simp [hu] at hd
    subst hd
    have := Val.convI (P := P) (dst := dst) (ty := ty) (pos := pos) (af := af) (gd := gd) hx h1 hD hu
    rw [wrap_idu hb.1 hb.2] at this; exact this
theorem Val.convS (hx : st.op cx x = .c (.p (.s (.int kj u)))) (h1 : okOp x = true) (hs : hasTy P sr = true) (hd : tyK P ds = some .i64) (hb : -9223372036854775808 ≤ u ∧ u ≤ 9223372036854775807) : Val P cx true ⟨dst, .convert sr ds x, ty, pos, af, gd⟩ st (.c (.p (.s (.int .i64 u)))) := by
  unfold hasTy at hs; unfold tyK at hd
  obtain ⟨D, hD⟩ := Option.isSome_iff_exists.1 hs
  cases hu : P.underlying ds with
  | none => simp [hu] at hd
  | some D' =>
    cases D' <;> simp [hu] at hd
    subst hd
    have := Val.convI (P := P) (dst := dst) (ty := ty) (pos := pos) (af := af) (gd := gd) hx h1 hD hu
    rw [wrap_id hb.1 hb.2] at this; exact this
end
/-! ### Rows told by a list -/
/-- A slice's elements: their size. -/
def slI (P : Program) (S : TypeId) : Option Nat := match P.underlying S with
  | some (.slice e) => (P.info? e).map (·.size)
  | _ => none
theorem slI_spec {S : TypeId} {sz : Nat} (h : slI P S = some sz) : ∃ e, P.underlying S = some (.slice e) ∧ (P.info? e).map (·.size) = some sz := by
  unfold slI at h
  split at h
  · rename_i e hu; exact ⟨e, hu, h⟩
  · cases h
theorem nat_at {kd : IntKind} {j : Nat} : (Value.int kd (j : Int)) = .int kd (j : Int) := rfl
theorem Val.ixN {S : TypeId} {sz j : Nat} {kd : IntKind} {α : Type} {f : α → List PV} {l : List α} (hs : slI P S = some sz) (h1 : okOp x = true) (h2 : okOp y = true) (hx : st.op cx x = .c (.p (.fro (l.map f))))
    (hi : st.op cx y = .c (.p (.s (.int kd (j : Int))))) (hj : j < l.length) (hf : ∀ a, (f a).length = sz) : Val P cx true ⟨dst, .indexAddr S x y, ty, pos, af, gd⟩ st (.c (.eptr (f l[j]))) := by
  obtain ⟨e, hu, hz⟩ := slI_spec hs
  exact Val.ixF (i := (j : Int)) hu hz h1 h2 hx hi (by omega) (by simpa using fmap_at f l j hj) (hf _)
/-- The same, at a number. -/
theorem Val.ixZ {S : TypeId} {sz : Nat} {kd : IntKind} {i : Int} {α : Type} {f : α → List PV} {l : List α} (j : Nat) (hs : slI P S = some sz) (h1 : okOp x = true) (h2 : okOp y = true) (hx : st.op cx x = .c (.p (.fro (l.map f))))
    (hi : st.op cx y = .c (.p (.s (.int kd i)))) (he : i = (j : Int)) (hj : j < l.length) (hf : ∀ a, (f a).length = sz) : Val P cx true ⟨dst, .indexAddr S x y, ty, pos, af, gd⟩ st (.c (.eptr (f l[j]))) := by
  subst he; exact Val.ixN hs h1 h2 hx hi hj hf
/-- An own row's element: where it lies. -/
theorem Val.ixON {S : TypeId} {sz j n : Nat} {kd : IntKind} (hs : slI P S = some sz) (h1 : okOp x = true) (h2 : okOp y = true) (hx : st.op cx x = .c (.own k sz n))
    (hi : st.op cx y = .c (.p (.s (.int kd (j : Int))))) (hj : j < n) : Val P cx true ⟨dst, .indexAddr S x y, ty, pos, af, gd⟩ st (.c (.rptr k sz j 0)) := by
  obtain ⟨e, hu, hz⟩ := slI_spec hs
  exact Val.ixO (i := (j : Int)) hu hz h1 h2 hx hi (by omega) (by omega)
theorem Val.ixOZ {S : TypeId} {sz n : Nat} {kd : IntKind} {i : Int} (j : Nat) (hs : slI P S = some sz) (h1 : okOp x = true) (h2 : okOp y = true) (hx : st.op cx x = .c (.own k sz n))
    (hi : st.op cx y = .c (.p (.s (.int kd i)))) (he : i = (j : Int)) (hj : j < n) : Val P cx true ⟨dst, .indexAddr S x y, ty, pos, af, gd⟩ st (.c (.rptr k sz j 0)) := by
  subst he; exact Val.ixON hs h1 h2 hx hi hj
/-- A cell of an own row's element. -/
theorem Val.ldR {sz j c : Nat} {α : Type} {f : α → List PV} {l : List α} (z : PV) (hT : tyI P T = some none) (h1 : okOp x = true) (hx : st.op cx x = .c (.rptr k sz j c)) (hf : find st.objs k = some (.row T' sz (l.map f))) (hj : j < l.length) (hz : (f l[j])[c]? = some z) :
    Val P cx false ⟨dst, .load T x, ty, pos, af, gd⟩ st (.c (.p z)) :=
  Val.ld1 (cs := (f l[j]).drop c) hT h1 (by rw [hx]; simp [placeP, hf, hj]) (by simpa using hz)
/-- A whole element of an own row. -/
theorem Val.ldRN {sz j n : Nat} {α : Type} {f : α → List PV} {l : List α} (hT : tyI P T = some (some n)) (h1 : okOp x = true) (hx : st.op cx x = .c (.rptr k sz j 0)) (hf : find st.objs k = some (.row T' sz (l.map f))) (hj : j < l.length) (hn : ∀ a, (f a).length = n) :
    Val P cx false ⟨dst, .load T x, ty, pos, af, gd⟩ st (.pag (f l[j])) :=
  Val.ldF hT h1 (by rw [hx]; simp [placeP, hf, hj]) (hn _)
/-- Into a cell, or all, of an own row's element. -/
theorem OpTo.stRN {sz j c : Nat} {α : Type} {f : α → List PV} {l : List α} {ys : List PV} (b : α) (hx : st.op cx x = .c (.rptr k sz j c)) (h1 : okOp x = true) (hf : find st.objs k = some (.row T' sz (l.map f))) (hj : j < l.length) (hy : pvs (st.op cx y) = some ys) (h2 : okOp y = true)
    (hT : (P.info? T).map (·.size) = some ys.length) (hl : c + ys.length ≤ sz) (hb : splice (f l[j]) c ys = f b)
    (kk : K ⟨st.tmps, upd st.objs k (.row T' sz ((l.set j b).map f))⟩) : OpTo P cx false ⟨none, .store T x y, ty, pos, af, gd⟩ st K := by
  refine OpTo.stR (cs := f l[j]) hx h1 hf (by simp [hj]) hy h2 hT hl ?_
  rw [hb, ← List.map_set]; exact kk
theorem map_len {α : Type} {f : α → List PV} {sz : Nat} (hf : ∀ a, (f a).length = sz) (l : List α) : ∀ cs ∈ l.map f, cs.length = sz := by
  intro cs h; obtain ⟨a, _, rfl⟩ := List.mem_map.1 h; exact hf a
/-- Onto an own row. -/
theorem OpTo.appN {t : TypeId} {s : Operand} {z : Value} {sz by_ : Nat} {α : Type} {f : α → List PV} {l m : List α} (hu : P.underlying t = some (.slice E)) (hE : tyF P E = some (some z, sz, by_)) (hzs : z.cells.size = sz) (hs0 : 0 < sz)
    (h1 : okOp s = true) (h2 : okOp x = true) (hlow : k < 1000000)
    (hs : st.op cx s = .c (.own k sz l.length)) (hf : find st.objs k = some (.row E sz (l.map f)))
    (hx : elems st (st.op cx x) = some (m.map f)) (hfl : ∀ a, (f a).length = sz) (hb : (l.length + m.length) * by_ ≤ 140737488355328) (hm : l.length + m.length ≤ 9223372036854775807)
    (kk : K (St.put ⟨(st.kill k).tmps, upd (st.kill k).objs k (.row E sz ((l ++ m).map f))⟩ dst (.c (.own k sz (l ++ m).length)))) :
    OpTo P cx false ⟨dst, .call { callee := .builtin .append, args := #[s, x], argTypes := #[t, t] }, ty, pos, af, gd⟩ st K := by
  refine OpTo.app (xs := l.map f) (ys := m.map f) hu hE hzs hs0 h1 h2 hlow (.inl ⟨by rw [hs]; simp, hf⟩) hx (map_len hfl m) (by simpa using hb) (by simp [maxLen]; omega) ?_
  simp only [← List.map_append, List.length_map]
  rw [List.length_append] at kk; exact kk
/-- A cut of a row that is only read. -/
theorem Val.cutN {sz a b : Nat} {α : Type} {f : α → List PV} {l : List α} {lo hi : Option Operand} (hs : slI P T = some sz) (ho : okOp x = true) (hx : st.op cx x = .c (.p (.fro (l.map f))))
    (hl : Bnd cx st lo 0 a) (hh : Bnd cx st hi l.length b) (hab : a ≤ b) (hbn : b ≤ l.length) (hf : ∀ a, (f a).length = sz) : Val P cx true ⟨dst, .slice T x lo hi none, ty, pos, af, gd⟩ st (.c (.p (.fro (((l.take b).drop a).map f)))) := by
  obtain ⟨e, hu, hz⟩ := slI_spec hs
  have := Val.cutF (P := P) (dst := dst) (ty := ty) (pos := pos) (af := af) (gd := gd) (xs := l.map f) hu hz ho hx hl (by simpa using hh) hab (by simpa using hbn) (map_len hf l)
  rw [List.map_drop, List.map_take]; exact this
theorem flat_pvI {k : IntKind} (l : List Int) : (l.map (pvI k)).flatten = l.map (fun n => PV.s (.int k n)) := by
  induction l with
  | nil => rfl
  | cons a l ih => rw [List.map_cons, List.flatten_cons, ih]; rfl
theorem all2_ints {w : World} {fz : Nat → Prop} {k : IntKind} : ∀ {l : List Int} {vs : List Value}, All2 (RepP w fz) (l.map fun n => PV.s (.int k n)) vs → vs = l.map (Value.int k)
  | [], _, .nil => rfl
  | a :: l, _, .cons h t => by rw [RepP.eq h, all2_ints t]; rfl
/-- Bytes as a text. -/
def bsOf (l : List Int) : ByteArray := l.foldl (fun r n => r.push (UInt8.ofNat n.toNat)) ByteArray.empty
def bsI (P : Program) (sr ds : TypeId) : Bool := match P.underlying sr, P.underlying ds with
  | some (.slice e), some .string => match P.underlying e with
    | some (.int .u8) => true
    | _ => false
  | _, _ => false
theorem Val.convBS {sr ds : TypeId} {l : List Int} (hs : bsI P sr ds = true) (ho : okOp x = true) (hx : elems st (st.op cx x) = some (l.map (pvI .u8))) (h0 : l ≠ []) : Val P cx false ⟨dst, .convert sr ds x, ty, pos, af, gd⟩ st (.c (.p (.s (.string (bsOf l))))) := fun a w fz β hr => by
  unfold bsI at hs
  split at hs
  · rename_i e hu hd
    split at hs
    · rename_i he
      obtain ⟨sz, ad, c, h1, h2, h3⟩ := hr.lies (hr.op x ho) hx
      obtain ⟨b, o, rfl, h4, news, h5, h6⟩ := h3.resolve_left (by simp [h0])
      have hn : news = l.map (Value.int .u8) := all2_ints (by rw [flat_pvI] at h5; exact h5)
      refine ⟨.string (bsOf l), RepP.s _ rfl, fun w' hw => ?_⟩
      have hO := hw.resolve_left (by simp)
      have hl : (loadCells ⟨b, o, none⟩ (l.map (pvI .u8)).length).run P w' = .ok (l.map (Value.int .u8)).toArray w' := by
        have := run_loadCells_list (P := P) w' ⟨b, o, none⟩ news (fun j v h => by rw [Addr.add_lit]; exact hO.cell (h6 j v h))
        rw [hn] at this; simpa using this
      have := run_bytesToString (P := P) w' ⟨b, o, none⟩ (l.map (pvI .u8)).length c l hl
      simp [execOp, h1, run_convert_bytes_string w' sr ds e _ _ _ hu he hd]
      rw [List.length_map] at this
      rw [this]; rfl
    · cases hs
  · cases hs
/-- A slice's type: its elements' type, zero value, size, bytes. -/
def litI (P : Program) (S : TypeId) : Option (TypeId × Value × Nat × Nat) := match P.underlying S with
  | some (.slice e) => match P.info? e with
    | some i => i.zero.map fun z => (e, z, i.size, i.bytes)
    | none => none
  | _ => none
theorem litI_spec {S : TypeId} {z : Value} {sz by_ : Nat} (h : litI P S = some (E, z, sz, by_)) : P.underlying S = some (.slice E) ∧ tyF P E = some (some z, sz, by_) := by
  unfold litI at h
  split at h
  · rename_i e hu
    split at h
    · rename_i i hi
      obtain ⟨z', hz, he⟩ := Option.map_eq_some_iff.1 h
      simp only [Prod.mk.injEq] at he
      obtain ⟨rfl, rfl, rfl, rfl⟩ := he
      exact ⟨hu, by simp [tyF, hi, hz]⟩
    · cases h
  · cases h
theorem OpTo.litN {α : Type} (f : α → List PV) (l : List α) {d len : Nat} {z : Value} {sz by_ : Nat} {parts : List (Nat × Operand)} {cs : List PV} (hT : litI P T = some (E, z, sz, by_)) (hzs : z.cells.size = sz) (hs0 : 0 < sz) (hok : okV z = true) (hnt : z.oneCell' = true ∨ ∃ cs, z = .agg cs) (hb : len * sz ≤ 16777216)
    (ho : parts.all (fun p => okOp p.2) = true) (hf : fillA (fun i => some (i * sz, sz)) (zeros sz z len) (parts.map fun p => (p.1, pvs (st.op cx p.2))) = some cs) (hlow : d < 1000000) (hd : st.noref d = true) (hr : chunks sz len cs = l.map f) (hl : len = l.length)
    (kk : K (St.put ⟨st.tmps, upd st.objs d (.row E sz (l.map f))⟩ (some d) (.c (.own d sz l.length)))) : OpTo P cx kp ⟨some d, .buildSlice T len parts.toArray, ty, pos, af, gd⟩ st K := by
  obtain ⟨hu, hE⟩ := litI_spec hT
  subst hl
  exact OpTo.litR (l.map f) hu hE hzs hs0 hok hnt hb ho hf hlow hd hr kk
theorem OpTo.appM {α : Type} (f : α → List PV) (l m : List α) {t : TypeId} {s : Operand} {z : Value} {sz by_ : Nat} (hT : litI P t = some (E, z, sz, by_)) (hzs : z.cells.size = sz) (hs0 : 0 < sz)
    (h1 : okOp s = true) (h2 : okOp x = true) (hlow : k < 1000000) (hs : st.op cx s = .c (.own k sz l.length)) (hf : find st.objs k = some (.row E sz (l.map f)))
    (hx : elems st (st.op cx x) = some (m.map f)) (hfl : ∀ a, (f a).length = sz) (hb : (l.length + m.length) * by_ ≤ 140737488355328) (hm : l.length + m.length ≤ 9223372036854775807)
    (kk : K (St.put ⟨(st.kill k).tmps, upd (st.kill k).objs k (.row E sz ((l ++ m).map f))⟩ dst (.c (.own k sz (l ++ m).length)))) :
    OpTo P cx false ⟨dst, .call { callee := .builtin .append, args := #[s, x], argTypes := #[t, t] }, ty, pos, af, gd⟩ st K := by
  obtain ⟨hu, hE⟩ := litI_spec hT
  exact OpTo.appN hu hE hzs hs0 h1 h2 hlow hs hf hx hfl hb hm kk
theorem OpTo.makeN {α : Type} (f : α → List PV) (b : α) {d : Nat} {z : Value} {sz by_ : Nat} {kl kc : IntKind} (n : Nat) {l c : Int} (hT : litI P T = some (E, z, sz, by_)) (hzs : z.cells.size = sz) (hs0 : 0 < sz) (hok : okV z = true) (hnt : z.oneCell' = true ∨ ∃ cs, z = .agg cs)
    (hx : st.op cx x = .c (.p (.s (.int kl l)))) (hy : st.op cx y = .c (.p (.s (.int kc c)))) (h1 : okOp x = true) (h2 : okOp y = true) (hn : l = (n : Int)) (hlc : l ≤ c) (hb : (by_ : Int) * c ≤ 281474976710656) (hm : c ≤ 9223372036854775807) (hlow : d < 1000000) (hd : st.noref d = true)
    (hz : z.cells.toList.map PV.s = f b)
    (kk : K (St.put ⟨st.tmps, upd st.objs d (.row E sz ((List.replicate n b).map f))⟩ (some d) (.c (.own d sz n)))) : OpTo P cx kp ⟨some d, .makeSlice T x y, ty, pos, af, gd⟩ st K := by
  obtain ⟨hu, hE⟩ := litI_spec hT
  subst hn
  refine OpTo.make hu hE hzs hs0 hok hnt hx hy h1 h2 (by omega) hlc hb hm hlow hd ?_
  rw [Int.toNat_natCast, hz, ← List.map_replicate]; exact kk
/-- Quick operations that can't leave their bounds. -/
def slowOp : Op → Bool
  | .binOp .add .. | .binOp .sub .. | .binOp .mul .. | .binOp .quo .. | .binOp .rem .. | .convert .. => true
  | _ => false
def ev2 (P : Program) (cx : Cx) (st : St) (o : Op) : Option AV := cond (slowOp o) none (ev P cx st o)
theorem Val.ev2 {o : Oper} {x : AV} (h : ev2 P cx st o.op = some x) : Val P cx false o st x := by
  unfold Vl.ev2 at h
  cases hs : slowOp o.op with
  | true => rw [hs] at h; cases h
  | false => rw [hs] at h; exact Val.ev h
/-- Calls, the arguments looked at first. -/
theorem OpTo.callO {f : Nat} {xs : List Operand} {args : List AV} {ats : Array TypeId} {Q : AV → List (Nat × Ob) → Prop} (hf : isFn P f = true) (ho : okOps xs = true)
    (ha : xs.map (fun x => Vl.frz st (st.op cx x)) = args) (hk : args.all AV.keyless = true) (hc : AC P cx.G f args [] Q) (hq : ∀ r os', Q r os' → ∃ s', Imp false st os' dst r s' ∧ K s') :
    OpTo P cx kp ⟨dst, .call { callee := .value (.func f), args := xs.toArray, argTypes := ats }, ty, pos, af, gd⟩ st K := OpTo.call hc hf ho ha hk hq
theorem OpTo.callAO {f : Nat} {xs : List Operand} {args : List AV} {ats : Array TypeId} {Q : AV → List (Nat × Ob) → Prop} (hf : isFn P f = true) (ho : okOps xs = true)
    (ha : xs.map (fun x => Vl.nilFro (st.op cx x)) = args) (hk : args.all AV.keyless = true) (hc : AC P cx.G f args [] Q) (hq : ∀ r os', Q r os' → ∃ s', Imp true st os' dst r s' ∧ K s') :
    OpTo P cx kp ⟨dst, .call { callee := .value (.func f), args := xs.toArray, argTypes := ats }, ty, pos, af, gd⟩ st K := OpTo.callA hc hf ho ha hk hq
theorem OpTo.callRO {f : Nat} {xs : List Operand} {args : List AV} {os0 : List (Nat × Ob)} {ats : Array TypeId} {Q : AV → List (Nat × Ob) → Prop} (im : List (Nat × Nat)) (hos : lend st.objs = os0) (hf : isFn P f = true) (ho : okOps xs = true)
    (ha : xs.map (fun x => (nilFro (st.op cx x)).up) = args) (hi : imOk im = true) (hno : norefT st im = true) (hc : AC P cx.G f args os0 Q) (hq : ∀ r os', Q r os' → K (St.put ⟨st.tmps, dnO im os'⟩ dst (r.dn im))) :
    OpTo P cx false ⟨dst, .call { callee := .value (.func f), args := xs.toArray, argTypes := ats }, ty, pos, af, gd⟩ st K := OpTo.callR im hc hos hf ho ha hi hno hq
end
theorem set_front {α : Type} (s b : List α) (j : Nat) (hs : j < s.length) (hb : j < b.length) : (s.take j ++ b.drop j).set j s[j] = s.take (j + 1) ++ b.drop (j + 1) := by
  have hl : (s.take j).length = j := by simp; omega
  rw [List.set_append_right _ _ (by omega), hl, Nat.sub_self, List.drop_eq_getElem_cons hb, List.set_cons_zero, List.take_succ_eq_append_getElem hs, List.append_assoc]
  rfl
theorem get_front {α : Type} (s b : List α) (j : Nat) (hs : j ≤ s.length) (hb : j < b.length) : (s.take j ++ b.drop j)[j]'(by simp; omega) = b[j] := by
  have hl : (s.take j).length = j := by simp; omega
  rw [List.getElem_append_right (by omega)]
  simp [hl]
theorem at_nat {α : Type} (l : List α) (j : Nat) (h : j < l.length) : l.drop j = l[j] :: l.drop (j + 1) := List.drop_eq_getElem_cons h
end Go.Proofs.Vl
