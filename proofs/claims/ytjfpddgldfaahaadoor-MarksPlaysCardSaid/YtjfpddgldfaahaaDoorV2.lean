/- Rules: code and operations over values told apart from memory. -/
import Derived.Test.YtjfpddgldfaahaaDoorV1
import Derived.Test.YtjfpddgldfaahaaDoorV0
import Derived.Deep.LoopGhost
import Derived.Laws.Tables
import Derived.Laws.CopyRow
import Derived.Laws.OwnMore
import Derived.Laws.Cells
set_option linter.all false
namespace Go.Proofs.Vl
open Go Go.RowKit

/-! ### Code -/
def AWp (P : Program) (cx : Cx) (c : Code) (st : St) (Q : Exit → St → Prop) : Prop :=
  ∀ a w, StRep cx st a w → c.wpIn (fwr cx.rd) 0 P (fun e a' w' => ∃ st', Q e st' ∧ StRep cx st' a' w') a w
def thn (next : St → Prop) (Q : Exit → St → Prop) : Exit → St → Prop
  | .normal, st => next st
  | .exit i, st => Q (.exit i) st
  | .goto l, st => Q (.goto l) st
  | .ret, st => Q .ret st
  | .panic c, st => Q (.panic c) st
  | .outgrown, st => Q .outgrown st
def inb (id : Nat) (Q : Exit → St → Prop) : Exit → St → Prop
  | .exit id', st => if id' = id then Q .normal st else Q (.exit id') st
  | .normal, st => Q .normal st
  | .goto l, st => Q (.goto l) st
  | .ret, st => Q .ret st
  | .panic c, st => Q (.panic c) st
  | .outgrown, st => Q .outgrown st
section
variable {P : Program} {cx : Cx} {st : St} {Q Q' : Exit → St → Prop} {x y : Code}
theorem AWp.mono (h : AWp P cx x st Q) (hq : ∀ e s, Q e s → Q' e s) : AWp P cx x st Q' :=
  fun a w hs => Go.wpIn_mono (h a w hs) fun e a' w' ⟨s, q, r⟩ => ⟨s, hq _ _ q, r⟩
theorem AWp.skip (h : Q .normal st) : AWp P cx .skip st Q := fun a w hs => Go.wpIn_skip ⟨st, h, hs⟩
theorem AWp.label {l : Nat} (h : Q .normal st) : AWp P cx (.label l) st Q := fun a w hs => Go.wpIn_label ⟨st, h, hs⟩
theorem AWp.exit {i : Nat} (h : Q (.exit i) st) : AWp P cx (.exit i) st Q := fun a w hs => Go.wpIn_exit ⟨st, h, hs⟩
theorem AWp.ret (h : Q .ret st) : AWp P cx .ret st Q := fun a w hs => Go.wpIn_ret ⟨st, h, hs⟩
theorem AWp.seq (h : AWp P cx x st (thn (fun s => AWp P cx y s Q) Q)) : AWp P cx (.seq x y) st Q := fun a w hs => by
  refine Go.wpIn_seq (Go.wpIn_mono (h a w hs) ?_)
  rintro e a' w' ⟨s, q, r⟩
  cases e with
  | normal => exact q a' w' r
  | exit _ => exact ⟨s, q, r⟩
  | goto _ => exact ⟨s, q, r⟩
  | ret => exact ⟨s, q, r⟩
  | panic _ => exact ⟨s, q, r⟩
  | outgrown => exact ⟨s, q, r⟩
/-- The same, what follows under a name. -/
theorem AWp.seqh (h : ∀ y', y' = y → AWp P cx x st (thn (fun s => AWp P cx y' s Q) Q)) : AWp P cx (.seq x y) st Q := AWp.seq (h y rfl)
theorem AWp.unh (e : x = y) (h : AWp P cx y st Q) : AWp P cx x st Q := e ▸ h
theorem AWp.block {id : Nat} (h : AWp P cx x st (inb id Q)) : AWp P cx (.block id x) st Q := fun a w hs => by
  refine Go.wpIn_block (Go.wpIn_mono (h a w hs) ?_)
  rintro e a' w' ⟨s, q, r⟩
  cases e with
  | exit i => by_cases hi : i = id
              · simp only [inb, if_pos hi] at q; simp only [Exit.inBlock, if_pos hi]; exact ⟨s, q, r⟩
              · simp only [inb, if_neg hi] at q; simp only [Exit.inBlock, if_neg hi]; exact ⟨s, q, r⟩
  | normal => exact ⟨s, q, r⟩
  | goto _ => exact ⟨s, q, r⟩
  | ret => exact ⟨s, q, r⟩
  | panic _ => exact ⟨s, q, r⟩
  | outgrown => exact ⟨s, q, r⟩
/-- What one state says less than another one. -/
def Le (cx : Cx) (st st' : St) : Prop := ∀ a w, StRep cx st a w → StRep cx st' a w
theorem Le.refl : Le cx st st := fun _ _ h => h
theorem AWp.weak {st' : St} (hl : Le cx st st') (h : AWp P cx x st' Q) : AWp P cx x st Q := fun a w hs => h a w (hl a w hs)
/-- A loop: I n holds at the head; a round leaves a lesser n, or the loop. -/
theorem AWp.loop (I : Nat → St → Prop) (n : Nat) (h0 : I n st)
    (hr : ∀ n s, I n s → AWp P cx x s (thn (fun s' => ∃ m s'', m < n ∧ I m s'' ∧ Le cx s' s'') Q)) : AWp P cx (.loop x) st Q := fun a w hs => by
  refine Go.wpIn_loop_ghost (fun k a w => ∃ s, I k s ∧ StRep cx s a w) n ⟨st, h0, hs⟩ ?_
  rintro k a w ⟨s, hi, hs⟩
  refine Go.wpIn_mono (hr k s hi a w hs) ?_
  rintro e a' w' ⟨s', q, r⟩
  cases e with
  | normal => obtain ⟨m, s'', hm, hi', hl⟩ := q; exact ⟨m, hm, s'', hi', hl _ _ r⟩
  | exit _ => exact ⟨s', q, r⟩
  | goto _ => exact ⟨s', q, r⟩
  | ret => exact ⟨s', q, r⟩
  | panic _ => exact ⟨s', q, r⟩
  | outgrown => exact ⟨s', q, r⟩
end

/-! ### Operands -/
def PV.ofV : Value → PV := .s
def AV.ofV : Value → AV
  | .agg cs => .pag (cs.toList.map .s)
  | .tuple _ => .c .any
  | v => .c (.p (.s v))
def gt : List AV → Nat → AV
  | [], _ => .c .any
  | a :: _, 0 => a
  | _ :: l, n + 1 => gt l n
theorem gt_eq : ∀ (l : List AV) (n : Nat), gt l n = l.getD n (.c .any)
  | [], _ => rfl
  | a :: _, 0 => rfl
  | _ :: l, n + 1 => by simpa [gt] using gt_eq l n
def St.op (cx : Cx) (st : St) : Operand → AV
  | .tmp t => gt st.tmps t
  | .const v => AV.ofV v
  | .func f => .c (.fn f [])
  | .global g => match cx.G g with
    | some cs => .c (.eptr cs)
    | none => .c .any
/-- Values that a constant may be. -/
def okV : Value → Bool
  | .agg cs => cs.all (·.oneCell')
  | .tuple _ => true
  | v => v.oneCell'
def okOp : Operand → Bool
  | .const v => okV v
  | _ => true
theorem RepA.ofV {w fz β} {v : Value} (h : okV v = true) : RepA w fz β (AV.ofV v) v := by
  cases v with
  | agg cs =>
    refine ⟨cs.toList, by simp, ?_⟩
    have h' : ∀ u ∈ cs.toList, u.oneCell' = true := fun u hu => (Array.all_eq_true_iff_forall_mem.1 h) u (by simpa using hu)
    generalize cs.toList = l at h'
    induction l with
    | nil => exact .nil
    | cons a l ih => exact .cons (.s a (h' a (by simp))) (ih fun u hu => h' u (by simp [hu]))
  | tuple vs => trivial
  | _ => exact RepP.s _ rfl
theorem SR.op {cx : Cx} {st : St} {a : Act} {w : World} {fz β} (h : SR cx st a w fz β) (x : Operand) (hx : okOp x = true) : RepA w fz β (st.op cx x) (a.eval x) := by
  cases x with
  | tmp t =>
    simp only [St.op, Act.eval, gt_eq, List.getD]
    cases ht : st.tmps[t]? with
    | none => exact RepA.any _
    | some y =>
      obtain ⟨v, h1, h2⟩ := h.t.get ht
      have : a.tmps.getD t undef = v := by simp at h1; simp [Array.getD_eq_getD_getElem?, h1]
      rw [this]; exact h2
  | const v => exact RepA.ofV hx
  | global g =>
    simp only [St.op, Act.eval]
    cases hg : cx.G g with
    | none => exact RepA.any _
    | some cs =>
      have := h.rel.glob g cs hg
      exact RepC.adv (β' := β) this (Adv.refl _ _) (fun _ h => h) (fun k hk => by simp [CV.ref] at hk)
  | func f => exact ⟨[], rfl, .nil⟩

/-! ### Operations -/
/-- All blocks that were there are as they were. -/
def Old (w w' : World) : Prop := w.heap.size ≤ w'.heap.size ∧ ∀ b, b < w.heap.size → w'.heap[b]? = w.heap[b]?
theorem Old.refl (w : World) : Old w w := ⟨Nat.le_refl _, fun _ _ => rfl⟩
theorem Old.trans {a b c : World} (h : Old a b) (h' : Old b c) : Old a c := ⟨Nat.le_trans h.1 h'.1, fun k hk => (h'.2 k (Nat.lt_of_lt_of_le hk h.1)).trans (h.2 k hk)⟩
theorem Old.push {w w' : World} {O : Obj} (h : w'.heap = w.heap.push O) : Old w w' := ⟨by rw [h]; simp, fun b hb => by rw [h, Array.getElem?_push, if_neg (by omega)]⟩
/-- kp: it must let be all blocks that were there. -/
def OpTo (P : Program) (cx : Cx) (kp : Bool) (o : Oper) (st : St) (K : St → Prop) : Prop :=
  ∀ (a : Act) (w : World) (next : Act → World → Prop) (Qx : Exit → Act → World → Prop), StRep cx st a w → (∀ st' a' w', K st' → StRep cx st' a' w' → (kp = true → Old w w') → next a' w') → wpv P o a w next Qx
def Run (P : Program) (cx : Cx) (ds : List (Option Tmp)) : List Oper → St → (St → Prop) → Prop
  | [], st, K => K st
  | o :: r, st, K => match o.guard with
    | none => OpTo P cx false o st (fun s => Run P cx ds r s K)
    | some (j, want) => (∃ d b, ds[j]? = some (some d) ∧ st.tmps[d]? = some (.c (.p (.s (.bool b)))) ∧
        (b = want → OpTo P cx false o st (fun s => Run P cx ds r s K)) ∧ (b ≠ want → Run P cx ds r (st.put o.dst (.tup [])) K)) ∨
      (∃ d, ds[j]? = some (some d) ∧ st.tmps[d]? = some (.tup []) ∧ Run P cx ds r (st.put o.dst (.tup [])) K)
section
variable {P : Program} {cx : Cx} {st : St} {Q : Exit → St → Prop} {K : St → Prop} {ops : Array Oper} {ds : List (Option Tmp)}
theorem RepP.eq {w fz} {v u : Value} (h : RepP w fz (.s v) u) : u = v := by cases h; rfl
theorem RepA.eq {w fz β} {v u : Value} (h : RepA w fz β (.c (.p (.s v))) u) : u = v := RepP.eq h
theorem RepA.undef {w fz β} : RepA w fz β (.tup []) undef := ⟨[], rfl, .nil⟩
theorem dst_at (hds : ops.toList.map (·.dst) = ds) {j d : Nat} (h1 : ds[j]? = some (some d)) : (ops[j]?).bind (·.dst) = some d := by
  subst hds
  simp only [List.getElem?_map, Array.getElem?_toList] at h1
  cases ho : ops[j]? with
  | none => simp [ho] at h1
  | some x => simpa [ho] using h1
theorem run_sound (hds : ops.toList.map (·.dst) = ds) : ∀ (l : List Oper) (st : St), Run P cx ds l st (fun s => Q .normal s) → ∀ a w, StRep cx st a w → wpListV P ops (fun e a' w' => ∃ st', Q e st' ∧ StRep cx st' a' w') l a w
  | [], st, h, a, w, hs => ⟨st, h, hs⟩
  | o :: r, st, h, a, w, hs => by
    unfold Run at h
    cases hg : o.guard with
    | none =>
      rw [hg] at h
      exact wpListV_plain hg fun K' hK => h a w K' _ hs fun st' a' w' h1 h2 _ => hK _ _ (run_sound hds r st' h1 a' w' h2)
    | some g =>
      obtain ⟨j, want⟩ := g
      rw [hg] at h
      obtain ⟨fz, β, hs'⟩ := hs
      rcases h with ⟨d, b, h1, h2, h3, h4⟩ | ⟨d, h1, h2, h4⟩
      case inr =>
        have hy : yielded ops a.tmps j = none := by
          obtain ⟨v, h5, vs, h6, h7⟩ := hs'.t.get h2
          cases h7
          unfold yielded
          rw [dst_at hds h1, Option.bind_some, show a.tmps[d]? = some v by simpa using h5, h6]
        refine wpListV_step fun K' hK => ?_
        rw [if_neg (by simp [Region.wanted, hg, hy])]
        exact hK _ _ (run_sound hds r _ h4 _ _ ⟨fz, β, hs'.put RepA.undef o.dst⟩)
      have hy : yielded ops a.tmps j = some b := by
        obtain ⟨v, h5, h6⟩ := hs'.t.get h2
        have := RepA.eq h6; subst this
        unfold yielded
        have h0 : (ops[j]?).bind (·.dst) = some d := by
          subst hds
          simp only [List.getElem?_map, Array.getElem?_toList] at h1
          cases ho : ops[j]? with
          | none => simp [ho] at h1
          | some x => simpa [ho] using h1
        rw [h0, Option.bind_some]
        have h7 : a.tmps[d]? = some (.bool b) := by simpa using h5
        rw [h7]
      by_cases hb : b = want
      · refine wpListV_step fun K' hK => ?_
        rw [if_pos (by simp [Region.wanted, hg, hy, hb])]
        exact h3 hb a w K' _ ⟨fz, β, hs'⟩ fun st' a' w' h5 h6 _ => hK _ _ (run_sound hds r st' h5 a' w' h6)
      · refine wpListV_step fun K' hK => ?_
        rw [if_neg (by simp [Region.wanted, hg, hy, hb])]
        exact hK _ _ (run_sound hds r _ (h4 hb) _ _ ⟨fz, β, hs'.put RepA.undef o.dst⟩)
theorem AWp.region {id : Nat} {l : List Oper} (hds : l.map (·.dst) = ds) (h : Run P cx ds l st (fun s => Q .normal s)) : AWp P cx (.region id l.toArray false) st Q :=
  fun a w hs => wpIn_regionV (run_sound (by simpa using hds) l st h a w hs)
theorem Run.nil (h : K st) : Run P cx ds [] st K := h
variable {o : Oper} {r : List Oper}
theorem Run.cons (hg : o.guard = none) (h : OpTo P cx false o st (fun s => Run P cx ds r s K)) : Run P cx ds (o :: r) st K := by
  unfold Run; rw [hg]; exact h
theorem Run.yes {j d : Nat} {b : Bool} (hg : o.guard = some (j, b)) (hd : ds[j]? = some (some d)) (hb : st.tmps[d]? = some (.c (.p (.s (.bool b)))))
    (h : OpTo P cx false o st (fun s => Run P cx ds r s K)) : Run P cx ds (o :: r) st K := by
  unfold Run; rw [hg]; exact .inl ⟨d, b, hd, hb, fun _ => h, fun hn => absurd rfl hn⟩
theorem Run.no {j d : Nat} {b b' : Bool} (hg : o.guard = some (j, b)) (hd : ds[j]? = some (some d)) (hb : st.tmps[d]? = some (.c (.p (.s (.bool b'))))) (hne : b' ≠ b)
    (h : Run P cx ds r (st.put o.dst (.tup [])) K) : Run P cx ds (o :: r) st K := by
  unfold Run; rw [hg]; exact .inl ⟨d, b', hd, hb, fun he => absurd he hne, fun _ => h⟩
theorem Run.noU {j d : Nat} {b : Bool} (hg : o.guard = some (j, b)) (hd : ds[j]? = some (some d)) (hb : st.tmps[d]? = some (.tup [])) (h : Run P cx ds r (st.put o.dst (.tup [])) K) : Run P cx ds (o :: r) st K := by
  unfold Run; rw [hg]; exact .inr ⟨d, hd, hb, h⟩

variable {kp : Bool}
theorem Old.cell {w w' : World} (h : Old w w') {a : Addr} {v : Value} (hc : w.cell? a = some v) : w'.cell? a = some v :=
  (World.cell?_of_block (w := w) (h.2 a.block (World.block_lt_of_cell? w a hc))).trans hc
/-- An operation that leaves the world alone and yields a value (pu: in whatever world; else: in every world that still has the blocks). -/
def Val (P : Program) (cx : Cx) (pu : Bool) (o : Oper) (st : St) (x : AV) : Prop :=
  ∀ a w fz β, SR cx st a w fz β → ∃ v, RepA w fz β x v ∧ ∀ w', (pu = true ∨ Old w w') → (execOp a.eval o).run P w' = .ok (.value v) w'
variable {pu : Bool}
theorem Val.imp {x : AV} (h : Val P cx pu o st x) : Val P cx false o st x := fun a w fz β hs =>
  let ⟨v, h1, h2⟩ := h a w fz β hs; ⟨v, h1, fun w' hw => h2 w' (.inr (hw.resolve_left (by simp)))⟩
theorem OpTo.of {x : AV} (h : Val P cx pu o st x) (k : K (st.put o.dst x)) : OpTo P cx kp o st K := by
  intro a w next Qx ⟨fz, β, hs⟩ hn
  obtain ⟨v, h1, h2⟩ := h a w fz β hs
  unfold wpv
  rw [h2 w (.inr (Old.refl w))]
  exact hn _ _ _ k ⟨fz, β, hs.put h1 o.dst⟩ (fun _ => Old.refl w)
theorem Val.pure {v : Value} (hv : okV v = true) (h : ∀ a w fz β, SR cx st a w fz β → ∀ w', (execOp a.eval o).run P w' = .ok (.value v) w') : Val P cx true o st (AV.ofV v) :=
  fun a w fz β hs => ⟨v, RepA.ofV hv, fun w' _ => h a w fz β hs w'⟩
variable {dst : Option Tmp} {ty : TypeId} {pos : String} {af : Array Edge} {gd : Option (Nat × Bool)} {x y : Operand}
theorem Val.move (hx : okOp x = true) : Val P cx true ⟨dst, .move x, ty, pos, af, gd⟩ st (st.op cx x) :=
  fun a w fz β hs => ⟨a.eval x, hs.op x hx, fun _ _ => rfl⟩
theorem Val.assign (hx : okOp x = true) : Val P cx true ⟨dst, .assign x, ty, pos, af, gd⟩ st (st.op cx x) :=
  fun a w fz β hs => ⟨a.eval x, hs.op x hx, fun _ _ => rfl⟩
theorem SR.eq {a : Act} {w : World} {fz β} (h : SR cx st a w fz β) {x : Operand} {v : Value} (hx : st.op cx x = .c (.p (.s v))) (ho : okOp x = true) : a.eval x = v := by
  have := h.op x ho
  rw [hx] at this
  exact RepA.eq this
theorem Val.pick {c : Operand} {b : Bool} (hc : st.op cx c = .c (.p (.s (.bool b)))) (h1 : okOp x = true) (h2 : okOp y = true) (hc1 : okOp c = true) :
    Val P cx true ⟨dst, .pick c x y, ty, pos, af, gd⟩ st (if b then st.op cx x else st.op cx y) :=
  fun a w fz β hs => ⟨if b then a.eval x else a.eval y, by cases b; exact hs.op y h2; exact hs.op x h1, fun w' _ => by
    have := hs.eq hc hc1
    cases b <;> simp [execOp, this, asBool]⟩
theorem Val.bin {op : BinOp} {tx t2 : TypeId} {u v z : Value} (hx : st.op cx x = .c (.p (.s u))) (hy : st.op cx y = .c (.p (.s v))) (h1 : okOp x = true) (h2 : okOp y = true) (hz : okV z = true)
    (hr : ∀ w, (binOp op tx u v).run P w = .ok z w) (he : ∀ w, (eqGuard op tx x y u v).run P w = .ok () w) : Val P cx true ⟨dst, .binOp op tx x y t2, ty, pos, af, gd⟩ st (AV.ofV z) :=
  Val.pure hz (fun a w fz β hs w' => by
    have e1 := hs.eq hx h1
    have e2 := hs.eq hy h2
    simp [execOp, e1, e2, he, hr])
theorem eqGuard_int (op : BinOp) (tx : TypeId) (x y : Operand) (k j : IntKind) (a b : Int) (w : World) : (eqGuard op tx x y (.int k a) (.int j b)).run P w = .ok () w := by
  cases op <;> rfl
/-- What an operator makes of two whole numbers of one kind. -/
def iop (op : BinOp) (k : IntKind) (a b : Int) : Value := match op with
  | .add => .int k (k.wrap (a + b))
  | .sub => .int k (k.wrap (a - b))
  | .mul => .int k (k.wrap (a * b))
  | .and => .int k (bits .and k a b)
  | .or => .int k (bits .or k a b)
  | .xor => .int k (bits .xor k a b)
  | .andNot => .int k (bits .andNot k a b)
  | .eql => .bool (a == b)
  | .neq => .bool (a != b)
  | .lss => .bool (decide (a < b))
  | .leq => .bool (decide (a ≤ b))
  | .gtr => .bool (decide (a > b))
  | .geq => .bool (decide (a ≥ b))
  | _ => undef
def iopB : BinOp → Bool
  | .quo | .rem | .shl | .shr => false
  | _ => true
theorem run_iop {op : BinOp} (ho : iopB op = true) (tx : TypeId) (k : IntKind) (a b : Int) (w : World) : (binOp op tx (.int k a) (.int k b)).run P w = .ok (iop op k a b) w := by
  cases op <;> first | (simp [iopB] at ho; done) | (simp [binOp, iop, Op.intArith, Op.intBits, Op.intCmp, bits]; done) | rfl
theorem okV_iop {op : BinOp} (ho : iopB op = true) (k : IntKind) (a b : Int) : okV (iop op k a b) = true := by
  cases op <;> first | rfl | (simp [iopB] at ho; done)
theorem Val.int2 {op : BinOp} {tx t2 : TypeId} {kd : IntKind} {u v : Int} (ho : iopB op = true) (hx : st.op cx x = .c (.p (.s (.int kd u)))) (hy : st.op cx y = .c (.p (.s (.int kd v)))) (h1 : okOp x = true) (h2 : okOp y = true) :
    Val P cx true ⟨dst, .binOp op tx x y t2, ty, pos, af, gd⟩ st (AV.ofV (iop op kd u v)) :=
  Val.bin hx hy h1 h2 (okV_iop ho _ _ _) (run_iop ho tx kd u v) (fun w => eqGuard_int op tx x y kd kd u v w)
theorem Val.quo {tx t2 : TypeId} {kd : IntKind} {u v : Int} (hx : st.op cx x = .c (.p (.s (.int kd u)))) (hy : st.op cx y = .c (.p (.s (.int kd v)))) (h1 : okOp x = true) (h2 : okOp y = true) (h0 : v ≠ 0) :
    Val P cx true ⟨dst, .binOp .quo tx x y t2, ty, pos, af, gd⟩ st (AV.ofV (.int kd (kd.wrap (u.tdiv v)))) :=
  Val.bin hx hy h1 h2 rfl (fun w => by simp [binOp, Op.intDiv, h0]) (fun w => eqGuard_int _ tx x y kd kd u v w)
theorem Val.rem {tx t2 : TypeId} {kd : IntKind} {u v : Int} (hx : st.op cx x = .c (.p (.s (.int kd u)))) (hy : st.op cx y = .c (.p (.s (.int kd v)))) (h1 : okOp x = true) (h2 : okOp y = true) (h0 : v ≠ 0) :
    Val P cx true ⟨dst, .binOp .rem tx x y t2, ty, pos, af, gd⟩ st (AV.ofV (.int kd (u.tmod v))) :=
  Val.bin hx hy h1 h2 rfl (fun w => by simp [binOp, Op.intDiv, h0]) (fun w => eqGuard_int _ tx x y kd kd u v w)
theorem Val.shl {tx t2 : TypeId} {kd kj : IntKind} {u v : Int} (hx : st.op cx x = .c (.p (.s (.int kd u)))) (hy : st.op cx y = .c (.p (.s (.int kj v)))) (h1 : okOp x = true) (h2 : okOp y = true) (h0 : 0 ≤ v) :
    Val P cx true ⟨dst, .binOp .shl tx x y t2, ty, pos, af, gd⟩ st (AV.ofV (.int kd (kd.wrap (u * 2 ^ (min v.toNat kd.bits))))) :=
  Val.bin hx hy h1 h2 rfl (fun w => by simp [binOp, Op.shift, show ¬ v < 0 by omega]) (fun w => eqGuard_int _ tx x y kd kj u v w)
theorem Val.shr {tx t2 : TypeId} {kd kj : IntKind} {u v : Int} (hx : st.op cx x = .c (.p (.s (.int kd u)))) (hy : st.op cx y = .c (.p (.s (.int kj v)))) (h1 : okOp x = true) (h2 : okOp y = true) (h0 : 0 ≤ v) :
    Val P cx true ⟨dst, .binOp .shr tx x y t2, ty, pos, af, gd⟩ st (AV.ofV (.int kd (u.fdiv (2 ^ (min v.toNat kd.bits))))) :=
  Val.bin hx hy h1 h2 rfl (fun w => by simp [binOp, Op.shift, show ¬ v < 0 by omega]) (fun w => eqGuard_int _ tx x y kd kj u v w)
theorem Val.not {tx : TypeId} {b : Bool} (hx : st.op cx x = .c (.p (.s (.bool b)))) (h1 : okOp x = true) : Val P cx true ⟨dst, .unOp .not tx x, ty, pos, af, gd⟩ st (AV.ofV (.bool !b)) :=
  Val.pure rfl (fun a w fz β hs w' => by have e := hs.eq hx h1; simp [execOp, e, Op.unary])
theorem Val.convI {sr ds : TypeId} {kd kj : IntKind} {u : Int} (hx : st.op cx x = .c (.p (.s (.int kj u)))) (h1 : okOp x = true) {D : TypeDesc} (hs1 : P.underlying sr = some D) (hs2 : P.underlying ds = some (.int kd)) :
    Val P cx true ⟨dst, .convert sr ds x, ty, pos, af, gd⟩ st (AV.ofV (.int kd (kd.wrap u))) :=
  Val.pure rfl (fun a w fz β hs w' => by
    have e := hs.eq hx h1
    simp [execOp, e, convert, run_underlying hs1, run_underlying hs2, Conv.intToInt])
theorem RepT.av {w fz β} {x : TV} {v : Value} (h : RepT w fz β x v) : RepA w fz β x.av v := by cases x <;> exact h
theorem Val.extract {j : Nat} {xs : List TV} {z : TV} (hx : st.op cx x = .tup xs) (h1 : okOp x = true) (hz : xs[j]? = some z) : Val P cx true ⟨dst, .extract x j, ty, pos, af, gd⟩ st z.av :=
  fun a w fz β hs => by
    have h2 := hs.op x h1
    rw [hx] at h2
    obtain ⟨vs, h3, h4⟩ := h2
    obtain ⟨v, h5, h6⟩ := h4.get hz
    exact ⟨v, h6.av, fun w' _ => by simp [execOp, Instr.extract, h3, h5]⟩
end
end Go.Proofs.Vl
