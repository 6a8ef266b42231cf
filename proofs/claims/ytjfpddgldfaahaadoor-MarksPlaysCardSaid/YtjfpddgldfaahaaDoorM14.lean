/- Sets as keys of a map. -/
import Derived.Test.YtjfpddgldfaahaaDoorM10
import Derived.WideKeyRuns
set_option linter.all false
set_option maxHeartbeats 8000000
namespace Go.Proofs.Vl
open Go Go.RowKit
attribute [local irreducible] AWp OpTo Run DL Val UN DR AC Le thn inb nog
attribute [local irreducible] els nxO
theorem run_checkSet (em : Bool) (a : Nat) (w : World) : (Instr.checkKey em 10000 26 (.agg ((wsI a).map fun n => Value.int .u64 n).toArray)).run Tryd.prog w = .ok () w := by
  obtain ⟨i, hi⟩ : ∃ i, Tryd.prog.info? 24 = some i := by
    cases h : Tryd.prog.info? 24 with
    | some i => exact ⟨i, rfl⟩
    | none => exact absurd h (by intro h; have : (Tryd.prog.info? 24).isSome = true := by kernel_rfl
                                 rw [h] at this; cases this)
  have hsz : i.size = 1 := by
    have : (Tryd.prog.info? 24).map (·.size) = some 1 := by kernel_rfl
    rw [hi] at this; exact Option.some.inj this
  rw [show (10000 : Nat) = 9998 + 1 + 1 from rfl, Instr.checkKey]
  simp only [Sem.run_bind, run_underlying Tryd.underlying26, Result.andThen_ok]
  simp only [Std.Legacy.Range.forIn_eq_forIn_range', Std.Legacy.Range.size, Nat.sub_zero, Nat.add_one_sub_one, Nat.div_one]
  have hh : ∀ j ∈ List.range' 0 16, j < 16 := by intro j hj; simpa using hj
  generalize List.range' 0 16 = is at hh
  induction is with
  | nil => simp
  | cons j js ih =>
    have hj := hh j List.mem_cons_self
    have q1 := run_part1 (P := Tryd.prog) (T := 24) (by kernel_rfl) (vs := (wsI a).map fun n => Value.int .u64 n) (off := j * 1) (v := .int .u64 ((wsI a)[j]'(by rw [wsI_len]; exact hj))) (by simp [wsI_len, hj]) w
    have q2 : ∀ n, (Instr.checkKey em (9998 + 1) 24 (.int .u64 n)).run Tryd.prog w = .ok () w := fun n => by rw [Instr.checkKey]; simp [run_underlying Tryd.underlying24]
    have q3 : (sizeOf 24).run Tryd.prog w = .ok 1 w := by simp [sizeOf, typeInfo, hi, hsz]
    simp only [List.forIn_cons, Sem.run_bind, q3, Result.andThen_ok, q1, q2]
    simpa using ih (fun j hj => hh j (List.mem_cons_of_mem _ hj))
abbrev setV (a : Nat) : Value := .agg ((wsI a).map fun n => Value.int .u64 n).toArray
theorem run_findSet (a b : Nat) (ha : a < TOP) (hb : b < TOP) (v : Value) (k : Nat) (w : World) : (Instr.findKey 26 (setV a) [⟨setV b, v, k⟩]).run Tryd.prog w = .ok (if a = b then some (0, v) else none) w := by
  rw [run_findKey_eq w (by rw [Tryd.underlying26])]
  unfold Instr.findAsking
  rw [Sem.run_bind, show (Op.equal 26 (setV a) (setV b)).run Tryd.prog w = .ok (decide (a = b)) w from run_eqSet a b ha hb w]
  by_cases h : a = b
  · simp [h]
  · simp [h, Instr.findAsking]
theorem OpTo.insS {cx : Cx} {st : St} {K : St → Prop} {T ty : TypeId} {pos : String} {af : Array Edge} {gd : Option (Nat × Bool)} {x y z : Operand} {k : Nat} {v : Value} {a : Nat} {e : TypeId} (hu : Tryd.prog.underlying T = some (.map 26 e)) (h1 : okOp x = true) (h2 : okOp y = true) (h3 : okOp z = true) (hx : st.op cx x = .c (.mp k)) (hf : find st.objs k = some (.mapo [] 0))
    (hy : st.op cx y = .pag (setP a)) (hz : st.op cx z = .c (.p (.s v))) (kk : K ⟨st.tmps, upd st.objs k (.mapo [⟨setV a, v, 0⟩] 1)⟩) :
    OpTo Tryd.prog cx false ⟨none, .insert T x y z, ty, pos, af, gd⟩ st K := by
  unfold OpTo
  intro ac w next Qx ⟨fz, β, hs⟩ hn
  have hX := hs.op x h1
  rw [hx] at hX
  obtain ⟨b, e1, e2⟩ := hX
  have e3 := rep_set (hy ▸ hs.op y h2)
  have e4 := hs.eq hz h3
  obtain ⟨b', g1, hb⟩ := hs.h.ob k _ hf
  rw [e1] at g1; cases g1
  have h5 : (Instr.mapUpdate T (.map (some b)) (setV a) v).run Tryd.prog w = .ok () { w with heap := w.heap.setIfInBounds b (.map [(⟨setV a, v, 0⟩ : MapEntry)].toArray 1) } := by
    have hq : (Instr.findKey 26 (setV a) []).run Tryd.prog w = .ok none w := by simp [Instr.findKey, run_underlying Tryd.underlying26, Instr.findNow]
    simp [Instr.mapUpdate, run_underlying hu, MapKept.run_getObj_map hb, run_checkSet, hq, MapKept.run_setObj_map _ hb]
  unfold wpv
  have h6 : (execOp ac.eval ⟨none, .insert T x y z, ty, pos, af, gd⟩).run Tryd.prog w = .ok .skip { w with heap := w.heap.setIfInBounds b (.map [(⟨setV a, v, 0⟩ : MapEntry)].toArray 1) } := by
    simp [execOp, e2, e3, e4, h5]
  rw [h6, upv_skip]
  exact hn _ _ _ kk ⟨fz, β, hs.wrM e1 hb _ _⟩ (fun h => by cases h)
theorem Val.lkS {cx : Cx} {st : St} {dst : Option Tmp} {T ty : TypeId} {pos : String} {af : Array Edge} {gd : Option (Nat × Bool)} {x y : Operand} {k : Nat} {v : Value} {a c cl : Nat} {e : TypeId} (ha : a < TOP) (hu : Tryd.prog.underlying T = some (.map 26 e)) (h1 : okOp x = true) (h2 : okOp y = true) (hx : st.op cx x = .c (.mp k)) (hf : find st.objs k = some (.mapo [⟨setV a, v, c⟩] cl))
    (hy : st.op cx y = .pag (setP a)) (ho : v.oneCell' = true) :
    Val Tryd.prog cx false ⟨dst, .lookup T x y false, ty, pos, af, gd⟩ st (.c (.p (.s v))) := by
  unfold Val
  intro ac w fz β hs
  have hX := hs.op x h1
  rw [hx] at hX
  obtain ⟨b, e1, e2⟩ := hX
  have e3 := rep_set (hy ▸ hs.op y h2)
  obtain ⟨b', g1, g2⟩ := hs.h.ob k _ hf
  rw [e1] at g1; cases g1
  refine ⟨v, RepP.s _ ho, fun w' hw => ?_⟩
  have hO := hw.resolve_left (by simp)
  have hb : w'.heap[b]? = some (.map [(⟨setV a, v, c⟩ : MapEntry)].toArray cl) := (hO.2 b (hs.h.lt _ _ e1)).trans g2
  have h4 : (Instr.lookup T (.map (some b)) (setV a) false).run Tryd.prog w' = .ok v w' := by
    have hq := run_findSet a a ha ha v c w'
    rw [if_pos rfl] at hq
    simp [Instr.lookup, run_underlying hu, MapKept.run_getObj_map hb, run_checkSet, hq]
  simp [execOp, e2, e3, h4]
