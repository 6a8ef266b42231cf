/- Sets that are the same value; MarksSums. -/
import Derived.Test.YtcheokfoilcdoaaDoorU6
import Derived.Laws.StructEq
import Derived.ChangeKeysEq
set_option linter.all false
set_option maxRecDepth 2000
set_option maxHeartbeats 8000000
namespace Go.Proofs.Vl
open Go Go.RowKit
attribute [local irreducible] AWp OpTo Run DL Val UN DR AC Le thn inb nog
attribute [local irreducible] els nxO
theorem run_items {P : Program} {e : TypeId} {k : IntKind} (he : P.underlying e = some (.int k)) (hT : tyI P e = some none) (d : Nat) (w : World) (xs ys : List Int) : ∀ is : List Nat, (∀ i ∈ is, i < xs.length ∧ i < ys.length) →
    (Op.eqItems (d + 1) e 1 (xs.map fun n => Value.int k n).toArray (ys.map fun n => Value.int k n).toArray is).run P w = .ok (decide (∀ i ∈ is, xs[i]? = ys[i]?)) w
  | [], _ => by simp [Op.eqItems]
  | i :: is, h => by
    obtain ⟨h1, h2⟩ := h i List.mem_cons_self
    have ih := run_items he hT d w xs ys is (fun j hj => h j (List.mem_cons_of_mem _ hj))
    have q1 := run_part1 hT (vs := xs.map fun n => Value.int k n) (off := i * 1) (v := .int k xs[i]) (by simp [h1]) w
    have q2 := run_part1 hT (vs := ys.map fun n => Value.int k n) (off := i * 1) (v := .int k ys[i]) (by simp [h2]) w
    have r1 := run_equalIn_int w d e k k xs[i] ys[i] he
    unfold Op.eqItems
    rw [Sem.run_bind, q1, Result.andThen_ok, Sem.run_bind, q2, Result.andThen_ok, Sem.run_bind, r1, Result.andThen_ok]
    by_cases hx : xs[i] = ys[i]
    · rw [if_neg (by simp [hx]), ih]
      simp [h1, h2, hx]
    · rw [if_pos (by simp [hx])]
      simp [h1, h2, hx]
def wsI (s : Nat) : List Int := (List.range 16).map fun i => ((wd s i : Nat) : Int)
theorem setP_wsI (s : Nat) : setP s = (wsI s).map fun n => PV.s (.int .u64 n) := by simp [setP, wsI]
theorem wsI_len (s : Nat) : (wsI s).length = 16 := by simp [wsI]
theorem wsI_inj {a b : Nat} (ha : a < TOP) (hb : b < TOP) : wsI a = wsI b ↔ a = b :=
  ⟨fun h => setP_inj ha hb (by rw [setP_wsI, setP_wsI, h]), fun h => by rw [h]⟩
theorem rep_set {w : World} {fz β} {s : Nat} {v : Value} (h : RepA w fz β (.pag (setP s)) v) : v = .agg ((wsI s).map fun n => Value.int .u64 n).toArray := by
  obtain ⟨vs, rfl, h2⟩ := h
  rw [setP_wsI] at h2
  congr 2
  generalize wsI s = l at h2
  induction l generalizing vs with
  | nil => cases h2; rfl
  | cons a l ih => cases h2 with | cons p1 p2 => rw [RepP.eq p1, ih _ p2]; rfl
theorem run_eqSet (a b : Nat) (ha : a < TOP) (hb : b < TOP) (w : World) : (Op.equalIn 10000 31 (.agg ((wsI a).map fun n => Value.int .u64 n).toArray) (.agg ((wsI b).map fun n => Value.int .u64 n).toArray)).run Tryd.prog w = .ok (decide (a = b)) w := by
  obtain ⟨i, hi⟩ : ∃ i, Tryd.prog.info? 29 = some i := by
    cases h : Tryd.prog.info? 29 with
    | some i => exact ⟨i, rfl⟩
    | none => exact absurd h (by intro h; have : (Tryd.prog.info? 29).isSome = true := by kernel_rfl
                                 rw [h] at this; cases this)
  rw [show (10000 : Nat) = 9998 + 1 + 1 from rfl, run_equalIn_array (w := w) (9998 + 1) _ _ Tryd.underlying31 hi, show Tryd.prog.cellsOf 29 = 1 by kernel_rfl,
    run_items Tryd.underlying29 (by kernel_rfl) 9998 w (wsI a) (wsI b) (List.range 16) (fun j hj => by rw [wsI_len, wsI_len]; have := List.mem_range.1 hj; exact ⟨this, this⟩)]
  congr 1
  refine decide_eq_decide.2 (Iff.trans ?_ (wsI_inj ha hb))
  constructor
  · intro h
    refine List.ext_getElem? fun j => ?_
    by_cases hj : j < 16
    · exact h j (List.mem_range.2 hj)
    · rw [List.getElem?_eq_none (by rw [wsI_len]; omega), List.getElem?_eq_none (by rw [wsI_len]; omega)]
  · intro h j _; rw [h]
theorem Val.eqS {cx : Cx} {st : St} {dst : Option Tmp} {ty t2 : TypeId} {pos : String} {af : Array Edge} {gd : Option (Nat × Bool)} {x y : Operand} {a b : Nat} (ha : a < TOP) (hb : b < TOP) (hx : st.op cx x = .pag (setP a)) (hy : st.op cx y = .pag (setP b)) (h1 : okOp x = true) (h2 : okOp y = true) :
    Val Tryd.prog cx true ⟨dst, .binOp .eql 31 x y t2, ty, pos, af, gd⟩ st (vb (decide (a = b))) := by
  unfold Val
  intro ac w fz β hs
  have e1 := rep_set (hx ▸ hs.op x h1)
  have e2 := rep_set (hy ▸ hs.op y h2)
  refine ⟨.bool (decide (a = b)), RepP.s _ rfl, fun w' _ => ?_⟩
  simp only [execOp, Sem.run_bind, e1, e2]
  rw [run_eqGuard_agg w' .eql _ x y _ _ (by kernel_rfl)]
  simp only [Result.andThen_ok]
  rw [run_eql_struct, run_eqSet a b ha hb]
  rfl
theorem Val.neS {cx : Cx} {st : St} {dst : Option Tmp} {ty t2 : TypeId} {pos : String} {af : Array Edge} {gd : Option (Nat × Bool)} {x y : Operand} {a b : Nat} (ha : a < TOP) (hb : b < TOP) (hx : st.op cx x = .pag (setP a)) (hy : st.op cx y = .pag (setP b)) (h1 : okOp x = true) (h2 : okOp y = true) :
    Val Tryd.prog cx true ⟨dst, .binOp .neq 31 x y t2, ty, pos, af, gd⟩ st (vb (!decide (a = b))) := by
  unfold Val
  intro ac w fz β hs
  have e1 := rep_set (hx ▸ hs.op x h1)
  have e2 := rep_set (hy ▸ hs.op y h2)
  refine ⟨.bool (!decide (a = b)), RepP.s _ rfl, fun w' _ => ?_⟩
  simp only [execOp, Sem.run_bind, e1, e2]
  rw [run_eqGuard_agg w' .neq _ x y _ _ (by kernel_rfl)]
  simp only [Result.andThen_ok]
  rw [run_neq_struct, run_eqSet a b ha hb]
  rfl
theorem Val.build0 {cx : Cx} {st : St} {dst : Option Tmp} {ty : TypeId} {pos : String} {af : Array Edge} {gd : Option (Nat × Bool)} : Val Tryd.prog cx true ⟨dst, .build 31 #[], ty, pos, af, gd⟩ st (.pag (setP 0)) :=
  by exact Val.buildAP (parts := []) rfl rfl rfl rfl
/-! ### What two sets have, together -/