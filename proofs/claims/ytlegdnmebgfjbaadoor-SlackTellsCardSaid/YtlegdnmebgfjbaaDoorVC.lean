/- The value logic (merged). -/
import Derived.Test.YtlegdnmebgfjbaaDoorVB
import Derived.KernelRfl
import Derived.RangeFuncRecord
section
/- The walk, as rules that find their own side facts. -/
set_option linter.all false
namespace Go.Proofs.Vl
open Go Go.RowKit
section
variable {P : Program} {cx : Cx} {st st' st1 st2 : St} {Q : Exit → St → Prop} {c : Code}
variable {kp : Bool} {K : St → Prop} {dst : Option Tmp} {ty T T' E : TypeId} {pos : String} {af : Array Edge} {gd : Option (Nat × Bool)} {x y : Operand} {k : Nat} {o : Oper} {r : List Oper} {ds : List (Option Tmp)} {wr : List Nat} {rem : List (Nat × Oper)}
structure Wr (q : Prop) : Prop where
  out : q
/-! ### States told plainly -/
theorem Run.eqs (hs : st = st' := by (first | (dsimp only [St.put, St.op, St.kill, okill, List.set_cons_zero, List.set_cons_succ, List.set_nil, gt, List.map, AV.ofV, AV.kill, TV.av, TV.kill, iop, upd, List.cons_append, List.nil_append, addOff, List.eraseIdx, Nat.reduceBEq, cond_true, cond_false, Nat.reduceAdd, Nat.reduceMul, Int.reduceToNat, CV.kill, CV.ref, Value.cells, if_true, if_false, AV.frz, TV.frz, CV.frz, ofrz, Ob.frz, Ob.kill, frz_fus, frz_fis, kill_fus, kill_fis, List.length_nil, Bool.true_and, Bool.false_and, List.getElem_toArray, List.getElem_cons_succ, List.getElem_cons_zero, Nat.zero_add, List.drop_zero, List.any_cons, List.any_nil, Cap.ref, Bool.false_or, splice, List.take, List.drop, List.length] <;> exact rfl) | exact rfl)) (h : Run P cx ds r st' K) : Run P cx ds r st K := hs ▸ h
theorem DL.eqs {rem' : List (Nat × Oper)} (hs : st = st' := by (first | (dsimp only [St.put, St.op, St.kill, okill, List.set_cons_zero, List.set_cons_succ, List.set_nil, gt, List.map, AV.ofV, AV.kill, TV.av, TV.kill, iop, upd, List.cons_append, List.nil_append, addOff, List.eraseIdx, Nat.reduceBEq, cond_true, cond_false, Nat.reduceAdd, Nat.reduceMul, Int.reduceToNat, CV.kill, CV.ref, Value.cells, if_true, if_false, AV.frz, TV.frz, CV.frz, ofrz, Ob.frz, Ob.kill, frz_fus, frz_fis, kill_fus, kill_fis, List.length_nil, Bool.true_and, Bool.false_and, List.getElem_toArray, List.getElem_cons_succ, List.getElem_cons_zero, Nat.zero_add, List.drop_zero, List.any_cons, List.any_nil, Cap.ref, Bool.false_or, splice, List.take, List.drop, List.length] <;> exact rfl) | exact rfl)) (hr : rem = rem' := by (first | (dsimp only [List.eraseIdx] <;> exact rfl) | exact rfl)) (h : DL P cx ds wr rem' st' K) : DL P cx ds wr rem st K := by subst hs; subst hr; exact h
theorem AWp.eqs (hs : st = st' := by (first | (dsimp only [St.put, St.op, St.kill, okill, List.set_cons_zero, List.set_cons_succ, List.set_nil, gt, List.map, AV.ofV, AV.kill, TV.av, TV.kill, iop, upd, List.cons_append, List.nil_append, addOff, List.eraseIdx, Nat.reduceBEq, cond_true, cond_false, Nat.reduceAdd, Nat.reduceMul, Int.reduceToNat, CV.kill, CV.ref, Value.cells, if_true, if_false, AV.frz, TV.frz, CV.frz, ofrz, Ob.frz, Ob.kill, frz_fus, frz_fis, kill_fus, kill_fis, List.length_nil, Bool.true_and, Bool.false_and, List.getElem_toArray, List.getElem_cons_succ, List.getElem_cons_zero, Nat.zero_add, List.drop_zero, List.any_cons, List.any_nil, Cap.ref, Bool.false_or, splice, List.take, List.drop, List.length] <;> exact rfl) | exact rfl)) (h : AWp P cx c st' Q) : AWp P cx c st Q := hs ▸ h
theorem OpTo.eqs (hs : st = st' := by (first | (dsimp only [St.put, St.op, St.kill, okill, List.set_cons_zero, List.set_cons_succ, List.set_nil, gt, List.map, AV.ofV, AV.kill, TV.av, TV.kill, iop, upd, List.cons_append, List.nil_append, addOff, List.eraseIdx, Nat.reduceBEq, cond_true, cond_false, Nat.reduceAdd, Nat.reduceMul, Int.reduceToNat, CV.kill, CV.ref, Value.cells, if_true, if_false, AV.frz, TV.frz, CV.frz, ofrz, Ob.frz, Ob.kill, frz_fus, frz_fis, kill_fus, kill_fis, List.length_nil, Bool.true_and, Bool.false_and, List.getElem_toArray, List.getElem_cons_succ, List.getElem_cons_zero, Nat.zero_add, List.drop_zero, List.any_cons, List.any_nil, Cap.ref, Bool.false_or, splice, List.take, List.drop, List.length] <;> exact rfl) | exact rfl)) (h : OpTo P cx kp o st' K) : OpTo P cx kp o st K := hs ▸ h
theorem AWp.regionN {id : Nat} {l : List Oper} (hds : l.map (·.dst) = ds := by (dsimp only [List.map] <;> exact rfl)) (h : Run P cx ds l st (fun s => Q .normal s)) : AWp P cx (.region id l.toArray false) st Q := AWp.region hds h
theorem AWp.dlaN {id : Nat} {l : List Oper} (hm : P.follows .mixedOrders = true := by kernel_rfl) (hsl : l.all noSel = true := by rfl) (hds : l.map (·.dst) = ds := by (dsimp only [List.map] <;> exact rfl)) (hw : wrs 0 l = wr := by (dsimp only [wrs, isWr, cond_true, cond_false, Nat.reduceAdd] <;> exact rfl)) (he : enum 0 l = rem := by (dsimp only [enum, Nat.reduceAdd] <;> exact rfl)) (h : DL P cx ds wr rem st (fun s => Q .normal s)) : AWp P cx (.region id l.toArray true) st Q := by
  subst hw; subst he; exact AWp.dla hm hsl hds h
/-- The walk goes on as far as it knows. -/
theorem w1 {p q : Prop} (h : Wr q → p := by intro hq; (first | (guard_target =~ OpTo _ _ _ _ _ _; (first | ((refine OpTo.of (Val.ev2 rfl) ?_); (first | refine Run.eqs (h := ?_) | refine DL.eqs (h := ?_) | refine AWp.eqs (h := ?_) | refine OpTo.eqs (h := ?_) | skip)) | ((refine isAdd ?_); (first | refine OpTo.of (Val.addI rfl rfl rfl rfl ⟨by omega, by omega⟩) ?_ | refine OpTo.of (Val.addU rfl rfl rfl rfl ⟨by omega, by omega⟩) ?_ | refine OpTo.of (Val.ev rfl) ?_); (first | refine Run.eqs (h := ?_) | refine DL.eqs (h := ?_) | refine AWp.eqs (h := ?_) | refine OpTo.eqs (h := ?_) | skip)) | ((refine isSub ?_); (first | refine OpTo.of (Val.subI rfl rfl rfl rfl ⟨by omega, by omega⟩) ?_ | refine OpTo.of (Val.subU rfl rfl rfl rfl ⟨by omega, by omega⟩) ?_ | refine OpTo.of (Val.ev rfl) ?_); (first | refine Run.eqs (h := ?_) | refine DL.eqs (h := ?_) | refine AWp.eqs (h := ?_) | refine OpTo.eqs (h := ?_) | skip)) | ((refine isMul ?_); (first | refine OpTo.of (Val.mulI rfl rfl rfl rfl ⟨by omega, by omega⟩) ?_ | refine OpTo.of (Val.mulU rfl rfl rfl rfl ⟨by omega, by omega⟩) ?_ | refine OpTo.of (Val.ev rfl) ?_); (first | refine Run.eqs (h := ?_) | refine DL.eqs (h := ?_) | refine AWp.eqs (h := ?_) | refine OpTo.eqs (h := ?_) | skip)) | ((refine isQuo ?_); (first | refine OpTo.of (Val.quoI rfl rfl rfl rfl ⟨⟨by omega, by omega⟩, by omega⟩) ?_ | refine OpTo.of (Val.quoU rfl rfl rfl rfl ⟨⟨by omega, by omega⟩, by omega⟩) ?_ | refine OpTo.of (Val.ev rfl) ?_); (first | refine Run.eqs (h := ?_) | refine DL.eqs (h := ?_) | refine AWp.eqs (h := ?_) | refine OpTo.eqs (h := ?_) | skip)) | ((refine isRem ?_); (first | refine OpTo.of (Val.remK rfl rfl rfl rfl ⟨by omega, by omega⟩) ?_ | refine OpTo.of (Val.ev rfl) ?_); (first | refine Run.eqs (h := ?_) | refine DL.eqs (h := ?_) | refine AWp.eqs (h := ?_) | refine OpTo.eqs (h := ?_) | skip)) | ((refine isBin ?_); (first | refine OpTo.of (Val.strB rfl rfl rfl rfl rfl) ?_); (first | refine Run.eqs (h := ?_) | refine DL.eqs (h := ?_) | refine AWp.eqs (h := ?_) | refine OpTo.eqs (h := ?_) | skip)) | ((refine isConv ?_); (first | refine OpTo.of (Val.convU rfl rfl rfl rfl ⟨by omega, by omega⟩) ?_ | refine OpTo.of (Val.convS rfl rfl rfl rfl ⟨by omega, by omega⟩) ?_ | refine OpTo.of (Val.convB rfl rfl rfl rfl ⟨by omega, by omega⟩) ?_ | refine OpTo.of (Val.ev rfl) ?_); (first | refine Run.eqs (h := ?_) | refine DL.eqs (h := ?_) | refine AWp.eqs (h := ?_) | refine OpTo.eqs (h := ?_) | skip)) | ((refine isIxA ?_); (first | refine OpTo.of (Val.ixN rfl rfl rfl rfl rfl (by omega) (by intro _; rfl)) ?_ | refine OpTo.of (Val.ixON rfl rfl rfl rfl rfl (by omega)) ?_ | refine OpTo.of (Val.ixR rfl rfl rfl rfl rfl (by omega)) ?_ | refine OpTo.of (Val.ixL rfl rfl rfl rfl rfl (by decide)) ?_ | refine OpTo.of (Val.ixNL rfl rfl rfl rfl rfl (by decide) (by first | decide | omega) (by intro _; rfl)) ?_ | refine OpTo.of (Val.ixONL rfl rfl rfl rfl rfl (by decide) (by first | decide | omega)) ?_); (first | refine Run.eqs (h := ?_) | refine DL.eqs (h := ?_) | refine AWp.eqs (h := ?_) | refine OpTo.eqs (h := ?_) | skip)) | ((refine isIx ?_); (first | refine OpTo.of (Val.idxN rfl rfl rfl rfl rfl (by omega)) ?_); (first | refine Run.eqs (h := ?_) | refine DL.eqs (h := ?_) | refine AWp.eqs (h := ?_) | refine OpTo.eqs (h := ?_) | skip)) | ((refine isLoad ?_); (first | refine OpTo.of (Val.ldF rfl rfl rfl rfl) ?_ | refine OpTo.of (Val.lcF rfl rfl rfl rfl) ?_); (first | refine Run.eqs (h := ?_) | refine DL.eqs (h := ?_) | refine AWp.eqs (h := ?_) | refine OpTo.eqs (h := ?_) | skip)) | ((refine isMkFn ?_); (first | refine OpTo.of (Val.fn rfl rfl) ?_); (first | refine Run.eqs (h := ?_) | refine DL.eqs (h := ?_) | refine AWp.eqs (h := ?_) | refine OpTo.eqs (h := ?_) | skip)) | ((refine isBuild ?_); (first | refine OpTo.of (Val.buildP rfl rfl rfl rfl) ?_ | refine OpTo.of (Val.buildC rfl rfl rfl rfl) ?_); (first | refine Run.eqs (h := ?_) | refine DL.eqs (h := ?_) | refine AWp.eqs (h := ?_) | refine OpTo.eqs (h := ?_) | skip)) | ((refine isStore ?_); (first | ((first | refine OpTo.stF rfl rfl rfl rfl rfl rfl rfl rfl ?_); (first | refine Run.eqs (h := ?_) | refine DL.eqs (h := ?_) | refine AWp.eqs (h := ?_) | refine OpTo.eqs (h := ?_) | skip)) | ((first | refine OpTo.stP rfl rfl rfl rfl rfl rfl (Nat.le_of_ble_eq_true rfl) ?_ | refine OpTo.stPC rfl rfl rfl rfl rfl rfl (by decide) ?_ | refine OpTo.stC rfl rfl rfl rfl rfl rfl (by decide) ?_); (first | refine Run.eqs (h := ?_) | refine DL.eqs (h := ?_) | refine AWp.eqs (h := ?_) | refine OpTo.eqs (h := ?_) | skip)))) | ((refine isAlloc ?_); (refine OpTo.alloc rfl (by kernel_rfl) (by first | exact .inl rfl | exact .inr ⟨_, rfl⟩) (by decide) rfl ?_); (first | refine Run.eqs (h := ?_) | refine DL.eqs (h := ?_) | refine AWp.eqs (h := ?_) | refine OpTo.eqs (h := ?_) | skip)) | ((refine isBox ?_); (refine OpTo.box rfl rfl (by decide) rfl rfl ?_); (first | refine Run.eqs (h := ?_) | refine DL.eqs (h := ?_) | refine AWp.eqs (h := ?_) | refine OpTo.eqs (h := ?_) | skip)) | ((refine isMkMap ?_); (refine OpTo.makeMap (by decide) rfl ?_); (first | refine Run.eqs (h := ?_) | refine DL.eqs (h := ?_) | refine AWp.eqs (h := ?_) | refine OpTo.eqs (h := ?_) | skip)))) | (guard_target =~ Run _ _ _ _ _ _; (first | (refine Run.nil ?_) | (refine Run.cons rfl ?_) | (refine Run.yes' rfl rfl rfl (by first | with_reducible rfl | decide) ?_) | ((refine Run.no rfl rfl rfl (by decide) ?_); (first | refine Run.eqs (h := ?_) | refine DL.eqs (h := ?_) | refine AWp.eqs (h := ?_) | refine OpTo.eqs (h := ?_) | skip)) | ((refine Run.noU rfl rfl rfl ?_); (first | refine Run.eqs (h := ?_) | refine DL.eqs (h := ?_) | refine AWp.eqs (h := ?_) | refine OpTo.eqs (h := ?_) | skip)) | ((refine Run.bothT rfl rfl rfl (fun hz => ?_) (fun hz => by exfalso; simp only [decide_eq_true_eq, decide_eq_false_iff_not, List.length_map, beq_iff_eq, bne_iff_ne, beq_eq_false_iff_ne, bne_eq_false_iff_eq, Bool.not_eq_true', Bool.not_eq_false', ne_eq, Decidable.not_not, Bool.and_eq_true, Bool.and_eq_false_iff, Bool.or_eq_true, Bool.or_eq_false_iff, gt_iff_lt, ge_iff_le, Int.not_lt, Int.not_le] at hz; omega)); (try dsimp only [iop] at hz); rw [hz]; (first | refine Run.eqs (h := ?_) | refine DL.eqs (h := ?_) | refine AWp.eqs (h := ?_) | refine OpTo.eqs (h := ?_) | skip)) | ((refine Run.bothT rfl rfl rfl (fun hz => by exfalso; simp only [decide_eq_true_eq, decide_eq_false_iff_not, List.length_map, beq_iff_eq, bne_iff_ne, beq_eq_false_iff_ne, bne_eq_false_iff_eq, Bool.not_eq_true', Bool.not_eq_false', ne_eq, Decidable.not_not, Bool.and_eq_true, Bool.and_eq_false_iff, Bool.or_eq_true, Bool.or_eq_false_iff, gt_iff_lt, ge_iff_le, Int.not_lt, Int.not_le] at hz; omega) (fun hz => ?_)); (try dsimp only [iop] at hz); rw [hz]; (first | refine Run.eqs (h := ?_) | refine DL.eqs (h := ?_) | refine AWp.eqs (h := ?_) | refine OpTo.eqs (h := ?_) | skip)) | ((refine Run.bothF rfl rfl rfl (fun hz => ?_) (fun hz => by exfalso; simp only [decide_eq_true_eq, decide_eq_false_iff_not, List.length_map, beq_iff_eq, bne_iff_ne, beq_eq_false_iff_ne, bne_eq_false_iff_eq, Bool.not_eq_true', Bool.not_eq_false', ne_eq, Decidable.not_not, Bool.and_eq_true, Bool.and_eq_false_iff, Bool.or_eq_true, Bool.or_eq_false_iff, gt_iff_lt, ge_iff_le, Int.not_lt, Int.not_le] at hz; omega)); (try dsimp only [iop] at hz); rw [hz]; (first | refine Run.eqs (h := ?_) | refine DL.eqs (h := ?_) | refine AWp.eqs (h := ?_) | refine OpTo.eqs (h := ?_) | skip)) | ((refine Run.bothF rfl rfl rfl (fun hz => by exfalso; simp only [decide_eq_true_eq, decide_eq_false_iff_not, List.length_map, beq_iff_eq, bne_iff_ne, beq_eq_false_iff_ne, bne_eq_false_iff_eq, Bool.not_eq_true', Bool.not_eq_false', ne_eq, Decidable.not_not, Bool.and_eq_true, Bool.and_eq_false_iff, Bool.or_eq_true, Bool.or_eq_false_iff, gt_iff_lt, ge_iff_le, Int.not_lt, Int.not_le] at hz; omega) (fun hz => ?_)); (try dsimp only [iop] at hz); rw [hz]; (first | refine Run.eqs (h := ?_) | refine DL.eqs (h := ?_) | refine AWp.eqs (h := ?_) | refine OpTo.eqs (h := ?_) | skip)))) | (guard_target =~ DL _ _ _ _ _ _ _; (first | (refine DL.done ?_) | ((refine noG ?_); (first | ((refine DL.take 0 rfl (by decide +kernel) rfl (Val.ev2 rfl) ?_); (first | refine Run.eqs (h := ?_) | refine DL.eqs (h := ?_) | refine AWp.eqs (h := ?_) | refine OpTo.eqs (h := ?_) | skip)) | ((refine isAddD ?_); (first | refine DL.take 0 rfl (by decide +kernel) rfl (Val.addI rfl rfl rfl rfl ⟨by omega, by omega⟩) ?_ | refine DL.take 0 rfl (by decide +kernel) rfl (Val.addU rfl rfl rfl rfl ⟨by omega, by omega⟩) ?_ | refine DL.take 0 rfl (by decide +kernel) rfl (Val.ev rfl) ?_); (first | refine Run.eqs (h := ?_) | refine DL.eqs (h := ?_) | refine AWp.eqs (h := ?_) | refine OpTo.eqs (h := ?_) | skip)) | ((refine isSubD ?_); (first | refine DL.take 0 rfl (by decide +kernel) rfl (Val.subI rfl rfl rfl rfl ⟨by omega, by omega⟩) ?_ | refine DL.take 0 rfl (by decide +kernel) rfl (Val.subU rfl rfl rfl rfl ⟨by omega, by omega⟩) ?_ | refine DL.take 0 rfl (by decide +kernel) rfl (Val.ev rfl) ?_); (first | refine Run.eqs (h := ?_) | refine DL.eqs (h := ?_) | refine AWp.eqs (h := ?_) | refine OpTo.eqs (h := ?_) | skip)) | ((refine isMulD ?_); (first | refine DL.take 0 rfl (by decide +kernel) rfl (Val.mulI rfl rfl rfl rfl ⟨by omega, by omega⟩) ?_ | refine DL.take 0 rfl (by decide +kernel) rfl (Val.mulU rfl rfl rfl rfl ⟨by omega, by omega⟩) ?_ | refine DL.take 0 rfl (by decide +kernel) rfl (Val.ev rfl) ?_); (first | refine Run.eqs (h := ?_) | refine DL.eqs (h := ?_) | refine AWp.eqs (h := ?_) | refine OpTo.eqs (h := ?_) | skip)) | ((refine isQuoD ?_); (first | refine DL.take 0 rfl (by decide +kernel) rfl (Val.quoI rfl rfl rfl rfl ⟨⟨by omega, by omega⟩, by omega⟩) ?_ | refine DL.take 0 rfl (by decide +kernel) rfl (Val.quoU rfl rfl rfl rfl ⟨⟨by omega, by omega⟩, by omega⟩) ?_ | refine DL.take 0 rfl (by decide +kernel) rfl (Val.ev rfl) ?_); (first | refine Run.eqs (h := ?_) | refine DL.eqs (h := ?_) | refine AWp.eqs (h := ?_) | refine OpTo.eqs (h := ?_) | skip)) | ((refine isRemD ?_); (first | refine DL.take 0 rfl (by decide +kernel) rfl (Val.remK rfl rfl rfl rfl ⟨by omega, by omega⟩) ?_ | refine DL.take 0 rfl (by decide +kernel) rfl (Val.ev rfl) ?_); (first | refine Run.eqs (h := ?_) | refine DL.eqs (h := ?_) | refine AWp.eqs (h := ?_) | refine OpTo.eqs (h := ?_) | skip)) | ((refine isBinD ?_); (first | refine DL.take 0 rfl (by decide +kernel) rfl (Val.strB rfl rfl rfl rfl rfl) ?_); (first | refine Run.eqs (h := ?_) | refine DL.eqs (h := ?_) | refine AWp.eqs (h := ?_) | refine OpTo.eqs (h := ?_) | skip)) | ((refine isConvD ?_); (first | refine DL.take 0 rfl (by decide +kernel) rfl (Val.convU rfl rfl rfl rfl ⟨by omega, by omega⟩) ?_ | refine DL.take 0 rfl (by decide +kernel) rfl (Val.convS rfl rfl rfl rfl ⟨by omega, by omega⟩) ?_ | refine DL.take 0 rfl (by decide +kernel) rfl (Val.convB rfl rfl rfl rfl ⟨by omega, by omega⟩) ?_ | refine DL.take 0 rfl (by decide +kernel) rfl (Val.ev rfl) ?_); (first | refine Run.eqs (h := ?_) | refine DL.eqs (h := ?_) | refine AWp.eqs (h := ?_) | refine OpTo.eqs (h := ?_) | skip)) | ((refine isIxAD ?_); (first | refine DL.take 0 rfl (by decide +kernel) rfl (Val.ixN rfl rfl rfl rfl rfl (by omega) (by intro _; rfl)) ?_ | refine DL.take 0 rfl (by decide +kernel) rfl (Val.ixON rfl rfl rfl rfl rfl (by omega)) ?_ | refine DL.take 0 rfl (by decide +kernel) rfl (Val.ixR rfl rfl rfl rfl rfl (by omega)) ?_ | refine DL.take 0 rfl (by decide +kernel) rfl (Val.ixL rfl rfl rfl rfl rfl (by decide)) ?_ | refine DL.take 0 rfl (by decide +kernel) rfl (Val.ixNL rfl rfl rfl rfl rfl (by decide) (by first | decide | omega) (by intro _; rfl)) ?_ | refine DL.take 0 rfl (by decide +kernel) rfl (Val.ixONL rfl rfl rfl rfl rfl (by decide) (by first | decide | omega)) ?_); (first | refine Run.eqs (h := ?_) | refine DL.eqs (h := ?_) | refine AWp.eqs (h := ?_) | refine OpTo.eqs (h := ?_) | skip)) | ((refine isIxD ?_); (first | refine DL.take 0 rfl (by decide +kernel) rfl (Val.idxN rfl rfl rfl rfl rfl (by omega)) ?_); (first | refine Run.eqs (h := ?_) | refine DL.eqs (h := ?_) | refine AWp.eqs (h := ?_) | refine OpTo.eqs (h := ?_) | skip)) | ((refine isLoadD ?_); (first | refine DL.take 0 rfl (by decide +kernel) rfl (Val.ldF rfl rfl rfl rfl) ?_ | refine DL.take 0 rfl (by decide +kernel) rfl (Val.lcF rfl rfl rfl rfl) ?_); (first | refine Run.eqs (h := ?_) | refine DL.eqs (h := ?_) | refine AWp.eqs (h := ?_) | refine OpTo.eqs (h := ?_) | skip)) | ((refine isMkFnD ?_); (first | refine DL.take 0 rfl (by decide +kernel) rfl (Val.fn rfl rfl) ?_); (first | refine Run.eqs (h := ?_) | refine DL.eqs (h := ?_) | refine AWp.eqs (h := ?_) | refine OpTo.eqs (h := ?_) | skip)) | ((refine isBuildD ?_); (first | refine DL.take 0 rfl (by decide +kernel) rfl (Val.buildP rfl rfl rfl rfl) ?_ | refine DL.take 0 rfl (by decide +kernel) rfl (Val.buildC rfl rfl rfl rfl) ?_); (first | refine Run.eqs (h := ?_) | refine DL.eqs (h := ?_) | refine AWp.eqs (h := ?_) | refine OpTo.eqs (h := ?_) | skip)))) | (first | ((refine DL.takeG 0 rfl (by decide +kernel) rfl rfl rfl (by first | with_reducible rfl | decide) (Val.ev2 rfl) ?_); (first | refine Run.eqs (h := ?_) | refine DL.eqs (h := ?_) | refine AWp.eqs (h := ?_) | refine OpTo.eqs (h := ?_) | skip)) | ((refine isAddD ?_); (first | refine DL.takeG 0 rfl (by decide +kernel) rfl rfl rfl (by first | with_reducible rfl | decide) (Val.addI rfl rfl rfl rfl ⟨by omega, by omega⟩) ?_ | refine DL.takeG 0 rfl (by decide +kernel) rfl rfl rfl (by first | with_reducible rfl | decide) (Val.addU rfl rfl rfl rfl ⟨by omega, by omega⟩) ?_ | refine DL.takeG 0 rfl (by decide +kernel) rfl rfl rfl (by first | with_reducible rfl | decide) (Val.ev rfl) ?_); (first | refine Run.eqs (h := ?_) | refine DL.eqs (h := ?_) | refine AWp.eqs (h := ?_) | refine OpTo.eqs (h := ?_) | skip)) | ((refine isSubD ?_); (first | refine DL.takeG 0 rfl (by decide +kernel) rfl rfl rfl (by first | with_reducible rfl | decide) (Val.subI rfl rfl rfl rfl ⟨by omega, by omega⟩) ?_ | refine DL.takeG 0 rfl (by decide +kernel) rfl rfl rfl (by first | with_reducible rfl | decide) (Val.subU rfl rfl rfl rfl ⟨by omega, by omega⟩) ?_ | refine DL.takeG 0 rfl (by decide +kernel) rfl rfl rfl (by first | with_reducible rfl | decide) (Val.ev rfl) ?_); (first | refine Run.eqs (h := ?_) | refine DL.eqs (h := ?_) | refine AWp.eqs (h := ?_) | refine OpTo.eqs (h := ?_) | skip)) | ((refine isMulD ?_); (first | refine DL.takeG 0 rfl (by decide +kernel) rfl rfl rfl (by first | with_reducible rfl | decide) (Val.mulI rfl rfl rfl rfl ⟨by omega, by omega⟩) ?_ | refine DL.takeG 0 rfl (by decide +kernel) rfl rfl rfl (by first | with_reducible rfl | decide) (Val.mulU rfl rfl rfl rfl ⟨by omega, by omega⟩) ?_ | refine DL.takeG 0 rfl (by decide +kernel) rfl rfl rfl (by first | with_reducible rfl | decide) (Val.ev rfl) ?_); (first | refine Run.eqs (h := ?_) | refine DL.eqs (h := ?_) | refine AWp.eqs (h := ?_) | refine OpTo.eqs (h := ?_) | skip)) | ((refine isQuoD ?_); (first | refine DL.takeG 0 rfl (by decide +kernel) rfl rfl rfl (by first | with_reducible rfl | decide) (Val.quoI rfl rfl rfl rfl ⟨⟨by omega, by omega⟩, by omega⟩) ?_ | refine DL.takeG 0 rfl (by decide +kernel) rfl rfl rfl (by first | with_reducible rfl | decide) (Val.quoU rfl rfl rfl rfl ⟨⟨by omega, by omega⟩, by omega⟩) ?_ | refine DL.takeG 0 rfl (by decide +kernel) rfl rfl rfl (by first | with_reducible rfl | decide) (Val.ev rfl) ?_); (first | refine Run.eqs (h := ?_) | refine DL.eqs (h := ?_) | refine AWp.eqs (h := ?_) | refine OpTo.eqs (h := ?_) | skip)) | ((refine isRemD ?_); (first | refine DL.takeG 0 rfl (by decide +kernel) rfl rfl rfl (by first | with_reducible rfl | decide) (Val.remK rfl rfl rfl rfl ⟨by omega, by omega⟩) ?_ | refine DL.takeG 0 rfl (by decide +kernel) rfl rfl rfl (by first | with_reducible rfl | decide) (Val.ev rfl) ?_); (first | refine Run.eqs (h := ?_) | refine DL.eqs (h := ?_) | refine AWp.eqs (h := ?_) | refine OpTo.eqs (h := ?_) | skip)) | ((refine isBinD ?_); (first | refine DL.takeG 0 rfl (by decide +kernel) rfl rfl rfl (by first | with_reducible rfl | decide) (Val.strB rfl rfl rfl rfl rfl) ?_); (first | refine Run.eqs (h := ?_) | refine DL.eqs (h := ?_) | refine AWp.eqs (h := ?_) | refine OpTo.eqs (h := ?_) | skip)) | ((refine isConvD ?_); (first | refine DL.takeG 0 rfl (by decide +kernel) rfl rfl rfl (by first | with_reducible rfl | decide) (Val.convU rfl rfl rfl rfl ⟨by omega, by omega⟩) ?_ | refine DL.takeG 0 rfl (by decide +kernel) rfl rfl rfl (by first | with_reducible rfl | decide) (Val.convS rfl rfl rfl rfl ⟨by omega, by omega⟩) ?_ | refine DL.takeG 0 rfl (by decide +kernel) rfl rfl rfl (by first | with_reducible rfl | decide) (Val.convB rfl rfl rfl rfl ⟨by omega, by omega⟩) ?_ | refine DL.takeG 0 rfl (by decide +kernel) rfl rfl rfl (by first | with_reducible rfl | decide) (Val.ev rfl) ?_); (first | refine Run.eqs (h := ?_) | refine DL.eqs (h := ?_) | refine AWp.eqs (h := ?_) | refine OpTo.eqs (h := ?_) | skip)) | ((refine isIxAD ?_); (first | refine DL.takeG 0 rfl (by decide +kernel) rfl rfl rfl (by first | with_reducible rfl | decide) (Val.ixN rfl rfl rfl rfl rfl (by omega) (by intro _; rfl)) ?_ | refine DL.takeG 0 rfl (by decide +kernel) rfl rfl rfl (by first | with_reducible rfl | decide) (Val.ixON rfl rfl rfl rfl rfl (by omega)) ?_ | refine DL.takeG 0 rfl (by decide +kernel) rfl rfl rfl (by first | with_reducible rfl | decide) (Val.ixR rfl rfl rfl rfl rfl (by omega)) ?_ | refine DL.takeG 0 rfl (by decide +kernel) rfl rfl rfl (by first | with_reducible rfl | decide) (Val.ixL rfl rfl rfl rfl rfl (by decide)) ?_ | refine DL.takeG 0 rfl (by decide +kernel) rfl rfl rfl (by first | with_reducible rfl | decide) (Val.ixNL rfl rfl rfl rfl rfl (by decide) (by first | decide | omega) (by intro _; rfl)) ?_ | refine DL.takeG 0 rfl (by decide +kernel) rfl rfl rfl (by first | with_reducible rfl | decide) (Val.ixONL rfl rfl rfl rfl rfl (by decide) (by first | decide | omega)) ?_); (first | refine Run.eqs (h := ?_) | refine DL.eqs (h := ?_) | refine AWp.eqs (h := ?_) | refine OpTo.eqs (h := ?_) | skip)) | ((refine isIxD ?_); (first | refine DL.takeG 0 rfl (by decide +kernel) rfl rfl rfl (by first | with_reducible rfl | decide) (Val.idxN rfl rfl rfl rfl rfl (by omega)) ?_); (first | refine Run.eqs (h := ?_) | refine DL.eqs (h := ?_) | refine AWp.eqs (h := ?_) | refine OpTo.eqs (h := ?_) | skip)) | ((refine isLoadD ?_); (first | refine DL.takeG 0 rfl (by decide +kernel) rfl rfl rfl (by first | with_reducible rfl | decide) (Val.ldF rfl rfl rfl rfl) ?_ | refine DL.takeG 0 rfl (by decide +kernel) rfl rfl rfl (by first | with_reducible rfl | decide) (Val.lcF rfl rfl rfl rfl) ?_); (first | refine Run.eqs (h := ?_) | refine DL.eqs (h := ?_) | refine AWp.eqs (h := ?_) | refine OpTo.eqs (h := ?_) | skip)) | ((refine isMkFnD ?_); (first | refine DL.takeG 0 rfl (by decide +kernel) rfl rfl rfl (by first | with_reducible rfl | decide) (Val.fn rfl rfl) ?_); (first | refine Run.eqs (h := ?_) | refine DL.eqs (h := ?_) | refine AWp.eqs (h := ?_) | refine OpTo.eqs (h := ?_) | skip)) | ((refine isBuildD ?_); (first | refine DL.takeG 0 rfl (by decide +kernel) rfl rfl rfl (by first | with_reducible rfl | decide) (Val.buildP rfl rfl rfl rfl) ?_ | refine DL.takeG 0 rfl (by decide +kernel) rfl rfl rfl (by first | with_reducible rfl | decide) (Val.buildC rfl rfl rfl rfl) ?_); (first | refine Run.eqs (h := ?_) | refine DL.eqs (h := ?_) | refine AWp.eqs (h := ?_) | refine OpTo.eqs (h := ?_) | skip))) | ((refine DL.takeN 0 rfl (by decide +kernel) rfl rfl rfl (by decide) ?_); (first | refine Run.eqs (h := ?_) | refine DL.eqs (h := ?_) | refine AWp.eqs (h := ?_) | refine OpTo.eqs (h := ?_) | skip)) | ((refine DL.takeU 0 rfl (by decide +kernel) rfl rfl rfl ?_); (first | refine Run.eqs (h := ?_) | refine DL.eqs (h := ?_) | refine AWp.eqs (h := ?_) | refine OpTo.eqs (h := ?_) | skip)) | (refine DL.one 0 rfl (by decide +kernel) rfl ?_) | (refine DL.oneG 0 rfl (by decide +kernel) rfl rfl rfl (by first | with_reducible rfl | decide) ?_) | ((refine DL.take 1 rfl (by decide +kernel) rfl (Val.ev2 rfl) ?_); (first | refine Run.eqs (h := ?_) | refine DL.eqs (h := ?_) | refine AWp.eqs (h := ?_) | refine OpTo.eqs (h := ?_) | skip)) | ((refine DL.takeG 1 rfl (by decide +kernel) rfl rfl rfl (by first | with_reducible rfl | decide) (Val.ev2 rfl) ?_); (first | refine Run.eqs (h := ?_) | refine DL.eqs (h := ?_) | refine AWp.eqs (h := ?_) | refine OpTo.eqs (h := ?_) | skip)) | ((refine DL.take 2 rfl (by decide +kernel) rfl (Val.ev2 rfl) ?_); (first | refine Run.eqs (h := ?_) | refine DL.eqs (h := ?_) | refine AWp.eqs (h := ?_) | refine OpTo.eqs (h := ?_) | skip)) | ((refine DL.takeG 2 rfl (by decide +kernel) rfl rfl rfl (by first | with_reducible rfl | decide) (Val.ev2 rfl) ?_); (first | refine Run.eqs (h := ?_) | refine DL.eqs (h := ?_) | refine AWp.eqs (h := ?_) | refine OpTo.eqs (h := ?_) | skip)) | ((refine DL.take 3 rfl (by decide +kernel) rfl (Val.ev2 rfl) ?_); (first | refine Run.eqs (h := ?_) | refine DL.eqs (h := ?_) | refine AWp.eqs (h := ?_) | refine OpTo.eqs (h := ?_) | skip)) | ((refine DL.takeG 3 rfl (by decide +kernel) rfl rfl rfl (by first | with_reducible rfl | decide) (Val.ev2 rfl) ?_); (first | refine Run.eqs (h := ?_) | refine DL.eqs (h := ?_) | refine AWp.eqs (h := ?_) | refine OpTo.eqs (h := ?_) | skip)) | ((refine DL.take 1 rfl (by decide +kernel) rfl (Val.ixN rfl rfl rfl rfl rfl (by omega) (by intro _; rfl)) ?_); (first | refine Run.eqs (h := ?_) | refine DL.eqs (h := ?_) | refine AWp.eqs (h := ?_) | refine OpTo.eqs (h := ?_) | skip)) | ((refine DL.take 1 rfl (by decide +kernel) rfl (Val.ldF rfl rfl rfl rfl) ?_); (first | refine Run.eqs (h := ?_) | refine DL.eqs (h := ?_) | refine AWp.eqs (h := ?_) | refine OpTo.eqs (h := ?_) | skip)) | ((refine DL.take 2 rfl (by decide +kernel) rfl (Val.ixN rfl rfl rfl rfl rfl (by omega) (by intro _; rfl)) ?_); (first | refine Run.eqs (h := ?_) | refine DL.eqs (h := ?_) | refine AWp.eqs (h := ?_) | refine OpTo.eqs (h := ?_) | skip)) | ((refine DL.take 2 rfl (by decide +kernel) rfl (Val.ldF rfl rfl rfl rfl) ?_); (first | refine Run.eqs (h := ?_) | refine DL.eqs (h := ?_) | refine AWp.eqs (h := ?_) | refine OpTo.eqs (h := ?_) | skip)) | ((refine DL.take 3 rfl (by decide +kernel) rfl (Val.ixN rfl rfl rfl rfl rfl (by omega) (by intro _; rfl)) ?_); (first | refine Run.eqs (h := ?_) | refine DL.eqs (h := ?_) | refine AWp.eqs (h := ?_) | refine OpTo.eqs (h := ?_) | skip)) | ((refine DL.take 3 rfl (by decide +kernel) rfl (Val.ldF rfl rfl rfl rfl) ?_); (first | refine Run.eqs (h := ?_) | refine DL.eqs (h := ?_) | refine AWp.eqs (h := ?_) | refine OpTo.eqs (h := ?_) | skip)))) | (guard_target =~ AWp _ _ _ _ _; (first | (refine AWp.seq ?_) | (refine AWp.block ?_) | (refine AWp.ret ?_) | (refine AWp.skip ?_) | (refine AWp.exit ?_) | (refine AWp.label ?_) | (refine AWp.scope ?_) | (refine AWp.cond1 rfl rfl (by first | with_reducible rfl | decide | exact decide_eq_true (by omega) | exact decide_eq_false (by omega)) ?_) | (refine AWp.cond0 rfl rfl (by first | with_reducible rfl | decide | exact decide_eq_true (by omega) | exact decide_eq_false (by omega)) ?_) | (refine AWp.regionN (h := ?_)) | (refine AWp.dlaN (h := ?_)))) | (first | (refine thn_n ?_) | (refine thn_e ?_) | (refine thn_r ?_) | (refine inb_n ?_) | (refine inb_hit ?_) | (refine inb_r ?_) | (refine inb_miss rfl ?_) | (refine nog_n ?_) | (refine nog_r ?_) | (refine nog_e ?_) | (refine UN_succ ?_))); exact hq.out) (k : q) : p := h ⟨k⟩
theorem walk {p q : Prop} (h : Wr q → p := by intro hq; repeat (first | (guard_target =~ OpTo _ _ _ _ _ _; (first | ((refine OpTo.of (Val.ev2 rfl) ?_); (first | refine Run.eqs (h := ?_) | refine DL.eqs (h := ?_) | refine AWp.eqs (h := ?_) | refine OpTo.eqs (h := ?_) | skip)) | ((refine isAdd ?_); (first | refine OpTo.of (Val.addI rfl rfl rfl rfl ⟨by omega, by omega⟩) ?_ | refine OpTo.of (Val.addU rfl rfl rfl rfl ⟨by omega, by omega⟩) ?_ | refine OpTo.of (Val.ev rfl) ?_); (first | refine Run.eqs (h := ?_) | refine DL.eqs (h := ?_) | refine AWp.eqs (h := ?_) | refine OpTo.eqs (h := ?_) | skip)) | ((refine isSub ?_); (first | refine OpTo.of (Val.subI rfl rfl rfl rfl ⟨by omega, by omega⟩) ?_ | refine OpTo.of (Val.subU rfl rfl rfl rfl ⟨by omega, by omega⟩) ?_ | refine OpTo.of (Val.ev rfl) ?_); (first | refine Run.eqs (h := ?_) | refine DL.eqs (h := ?_) | refine AWp.eqs (h := ?_) | refine OpTo.eqs (h := ?_) | skip)) | ((refine isMul ?_); (first | refine OpTo.of (Val.mulI rfl rfl rfl rfl ⟨by omega, by omega⟩) ?_ | refine OpTo.of (Val.mulU rfl rfl rfl rfl ⟨by omega, by omega⟩) ?_ | refine OpTo.of (Val.ev rfl) ?_); (first | refine Run.eqs (h := ?_) | refine DL.eqs (h := ?_) | refine AWp.eqs (h := ?_) | refine OpTo.eqs (h := ?_) | skip)) | ((refine isQuo ?_); (first | refine OpTo.of (Val.quoI rfl rfl rfl rfl ⟨⟨by omega, by omega⟩, by omega⟩) ?_ | refine OpTo.of (Val.quoU rfl rfl rfl rfl ⟨⟨by omega, by omega⟩, by omega⟩) ?_ | refine OpTo.of (Val.ev rfl) ?_); (first | refine Run.eqs (h := ?_) | refine DL.eqs (h := ?_) | refine AWp.eqs (h := ?_) | refine OpTo.eqs (h := ?_) | skip)) | ((refine isRem ?_); (first | refine OpTo.of (Val.remK rfl rfl rfl rfl ⟨by omega, by omega⟩) ?_ | refine OpTo.of (Val.ev rfl) ?_); (first | refine Run.eqs (h := ?_) | refine DL.eqs (h := ?_) | refine AWp.eqs (h := ?_) | refine OpTo.eqs (h := ?_) | skip)) | ((refine isBin ?_); (first | refine OpTo.of (Val.strB rfl rfl rfl rfl rfl) ?_); (first | refine Run.eqs (h := ?_) | refine DL.eqs (h := ?_) | refine AWp.eqs (h := ?_) | refine OpTo.eqs (h := ?_) | skip)) | ((refine isConv ?_); (first | refine OpTo.of (Val.convU rfl rfl rfl rfl ⟨by omega, by omega⟩) ?_ | refine OpTo.of (Val.convS rfl rfl rfl rfl ⟨by omega, by omega⟩) ?_ | refine OpTo.of (Val.convB rfl rfl rfl rfl ⟨by omega, by omega⟩) ?_ | refine OpTo.of (Val.ev rfl) ?_); (first | refine Run.eqs (h := ?_) | refine DL.eqs (h := ?_) | refine AWp.eqs (h := ?_) | refine OpTo.eqs (h := ?_) | skip)) | ((refine isIxA ?_); (first | refine OpTo.of (Val.ixN rfl rfl rfl rfl rfl (by omega) (by intro _; rfl)) ?_ | refine OpTo.of (Val.ixON rfl rfl rfl rfl rfl (by omega)) ?_ | refine OpTo.of (Val.ixR rfl rfl rfl rfl rfl (by omega)) ?_ | refine OpTo.of (Val.ixL rfl rfl rfl rfl rfl (by decide)) ?_ | refine OpTo.of (Val.ixNL rfl rfl rfl rfl rfl (by decide) (by first | decide | omega) (by intro _; rfl)) ?_ | refine OpTo.of (Val.ixONL rfl rfl rfl rfl rfl (by decide) (by first | decide | omega)) ?_); (first | refine Run.eqs (h := ?_) | refine DL.eqs (h := ?_) | refine AWp.eqs (h := ?_) | refine OpTo.eqs (h := ?_) | skip)) | ((refine isIx ?_); (first | refine OpTo.of (Val.idxN rfl rfl rfl rfl rfl (by omega)) ?_); (first | refine Run.eqs (h := ?_) | refine DL.eqs (h := ?_) | refine AWp.eqs (h := ?_) | refine OpTo.eqs (h := ?_) | skip)) | ((refine isLoad ?_); (first | refine OpTo.of (Val.ldF rfl rfl rfl rfl) ?_ | refine OpTo.of (Val.lcF rfl rfl rfl rfl) ?_); (first | refine Run.eqs (h := ?_) | refine DL.eqs (h := ?_) | refine AWp.eqs (h := ?_) | refine OpTo.eqs (h := ?_) | skip)) | ((refine isMkFn ?_); (first | refine OpTo.of (Val.fn rfl rfl) ?_); (first | refine Run.eqs (h := ?_) | refine DL.eqs (h := ?_) | refine AWp.eqs (h := ?_) | refine OpTo.eqs (h := ?_) | skip)) | ((refine isBuild ?_); (first | refine OpTo.of (Val.buildP rfl rfl rfl rfl) ?_ | refine OpTo.of (Val.buildC rfl rfl rfl rfl) ?_); (first | refine Run.eqs (h := ?_) | refine DL.eqs (h := ?_) | refine AWp.eqs (h := ?_) | refine OpTo.eqs (h := ?_) | skip)) | ((refine isStore ?_); (first | ((first | refine OpTo.stF rfl rfl rfl rfl rfl rfl rfl rfl ?_); (first | refine Run.eqs (h := ?_) | refine DL.eqs (h := ?_) | refine AWp.eqs (h := ?_) | refine OpTo.eqs (h := ?_) | skip)) | ((first | refine OpTo.stP rfl rfl rfl rfl rfl rfl (Nat.le_of_ble_eq_true rfl) ?_ | refine OpTo.stPC rfl rfl rfl rfl rfl rfl (by decide) ?_ | refine OpTo.stC rfl rfl rfl rfl rfl rfl (by decide) ?_); (first | refine Run.eqs (h := ?_) | refine DL.eqs (h := ?_) | refine AWp.eqs (h := ?_) | refine OpTo.eqs (h := ?_) | skip)))) | ((refine isAlloc ?_); (refine OpTo.alloc rfl (by kernel_rfl) (by first | exact .inl rfl | exact .inr ⟨_, rfl⟩) (by decide) rfl ?_); (first | refine Run.eqs (h := ?_) | refine DL.eqs (h := ?_) | refine AWp.eqs (h := ?_) | refine OpTo.eqs (h := ?_) | skip)) | ((refine isBox ?_); (refine OpTo.box rfl rfl (by decide) rfl rfl ?_); (first | refine Run.eqs (h := ?_) | refine DL.eqs (h := ?_) | refine AWp.eqs (h := ?_) | refine OpTo.eqs (h := ?_) | skip)) | ((refine isMkMap ?_); (refine OpTo.makeMap (by decide) rfl ?_); (first | refine Run.eqs (h := ?_) | refine DL.eqs (h := ?_) | refine AWp.eqs (h := ?_) | refine OpTo.eqs (h := ?_) | skip)))) | (guard_target =~ Run _ _ _ _ _ _; (first | (refine Run.nil ?_) | (refine Run.cons rfl ?_) | (refine Run.yes' rfl rfl rfl (by first | with_reducible rfl | decide) ?_) | ((refine Run.no rfl rfl rfl (by decide) ?_); (first | refine Run.eqs (h := ?_) | refine DL.eqs (h := ?_) | refine AWp.eqs (h := ?_) | refine OpTo.eqs (h := ?_) | skip)) | ((refine Run.noU rfl rfl rfl ?_); (first | refine Run.eqs (h := ?_) | refine DL.eqs (h := ?_) | refine AWp.eqs (h := ?_) | refine OpTo.eqs (h := ?_) | skip)) | ((refine Run.bothT rfl rfl rfl (fun hz => ?_) (fun hz => by exfalso; simp only [decide_eq_true_eq, decide_eq_false_iff_not, List.length_map, beq_iff_eq, bne_iff_ne, beq_eq_false_iff_ne, bne_eq_false_iff_eq, Bool.not_eq_true', Bool.not_eq_false', ne_eq, Decidable.not_not, Bool.and_eq_true, Bool.and_eq_false_iff, Bool.or_eq_true, Bool.or_eq_false_iff, gt_iff_lt, ge_iff_le, Int.not_lt, Int.not_le] at hz; omega)); (try dsimp only [iop] at hz); rw [hz]; (first | refine Run.eqs (h := ?_) | refine DL.eqs (h := ?_) | refine AWp.eqs (h := ?_) | refine OpTo.eqs (h := ?_) | skip)) | ((refine Run.bothT rfl rfl rfl (fun hz => by exfalso; simp only [decide_eq_true_eq, decide_eq_false_iff_not, List.length_map, beq_iff_eq, bne_iff_ne, beq_eq_false_iff_ne, bne_eq_false_iff_eq, Bool.not_eq_true', Bool.not_eq_false', ne_eq, Decidable.not_not, Bool.and_eq_true, Bool.and_eq_false_iff, Bool.or_eq_true, Bool.or_eq_false_iff, gt_iff_lt, ge_iff_le, Int.not_lt, Int.not_le] at hz; omega) (fun hz => ?_)); (try dsimp only [iop] at hz); rw [hz]; (first | refine Run.eqs (h := ?_) | refine DL.eqs (h := ?_) | refine AWp.eqs (h := ?_) | refine OpTo.eqs (h := ?_) | skip)) | ((refine Run.bothF rfl rfl rfl (fun hz => ?_) (fun hz => by exfalso; simp only [decide_eq_true_eq, decide_eq_false_iff_not, List.length_map, beq_iff_eq, bne_iff_ne, beq_eq_false_iff_ne, bne_eq_false_iff_eq, Bool.not_eq_true', Bool.not_eq_false', ne_eq, Decidable.not_not, Bool.and_eq_true, Bool.and_eq_false_iff, Bool.or_eq_true, Bool.or_eq_false_iff, gt_iff_lt, ge_iff_le, Int.not_lt, Int.not_le] at hz; omega)); (try dsimp only [iop] at hz); rw [hz]; (first | refine Run.eqs (h := ?_) | refine DL.eqs (h := ?_) | refine AWp.eqs (h := ?_) | refine OpTo.eqs (h := ?_) | skip)) | ((refine Run.bothF rfl rfl rfl (fun hz => by exfalso; simp only [decide_eq_true_eq, decide_eq_false_iff_not, List.length_map, beq_iff_eq, bne_iff_ne, beq_eq_false_iff_ne, bne_eq_false_iff_eq, Bool.not_eq_true', Bool.not_eq_false', ne_eq, Decidable.not_not, Bool.and_eq_true, Bool.and_eq_false_iff, Bool.or_eq_true, Bool.or_eq_false_iff, gt_iff_lt, ge_iff_le, Int.not_lt, Int.not_le] at hz; omega) (fun hz => ?_)); (try dsimp only [iop] at hz); rw [hz]; (first | refine Run.eqs (h := ?_) | refine DL.eqs (h := ?_) | refine AWp.eqs (h := ?_) | refine OpTo.eqs (h := ?_) | skip)))) | (guard_target =~ DL _ _ _ _ _ _ _; (first | (refine DL.done ?_) | ((refine noG ?_); (first | ((refine DL.take 0 rfl (by decide +kernel) rfl (Val.ev2 rfl) ?_); (first | refine Run.eqs (h := ?_) | refine DL.eqs (h := ?_) | refine AWp.eqs (h := ?_) | refine OpTo.eqs (h := ?_) | skip)) | ((refine isAddD ?_); (first | refine DL.take 0 rfl (by decide +kernel) rfl (Val.addI rfl rfl rfl rfl ⟨by omega, by omega⟩) ?_ | refine DL.take 0 rfl (by decide +kernel) rfl (Val.addU rfl rfl rfl rfl ⟨by omega, by omega⟩) ?_ | refine DL.take 0 rfl (by decide +kernel) rfl (Val.ev rfl) ?_); (first | refine Run.eqs (h := ?_) | refine DL.eqs (h := ?_) | refine AWp.eqs (h := ?_) | refine OpTo.eqs (h := ?_) | skip)) | ((refine isSubD ?_); (first | refine DL.take 0 rfl (by decide +kernel) rfl (Val.subI rfl rfl rfl rfl ⟨by omega, by omega⟩) ?_ | refine DL.take 0 rfl (by decide +kernel) rfl (Val.subU rfl rfl rfl rfl ⟨by omega, by omega⟩) ?_ | refine DL.take 0 rfl (by decide +kernel) rfl (Val.ev rfl) ?_); (first | refine Run.eqs (h := ?_) | refine DL.eqs (h := ?_) | refine AWp.eqs (h := ?_) | refine OpTo.eqs (h := ?_) | skip)) | ((refine isMulD ?_); (first | refine DL.take 0 rfl (by decide +kernel) rfl (Val.mulI rfl rfl rfl rfl ⟨by omega, by omega⟩) ?_ | refine DL.take 0 rfl (by decide +kernel) rfl (Val.mulU rfl rfl rfl rfl ⟨by omega, by omega⟩) ?_ | refine DL.take 0 rfl (by decide +kernel) rfl (Val.ev rfl) ?_); (first | refine Run.eqs (h := ?_) | refine DL.eqs (h := ?_) | refine AWp.eqs (h := ?_) | refine OpTo.eqs (h := ?_) | skip)) | ((refine isQuoD ?_); (first | refine DL.take 0 rfl (by decide +kernel) rfl (Val.quoI rfl rfl rfl rfl ⟨⟨by omega, by omega⟩, by omega⟩) ?_ | refine DL.take 0 rfl (by decide +kernel) rfl (Val.quoU rfl rfl rfl rfl ⟨⟨by omega, by omega⟩, by omega⟩) ?_ | refine DL.take 0 rfl (by decide +kernel) rfl (Val.ev rfl) ?_); (first | refine Run.eqs (h := ?_) | refine DL.eqs (h := ?_) | refine AWp.eqs (h := ?_) | refine OpTo.eqs (h := ?_) | skip)) | ((refine isRemD ?_); (first | refine DL.take 0 rfl (by decide +kernel) rfl (Val.remK rfl rfl rfl rfl ⟨by omega, by omega⟩) ?_ | refine DL.take 0 rfl (by decide +kernel) rfl (Val.ev rfl) ?_); (first | refine Run.eqs (h := ?_) | refine DL.eqs (h := ?_) | refine AWp.eqs (h := ?_) | refine OpTo.eqs (h := ?_) | skip)) | ((refine isBinD ?_); (first | refine DL.take 0 rfl (by decide +kernel) rfl (Val.strB rfl rfl rfl rfl rfl) ?_); (first | refine Run.eqs (h := ?_) | refine DL.eqs (h := ?_) | refine AWp.eqs (h := ?_) | refine OpTo.eqs (h := ?_) | skip)) | ((refine isConvD ?_); (first | refine DL.take 0 rfl (by decide +kernel) rfl (Val.convU rfl rfl rfl rfl ⟨by omega, by omega⟩) ?_ | refine DL.take 0 rfl (by decide +kernel) rfl (Val.convS rfl rfl rfl rfl ⟨by omega, by omega⟩) ?_ | refine DL.take 0 rfl (by decide +kernel) rfl (Val.convB rfl rfl rfl rfl ⟨by omega, by omega⟩) ?_ | refine DL.take 0 rfl (by decide +kernel) rfl (Val.ev rfl) ?_); (first | refine Run.eqs (h := ?_) | refine DL.eqs (h := ?_) | refine AWp.eqs (h := ?_) | refine OpTo.eqs (h := ?_) | skip)) | ((refine isIxAD ?_); (first | refine DL.take 0 rfl (by decide +kernel) rfl (Val.ixN rfl rfl rfl rfl rfl (by omega) (by intro _; rfl)) ?_ | refine DL.take 0 rfl (by decide +kernel) rfl (Val.ixON rfl rfl rfl rfl rfl (by omega)) ?_ | refine DL.take 0 rfl (by decide +kernel) rfl (Val.ixR rfl rfl rfl rfl rfl (by omega)) ?_ | refine DL.take 0 rfl (by decide +kernel) rfl (Val.ixL rfl rfl rfl rfl rfl (by decide)) ?_ | refine DL.take 0 rfl (by decide +kernel) rfl (Val.ixNL rfl rfl rfl rfl rfl (by decide) (by first | decide | omega) (by intro _; rfl)) ?_ | refine DL.take 0 rfl (by decide +kernel) rfl (Val.ixONL rfl rfl rfl rfl rfl (by decide) (by first | decide | omega)) ?_); (first | refine Run.eqs (h := ?_) | refine DL.eqs (h := ?_) | refine AWp.eqs (h := ?_) | refine OpTo.eqs (h := ?_) | skip)) | ((refine isIxD ?_); (first | refine DL.take 0 rfl (by decide +kernel) rfl (Val.idxN rfl rfl rfl rfl rfl (by omega)) ?_); (first | refine Run.eqs (h := ?_) | refine DL.eqs (h := ?_) | refine AWp.eqs (h := ?_) | refine OpTo.eqs (h := ?_) | skip)) | ((refine isLoadD ?_); (first | refine DL.take 0 rfl (by decide +kernel) rfl (Val.ldF rfl rfl rfl rfl) ?_ | refine DL.take 0 rfl (by decide +kernel) rfl (Val.lcF rfl rfl rfl rfl) ?_); (first | refine Run.eqs (h := ?_) | refine DL.eqs (h := ?_) | refine AWp.eqs (h := ?_) | refine OpTo.eqs (h := ?_) | skip)) | ((refine isMkFnD ?_); (first | refine DL.take 0 rfl (by decide +kernel) rfl (Val.fn rfl rfl) ?_); (first | refine Run.eqs (h := ?_) | refine DL.eqs (h := ?_) | refine AWp.eqs (h := ?_) | refine OpTo.eqs (h := ?_) | skip)) | ((refine isBuildD ?_); (first | refine DL.take 0 rfl (by decide +kernel) rfl (Val.buildP rfl rfl rfl rfl) ?_ | refine DL.take 0 rfl (by decide +kernel) rfl (Val.buildC rfl rfl rfl rfl) ?_); (first | refine Run.eqs (h := ?_) | refine DL.eqs (h := ?_) | refine AWp.eqs (h := ?_) | refine OpTo.eqs (h := ?_) | skip)))) | (first | ((refine DL.takeG 0 rfl (by decide +kernel) rfl rfl rfl (by first | with_reducible rfl | decide) (Val.ev2 rfl) ?_); (first | refine Run.eqs (h := ?_) | refine DL.eqs (h := ?_) | refine AWp.eqs (h := ?_) | refine OpTo.eqs (h := ?_) | skip)) | ((refine isAddD ?_); (first | refine DL.takeG 0 rfl (by decide +kernel) rfl rfl rfl (by first | with_reducible rfl | decide) (Val.addI rfl rfl rfl rfl ⟨by omega, by omega⟩) ?_ | refine DL.takeG 0 rfl (by decide +kernel) rfl rfl rfl (by first | with_reducible rfl | decide) (Val.addU rfl rfl rfl rfl ⟨by omega, by omega⟩) ?_ | refine DL.takeG 0 rfl (by decide +kernel) rfl rfl rfl (by first | with_reducible rfl | decide) (Val.ev rfl) ?_); (first | refine Run.eqs (h := ?_) | refine DL.eqs (h := ?_) | refine AWp.eqs (h := ?_) | refine OpTo.eqs (h := ?_) | skip)) | ((refine isSubD ?_); (first | refine DL.takeG 0 rfl (by decide +kernel) rfl rfl rfl (by first | with_reducible rfl | decide) (Val.subI rfl rfl rfl rfl ⟨by omega, by omega⟩) ?_ | refine DL.takeG 0 rfl (by decide +kernel) rfl rfl rfl (by first | with_reducible rfl | decide) (Val.subU rfl rfl rfl rfl ⟨by omega, by omega⟩) ?_ | refine DL.takeG 0 rfl (by decide +kernel) rfl rfl rfl (by first | with_reducible rfl | decide) (Val.ev rfl) ?_); (first | refine Run.eqs (h := ?_) | refine DL.eqs (h := ?_) | refine AWp.eqs (h := ?_) | refine OpTo.eqs (h := ?_) | skip)) | ((refine isMulD ?_); (first | refine DL.takeG 0 rfl (by decide +kernel) rfl rfl rfl (by first | with_reducible rfl | decide) (Val.mulI rfl rfl rfl rfl ⟨by omega, by omega⟩) ?_ | refine DL.takeG 0 rfl (by decide +kernel) rfl rfl rfl (by first | with_reducible rfl | decide) (Val.mulU rfl rfl rfl rfl ⟨by omega, by omega⟩) ?_ | refine DL.takeG 0 rfl (by decide +kernel) rfl rfl rfl (by first | with_reducible rfl | decide) (Val.ev rfl) ?_); (first | refine Run.eqs (h := ?_) | refine DL.eqs (h := ?_) | refine AWp.eqs (h := ?_) | refine OpTo.eqs (h := ?_) | skip)) | ((refine isQuoD ?_); (first | refine DL.takeG 0 rfl (by decide +kernel) rfl rfl rfl (by first | with_reducible rfl | decide) (Val.quoI rfl rfl rfl rfl ⟨⟨by omega, by omega⟩, by omega⟩) ?_ | refine DL.takeG 0 rfl (by decide +kernel) rfl rfl rfl (by first | with_reducible rfl | decide) (Val.quoU rfl rfl rfl rfl ⟨⟨by omega, by omega⟩, by omega⟩) ?_ | refine DL.takeG 0 rfl (by decide +kernel) rfl rfl rfl (by first | with_reducible rfl | decide) (Val.ev rfl) ?_); (first | refine Run.eqs (h := ?_) | refine DL.eqs (h := ?_) | refine AWp.eqs (h := ?_) | refine OpTo.eqs (h := ?_) | skip)) | ((refine isRemD ?_); (first | refine DL.takeG 0 rfl (by decide +kernel) rfl rfl rfl (by first | with_reducible rfl | decide) (Val.remK rfl rfl rfl rfl ⟨by omega, by omega⟩) ?_ | refine DL.takeG 0 rfl (by decide +kernel) rfl rfl rfl (by first | with_reducible rfl | decide) (Val.ev rfl) ?_); (first | refine Run.eqs (h := ?_) | refine DL.eqs (h := ?_) | refine AWp.eqs (h := ?_) | refine OpTo.eqs (h := ?_) | skip)) | ((refine isBinD ?_); (first | refine DL.takeG 0 rfl (by decide +kernel) rfl rfl rfl (by first | with_reducible rfl | decide) (Val.strB rfl rfl rfl rfl rfl) ?_); (first | refine Run.eqs (h := ?_) | refine DL.eqs (h := ?_) | refine AWp.eqs (h := ?_) | refine OpTo.eqs (h := ?_) | skip)) | ((refine isConvD ?_); (first | refine DL.takeG 0 rfl (by decide +kernel) rfl rfl rfl (by first | with_reducible rfl | decide) (Val.convU rfl rfl rfl rfl ⟨by omega, by omega⟩) ?_ | refine DL.takeG 0 rfl (by decide +kernel) rfl rfl rfl (by first | with_reducible rfl | decide) (Val.convS rfl rfl rfl rfl ⟨by omega, by omega⟩) ?_ | refine DL.takeG 0 rfl (by decide +kernel) rfl rfl rfl (by first | with_reducible rfl | decide) (Val.convB rfl rfl rfl rfl ⟨by omega, by omega⟩) ?_ | refine DL.takeG 0 rfl (by decide +kernel) rfl rfl rfl (by first | with_reducible rfl | decide) (Val.ev rfl) ?_); (first | refine Run.eqs (h := ?_) | refine DL.eqs (h := ?_) | refine AWp.eqs (h := ?_) | refine OpTo.eqs (h := ?_) | skip)) | ((refine isIxAD ?_); (first | refine DL.takeG 0 rfl (by decide +kernel) rfl rfl rfl (by first | with_reducible rfl | decide) (Val.ixN rfl rfl rfl rfl rfl (by omega) (by intro _; rfl)) ?_ | refine DL.takeG 0 rfl (by decide +kernel) rfl rfl rfl (by first | with_reducible rfl | decide) (Val.ixON rfl rfl rfl rfl rfl (by omega)) ?_ | refine DL.takeG 0 rfl (by decide +kernel) rfl rfl rfl (by first | with_reducible rfl | decide) (Val.ixR rfl rfl rfl rfl rfl (by omega)) ?_ | refine DL.takeG 0 rfl (by decide +kernel) rfl rfl rfl (by first | with_reducible rfl | decide) (Val.ixL rfl rfl rfl rfl rfl (by decide)) ?_ | refine DL.takeG 0 rfl (by decide +kernel) rfl rfl rfl (by first | with_reducible rfl | decide) (Val.ixNL rfl rfl rfl rfl rfl (by decide) (by first | decide | omega) (by intro _; rfl)) ?_ | refine DL.takeG 0 rfl (by decide +kernel) rfl rfl rfl (by first | with_reducible rfl | decide) (Val.ixONL rfl rfl rfl rfl rfl (by decide) (by first | decide | omega)) ?_); (first | refine Run.eqs (h := ?_) | refine DL.eqs (h := ?_) | refine AWp.eqs (h := ?_) | refine OpTo.eqs (h := ?_) | skip)) | ((refine isIxD ?_); (first | refine DL.takeG 0 rfl (by decide +kernel) rfl rfl rfl (by first | with_reducible rfl | decide) (Val.idxN rfl rfl rfl rfl rfl (by omega)) ?_); (first | refine Run.eqs (h := ?_) | refine DL.eqs (h := ?_) | refine AWp.eqs (h := ?_) | refine OpTo.eqs (h := ?_) | skip)) | ((refine isLoadD ?_); (first | refine DL.takeG 0 rfl (by decide +kernel) rfl rfl rfl (by first | with_reducible rfl | decide) (Val.ldF rfl rfl rfl rfl) ?_ | refine DL.takeG 0 rfl (by decide +kernel) rfl rfl rfl (by first | with_reducible rfl | decide) (Val.lcF rfl rfl rfl rfl) ?_); (first | refine Run.eqs (h := ?_) | refine DL.eqs (h := ?_) | refine AWp.eqs (h := ?_) | refine OpTo.eqs (h := ?_) | skip)) | ((refine isMkFnD ?_); (first | refine DL.takeG 0 rfl (by decide +kernel) rfl rfl rfl (by first | with_reducible rfl | decide) (Val.fn rfl rfl) ?_); (first | refine Run.eqs (h := ?_) | refine DL.eqs (h := ?_) | refine AWp.eqs (h := ?_) | refine OpTo.eqs (h := ?_) | skip)) | ((refine isBuildD ?_); (first | refine DL.takeG 0 rfl (by decide +kernel) rfl rfl rfl (by first | with_reducible rfl | decide) (Val.buildP rfl rfl rfl rfl) ?_ | refine DL.takeG 0 rfl (by decide +kernel) rfl rfl rfl (by first | with_reducible rfl | decide) (Val.buildC rfl rfl rfl rfl) ?_); (first | refine Run.eqs (h := ?_) | refine DL.eqs (h := ?_) | refine AWp.eqs (h := ?_) | refine OpTo.eqs (h := ?_) | skip))) | ((refine DL.takeN 0 rfl (by decide +kernel) rfl rfl rfl (by decide) ?_); (first | refine Run.eqs (h := ?_) | refine DL.eqs (h := ?_) | refine AWp.eqs (h := ?_) | refine OpTo.eqs (h := ?_) | skip)) | ((refine DL.takeU 0 rfl (by decide +kernel) rfl rfl rfl ?_); (first | refine Run.eqs (h := ?_) | refine DL.eqs (h := ?_) | refine AWp.eqs (h := ?_) | refine OpTo.eqs (h := ?_) | skip)) | (refine DL.one 0 rfl (by decide +kernel) rfl ?_) | (refine DL.oneG 0 rfl (by decide +kernel) rfl rfl rfl (by first | with_reducible rfl | decide) ?_) | ((refine DL.take 1 rfl (by decide +kernel) rfl (Val.ev2 rfl) ?_); (first | refine Run.eqs (h := ?_) | refine DL.eqs (h := ?_) | refine AWp.eqs (h := ?_) | refine OpTo.eqs (h := ?_) | skip)) | ((refine DL.takeG 1 rfl (by decide +kernel) rfl rfl rfl (by first | with_reducible rfl | decide) (Val.ev2 rfl) ?_); (first | refine Run.eqs (h := ?_) | refine DL.eqs (h := ?_) | refine AWp.eqs (h := ?_) | refine OpTo.eqs (h := ?_) | skip)) | ((refine DL.take 2 rfl (by decide +kernel) rfl (Val.ev2 rfl) ?_); (first | refine Run.eqs (h := ?_) | refine DL.eqs (h := ?_) | refine AWp.eqs (h := ?_) | refine OpTo.eqs (h := ?_) | skip)) | ((refine DL.takeG 2 rfl (by decide +kernel) rfl rfl rfl (by first | with_reducible rfl | decide) (Val.ev2 rfl) ?_); (first | refine Run.eqs (h := ?_) | refine DL.eqs (h := ?_) | refine AWp.eqs (h := ?_) | refine OpTo.eqs (h := ?_) | skip)) | ((refine DL.take 3 rfl (by decide +kernel) rfl (Val.ev2 rfl) ?_); (first | refine Run.eqs (h := ?_) | refine DL.eqs (h := ?_) | refine AWp.eqs (h := ?_) | refine OpTo.eqs (h := ?_) | skip)) | ((refine DL.takeG 3 rfl (by decide +kernel) rfl rfl rfl (by first | with_reducible rfl | decide) (Val.ev2 rfl) ?_); (first | refine Run.eqs (h := ?_) | refine DL.eqs (h := ?_) | refine AWp.eqs (h := ?_) | refine OpTo.eqs (h := ?_) | skip)) | ((refine DL.take 1 rfl (by decide +kernel) rfl (Val.ixN rfl rfl rfl rfl rfl (by omega) (by intro _; rfl)) ?_); (first | refine Run.eqs (h := ?_) | refine DL.eqs (h := ?_) | refine AWp.eqs (h := ?_) | refine OpTo.eqs (h := ?_) | skip)) | ((refine DL.take 1 rfl (by decide +kernel) rfl (Val.ldF rfl rfl rfl rfl) ?_); (first | refine Run.eqs (h := ?_) | refine DL.eqs (h := ?_) | refine AWp.eqs (h := ?_) | refine OpTo.eqs (h := ?_) | skip)) | ((refine DL.take 2 rfl (by decide +kernel) rfl (Val.ixN rfl rfl rfl rfl rfl (by omega) (by intro _; rfl)) ?_); (first | refine Run.eqs (h := ?_) | refine DL.eqs (h := ?_) | refine AWp.eqs (h := ?_) | refine OpTo.eqs (h := ?_) | skip)) | ((refine DL.take 2 rfl (by decide +kernel) rfl (Val.ldF rfl rfl rfl rfl) ?_); (first | refine Run.eqs (h := ?_) | refine DL.eqs (h := ?_) | refine AWp.eqs (h := ?_) | refine OpTo.eqs (h := ?_) | skip)) | ((refine DL.take 3 rfl (by decide +kernel) rfl (Val.ixN rfl rfl rfl rfl rfl (by omega) (by intro _; rfl)) ?_); (first | refine Run.eqs (h := ?_) | refine DL.eqs (h := ?_) | refine AWp.eqs (h := ?_) | refine OpTo.eqs (h := ?_) | skip)) | ((refine DL.take 3 rfl (by decide +kernel) rfl (Val.ldF rfl rfl rfl rfl) ?_); (first | refine Run.eqs (h := ?_) | refine DL.eqs (h := ?_) | refine AWp.eqs (h := ?_) | refine OpTo.eqs (h := ?_) | skip)))) | (guard_target =~ AWp _ _ _ _ _; (first | (refine AWp.seq ?_) | (refine AWp.block ?_) | (refine AWp.ret ?_) | (refine AWp.skip ?_) | (refine AWp.exit ?_) | (refine AWp.label ?_) | (refine AWp.scope ?_) | (refine AWp.cond1 rfl rfl (by first | with_reducible rfl | decide | exact decide_eq_true (by omega) | exact decide_eq_false (by omega)) ?_) | (refine AWp.cond0 rfl rfl (by first | with_reducible rfl | decide | exact decide_eq_true (by omega) | exact decide_eq_false (by omega)) ?_) | (refine AWp.regionN (h := ?_)) | (refine AWp.dlaN (h := ?_)))) | (first | (refine thn_n ?_) | (refine thn_e ?_) | (refine thn_r ?_) | (refine inb_n ?_) | (refine inb_hit ?_) | (refine inb_r ?_) | (refine inb_miss rfl ?_) | (refine nog_n ?_) | (refine nog_r ?_) | (refine nog_e ?_) | (refine UN_succ ?_))); exact hq.out) (k : q) : p := h ⟨k⟩
/-- The state told plainly. -/
theorem nrm {p q : Prop} (h : Wr q → p := by intro hq; (first | refine Run.eqs (h := ?_) | refine DL.eqs (h := ?_) | refine AWp.eqs (h := ?_) | refine OpTo.eqs (h := ?_) | skip); exact hq.out) (k : q) : p := h ⟨k⟩
theorem AWp.eqL (hs : st = st' := by (first | (dsimp only [sets, killRs, killR, List.length_cons, Nat.reduceSub, List.replicate_succ, List.replicate_zero, St.put, St.op, St.kill, okill, List.set_cons_zero, List.set_cons_succ, List.set_nil, gt, List.map, AV.ofV, AV.kill, TV.av, TV.kill, iop, upd, List.cons_append, List.nil_append, addOff, List.eraseIdx, Nat.reduceBEq, cond_true, cond_false, Nat.reduceAdd, Nat.reduceMul, Int.reduceToNat, CV.kill, CV.ref, Value.cells, if_true, if_false, AV.frz, TV.frz, CV.frz, ofrz, Ob.frz, Ob.kill, frz_fus, frz_fis, kill_fus, kill_fis, List.length_nil, Bool.true_and, Bool.false_and, List.getElem_toArray, List.getElem_cons_succ, List.getElem_cons_zero, Nat.zero_add, List.drop_zero, List.any_cons, List.any_nil, Cap.ref, Bool.false_or, splice, List.take, List.drop, List.length] <;> exact rfl) | exact rfl)) (h : AWp P cx c st' Q) : AWp P cx c st Q := hs ▸ h
theorem nrmL {p q : Prop} (h : Wr q → p := by intro hq; (first | refine AWp.eqL (h := ?_) | skip); exact hq.out) (k : q) : p := h ⟨k⟩
/-! ### Both ways -/
theorem condN {c : Operand} {x y : Code} {b : Bool} {p q : Prop} (hc : st.op cx c = .c (.p (.s (.bool b))) := by rfl) (ho : okOp c = true := by rfl) (hp : b = true → p := by (first | (intro hz; (try dsimp only [iop] at hz); simp only [decide_eq_true_eq, decide_eq_false_iff_not, List.length_map, beq_iff_eq, bne_iff_ne, beq_eq_false_iff_ne, bne_eq_false_iff_eq, Bool.not_eq_true', Bool.not_eq_false', ne_eq, Decidable.not_not, Bool.and_eq_true, Bool.and_eq_false_iff, Bool.or_eq_true, Bool.or_eq_false_iff, gt_iff_lt, ge_iff_le, Int.not_lt, Int.not_le] at hz; exact hz) | (intro hz; exact hz))) (hq : b = false → q := by (first | (intro hz; (try dsimp only [iop] at hz); simp only [decide_eq_true_eq, decide_eq_false_iff_not, List.length_map, beq_iff_eq, bne_iff_ne, beq_eq_false_iff_ne, bne_eq_false_iff_eq, Bool.not_eq_true', Bool.not_eq_false', ne_eq, Decidable.not_not, Bool.and_eq_true, Bool.and_eq_false_iff, Bool.or_eq_true, Bool.or_eq_false_iff, gt_iff_lt, ge_iff_le, Int.not_lt, Int.not_le] at hz; exact hz) | (intro hz; exact hz)))
    (h1 : p → AWp P cx x st Q) (h0 : q → AWp P cx y st Q) : AWp P cx (.cond c x y) st Q := AWp.condB hc ho (fun h => h1 (hp h)) (fun h => h0 (hq h))
theorem bothTN {j d : Nat} {b' : Bool} {p q : Prop} (hg : o.guard = some (j, true) := by rfl) (hd : ds[j]? = some (some d) := by rfl) (hb : st.tmps[d]? = some (.c (.p (.s (.bool b')))) := by rfl) (hp : b' = true → p := by (first | (intro hz; (try dsimp only [iop] at hz); simp only [decide_eq_true_eq, decide_eq_false_iff_not, List.length_map, beq_iff_eq, bne_iff_ne, beq_eq_false_iff_ne, bne_eq_false_iff_eq, Bool.not_eq_true', Bool.not_eq_false', ne_eq, Decidable.not_not, Bool.and_eq_true, Bool.and_eq_false_iff, Bool.or_eq_true, Bool.or_eq_false_iff, gt_iff_lt, ge_iff_le, Int.not_lt, Int.not_le] at hz; exact hz) | (intro hz; exact hz))) (hq : b' = false → q := by (first | (intro hz; (try dsimp only [iop] at hz); simp only [decide_eq_true_eq, decide_eq_false_iff_not, List.length_map, beq_iff_eq, bne_iff_ne, beq_eq_false_iff_ne, bne_eq_false_iff_eq, Bool.not_eq_true', Bool.not_eq_false', ne_eq, Decidable.not_not, Bool.and_eq_true, Bool.and_eq_false_iff, Bool.or_eq_true, Bool.or_eq_false_iff, gt_iff_lt, ge_iff_le, Int.not_lt, Int.not_le] at hz; exact hz) | (intro hz; exact hz)))
    (e1 : b' = true → st = st1 := by (intro hz; first | (rewrite [hz]; exact rfl) | exact rfl)) (e2 : b' = false → st = st2 := by (intro hz; first | (rewrite [hz]; exact rfl) | exact rfl)) (h1 : p → OpTo P cx false o st1 (fun s => Run P cx ds r s K)) (h0 : q → Run P cx ds r (st2.put o.dst (.tup [])) K) : Run P cx ds (o :: r) st K :=
  Run.bothT hg hd hb (fun h => by rw [e1 h]; exact h1 (hp h)) (fun h => by rw [e2 h]; exact h0 (hq h))
theorem bothFN {j d : Nat} {b' : Bool} {p q : Prop} (hg : o.guard = some (j, false) := by rfl) (hd : ds[j]? = some (some d) := by rfl) (hb : st.tmps[d]? = some (.c (.p (.s (.bool b')))) := by rfl) (hp : b' = false → p := by (first | (intro hz; (try dsimp only [iop] at hz); simp only [decide_eq_true_eq, decide_eq_false_iff_not, List.length_map, beq_iff_eq, bne_iff_ne, beq_eq_false_iff_ne, bne_eq_false_iff_eq, Bool.not_eq_true', Bool.not_eq_false', ne_eq, Decidable.not_not, Bool.and_eq_true, Bool.and_eq_false_iff, Bool.or_eq_true, Bool.or_eq_false_iff, gt_iff_lt, ge_iff_le, Int.not_lt, Int.not_le] at hz; exact hz) | (intro hz; exact hz))) (hq : b' = true → q := by (first | (intro hz; (try dsimp only [iop] at hz); simp only [decide_eq_true_eq, decide_eq_false_iff_not, List.length_map, beq_iff_eq, bne_iff_ne, beq_eq_false_iff_ne, bne_eq_false_iff_eq, Bool.not_eq_true', Bool.not_eq_false', ne_eq, Decidable.not_not, Bool.and_eq_true, Bool.and_eq_false_iff, Bool.or_eq_true, Bool.or_eq_false_iff, gt_iff_lt, ge_iff_le, Int.not_lt, Int.not_le] at hz; exact hz) | (intro hz; exact hz)))
    (e1 : b' = false → st = st1 := by (intro hz; first | (rewrite [hz]; exact rfl) | exact rfl)) (e2 : b' = true → st = st2 := by (intro hz; first | (rewrite [hz]; exact rfl) | exact rfl)) (h1 : p → OpTo P cx false o st1 (fun s => Run P cx ds r s K)) (h0 : q → Run P cx ds r (st2.put o.dst (.tup [])) K) : Run P cx ds (o :: r) st K :=
  Run.bothF hg hd hb (fun h => by rw [e1 h]; exact h1 (hp h)) (fun h => by rw [e2 h]; exact h0 (hq h))
/-! ### One operation -/
theorem ofN {pu : Bool} {x : AV} (hv : Val P cx pu o st x) (hs : st.put o.dst x = st' := by (first | (dsimp only [St.put, St.op, St.kill, okill, List.set_cons_zero, List.set_cons_succ, List.set_nil, gt, List.map, AV.ofV, AV.kill, TV.av, TV.kill, iop, upd, List.cons_append, List.nil_append, addOff, List.eraseIdx, Nat.reduceBEq, cond_true, cond_false, Nat.reduceAdd, Nat.reduceMul, Int.reduceToNat, CV.kill, CV.ref, Value.cells, if_true, if_false, AV.frz, TV.frz, CV.frz, ofrz, Ob.frz, Ob.kill, frz_fus, frz_fis, kill_fus, kill_fis, List.length_nil, Bool.true_and, Bool.false_and, List.getElem_toArray, List.getElem_cons_succ, List.getElem_cons_zero, Nat.zero_add, List.drop_zero, List.any_cons, List.any_nil, Cap.ref, Bool.false_or, splice, List.take, List.drop, List.length] <;> exact rfl) | exact rfl)) (h : K st') : OpTo P cx kp o st K := OpTo.of hv (hs ▸ h)
theorem dlN {pu : Bool} {x : AV} {i : Nat} {r : List (Nat × Oper)} (hv : Val P cx pu o st x) (hc : (nd ((i, o) :: r) && readyR ds ((i, o) :: r) o && freeR ds wr pu ((i, o) :: r) i o) = true := by decide +kernel) (hg : o.guard = none := by rfl) (hs : st.put o.dst x = st' := by (first | (dsimp only [St.put, St.op, St.kill, okill, List.set_cons_zero, List.set_cons_succ, List.set_nil, gt, List.map, AV.ofV, AV.kill, TV.av, TV.kill, iop, upd, List.cons_append, List.nil_append, addOff, List.eraseIdx, Nat.reduceBEq, cond_true, cond_false, Nat.reduceAdd, Nat.reduceMul, Int.reduceToNat, CV.kill, CV.ref, Value.cells, if_true, if_false, AV.frz, TV.frz, CV.frz, ofrz, Ob.frz, Ob.kill, frz_fus, frz_fis, kill_fus, kill_fis, List.length_nil, Bool.true_and, Bool.false_and, List.getElem_toArray, List.getElem_cons_succ, List.getElem_cons_zero, Nat.zero_add, List.drop_zero, List.any_cons, List.any_nil, Cap.ref, Bool.false_or, splice, List.take, List.drop, List.length] <;> exact rfl) | exact rfl)) (h : DL P cx ds wr r st' K) : DL P cx ds wr ((i, o) :: r) st K :=
  DL.take 0 rfl hc hg hv (hs ▸ h)
theorem dlgN {pu : Bool} {x : AV} {i j d : Nat} {b b' : Bool} {r : List (Nat × Oper)} (hv : Val P cx pu o st x) (hc : (nd ((i, o) :: r) && readyR ds ((i, o) :: r) o && freeR ds wr pu ((i, o) :: r) i o) = true := by decide +kernel) (hg : o.guard = some (j, b) := by rfl) (hd : ds[j]? = some (some d) := by rfl) (hb : st.tmps[d]? = some (.c (.p (.s (.bool b')))) := by rfl) (he : b' = b := by first | with_reducible rfl | decide)
    (hs : st.put o.dst x = st' := by (first | (dsimp only [St.put, St.op, St.kill, okill, List.set_cons_zero, List.set_cons_succ, List.set_nil, gt, List.map, AV.ofV, AV.kill, TV.av, TV.kill, iop, upd, List.cons_append, List.nil_append, addOff, List.eraseIdx, Nat.reduceBEq, cond_true, cond_false, Nat.reduceAdd, Nat.reduceMul, Int.reduceToNat, CV.kill, CV.ref, Value.cells, if_true, if_false, AV.frz, TV.frz, CV.frz, ofrz, Ob.frz, Ob.kill, frz_fus, frz_fis, kill_fus, kill_fis, List.length_nil, Bool.true_and, Bool.false_and, List.getElem_toArray, List.getElem_cons_succ, List.getElem_cons_zero, Nat.zero_add, List.drop_zero, List.any_cons, List.any_nil, Cap.ref, Bool.false_or, splice, List.take, List.drop, List.length] <;> exact rfl) | exact rfl)) (h : DL P cx ds wr r st' K) : DL P cx ds wr ((i, o) :: r) st K :=
  DL.takeG 0 rfl hc hg hd hb he hv (hs ▸ h)
/-! ### Calls -/
theorem callN {f : Nat} {xs : List Operand} {args : List AV} {ats : Array TypeId} {v : AV} (hf : isFn P f = true := by rfl) (ho : okOps xs = true := by rfl) (ha : xs.map (fun x => Vl.frz st (st.op cx x)) = args := by rfl) (hk : args.all AV.keyless = true := by rfl)
    (hc : AC P cx.G f args [] (fun r _ => r = v)) (hi : avOk false v = true := by rfl) (hs : st.put dst v = st' := by (first | (dsimp only [St.put, St.op, St.kill, okill, List.set_cons_zero, List.set_cons_succ, List.set_nil, gt, List.map, AV.ofV, AV.kill, TV.av, TV.kill, iop, upd, List.cons_append, List.nil_append, addOff, List.eraseIdx, Nat.reduceBEq, cond_true, cond_false, Nat.reduceAdd, Nat.reduceMul, Int.reduceToNat, CV.kill, CV.ref, Value.cells, if_true, if_false, AV.frz, TV.frz, CV.frz, ofrz, Ob.frz, Ob.kill, frz_fus, frz_fis, kill_fus, kill_fis, List.length_nil, Bool.true_and, Bool.false_and, List.getElem_toArray, List.getElem_cons_succ, List.getElem_cons_zero, Nat.zero_add, List.drop_zero, List.any_cons, List.any_nil, Cap.ref, Bool.false_or, splice, List.take, List.drop, List.length] <;> exact rfl) | exact rfl)) (h : K st') :
    OpTo P cx kp ⟨dst, .call { callee := .value (.func f), args := xs.toArray, argTypes := ats }, ty, pos, af, gd⟩ st K :=
  OpTo.callO hf ho ha hk hc (fun r os' e => ⟨_, .val (by rw [e]; exact hi), by rw [e, hs]; exact h⟩)
theorem callVN {f : Nat} {g : Operand} {xs : List Operand} {args : List AV} {ats : Array TypeId} {v : AV} (hg : st.op cx g = .c (.fn f []) := by rfl) (hgo : okOp g = true := by rfl) (hf : isFn P f = true := by rfl) (ho : okOps xs = true := by rfl) (ha : xs.map (fun x => Vl.frz st (st.op cx x)) = args := by rfl) (hk : args.all AV.keyless = true := by rfl)
    (hc : AC P cx.G f args [] (fun r _ => r = v)) (hi : avOk false v = true := by rfl) (hs : st.put dst v = st' := by (first | (dsimp only [St.put, St.op, St.kill, okill, List.set_cons_zero, List.set_cons_succ, List.set_nil, gt, List.map, AV.ofV, AV.kill, TV.av, TV.kill, iop, upd, List.cons_append, List.nil_append, addOff, List.eraseIdx, Nat.reduceBEq, cond_true, cond_false, Nat.reduceAdd, Nat.reduceMul, Int.reduceToNat, CV.kill, CV.ref, Value.cells, if_true, if_false, AV.frz, TV.frz, CV.frz, ofrz, Ob.frz, Ob.kill, frz_fus, frz_fis, kill_fus, kill_fis, List.length_nil, Bool.true_and, Bool.false_and, List.getElem_toArray, List.getElem_cons_succ, List.getElem_cons_zero, Nat.zero_add, List.drop_zero, List.any_cons, List.any_nil, Cap.ref, Bool.false_or, splice, List.take, List.drop, List.length] <;> exact rfl) | exact rfl)) (h : K st') :
    OpTo P cx kp ⟨dst, .call { callee := .value g, args := xs.toArray, argTypes := ats }, ty, pos, af, gd⟩ st K :=
  OpTo.callV hc hg hgo hf ho ha hk (fun r os' e => ⟨_, .val (by rw [e]; exact hi), by rw [e, hs]; exact h⟩)
/-- Called, and a row handed back. -/
theorem callRowN {f d k' sz n : Nat} {xs : List Operand} {args : List AV} {ats : Array TypeId} {xs' : List (List PV)} (hf : isFn P f = true := by rfl) (ho : okOps xs = true := by rfl) (ha : xs.map (fun x => Vl.frz st (st.op cx x)) = args := by rfl) (hk : args.all AV.keyless = true := by rfl)
    (hc : AC P cx.G f args [] (fun r os => r = .c (.own k' sz n) ∧ find os k' = some (.row T' sz xs'))) (hso : ∀ cs ∈ xs', ∀ x ∈ cs, pvOk false x = true) (hlow : d < 1000000 := by decide) (hn : st.noref d = true := by rfl)
    (hs : St.put ⟨st.tmps, upd st.objs d (.row T' sz xs')⟩ (some d) (.c (.own d sz n)) = st' := by (first | (dsimp only [St.put, St.op, St.kill, okill, List.set_cons_zero, List.set_cons_succ, List.set_nil, gt, List.map, AV.ofV, AV.kill, TV.av, TV.kill, iop, upd, List.cons_append, List.nil_append, addOff, List.eraseIdx, Nat.reduceBEq, cond_true, cond_false, Nat.reduceAdd, Nat.reduceMul, Int.reduceToNat, CV.kill, CV.ref, Value.cells, if_true, if_false, AV.frz, TV.frz, CV.frz, ofrz, Ob.frz, Ob.kill, frz_fus, frz_fis, kill_fus, kill_fis, List.length_nil, Bool.true_and, Bool.false_and, List.getElem_toArray, List.getElem_cons_succ, List.getElem_cons_zero, Nat.zero_add, List.drop_zero, List.any_cons, List.any_nil, Cap.ref, Bool.false_or, splice, List.take, List.drop, List.length] <;> exact rfl) | exact rfl)) (h : K st') :
    OpTo P cx kp ⟨some d, .call { callee := .value (.func f), args := xs.toArray, argTypes := ats }, ty, pos, af, gd⟩ st K :=
  OpTo.callO hf ho ha hk hc (fun r os' e => ⟨_, e.1.symm ▸ Imp.row rfl e.2 hso hlow hn, hs.symm ▸ h⟩)
/-! ### Rows -/
theorem litA {α : Type} (f : α → List PV) (l : List α) {d len : Nat} {z : Value} {sz by_ : Nat} {parts : List (Nat × Operand)} {cs : List PV} (hT : litI P T = some (E, z, sz, by_) := by rfl) (hzs : z.cells.size = sz := by rfl) (hs0 : 0 < sz := by decide) (hok : okV z = true := by first | rfl | decide +kernel) (hnt : z.oneCell' = true ∨ ∃ cs, z = .agg cs := by first | exact .inl rfl | exact .inr ⟨_, rfl⟩) (hb : len * sz ≤ 16777216 := by decide)
    (ho : parts.all (fun p => okOp p.2) = true := by rfl) (hf : fillA (fun i => some (i * sz, sz)) (zeros sz z len) (parts.map fun p => (p.1, pvs (st.op cx p.2))) = some cs := by rfl) (hlow : d < 1000000 := by decide) (hd : st.noref d = true := by rfl) (hr : chunks sz len cs = l.map f := by rfl) (hl : len = l.length := by rfl)
    (hs : St.put ⟨st.tmps, upd st.objs d (.row E sz (l.map f))⟩ (some d) (.c (.own d sz l.length)) = st' := by (first | (dsimp only [St.put, St.op, St.kill, okill, List.set_cons_zero, List.set_cons_succ, List.set_nil, gt, List.map, AV.ofV, AV.kill, TV.av, TV.kill, iop, upd, List.cons_append, List.nil_append, addOff, List.eraseIdx, Nat.reduceBEq, cond_true, cond_false, Nat.reduceAdd, Nat.reduceMul, Int.reduceToNat, CV.kill, CV.ref, Value.cells, if_true, if_false, AV.frz, TV.frz, CV.frz, ofrz, Ob.frz, Ob.kill, frz_fus, frz_fis, kill_fus, kill_fis, List.length_nil, Bool.true_and, Bool.false_and, List.getElem_toArray, List.getElem_cons_succ, List.getElem_cons_zero, Nat.zero_add, List.drop_zero, List.any_cons, List.any_nil, Cap.ref, Bool.false_or, splice, List.take, List.drop, List.length] <;> exact rfl) | exact rfl)) (h : K st') : OpTo P cx kp ⟨some d, .buildSlice T len parts.toArray, ty, pos, af, gd⟩ st K :=
  OpTo.litN f l hT hzs hs0 hok hnt hb ho hf hlow hd hr hl (hs ▸ h)
theorem appA (k by_ : Nat) {α : Type} (f : α → List PV) (l m : List α) {t : TypeId} {s : Operand} {z : Value} {sz : Nat} (hT : litI P t = some (E, z, sz, by_) := by rfl) (hzs : z.cells.size = sz := by rfl) (hs0 : 0 < sz := by decide)
    (h1 : okOp s = true := by rfl) (h2 : okOp x = true := by rfl) (hlow : k < 1000000 := by decide) (hS : st.op cx s = .c (.own k sz l.length) := by rfl) (hf : find st.objs k = some (.row E sz (l.map f)) := by rfl)
    (hx : elems st (st.op cx x) = some (m.map f) := by rfl) (hfl : ∀ a, (f a).length = sz := by intro _; rfl) (hb : (l.length + m.length) * by_ ≤ 140737488355328 := by simp <;> omega) (hm : l.length + m.length ≤ 9223372036854775807 := by simp <;> omega)
    (hs : St.put ⟨(st.kill k).tmps, upd (st.kill k).objs k (.row E sz ((l ++ m).map f))⟩ dst (.c (.own k sz (l ++ m).length)) = st' := by (first | (dsimp only [St.put, St.op, St.kill, okill, List.set_cons_zero, List.set_cons_succ, List.set_nil, gt, List.map, AV.ofV, AV.kill, TV.av, TV.kill, iop, upd, List.cons_append, List.nil_append, addOff, List.eraseIdx, Nat.reduceBEq, cond_true, cond_false, Nat.reduceAdd, Nat.reduceMul, Int.reduceToNat, CV.kill, CV.ref, Value.cells, if_true, if_false, AV.frz, TV.frz, CV.frz, ofrz, Ob.frz, Ob.kill, frz_fus, frz_fis, kill_fus, kill_fis, List.length_nil, Bool.true_and, Bool.false_and, List.getElem_toArray, List.getElem_cons_succ, List.getElem_cons_zero, Nat.zero_add, List.drop_zero, List.any_cons, List.any_nil, Cap.ref, Bool.false_or, splice, List.take, List.drop, List.length] <;> exact rfl) | exact rfl)) (h : K st') :
    OpTo P cx false ⟨dst, .call { callee := .builtin .append, args := #[s, x], argTypes := #[t, t] }, ty, pos, af, gd⟩ st K :=
  OpTo.appM f l m hT hzs hs0 h1 h2 hlow hS hf hx hfl hb hm (hs ▸ h)
theorem stA {sz j c : Nat} {α : Type} {f : α → List PV} {l : List α} {ys : List PV} (b : α) (hj : j < l.length) (hx : st.op cx x = .c (.rptr k sz j c) := by rfl) (h1 : okOp x = true := by rfl) (hf : find st.objs k = some (.row T' sz (l.map f)) := by rfl) (hy : pvs (st.op cx y) = some ys := by rfl) (h2 : okOp y = true := by rfl)
    (hT : (P.info? T).map (·.size) = some ys.length := by kernel_rfl) (hl : c + ys.length ≤ sz := by exact Nat.le_of_ble_eq_true rfl) (hb : splice (f l[j]) c ys = f b := by rfl) (hs : (⟨st.tmps, upd st.objs k (.row T' sz ((l.set j b).map f))⟩ : St) = st' := by (first | (dsimp only [St.put, St.op, St.kill, okill, List.set_cons_zero, List.set_cons_succ, List.set_nil, gt, List.map, AV.ofV, AV.kill, TV.av, TV.kill, iop, upd, List.cons_append, List.nil_append, addOff, List.eraseIdx, Nat.reduceBEq, cond_true, cond_false, Nat.reduceAdd, Nat.reduceMul, Int.reduceToNat, CV.kill, CV.ref, Value.cells, if_true, if_false, AV.frz, TV.frz, CV.frz, ofrz, Ob.frz, Ob.kill, frz_fus, frz_fis, kill_fus, kill_fis, List.length_nil, Bool.true_and, Bool.false_and, List.getElem_toArray, List.getElem_cons_succ, List.getElem_cons_zero, Nat.zero_add, List.drop_zero, List.any_cons, List.any_nil, Cap.ref, Bool.false_or, splice, List.take, List.drop, List.length] <;> exact rfl) | exact rfl)) (h : K st') :
    OpTo P cx false ⟨none, .store T x y, ty, pos, af, gd⟩ st K := OpTo.stRN b hx h1 hf hj hy h2 hT hl hb (hs ▸ h)
theorem seedA (t d sz : Nat) (T : TypeId) (ht : st.tmps[t]? = some (.c (.p (.s (.slice none 0 0)))) := by rfl) (hlow : d < 1000000 := by decide) (hn : st.noref d = true := by rfl) (hs : (⟨st.tmps.set t (.c (.own d sz 0)), upd st.objs d (.row T sz [])⟩ : St) = st' := by (first | (dsimp only [St.put, St.op, St.kill, okill, List.set_cons_zero, List.set_cons_succ, List.set_nil, gt, List.map, AV.ofV, AV.kill, TV.av, TV.kill, iop, upd, List.cons_append, List.nil_append, addOff, List.eraseIdx, Nat.reduceBEq, cond_true, cond_false, Nat.reduceAdd, Nat.reduceMul, Int.reduceToNat, CV.kill, CV.ref, Value.cells, if_true, if_false, AV.frz, TV.frz, CV.frz, ofrz, Ob.frz, Ob.kill, frz_fus, frz_fis, kill_fus, kill_fis, List.length_nil, Bool.true_and, Bool.false_and, List.getElem_toArray, List.getElem_cons_succ, List.getElem_cons_zero, Nat.zero_add, List.drop_zero, List.any_cons, List.any_nil, Cap.ref, Bool.false_or, splice, List.take, List.drop, List.length] <;> exact rfl) | exact rfl)) (h : AWp P cx c st' Q) : AWp P cx c st Q :=
  AWp.seed t d sz T ht hlow hn (hs ▸ h)
/-! ### Rows that are only read from now on -/
theorem zA (k : Nat) {sz : Nat} {xs : List (List PV)} (hk : k < 1000000 := by decide) (hf : find st.objs k = some (.row T sz xs) := by rfl) (hs : (⟨st.tmps.map (AV.frz k sz xs), ofrz k sz xs st.objs⟩ : St) = st' := by (first | ((conv => lhs; (try dsimp only [St.put, St.op, St.kill, okill, List.set_cons_zero, List.set_cons_succ, List.set_nil, gt, List.map, AV.ofV, AV.kill, TV.av, TV.kill, iop, upd, List.cons_append, List.nil_append, addOff, List.eraseIdx, Nat.reduceBEq, cond_true, cond_false, Nat.reduceAdd, Nat.reduceMul, Int.reduceToNat, CV.kill, CV.ref, Value.cells, if_true, if_false, AV.frz, TV.frz, CV.frz, ofrz, Ob.frz, Ob.kill, frz_fus, frz_fis, kill_fus, kill_fis, List.length_nil, Bool.true_and, Bool.false_and, List.getElem_toArray, List.getElem_cons_succ, List.getElem_cons_zero, Nat.zero_add, List.drop_zero, List.any_cons, List.any_nil, Cap.ref, Bool.false_or]); (try simp only [List.length_map, List.length_append, List.length_take, List.length_cons, List.length_nil, Nat.zero_add, Nat.add_comm 1, beq_self_eq_true, Bool.true_and, Bool.and_self, cond_true]); (try dsimp only [St.put, St.op, St.kill, okill, List.set_cons_zero, List.set_cons_succ, List.set_nil, gt, List.map, AV.ofV, AV.kill, TV.av, TV.kill, iop, upd, List.cons_append, List.nil_append, addOff, List.eraseIdx, Nat.reduceBEq, cond_true, cond_false, Nat.reduceAdd, Nat.reduceMul, Int.reduceToNat, CV.kill, CV.ref, Value.cells, if_true, if_false, AV.frz, TV.frz, CV.frz, ofrz, Ob.frz, Ob.kill, frz_fus, frz_fis, kill_fus, kill_fis, List.length_nil, Bool.true_and, Bool.false_and, List.getElem_toArray, List.getElem_cons_succ, List.getElem_cons_zero, Nat.zero_add, List.drop_zero, List.any_cons, List.any_nil, Cap.ref, Bool.false_or])) <;> exact rfl) | exact rfl)) (h : AWp P cx c st' Q) : AWp P cx c st Q := AWp.weak (Le.freeze hk hf) (hs ▸ h)
theorem zO (k : Nat) {sz : Nat} {xs : List (List PV)} (hk : k < 1000000 := by decide) (hf : find st.objs k = some (.row T sz xs) := by rfl) (hs : (⟨st.tmps.map (AV.frz k sz xs), ofrz k sz xs st.objs⟩ : St) = st' := by (first | ((conv => lhs; (try dsimp only [St.put, St.op, St.kill, okill, List.set_cons_zero, List.set_cons_succ, List.set_nil, gt, List.map, AV.ofV, AV.kill, TV.av, TV.kill, iop, upd, List.cons_append, List.nil_append, addOff, List.eraseIdx, Nat.reduceBEq, cond_true, cond_false, Nat.reduceAdd, Nat.reduceMul, Int.reduceToNat, CV.kill, CV.ref, Value.cells, if_true, if_false, AV.frz, TV.frz, CV.frz, ofrz, Ob.frz, Ob.kill, frz_fus, frz_fis, kill_fus, kill_fis, List.length_nil, Bool.true_and, Bool.false_and, List.getElem_toArray, List.getElem_cons_succ, List.getElem_cons_zero, Nat.zero_add, List.drop_zero, List.any_cons, List.any_nil, Cap.ref, Bool.false_or]); (try simp only [List.length_map, List.length_append, List.length_take, List.length_cons, List.length_nil, Nat.zero_add, Nat.add_comm 1, beq_self_eq_true, Bool.true_and, Bool.and_self, cond_true]); (try dsimp only [St.put, St.op, St.kill, okill, List.set_cons_zero, List.set_cons_succ, List.set_nil, gt, List.map, AV.ofV, AV.kill, TV.av, TV.kill, iop, upd, List.cons_append, List.nil_append, addOff, List.eraseIdx, Nat.reduceBEq, cond_true, cond_false, Nat.reduceAdd, Nat.reduceMul, Int.reduceToNat, CV.kill, CV.ref, Value.cells, if_true, if_false, AV.frz, TV.frz, CV.frz, ofrz, Ob.frz, Ob.kill, frz_fus, frz_fis, kill_fus, kill_fis, List.length_nil, Bool.true_and, Bool.false_and, List.getElem_toArray, List.getElem_cons_succ, List.getElem_cons_zero, Nat.zero_add, List.drop_zero, List.any_cons, List.any_nil, Cap.ref, Bool.false_or])) <;> exact rfl) | exact rfl)) (h : OpTo P cx kp o st' K) : OpTo P cx kp o st K := OpTo.weak (Le.freeze hk hf) (hs ▸ h)
theorem zL (k : Nat) {sz : Nat} {xs : List (List PV)} {α : Type} {F : α → St} {I : α → Prop} (hk : k < 1000000 := by decide) (hf : find st.objs k = some (.row T sz xs) := by rfl) (hs : (⟨st.tmps.map (AV.frz k sz xs), ofrz k sz xs st.objs⟩ : St) = st' := by (first | ((conv => lhs; (try dsimp only [St.put, St.op, St.kill, okill, List.set_cons_zero, List.set_cons_succ, List.set_nil, gt, List.map, AV.ofV, AV.kill, TV.av, TV.kill, iop, upd, List.cons_append, List.nil_append, addOff, List.eraseIdx, Nat.reduceBEq, cond_true, cond_false, Nat.reduceAdd, Nat.reduceMul, Int.reduceToNat, CV.kill, CV.ref, Value.cells, if_true, if_false, AV.frz, TV.frz, CV.frz, ofrz, Ob.frz, Ob.kill, frz_fus, frz_fis, kill_fus, kill_fis, List.length_nil, Bool.true_and, Bool.false_and, List.getElem_toArray, List.getElem_cons_succ, List.getElem_cons_zero, Nat.zero_add, List.drop_zero, List.any_cons, List.any_nil, Cap.ref, Bool.false_or]); (try simp only [List.length_map, List.length_append, List.length_take, List.length_cons, List.length_nil, Nat.zero_add, Nat.add_comm 1, beq_self_eq_true, Bool.true_and, Bool.and_self, cond_true]); (try dsimp only [St.put, St.op, St.kill, okill, List.set_cons_zero, List.set_cons_succ, List.set_nil, gt, List.map, AV.ofV, AV.kill, TV.av, TV.kill, iop, upd, List.cons_append, List.nil_append, addOff, List.eraseIdx, Nat.reduceBEq, cond_true, cond_false, Nat.reduceAdd, Nat.reduceMul, Int.reduceToNat, CV.kill, CV.ref, Value.cells, if_true, if_false, AV.frz, TV.frz, CV.frz, ofrz, Ob.frz, Ob.kill, frz_fus, frz_fis, kill_fus, kill_fis, List.length_nil, Bool.true_and, Bool.false_and, List.getElem_toArray, List.getElem_cons_succ, List.getElem_cons_zero, Nat.zero_add, List.drop_zero, List.any_cons, List.any_nil, Cap.ref, Bool.false_or])) <;> exact rfl) | exact rfl)) (h : ∃ x, I x ∧ Le cx st' (F x)) : ∃ x, I x ∧ Le cx st (F x) := leaveZ (Le.freeze hk hf) (hs ▸ h)
theorem zL3 (k : Nat) {sz : Nat} {xs : List (List PV)} {α : Type} {F : α → St} {I J : α → Prop} (hk : k < 1000000 := by decide) (hf : find st.objs k = some (.row T sz xs) := by rfl) (hs : (⟨st.tmps.map (AV.frz k sz xs), ofrz k sz xs st.objs⟩ : St) = st' := by (first | ((conv => lhs; (try dsimp only [St.put, St.op, St.kill, okill, List.set_cons_zero, List.set_cons_succ, List.set_nil, gt, List.map, AV.ofV, AV.kill, TV.av, TV.kill, iop, upd, List.cons_append, List.nil_append, addOff, List.eraseIdx, Nat.reduceBEq, cond_true, cond_false, Nat.reduceAdd, Nat.reduceMul, Int.reduceToNat, CV.kill, CV.ref, Value.cells, if_true, if_false, AV.frz, TV.frz, CV.frz, ofrz, Ob.frz, Ob.kill, frz_fus, frz_fis, kill_fus, kill_fis, List.length_nil, Bool.true_and, Bool.false_and, List.getElem_toArray, List.getElem_cons_succ, List.getElem_cons_zero, Nat.zero_add, List.drop_zero, List.any_cons, List.any_nil, Cap.ref, Bool.false_or]); (try simp only [List.length_map, List.length_append, List.length_take, List.length_cons, List.length_nil, Nat.zero_add, Nat.add_comm 1, beq_self_eq_true, Bool.true_and, Bool.and_self, cond_true]); (try dsimp only [St.put, St.op, St.kill, okill, List.set_cons_zero, List.set_cons_succ, List.set_nil, gt, List.map, AV.ofV, AV.kill, TV.av, TV.kill, iop, upd, List.cons_append, List.nil_append, addOff, List.eraseIdx, Nat.reduceBEq, cond_true, cond_false, Nat.reduceAdd, Nat.reduceMul, Int.reduceToNat, CV.kill, CV.ref, Value.cells, if_true, if_false, AV.frz, TV.frz, CV.frz, ofrz, Ob.frz, Ob.kill, frz_fus, frz_fis, kill_fus, kill_fis, List.length_nil, Bool.true_and, Bool.false_and, List.getElem_toArray, List.getElem_cons_succ, List.getElem_cons_zero, Nat.zero_add, List.drop_zero, List.any_cons, List.any_nil, Cap.ref, Bool.false_or])) <;> exact rfl) | exact rfl)) (h : ∃ x, I x ∧ J x ∧ Le cx st' (F x)) : ∃ x, I x ∧ J x ∧ Le cx st (F x) := leaveZ3 (Le.freeze hk hf) (hs ▸ h)
/-! ### Loops and joints -/
def killR : List AV → Nat → Nat → List AV
  | [], _, _ => []
  | a :: l, 0, 0 => a :: l
  | _ :: l, 0, n + 1 => .c .any :: killR l 0 n
  | a :: l, i + 1, n => a :: killR l i n
def killRs : List AV → List (Nat × Nat) → List AV
  | l, [] => l
  | l, (i, n) :: r => killRs (killR l i n) r
theorem frg {tm : List AV} {os : List (Nat × Ob)} (ht : All2 (fun x y => y = AV.c .any ∨ y = x) st.tmps tm := by ((try dsimp only [sets, killRs, killR, List.set_cons_zero, List.set_cons_succ, List.set_nil]); repeat (first | exact .nil | refine .cons (.inr rfl) ?_ | refine .cons (.inl rfl) ?_))) (ho : ∀ k o, find os k = some o → find st.objs k = some o := by (intro k o; (try dsimp only [sets, killRs, killR, List.set_cons_zero, List.set_cons_succ, List.set_nil]); repeat (first | exact id | exact find_none | refine find_keep ?_ | refine find_skip rfl ?_))) : Le cx st ⟨tm, os⟩ := Le.forget ht ho
theorem loopN (D : List (Nat × Nat)) {α : Type} (W : α → List (Nat × AV)) (O : α → List (Nat × Ob)) (μ : α → Nat) (I : α → Prop) (x0 : α) (h0 : I x0) (hl : Le cx st ⟨sets (killRs st.tmps D) (W x0), O x0⟩ := by exact frg)
    (hr : ∀ x, I x → AWp P cx c ⟨sets (killRs st.tmps D) (W x), O x⟩ (thn (fun s' => ∃ x', μ x' < μ x ∧ I x' ∧ Le cx s' ⟨sets (killRs st.tmps D) (W x'), O x'⟩) Q)) : AWp P cx (.loop c) st Q := by
  refine AWp.loopW _ (fun n s => ∃ x, I x ∧ μ x = n ∧ s = ⟨sets (killRs st.tmps D) (W x), O x⟩) (μ x0) hl ⟨x0, h0, rfl, rfl⟩ ?_
  rintro n s ⟨x, hi, rfl, rfl⟩
  refine (hr x hi).mono ?_
  intro e s' h
  cases e with
  | normal => obtain ⟨x', h1, h2, h3⟩ := h; exact ⟨_, _, h1, ⟨x', h2, rfl, rfl⟩, h3⟩
  | exit _ => exact h
  | goto _ => exact h
  | ret => exact h
  | panic _ => exact h
  | outgrown => exact h
theorem cutIN (D : List (Nat × Nat)) {α : Type} {d : Code} {id : Nat} (W : α → List (Nat × AV)) (O : α → List (Nat × Ob)) (I : α → Prop)
    (h1 : AWp P cx c st (inb id (thn (fun s => ∃ x, I x ∧ Le cx s ⟨sets (killRs st.tmps D) (W x), O x⟩) Q))) (h2 : ∀ x, I x → AWp P cx d ⟨sets (killRs st.tmps D) (W x), O x⟩ Q) : AWp P cx c st (inb id (thn (fun s => AWp P cx d s Q) Q)) := by
  refine AWp.cutB (fun s => ∃ x, I x ∧ s = ⟨sets (killRs st.tmps D) (W x), O x⟩) (by rintro s ⟨x, hi, rfl⟩; exact h2 x hi) (h1.mono ?_)
  intro e s h
  have key : ∀ s, (∃ x, I x ∧ Le cx s ⟨sets (killRs st.tmps D) (W x), O x⟩) → ∃ s', (∃ x, I x ∧ s' = ⟨sets (killRs st.tmps D) (W x), O x⟩) ∧ Le cx s s' := fun s ⟨x, hi, hl⟩ => ⟨_, ⟨x, hi, rfl⟩, hl⟩
  cases e with
  | normal => exact key _ h
  | exit i => simp only [inb] at h ⊢; split at h <;> rename_i hh <;> simp only [hh, if_true, if_false] <;> first | exact key _ h | exact h
  | goto _ => exact h
  | ret => exact h
  | panic _ => exact h
  | outgrown => exact h
theorem cutNN (D : List (Nat × Nat)) {α : Type} {d : Code} (W : α → List (Nat × AV)) (O : α → List (Nat × Ob)) (I : α → Prop)
    (h1 : AWp P cx c st (thn (fun s => ∃ x, I x ∧ Le cx s ⟨sets (killRs st.tmps D) (W x), O x⟩) Q)) (h2 : ∀ x, I x → AWp P cx d ⟨sets (killRs st.tmps D) (W x), O x⟩ Q) : AWp P cx c st (thn (fun s => AWp P cx d s Q) Q) := by
  refine h1.mono ?_
  intro e s h
  cases e with
  | normal => obtain ⟨x, hi, hl⟩ := h; exact AWp.weak hl (h2 x hi)
  | exit i => exact h
  | goto _ => exact h
  | ret => exact h
  | panic _ => exact h
  | outgrown => exact h
end
end Go.Proofs.Vl
end
section
/- Range over a function: what is not a call's own abides; iterators, yields, the statement. -/
set_option linter.all false
namespace Go.Proofs.Vl
open Go Go.RowKit

/-! ### Worlds that change elsewhere -/
section
variable {P : Program} {cx : Cx} {st : St} {a a' : Act} {w w' : World} {fz : Nat → Prop} {β : Nat → Option Nat}
theorem Rel.of {cx' : Cx} (h : Rel cx w fz β) (h1 : cx'.w0 = cx.w0 := by rfl) (h2 : cx'.fz0 = cx.fz0 := by rfl) (h3 : cx'.β0 = cx.β0 := by rfl) (h4 : cx'.G = cx.G := by rfl) (h5 : cx'.rr = cx.rr := by rfl) : Rel cx' w fz β := by
  obtain ⟨w0, fz0, β0, df, G, rd, rr, ml, bs⟩ := cx
  obtain ⟨w0', fz0', β0', df', G', rd', rr', ml', bs'⟩ := cx'
  dsimp only at h1 h2 h3 h4 h5
  subst h1 h2 h3 h4 h5
  exact ⟨h.os, h.tape, h.output, h.size, h.old, h.shp, h.fzin, h.fzout, h.bin, h.bout, h.glob, h.bhi⟩
theorem SR.far (h : SR cx st a w fz β) (ho : w'.os = w.os) (ht : w'.tape = w.tape) (hp : w'.output = w.output) (hsz : w.heap.size ≤ w'.heap.size)
    (hshp : ∀ b s, w.shape? b = some s → w'.shape? b = some s)
    (hold : ∀ b, b < w.heap.size → ((cx.rr = false ∧ b < cx.w0.heap.size) ∨ ∃ k, β k = some b) → w'.heap[b]? = w.heap[b]?)
    (hcell : ∀ b, fz b → ∀ o v, w.cell? ⟨b, o, none⟩ = some v → w'.cell? ⟨b, o, none⟩ = some v)
    (hd : DM cx a' w' fz β) (ha : a'.tmps = a.tmps) (htok : ∀ k F J, find st.objs k = some (.tok F J) → RepO w' fz β k (.tok F J)) : SR cx st a' w' fz β := by
  have hA : Adv fz w w' := ⟨hcell, hshp⟩
  refine ⟨hd, h.low, ⟨ho.trans h.rel.os, ht.trans h.rel.tape, hp.trans h.rel.output, Nat.le_trans h.rel.size hsz, fun hrr b hb hn => (hold b (Nat.lt_of_lt_of_le hb h.rel.size) (.inl ⟨hrr, hb⟩)).trans (h.rel.old hrr b hb hn), fun b s hs => hshp b s (h.rel.shp b s hs), h.rel.fzin, h.rel.fzout, h.rel.bin, h.rel.bout, fun g cs hg => (h.rel.glob g cs hg).glob_adv hA (fun _ h => h), h.rel.bhi⟩, ⟨fun k b hk => Nat.lt_of_lt_of_le (h.h.lt k b hk) hsz, fun b hb => Nat.lt_of_lt_of_le (h.h.fzlt b hb) hsz, h.h.inj, h.h.apart, fun k o hk => ?_⟩, ?_⟩
  · by_cases hn : ∃ F J, o = .tok F J
    · obtain ⟨F, J, rfl⟩ := hn; exact htok k F J hk
    · exact RepO.adv0 (fun F J e => hn ⟨F, J, e⟩) (h.h.ob k o hk) hA (fun _ h => h) rfl (fun b hb => hold b (h.h.lt k b hb) (.inr ⟨k, hb⟩)) (fun _ _ => rfl)
  · rw [ha]; exact h.t.mono fun x v hx hv => hv.adv hA (fun _ h => h) (fun _ _ => rfl)
theorem shape_put {l : Nat} {o o' : Obj} (h : w.heap[l]? = some o) (hc : ∀ vs T fr, o ≠ .cells vs T fr) (b : Nat) (s) (hs : w.shape? b = some s) : (w.putObj l o').shape? b = some s := by
  by_cases hb : b = l
  · subst hb
    unfold World.shape? at hs
    rw [h] at hs
    cases o <;> simp at hs
    exact absurd rfl (hc _ _ _)
  · rw [shape_eq (World.putObj_heap_other hb)]; exact hs
theorem cell_put {l : Nat} {o o' : Obj} (h : w.heap[l]? = some o) (hc : ∀ vs T fr, o ≠ .cells vs T fr) (b q : Nat) (v : Value) (hs : w.cell? ⟨b, q, none⟩ = some v) : (w.putObj l o').cell? ⟨b, q, none⟩ = some v := by
  by_cases hb : b = l
  · subst hb
    unfold World.cell? at hs
    simp only [h] at hs
    cases o <;> simp at hs
    exact absurd rfl (hc _ _ _)
  · exact (World.cell?_of_block (w := w) (a := ⟨b, q, none⟩) (World.putObj_heap_other hb)).trans hs
def noTok : Ob → Bool
  | .tok _ _ => false
  | _ => true
theorem noTok_all {os : List (Nat × Ob)} (h : os.all (fun p => noTok p.2) = true) {k : Nat} {F : Nat → Prop} {J : World → (Nat → Prop) → Prop} (hk : find os k = some (.tok F J)) : False := by
  have := List.all_eq_true.1 h _ (find_mem hk)
  cases this

/-! ### Functions that range over functions -/
theorem shut (fn : Func) (R : Ending → World → Prop) (hb : cx.base = none) (hdf : cx.defers = []) (hml : cx.ml = true)
    (htok : ∀ (w : World) (fz : Nat → Prop), (∀ b, fz b → cx.fz0 b ∨ cx.w0.heap.size ≤ b) → ∀ D, cx.w0.heap.size ≤ D → fz D → w.heap[D]? = some (.deferred (some [])) → ∀ k F J, find st.objs k = some (.tok F J) → RepO w fz β k (.tok F J) → RepO (w.putObj D (.deferred none)) fz β k (.tok F J))
    (hfin : ∀ a' w', SR cx st a' w' fz β → ∃ v, (Go.results fn a'.tmps).run P w' = .ok v w' ∧ R (.returned v) w') :
    ∀ (Ds : List Nat) (a : Act) (w : World), SR cx st a w fz β → Ds.Nodup → (∀ D ∈ Ds, cx.w0.heap.size ≤ D ∧ fz D ∧ PR w β D (.deferred (some []))) → a.defers = Ds.map mark → LeavesInM (fwr none) 0 P fn a.tmps R (Ds.map mark) .returning w
  | [], a, w, hs, _, _, _ => by obtain ⟨v, h1, h2⟩ := hfin a w hs; exact ⟨v, h1, h2⟩
  | D :: Ds, a, w, hs, hn, hD, ha => by
    obtain ⟨h1, h2, h3, h4⟩ := hD D List.mem_cons_self
    have hne : ∀ D' ∈ Ds, D' ≠ D := fun D' h e => by subst e; exact (List.nodup_cons.1 hn).1 h
    have hD' : ∀ D' ∈ Ds, cx.w0.heap.size ≤ D' ∧ fz D' ∧ PR (w.putObj D (.deferred none)) β D' (.deferred (some [])) := fun D' h => by
      obtain ⟨g1, g2, g3, g4⟩ := hD D' (List.mem_cons_of_mem _ h)
      exact ⟨g1, g2, (World.putObj_heap_other (hne D' h)).trans g3, g4⟩
    have hs2 : SR cx st { tmps := a.tmps, defers := Ds.map mark } (w.putObj D (.deferred none)) fz β := by
      refine hs.far rfl rfl rfl (by simp) (shape_put h3 (by simp)) (fun b hb hc => World.putObj_heap_other ?_) (fun b _ o v hv => cell_put h3 (by simp) b o v hv) ⟨⟨Ds, by simp [hdf], (List.nodup_cons.1 hn).2, hD'⟩, fun W f b hbs => (by rw [hb] at hbs; cases hbs), fun h => (by rw [hml] at h; cases h)⟩ rfl
        (fun k F J hk => htok w fz hs.rel.fzout D h1 h2 h3 k F J hk (hs.h.ob _ _ hk))
      intro e; subst e
      rcases hc with ⟨_, hc⟩ | ⟨k, hc⟩
      · omega
      · exact h4 k hc
    exact ⟨by simp, .inl ⟨D, w.putObj D (.deferred none), rfl, run_takeDeferred h3, shut fn R hb hdf hml htok hfin Ds { tmps := a.tmps, defers := Ds.map mark } _ hs2 (List.nodup_cons.1 hn).2 hD' rfl⟩⟩
def retQM (P : Program) (fn : Func) (Q : AV → List (Nat × Ob) → Prop) : Exit → St → Prop
  | .normal, st | .ret, st => st.objs.all (fun p => noTok p.2) = true ∧ ∃ zs, All2 (fun rv (z : TV) => ResV P st rv z.av) fn.results.toList zs ∧ Q (tupOf zs) st.objs
  | _, _ => False
theorem AC.bodyM {G : Nat → Option (List PV)} {f n : Nat} {args : List AV} {os : List (Nat × Ob)} {Q : AV → List (Nat × Ob) → Prop} {fn : Func} {c : Code} (hf : P.funcs[f]? = some fn) (hn : fn.ntmps = n) (hb : fn.body = some c)
    (h : ∀ cx : Cx, cx.defers = [] → cx.G = G → cx.rd = none → cx.ml = true → cx.base = none → AWp P cx c ⟨args ++ List.replicate (n - args.length) (.c .any), os⟩ (retQM P fn Q)) : AC P G f args os Q := by
  subst hn
  intro w fz β vs hβ hH hG hA
  refine callsIn_wide.1 (callsIn_of_wp_marks (n := 0) hf hb trivial (wpIn_mono (h { Cx.of w fz β G with ml := true } rfl rfl rfl rfl rfl { tmps := vs.toArray ++ Array.replicate (fn.ntmps - vs.toArray.size) undef, defers := [] } w ⟨fz, β, DM.nil _ _ _ _ _ rfl rfl, hβ, ⟨rfl, rfl, rfl, Nat.le_refl _, fun _ _ _ _ => rfl, fun _ _ h => h, fun _ h => h, fun _ h => .inl h, fun _ _ h => h, fun _ _ h => .inl h, hG, fun _ _ h => h⟩, hH, ?_⟩) ?_))
  · simp only [Array.toList_append, Array.toList_replicate, List.size_toArray, hA.len]
    exact hA.append (All2.replicate (RepA.any _) _)
  · rintro e a' w' ⟨st', hq, fz', β', hs⟩
    have key : (st'.objs.all (fun p => noTok p.2) = true ∧ ∃ zs, All2 (fun rv (z : TV) => ResV P st' rv z.av) fn.results.toList zs ∧ Q (tupOf zs) st'.objs) → LeavesInM (fwr none) 0 P fn a'.tmps (fun e w' => ∃ v r os' fz' β', e = .returned v ∧ Q r os' ∧ Rel (Cx.of w fz β G) w' fz' β' ∧ H w' fz' β' os' ∧ RepA w' fz' β' r v) a'.defers .returning w' := by
      rintro ⟨hnt, zs, h1, h2⟩
      obtain ⟨⟨Ds, d1, d2, d3⟩, d4, d5⟩ := hs.d
      have d1' : a'.defers = Ds.map mark := by rw [d1]; show Ds.map mark ++ [] = _; simp
      rw [d1']
      refine shut (β := β') (fz := fz') fn _ rfl rfl rfl (fun _ _ _ _ _ _ _ k F J hk _ => (noTok_all hnt hk).elim) (fun a2 w2 hs2 => ?_) Ds a' w' hs d2 d3 d1'
      obtain ⟨v, h3, h4⟩ := hs2.results h1
      exact ⟨v, h3, v, _, st'.objs, fz', β', rfl, h2, hs2.rel.of, hs2.h, h4⟩
    cases e with
    | normal => exact key hq
    | ret => exact key hq
    | exit _ => exact hq
    | goto _ => exact hq
    | panic _ => exact hq.elim
    | outgrown => exact hq.elim
end
end Go.Proofs.Vl
end
section
/- Iterators: what they yield, and to whom. -/
set_option linter.all false
namespace Go.Proofs.Vl
open Go Go.RowKit

def pureA : AV → Bool
  | .c (.p (.s v)) => v.oneCell'
  | .tup [] => true
  | .pag cs => cs.all fun | .s v => v.oneCell' | _ => false
  | _ => false
theorem pureA_rep {r : AV} (hp : pureA r = true) {w w' : World} {fz fz' : Nat → Prop} {β β' : Nat → Option Nat} {v : Value} (h : RepA w fz β r v) : RepA w' fz' β' r v := by
  unfold pureA at hp
  split at hp
  · cases h; exact RepP.s _ hp
  · obtain ⟨vs, h1, h2⟩ := h; cases h2; exact ⟨[], h1, .nil⟩
  · obtain ⟨vs, h1, h2⟩ := h
    refine ⟨vs, h1, h2.mono fun a b ha hr => ?_⟩
    have := List.all_eq_true.1 hp a ha
    cases a with
    | s v => cases hr; exact .s _ this
    | fro xs => cases this
  · cases hp
/-- What is yielded: values, and at most one row that is handed over. -/
structure YV where
  xs : List AV
  row : Option (TypeId × Nat × List (List PV)) := none
def yβ (ob : Option Nat) : Nat → Option Nat := fun k => if k = 0 then ob else none
def YV.rep (y : YV) (w : World) (ob : Option Nat) (vs : List Value) : Prop :=
  match y.row with
  | none => ob = none ∧ y.xs.all pureA = true ∧ All2 (RepA w (fun _ => False) (fun _ => none)) y.xs vs
  | some (T, sz, rs) => ∃ us v, vs = us ++ [v] ∧ y.xs.all pureA = true ∧ All2 (RepA w (fun _ => False) (fun _ => none)) y.xs us ∧ RepC w (fun _ => False) (yβ ob) (.own 0 sz rs.length) v ∧ RepO w (fun _ => False) (yβ ob) 0 (.row T sz rs)
def YV.len (y : YV) : Nat := y.xs.length + (if y.row.isSome then 1 else 0)
theorem YV.rep_len {y : YV} {w : World} {ob : Option Nat} {vs : List Value} (h : y.rep w ob vs) : vs.length = y.len := by
  obtain ⟨xs, row⟩ := y
  unfold YV.rep at h
  cases row with
  | none => simp only at h; simp [YV.len, ← h.2.2.len]
  | some r =>
    obtain ⟨T, sz, rs⟩ := r
    simp only at h
    obtain ⟨us, v, rfl, _, h1, _⟩ := h
    simp [YV.len, ← h1.len]
/-- What a round lets be. -/
structure Kp (w : World) (Y : Nat → Prop) (w' : World) : Prop where
  os : w'.os = w.os
  tape : w'.tape = w.tape
  output : w'.output = w.output
  size : w.heap.size ≤ w'.heap.size
  shp : ∀ b s, w.shape? b = some s → w'.shape? b = some s
  blk : ∀ b, b < w.heap.size → Y b → w'.heap[b]? = w.heap[b]?
/-- A call of yield, and the round that it makes. -/
def YAt (P : Program) (l : Nat) (args : Array Value) (W : World) (R : Ending → World → Prop) : Prop :=
  ∃ fn tmps assign body, (Instr.yield l args).run P W = .ok (.round l fn tmps assign body) W ∧ RoundIn (fwr none) 0 P l fn tmps assign body W R
/-- The rounds of a loop, as the iterator sees them. -/
structure Rnd (P : Program) (l : Nat) (F : Nat → Prop) (J : Nat → World → (Nat → Prop) → Prop) (Jx : World → (Nat → Prop) → Prop) (L : List YV) : Prop where
  abi : ∀ i, Abi (J i)
  abx : Abi Jx
  rnd : ∀ (i : Nat) (y : YV), L[i]? = some y → ∀ (w : World) (X : Nat → Prop) (ob : Option Nat) (vs : List Value), (∀ b, X b → b < w.heap.size) → (∀ b, ob = some b → X b) → J i w X → y.rep w ob vs →
    YAt P l vs.toArray w (fun e w' => Kp w (fun b => (X b ∧ ob ≠ some b) ∨ F b) w' ∧
      ((e = .returned (.bool true) ∧ J (i + 1) w' (fun b => X b ∧ ob ≠ some b)) ∨ (e = .returned (.bool false) ∧ Jx w' (fun b => X b ∧ ob ≠ some b))))
def yv (l : Nat) : AV := .c (.p (.s (.func (.yield l) #[] #[])))
/-- A function that is handed a yield: it yields what L tells, in this order. -/
def GC (P : Program) (G : Nat → Option (List PV)) (f : Nat) (args : Nat → List AV) (L : List YV) (rt rf : AV → Prop) : Prop :=
  ∀ (w : World) (F : Nat → Prop) (vs : List Value) (l : Nat) (J : Nat → World → (Nat → Prop) → Prop) (Jx : World → (Nat → Prop) → Prop), (∀ b, F b → b < w.heap.size) →
    (∀ g cs, G g = some cs → RepC w F (fun _ => none) (.eptr cs) (.pointer (some ⟨g, 0, none⟩))) → All2 (RepA w F (fun _ => none)) (args l) vs → Rnd P l F J Jx L → J 0 w (fun _ => False) →
    Calls P f vs.toArray w (fun e w' => ∃ v r, e = .returned v ∧ RepA w' (fun _ => False) (fun _ => none) r v ∧ ∃ X, (rt r ∧ J L.length w' X) ∨ (rf r ∧ Jx w' X))
def IC (P : Program) (G : Nat → Option (List PV)) (f : Nat) (args : List AV) (L : List YV) : Prop := GC P G f (fun l => yv l :: args) L (fun _ => True) (fun _ => True)
abbrev TK : Nat := 999999
/-- At the end of a body that yields. -/
def retG (P : Program) (fn : Func) (F : Nat → Prop) (rt rf : AV → Prop) (Jn Jx : World → (Nat → Prop) → Prop) : Exit → St → Prop
  | .normal, st | .ret, st => ∃ zs, All2 (fun rv (z : TV) => ResV P st rv z.av) fn.results.toList zs ∧ pureA (tupOf zs) = true ∧ st.objs.all (fun p => p.1 == TK || noTok p.2) = true ∧
      ((rt (tupOf zs) ∧ find st.objs TK = some (.tok F Jn)) ∨ (rf (tupOf zs) ∧ find st.objs TK = some (.tok F Jx)))
  | _, _ => False
section
variable {P : Program} {cx : Cx} {st : St} {a a' : Act} {w w' : World} {fz : Nat → Prop} {β : Nat → Option Nat}
theorem one_tok {os : List (Nat × Ob)} (h : os.all (fun p => p.1 == TK || noTok p.2) = true) {k : Nat} {F : Nat → Prop} {J : World → (Nat → Prop) → Prop} (hk : find os k = some (.tok F J)) : k = TK := by
  have := List.all_eq_true.1 h _ (find_mem hk)
  simpa [noTok] using this
theorem GC.body {G : Nat → Option (List PV)} {f n : Nat} {args : Nat → List AV} {L : List YV} {rt rf : AV → Prop} {fn : Func} {c : Code} (hf : P.funcs[f]? = some fn) (hn : fn.ntmps = n) (hb : fn.body = some c) (hlen : ∀ l, (args l).length = (args 0).length)
    (h : ∀ (cx : Cx) (l : Nat) (J : Nat → World → (Nat → Prop) → Prop) (Jx : World → (Nat → Prop) → Prop), cx.defers = [] → cx.G = G → cx.rd = none → cx.ml = true → cx.base = none → cx.rr = true → Rnd P l cx.fz0 J Jx L →
      AWp P cx c ⟨args l ++ List.replicate (n - (args 0).length) (.c .any), [(TK, .tok cx.fz0 (J 0))]⟩ (retG P fn cx.fz0 rt rf (J L.length) Jx)) : GC P G f args L rt rf := by
  subst hn
  intro w F vs l J Jx hF hG hA hR h0
  have hH : H w F (fun _ => none) [(TK, .tok F (J 0))] := ⟨fun k b hk => (by cases hk), hF, fun k k' b hk => (by cases hk), fun b _ k hk => (by cases hk), fun k o hk => by
    rw [find_cons] at hk
    split at hk
    · cases hk; exact ⟨hR.abi 0, fun _ => False, fun k b hk => (by cases hk), fun b hb => .inl hb, h0⟩
    · cases hk⟩
  refine callsIn_wide.1 (callsIn_of_wp_marks (n := 0) hf hb trivial (wpIn_mono (h { Cx.of w F (fun _ => none) G with ml := true, rr := true } l J Jx rfl rfl rfl rfl rfl rfl hR { tmps := vs.toArray ++ Array.replicate (fn.ntmps - vs.toArray.size) undef, defers := [] } w ⟨F, fun _ => none, DM.nil _ _ _ _ _ rfl rfl, fun _ _ => rfl, ⟨rfl, rfl, rfl, Nat.le_refl _, fun _ _ _ _ => rfl, fun _ _ h => h, fun _ h => h, fun _ h => .inl h, fun _ _ h => h, fun _ _ h => .inl h, hG, fun _ _ h => h⟩, hH, ?_⟩) ?_))
  · simp only [Array.toList_append, Array.toList_replicate, List.size_toArray, ← hA.len, hlen l]
    exact hA.append (All2.replicate (RepA.any _) _)
  · rintro e a' w' ⟨st', hq, fz', β', hs⟩
    have key : (∃ zs, All2 (fun rv (z : TV) => ResV P st' rv z.av) fn.results.toList zs ∧ pureA (tupOf zs) = true ∧ st'.objs.all (fun p => p.1 == TK || noTok p.2) = true ∧
        ((rt (tupOf zs) ∧ find st'.objs TK = some (.tok F (J L.length))) ∨ (rf (tupOf zs) ∧ find st'.objs TK = some (.tok F Jx)))) →
        LeavesInM (fwr none) 0 P fn a'.tmps (fun e w' => ∃ v r, e = .returned v ∧ RepA w' (fun _ => False) (fun _ => none) r v ∧ ∃ X, (rt r ∧ J L.length w' X) ∨ (rf r ∧ Jx w' X)) a'.defers .returning w' := by
      rintro ⟨zs, h1, h2, h3, h4⟩
      obtain ⟨⟨Ds, d1, d2, d3⟩, d4, d5⟩ := hs.d
      have d1' : a'.defers = Ds.map mark := by rw [d1]; show Ds.map mark ++ [] = _; simp
      rw [d1']
      refine shut (β := β') (fz := fz') fn _ rfl rfl rfl (fun w2 fz2 hout D hD1 hD2 hD3 k F' J' hk hO => ?_) (fun a2 w2 hs2 => ?_) Ds a' w' hs d2 d3 d1'
      · obtain rfl := one_tok h3 hk
        have hF' : F' = F := by
          rcases h4 with ⟨_, h4⟩ | ⟨_, h4⟩ <;> rw [hk] at h4 <;> cases h4 <;> rfl
        subst hF'
        obtain ⟨g1, X, g2, g3, g4⟩ := hO
        have hXD : X D := by
          rcases g3 D hD2 with h | h
          · have := hF D h; have hD1 : w.heap.size ≤ D := hD1; omega
          · exact h
        refine ⟨g1, X, g2, g3, g1 w2 X _ X ⟨rfl, rfl, rfl, by simp, fun b hb hX => World.putObj_heap_other (fun e => hX (e ▸ hXD)), shape_put hD3 (by simp), fun b _ h => h⟩ g4⟩
      · obtain ⟨v, h5, h6⟩ := hs2.results h1
        refine ⟨v, h5, v, _, rfl, pureA_rep h2 h6, ?_⟩
        rcases h4 with ⟨h7, h8⟩ | ⟨h7, h8⟩
        · obtain ⟨_, X, _, _, g4⟩ := hs2.h.ob _ _ h8; exact ⟨X, .inl ⟨h7, g4⟩⟩
        · obtain ⟨_, X, _, _, g4⟩ := hs2.h.ob _ _ h8; exact ⟨X, .inr ⟨h7, g4⟩⟩
    cases e with
    | normal => exact key hq
    | ret => exact key hq
    | exit _ => exact hq
    | goto _ => exact hq
    | panic _ => exact hq.elim
    | outgrown => exact hq.elim

/-! ### Yield -/
/-- What lies behind a round, for the iterator. -/
theorem SR.yielded (hs : SR cx st a w fz β) (hb : cx.base = none) (hrr : cx.rr = true) {F : Nat → Prop} {J J' : World → (Nat → Prop) → Prop} {X : Nat → Prop} (h1 : find st.objs TK = some (.tok F J)) (hnt : st.objs.all (fun p => p.1 == TK || noTok p.2) = true)
    (hX1 : ∀ k b, β k = some b → X b) (hX2 : ∀ b, fz b → F b ∨ X b) {w' : World} (hk : Kp w (fun b => X b ∨ F b) w') (ha : Abi J') (hJ : J' w' X) : SR cx ⟨st.tmps, upd st.objs TK (.tok F J')⟩ a w' fz β := by
  have hfz : ∀ b, fz b → w'.heap[b]? = w.heap[b]? := fun b hb' => hk.blk b (hs.h.fzlt b hb') ((hX2 b hb').symm)
  have hβ : ∀ k b, β k = some b → w'.heap[b]? = w.heap[b]? := fun k b hb' => hk.blk b (hs.h.lt k b hb') (.inl (hX1 k b hb'))
  have hA : Adv fz w w' := .of hfz hk.shp
  refine ⟨?_, hs.low, ⟨hk.os.trans hs.rel.os, hk.tape.trans hs.rel.tape, hk.output.trans hs.rel.output, Nat.le_trans hs.rel.size hk.size, fun h => (by rw [hrr] at h; cases h), fun b s h => hk.shp b s (hs.rel.shp b s h), hs.rel.fzin, hs.rel.fzout, hs.rel.bin, hs.rel.bout, fun g cs hg => (hs.rel.glob g cs hg).glob_adv hA (fun _ h => h), hs.rel.bhi⟩, ⟨fun k b h => Nat.lt_of_lt_of_le (hs.h.lt k b h) hk.size, fun b h => Nat.lt_of_lt_of_le (hs.h.fzlt b h) hk.size, hs.h.inj, hs.h.apart, fun k o hk' => ?_⟩, hs.t.mono fun x v hx hv => hv.adv hA (fun _ h => h) (fun _ _ => rfl)⟩
  · obtain ⟨⟨Ds, d1, d2, d3⟩, d4, d5⟩ := hs.d
    exact ⟨⟨Ds, d1, d2, fun D hD => by obtain ⟨g1, g2, g3, g4⟩ := d3 D hD; exact ⟨g1, g2, (hfz D g2).trans g3, g4⟩⟩, fun W f b h => (by rw [hb] at h; cases h), d5⟩
  · rw [find_upd] at hk'
    split at hk'
    · cases hk'; exact ⟨ha, X, hX1, hX2, hJ⟩
    · rename_i hne
      refine RepO.adv0 (fun F J e => ?_) (hs.h.ob k o hk') hA (fun _ h => h) rfl (fun b h => hβ k b h) (fun _ _ => rfl)
      subst e; exact hne (one_tok hnt hk').symm
variable {K : St → Prop} {L : List YV} {J : Nat → World → (Nat → Prop) → Prop} {Jx : World → (Nat → Prop) → Prop} {F : Nat → Prop} {l i : Nat} {y : YV}
variable {dst : Option Tmp} {ty : TypeId} {pos : String} {af : Array Edge} {gd : Option (Nat × Bool)}
theorem OpTo.yield {t : Operand} {xs : List Operand} {ats : Array TypeId} (hr : Rnd P l F J Jx L) (hi : L[i]? = some y) (hb : cx.base = none) (hrr : cx.rr = true)
    (ht : st.op cx t = yv l) (hto : okOp t = true) (ho : okOps xs = true) (hf : find st.objs TK = some (.tok F (J i))) (hnt : st.objs.all (fun p => p.1 == TK || noTok p.2) = true)
    (hy0 : y.row = none) (hy : xs.map (fun x => st.op cx x) = y.xs) (hyp : y.xs.all pureA = true)
    (k1 : K (St.put ⟨st.tmps, upd st.objs TK (.tok F (J (i + 1)))⟩ dst (.c (.p (.s (.bool true))))))
    (k2 : K (St.put ⟨st.tmps, upd st.objs TK (.tok F Jx)⟩ dst (.c (.p (.s (.bool false)))))) :
    OpTo P cx false ⟨dst, .call { callee := .value t, args := xs.toArray, argTypes := ats }, ty, pos, af, gd⟩ st K := by
  intro a w next Qx ⟨fz, β, hs⟩ hn
  obtain ⟨hab, X, hX1, hX2, hJ⟩ := hs.h.ob _ _ hf
  have hJ' : J i w (fun b => X b ∧ b < w.heap.size) := hab w X w _ ⟨rfl, rfl, rfl, Nat.le_refl _, fun _ _ _ => rfl, fun _ _ h => h, fun b _ h => h.1⟩ hJ
  have hrep : y.rep w none (xs.map a.eval) := by
    unfold YV.rep
    rw [hy0]
    refine ⟨rfl, hyp, ?_⟩
    rw [← hy]
    refine all2_map_list xs fun x hx => pureA_rep (List.all_eq_true.1 hyp _ (by rw [← hy]; exact List.mem_map_of_mem (f := fun x => st.op cx x) hx)) (hs.op x (List.all_eq_true.1 ho x hx))
  obtain ⟨fn, tm, as, bo, hyr, hround⟩ := hr.rnd i y hi w _ none _ (fun b h => h.2) (fun b h => (by cases h)) hJ' hrep
  have hte : a.eval t = .func (.yield l) #[] #[] := hs.eq ht hto
  unfold wpv
  have hrun : (execOp a.eval ⟨dst, .call { callee := .value t, args := xs.toArray, argTypes := ats }, ty, pos, af, gd⟩).run P w = .ok (.round l fn tm as bo) w := by
    simp [execOp, resolve, hte, Deferred.ofValue, invoke, hyr]
  rw [hrun]
  refine RoundIn.mono hround fun e w' ⟨hk, hc⟩ => ?_
  have hk' : Kp w (fun b => (X b ∧ b < w.heap.size) ∨ F b) w' := ⟨hk.os, hk.tape, hk.output, hk.size, hk.shp, fun b hb h => hk.blk b hb (h.imp (fun h => ⟨h, by simp⟩) id)⟩
  have hX1' : ∀ k b, β k = some b → X b ∧ b < w.heap.size := fun k b h => ⟨hX1 k b h, hs.h.lt k b h⟩
  have hX2' : ∀ b, fz b → F b ∨ (X b ∧ b < w.heap.size) := fun b h => (hX2 b h).imp id (fun h2 => ⟨h2, hs.h.fzlt b h⟩)
  have mk : ∀ (Z : World → (Nat → Prop) → Prop), Abi Z → Z w' (fun b => (X b ∧ b < w.heap.size) ∧ (none : Option Nat) ≠ some b) → Z w' (fun b => X b ∧ b < w.heap.size) := fun Z hZ h => hZ w' _ w' _ ⟨rfl, rfl, rfl, Nat.le_refl _, fun _ _ _ => rfl, fun _ _ h => h, fun b _ h => ⟨h, by simp⟩⟩ h
  rcases hc with ⟨rfl, hc⟩ | ⟨rfl, hc⟩
  · exact hn _ _ _ k1 ⟨fz, β, (hs.yielded hb hrr hf hnt hX1' hX2' hk' (hr.abi _) (mk _ (hr.abi _) hc)).put (x := .c (.p (.s (.bool true)))) (.s _ rfl) dst⟩ (fun h => (by cases h))
  · exact hn _ _ _ k2 ⟨fz, β, (hs.yielded hb hrr hf hnt hX1' hX2' hk' hr.abx (mk _ hr.abx hc)).put (x := .c (.p (.s (.bool false)))) (.s _ rfl) dst⟩ (fun h => (by cases h))
end
end Go.Proofs.Vl
end
section
/- The statement that ranges over a function. -/
set_option linter.all false
namespace Go.Proofs.Vl
open Go Go.RowKit

/-- A step that may change block l, beside one's own. -/
structure StpL (l : Nat) (w : World) (fz : Nat → Prop) (β : Nat → Option Nat) (w' : World) (fz' : Nat → Prop) (β' : Nat → Option Nat) : Prop where
  os : w'.os = w.os
  tape : w'.tape = w.tape
  output : w'.output = w.output
  size : w.heap.size ≤ w'.heap.size
  blk : ∀ b, b < w.heap.size → b ≠ l → (∀ k, β k ≠ some b) → w'.heap[b]? = w.heap[b]?
  shp : ∀ b s, w.shape? b = some s → w'.shape? b = some s
  ffz : ∀ b, b < w.heap.size → fz' b → fz b ∨ ∃ k, β k = some b
  own : ∀ k b, b < w.heap.size → β' k = some b → ∃ k', β k' = some b
  mono : ∀ b, fz b → fz' b
section
variable {l : Nat} {w w' w2 : World} {fz fz' fz2 : Nat → Prop} {β β' β2 : Nat → Option Nat}
theorem Stp.toL (h : Stp w fz β w' fz' β') (l : Nat) : StpL l w fz β w' fz' β' := ⟨h.os, h.tape, h.output, h.size, fun b hb _ hn => h.blk b hb hn, h.shp, h.ffz, h.own, h.mono⟩
theorem StpL.trans (h : StpL l w fz β w' fz' β') (h' : StpL l w' fz' β' w2 fz2 β2) : StpL l w fz β w2 fz2 β2 where
  os := h'.os.trans h.os
  tape := h'.tape.trans h.tape
  output := h'.output.trans h.output
  size := Nat.le_trans h.size h'.size
  blk := fun b hb hl hn => (h'.blk b (Nat.lt_of_lt_of_le hb h.size) hl fun k hk => by obtain ⟨k', hk'⟩ := h.own k b hb hk; exact hn k' hk').trans (h.blk b hb hl hn)
  shp := fun b s hs => h'.shp b s (h.shp b s hs)
  ffz := fun b hb hf => by
    rcases h'.ffz b (Nat.lt_of_lt_of_le hb h.size) hf with h1 | ⟨k, h1⟩
    · exact h.ffz b hb h1
    · exact .inr (h.own k b hb h1)
  own := fun k b hb hk => by obtain ⟨k', hk'⟩ := h'.own k b (Nat.lt_of_lt_of_le hb h.size) hk; exact h.own k' b hb hk'
  mono := fun b hb => h'.mono b (h.mono b hb)
theorem StpL.put {r : Loop} {o' : Obj} (h : w.heap[l]? = some (.loop r)) : StpL l w fz β (w.putObj l o') fz β :=
  ⟨rfl, rfl, rfl, by simp, fun b _ hl _ => World.putObj_heap_other hl, shape_put h (by simp), fun b _ h => .inl h, fun k b _ h => ⟨k, h⟩, fun _ h => h⟩
end
theorem find_app (os os' : List (Nat × Ob)) (k : Nat) : find (os ++ os') k = (find os k).or (find os' k) := by
  induction os with
  | nil => simp [find]
  | cons p r ih =>
    obtain ⟨j, o⟩ := p
    rw [List.cons_append, find_cons, find_cons, ih]
    by_cases h : j = k
    · simp [h]
    · simp [h]
abbrev SV : Nat := 999998
def odel (k : Nat) : List (Nat × Ob) → List (Nat × Ob)
  | [] => []
  | (j, o) :: r => cond (j == k) (odel k r) ((j, o) :: odel k r)
theorem find_odel {os : List (Nat × Ob)} {k j : Nat} {o : Ob} (h : find (odel k os) j = some o) : find os j = some o := by
  induction os with
  | nil => exact h
  | cons p r ih =>
    obtain ⟨i, q⟩ := p
    rw [odel] at h
    have nk : ∀ {r : List (Nat × Ob)}, find (odel k r) k = none := fun {r} => by
      induction r with
      | nil => rfl
      | cons p r ih =>
        obtain ⟨i, q⟩ := p
        rw [odel]
        by_cases hi : i = k
        · simp [hi, ih]
        · have : (i == k) = false := by simpa using hi
          rw [this, cond_false, find_cons, if_neg hi]; exact ih
    by_cases hi : i = k
    · subst hi
      rw [beq_self_eq_true, cond_true] at h
      rw [find_cons]
      by_cases hij : i = j
      · subst hij; rw [nk] at h; cases h
      · rw [if_neg hij]; exact ih h
    · have : (i == k) = false := by simpa using hi
      rw [this, cond_false, find_cons] at h
      rw [find_cons]
      split
      · rename_i hh; rw [if_pos hh] at h; exact h
      · rename_i hh; rw [if_neg hh] at h; exact ih h
def Has (os os' : List (Nat × Ob)) : Prop := ∀ k o, find os' k = some o → find os k = some o
def setT : List AV → List Nat → List AV → List AV
  | ts, p :: ps, x :: xs => setT (ts.set p x) ps xs
  | ts, _, _ => ts
theorem setT_rep {R : AV → Value → Prop} : ∀ {ts : List AV} {vs : Array Value} (ps : List Nat) {xs : List AV} {us : List Value}, All2 R ts vs.toList → All2 R xs us →
    All2 R (setT ts ps xs) ((ps.zip us).foldl (fun (t : Array Value) (p : Nat × Value) => t.setIfInBounds p.1 p.2) vs).toList
  | ts, vs, [], xs, us, h, h' => by cases h' <;> simpa [setT] using h
  | ts, vs, p :: ps, _, _, h, .nil => by simpa [setT] using h
  | ts, vs, p :: ps, _, _, h, .cons h1 h2 => by
    simp only [setT, List.zip_cons_cons, List.foldl_cons]
    exact setT_rep ps (by rw [Array.toList_setIfInBounds]; exact h.set h1 p) h2
def YV.args (y : YV) (kr : Nat) : List AV := y.xs ++ match y.row with
  | none => []
  | some (_, sz, rs) => [.c (.own kr sz rs.length)]
def YV.objs (y : YV) (kr : Nat) : List (Nat × Ob) := match y.row with
  | none => []
  | some (T, sz, rs) => [(kr, .row T sz rs)]
/-- Where a round begins. -/
def rst (st : St) (ps : Array Tmp) (y : YV) (kr : Nat) (os : List (Nat × Ob)) (sv : List Value) : St := ⟨setT st.tmps ps.toList (y.args kr), y.objs kr ++ (os ++ [(SV, .sav st.tmps sv)])⟩
/-- How a round may end. -/
def rq {α : Type} (Q : Exit → St → Prop) (tkl : List (Nat × Ob)) (st : St) (sv : List Value) (fo : α → List (Nat × Ob)) (inv : Nat → α → Prop) (i : Nat) : Exit → St → Prop
  | .normal, s => ∃ x, inv (i + 1) x ∧ Has s.objs (fo x) ∧ find s.objs SV = some (.sav st.tmps sv)
  | .ret, s => Q .ret ⟨st.tmps, tkl ++ odel SV s.objs⟩ ∧ (odel SV s.objs).all (fun p => noTok p.2) = true ∧ find s.objs SV = some (.sav st.tmps sv)
  | .exit id, s => Q (.exit id) ⟨st.tmps, tkl ++ odel SV s.objs⟩ ∧ (odel SV s.objs).all (fun p => noTok p.2) = true ∧ find s.objs SV = some (.sav st.tmps sv)
  | .goto t, s => Q (.goto t) ⟨st.tmps, tkl ++ odel SV s.objs⟩ ∧ (odel SV s.objs).all (fun p => noTok p.2) = true ∧ find s.objs SV = some (.sav st.tmps sv)
  | _, _ => False
def capF : Cap → Bool
  | .key _ => false
  | .val x => x.oneCell'
  | .fz _ => true
section
variable {P : Program} {cx : Cx} {st : St} {a a' : Act} {w w' : World} {fz : Nat → Prop} {β : Nat → Option Nat}
theorem SR.sub (h : SR cx st a w fz β) {os : List (Nat × Ob)} (ho : Has st.objs os) : SR cx ⟨st.tmps, os⟩ a w fz β :=
  ⟨h.d, h.low, h.rel, ⟨h.h.lt, h.h.fzlt, h.h.inj, h.h.apart, fun k o hk => h.h.ob k o (ho k o hk)⟩, h.t⟩
theorem RepP.of_pure {x : PV} {v : Value} {fz' : Nat → Prop} (h : RepP w (fun _ => False) x v) : RepP w fz' x v := h.adv (Adv.refl _ _) (fun _ h => h.elim)
/-- A row that is handed over. -/
theorem SR.imp_row (h : SR cx st a w fz β) (hb : cx.base = none) {y : YV} {ob : Option Nat} {vs : List Value} (hrep : y.rep w ob vs) {kr : Nat} (hlow : kr < 1000000) (hn : y.row = none ∨ st.noref kr = true)
    (hob : ∀ b, ob = some b → cx.w0.heap.size ≤ b ∧ b < w.heap.size ∧ ¬ fz b ∧ ∀ k, β k ≠ some b) (hnt : st.objs.all (fun p => noTok p.2) = true) :
    ∃ βr, SR cx ⟨st.tmps, y.objs kr ++ st.objs⟩ a w fz βr ∧ All2 (RepA w fz βr) (y.args kr) vs ∧ ∀ k b, βr k = some b → (∃ k', β k' = some b) ∨ ob = some b := by
  obtain ⟨xs, row⟩ := y
  cases row with
  | none =>
    simp only [YV.rep] at hrep
    refine ⟨β, h, ?_, fun k b hk => .inl ⟨k, hk⟩⟩
    simp only [YV.args, List.append_nil]
    exact hrep.2.2.mono fun x v hm hx => pureA_rep (List.all_eq_true.1 hrep.2.1 x hm) hx
  | some r =>
    obtain ⟨T, sz, rs⟩ := r
    simp only [YV.rep] at hrep
    obtain ⟨us, v, rfl, hpa, h1, h2, h3⟩ := hrep
    have hn := hn.resolve_left (by simp)
    have hrow : ∀ β' : Nat → Option Nat, β' kr = ob → RepO w fz β' kr (.row T sz rs) ∧ RepC w fz β' (.own kr sz rs.length) v := fun β' hβ => by
      constructor
      · rcases h3 with ⟨g1, g2⟩ | ⟨b, us', g1, g2, g3, g4, g5⟩
        · exact .inl ⟨hβ.trans (by simpa [yβ] using g1), g2⟩
        · exact .inr ⟨b, us', hβ.trans (by simpa [yβ] using g1), g2, g3, g4, g5.mono fun x u _ hr => hr.of_pure⟩
      · rcases h2 with ⟨g1, g2⟩ | ⟨b, cap, T', g1, g2⟩
        · exact .inl ⟨hβ.trans (by simpa [yβ] using g1), g2⟩
        · exact .inr ⟨b, cap, T', hβ.trans (by simpa [yβ] using g1), g2⟩
    obtain ⟨hR, hC⟩ := hrow (bup β kr ob) (bup_same _ _ _)
    refine ⟨bup β kr ob, ?_, ?_, fun k b hk => ?_⟩
    · refine ⟨?_, h.low, ⟨h.rel.os, h.rel.tape, h.rel.output, h.rel.size, h.rel.old, h.rel.shp, h.rel.fzin, h.rel.fzout, ?_, ?_, h.rel.glob, fun k hk h0 => (bup_other _ _ _ (by omega)).trans (h.rel.bhi k hk h0)⟩, ⟨?_, h.h.fzlt, ?_, ?_, ?_⟩, ?_⟩
      · obtain ⟨⟨Ds, d1, d2, d3⟩, d4, d5⟩ := h.d
        refine ⟨⟨Ds, d1, d2, fun D hD => ?_⟩, fun W f b hbs => (by rw [hb] at hbs; cases hbs), d5⟩
        obtain ⟨g1, g2, g3, g4⟩ := d3 D hD
        refine ⟨g1, g2, g3, fun k hk => ?_⟩
        by_cases hkd : k = kr
        · subst hkd; rw [bup_same] at hk; exact (hob D hk).2.2.1 g2
        · rw [bup_other _ _ _ hkd] at hk; exact g4 k hk
      · intro k b hk
        by_cases hkd : k = kr
        · subst hkd; rw [h.low k hlow] at hk; cases hk
        · rw [bup_other _ _ _ hkd]; exact h.rel.bin k b hk
      · intro k b hk
        by_cases hkd : k = kr
        · subst hkd; rw [bup_same] at hk; exact .inr (hob b hk).1
        · rw [bup_other _ _ _ hkd] at hk; exact h.rel.bout k b hk
      · intro k b hk
        by_cases hkd : k = kr
        · subst hkd; rw [bup_same] at hk; exact (hob b hk).2.1
        · rw [bup_other _ _ _ hkd] at hk; exact h.h.lt k b hk
      · intro k k' b e1 e2
        by_cases hk : k = kr <;> by_cases hk' : k' = kr
        · exact hk.trans hk'.symm
        · rw [hk, bup_same] at e1; rw [bup_other _ _ _ hk'] at e2; exact absurd e2 ((hob b e1).2.2.2 _)
        · rw [hk', bup_same] at e2; rw [bup_other _ _ _ hk] at e1; exact absurd e1 ((hob b e2).2.2.2 _)
        · rw [bup_other _ _ _ hk] at e1; rw [bup_other _ _ _ hk'] at e2; exact h.h.inj _ _ _ e1 e2
      · intro b hb k hk
        by_cases hkd : k = kr
        · subst hkd; rw [bup_same] at hk; exact (hob b hk).2.2.1 hb
        · rw [bup_other _ _ _ hkd] at hk; exact h.h.apart b hb k hk
      · intro k o hk
        simp only [YV.objs, List.cons_append, List.nil_append, find_cons] at hk
        by_cases hkd : kr = k
        · subst hkd; rw [if_pos rfl] at hk; cases hk; exact hR
        · rw [if_neg hkd] at hk
          refine RepO.adv0 (fun F J e => ?_) (h.h.ob k o hk) (Adv.refl _ _) (fun _ h => h) (bup_other _ _ _ (Ne.symm hkd)) (fun _ _ => rfl) (fun j hj => bup_other _ _ _ ?_)
          · subst e; exact noTok_all hnt hk
          · intro e; subst e; rw [St.noref_o hn hk (Ne.symm hkd)] at hj; cases hj
      · refine h.t.mono fun x v hx hv => hv.adv (Adv.refl _ _) (fun _ h => h) (fun j hj => bup_other _ _ _ ?_)
        intro e; subst e; rw [St.noref_t hn hx] at hj; cases hj
    · simp only [YV.args]
      exact (h1.mono fun x v hm hx => pureA_rep (List.all_eq_true.1 hpa x hm) hx).append (.cons hC .nil)
    · by_cases hkd : k = kr
      · subst hkd; rw [bup_same] at hk; exact .inr hk
      · rw [bup_other _ _ _ hkd] at hk; exact .inl ⟨k, hk⟩
end
end Go.Proofs.Vl
end
section
/- The rule for the statement that ranges over a function. -/
set_option linter.all false
set_option maxHeartbeats 1000000
namespace Go.Proofs.Vl
open Go Go.RowKit
section
variable {P : Program} {cx : Cx} {st : St} {a a' : Act} {w w' : World} {fz : Nat → Prop} {β : Nat → Option Nat} {Q : Exit → St → Prop}
/-- What the loop's own call keeps while the iterator runs. -/
structure JC (cx : Cx) (tm : List AV) (a1 : Act) (F Y : Nat → Prop) (l n1 : Nat) (tkl os : List (Nat × Ob)) (rc : Loop) (W : World) (X : Nat → Prop) (fz : Nat → Prop) (β : Nat → Option Nat) : Prop where
  sr : SR cx ⟨tm, os⟩ a1 W fz β
  nt : os.all (fun p => noTok p.2) = true
  lh : W.heap[l]? = some (.loop rc)
  lβ : ∀ k, β k ≠ some l
  xd : ∀ b, X b → n1 ≤ b ∧ ¬ fz b ∧ ∀ k, β k ≠ some b
  fd : ∀ b, F b → fz b
  nh : n1 ≤ W.heap.size
  tkd : ∀ Fo Jo, tkl = [(TK, .tok Fo Jo)] → Abi Jo ∧ Jo W Y ∧ (∀ k b, β k = some b → Y b) ∧ (∀ b, fz b → Fo b ∨ Y b)
/-- From one such state to a later one. -/
theorem JC.go {tm : List AV} {a1 a2 : Act} {F Y X X' : Nat → Prop} {l n1 n1' : Nat} {tkl os os' : List (Nat × Ob)} {rc rc' : Loop} {W W' : World} {fz' : Nat → Prop} {βr β' : Nat → Option Nat}
    (h : JC cx tm a1 F Y l n1 tkl os rc W X fz β) (hb : cx.base = none) (hml : cx.ml = true) (hl1 : l < n1) (hYl : Y l) (hn1 : n1' ≤ n1) (hY : ∀ b, n1' ≤ b → Y b) (hFl : ¬ F l)
    (hr : ∀ k b, βr k = some b → (∃ k', β k' = some b) ∨ (X b ∧ ¬ X' b)) (hX : ∀ b, X' b → X b ∧ b < W.heap.size)
    (hst : StpL l W fz βr W' fz' β') (hl' : W'.heap[l]? = some (.loop rc')) (hnt : os'.all (fun p => noTok p.2) = true)
    (hrel : Rel cx W' fz' β') (hH : H W' fz' β' os') (ht : All2 (RepA W' fz' β') tm a1.tmps.toList) :
    JC cx tm a1 F Y l n1 tkl os' rc' W' X' fz' β' ∧ ∀ b, b < W.heap.size → (X' b ∨ F b) → W'.heap[b]? = W.heap[b]? := by
  have hln : ∀ k, βr k ≠ some l := fun k hk => by
    rcases hr k l hk with ⟨k', h1⟩ | ⟨h1, _⟩
    · exact h.lβ k' h1
    · have := (h.xd l h1).1; omega
  have hfβ : ∀ b, fz b → ∀ k, βr k ≠ some b := fun b hb' k hk => by
    rcases hr k b hk with ⟨k', h1⟩ | ⟨h1, _⟩
    · exact h.sr.h.apart b hb' k' h1
    · exact (h.xd b h1).2.1 hb'
  have hxβ : ∀ b, X' b → ∀ k, βr k ≠ some b := fun b hb' k hk => by
    rcases hr k b hk with ⟨k', h1⟩ | ⟨_, h1⟩
    · exact (h.xd b (hX b hb').1).2.2 k' h1
    · exact h1 hb'
  have hnl : ∀ b o, W.heap[b]? = some o → (∀ r, o ≠ .loop r) → b ≠ l := fun b o hb' ho e => by subst e; rw [h.lh] at hb'; cases hb'; exact ho _ rfl
  refine ⟨⟨⟨?_, h.sr.low, hrel, hH, ht⟩, hnt, hl', ?_, ?_, ?_, ?_, ?_⟩, ?_⟩
  · obtain ⟨⟨Ds, d1, d2, d3⟩, d4, d5⟩ := h.sr.d
    refine ⟨⟨Ds, d1, d2, fun D hD => ?_⟩, fun W2 f b hbs => (by rw [hb] at hbs; cases hbs), fun hh => (by rw [hml] at hh; cases hh)⟩
    obtain ⟨g1, g2, g3, g4⟩ := d3 D hD
    have hDlt : D < W.heap.size := (Array.getElem?_eq_some_iff.1 g3).1
    refine ⟨g1, hst.mono D g2, (hst.blk D hDlt (hnl D _ g3 (by simp)) (hfβ D g2)).trans g3, fun k hk => ?_⟩
    obtain ⟨k', hk'⟩ := hst.own k D hDlt hk
    exact hfβ D g2 k' hk'
  · intro k hk
    have hlt : l < W.heap.size := (Array.getElem?_eq_some_iff.1 h.lh).1
    obtain ⟨k', hk'⟩ := hst.own k l hlt hk
    exact hln k' hk'
  · intro b hb'
    obtain ⟨g1, g2⟩ := hX b hb'
    refine ⟨(h.xd b g1).1, fun hf => ?_, fun k hk => ?_⟩
    · rcases hst.ffz b g2 hf with h1 | ⟨k, h1⟩
      · exact (h.xd b g1).2.1 h1
      · exact hxβ b hb' k h1
    · obtain ⟨k', hk'⟩ := hst.own k b g2 hk; exact hxβ b hb' k' hk'
  · exact fun b hb' => hst.mono b (h.fd b hb')
  · exact Nat.le_trans h.nh hst.size
  · intro Fo Jo he
    obtain ⟨g1, g2, g3, g4⟩ := h.tkd Fo Jo he
    have hβY : ∀ k b, βr k = some b → Y b := fun k b hk => by
      rcases hr k b hk with ⟨k', h1⟩ | ⟨h1, _⟩
      · exact g3 k' b h1
      · exact hY b (Nat.le_trans hn1 (h.xd b h1).1)
    have hnew : ∀ b, ¬ b < W.heap.size → Y b := fun b hb' => hY b (by have := h.nh; omega)
    refine ⟨g1, g1 W Y W' Y ⟨hst.os, hst.tape, hst.output, hst.size, fun b hb' hny => hst.blk b hb' (fun e => hny (e ▸ hYl)) (fun k hk => hny (hβY k b hk)), hst.shp, fun b _ h => h⟩ g2, fun k b hk => ?_, fun b hf => ?_⟩
    · by_cases hb' : b < W.heap.size
      · obtain ⟨k', hk'⟩ := hst.own k b hb' hk; exact hβY k' b hk'
      · exact hnew b hb'
    · by_cases hb' : b < W.heap.size
      · rcases hst.ffz b hb' hf with h1 | ⟨k, h1⟩
        · exact g4 b h1
        · exact .inr (hβY k b h1)
      · exact .inr (hnew b hb')
  · intro b hb' hc
    rcases hc with hc | hc
    · exact hst.blk b hb' (fun e => by subst e; have := (h.xd b (hX b hc).1).1; omega) (hxβ b hc)
    · refine hst.blk b hb' (fun e => hFl (e ▸ hc)) (hfβ b (h.fd b hc))
theorem JC.abi {tm : List AV} {a1 : Act} {F Y X X' : Nat → Prop} {l n1 n1' : Nat} {tkl os : List (Nat × Ob)} {rc : Loop} {W W' : World}
    (h : JC cx tm a1 F Y l n1 tkl os rc W X fz β) (hb : cx.base = none) (hml : cx.ml = true) (hl1 : l < n1) (hn1 : n1' ≤ n1) (hY : ∀ b, n1' ≤ b → Y b) (hw0 : cx.w0.heap.size ≤ n1) (hst : StX W X W' X') :
    JC cx tm a1 F Y l n1 tkl os rc W' X' fz β := by
  have hfzs : ∀ b, fz b → W'.heap[b]? = W.heap[b]? := fun b hb' => hst.blk b (h.sr.h.fzlt b hb') (fun hx => (h.xd b hx).2.1 hb')
  have hlt : l < W.heap.size := (Array.getElem?_eq_some_iff.1 h.lh).1
  refine ⟨h.sr.far hst.os hst.tape hst.output hst.size hst.shp (fun b hb' hc => hst.blk b hb' fun hx => ?_) (fun b hb' o v hv => (World.cell?_of_block (w := W) (a := ⟨b, o, none⟩) (hfzs b hb')).trans hv) ?_ rfl (fun k F J hk => (noTok_all h.nt hk).elim), h.nt, (hst.blk l hlt fun hx => (by have := (h.xd l hx).1; omega)).trans h.lh, h.lβ, fun b hx => ?_, h.fd, Nat.le_trans h.nh hst.size, fun Fo Jo he => ?_⟩
  · have h1 := h.xd b hx
    rcases hc with ⟨_, hc⟩ | ⟨k, hc⟩
    · omega
    · exact h1.2.2 k hc
  · obtain ⟨⟨Ds, d1, d2, d3⟩, d4, d5⟩ := h.sr.d
    refine ⟨⟨Ds, d1, d2, fun D hD => ?_⟩, fun W2 f b hbs => (by rw [hb] at hbs; cases hbs), fun hh => (by rw [hml] at hh; cases hh)⟩
    obtain ⟨g1, g2, g3, g4⟩ := d3 D hD
    exact ⟨g1, g2, (hfzs D g2).trans g3, g4⟩
  · by_cases hb' : b < W.heap.size
    · exact h.xd b (hst.own b hb' hx)
    · refine ⟨by have := h.nh; omega, fun hf => hb' (h.sr.h.fzlt b hf), fun k hk => hb' (h.sr.h.lt k b hk)⟩
  · obtain ⟨g1, g2, g3, g4⟩ := h.tkd Fo Jo he
    exact ⟨g1, g1 W Y W' Y ⟨hst.os, hst.tape, hst.output, hst.size, fun b hb' hny => hst.blk b hb' fun hx => hny (hY b (Nat.le_trans hn1 (h.xd b hx).1)), hst.shp, fun b _ h => h⟩ g2, g3, g4⟩
def pst (Q : Exit → St → Prop) (tm : List AV) (tkl : List (Nat × Ob)) : Code → List (Nat × Ob) → Prop
  | .ret, os => Q .ret ⟨tm, tkl ++ os⟩
  | .exit id, os => Q (.exit id) ⟨tm, tkl ++ os⟩
  | .goto t, os => Q (.goto t) ⟨tm, tkl ++ os⟩
  | _, _ => False
theorem capF_av {c : Cap} {v : Value} {β' : Nat → Option Nat} (hc : capF c = true) (h : RepCap w fz β c v) {w' : World} {fz' : Nat → Prop} (hA : Adv fz w w') (hs : ∀ b, fz b → fz' b) : RepA w' fz' β' c.av v := by
  cases c with
  | key k => cases hc
  | val x => cases h; exact RepP.s _ hc
  | fz cs => exact RepE.adv h hA hs
/-- Behind the iterator. -/
theorem JC.shut {tm : List AV} {a1 : Act} {F Y X : Nat → Prop} {l n1 : Nat} {tkl os : List (Nat × Ob)} {rc rc' : Loop} {W : World}
    (h : JC cx tm a1 F Y l n1 tkl os rc W X fz β) (hb : cx.base = none) (hml : cx.ml = true) (hYl : Y l) (hw0 : cx.w0.heap.size ≤ l) (htk : tkl = [] ∨ ∃ F J, tkl = [(TK, .tok F J)]) :
    StRep cx ⟨tm, tkl ++ os⟩ a1 (W.putObj l (.loop rc')) := by
  have hlt : l < W.heap.size := (Array.getElem?_eq_some_iff.1 h.lh).1
  have h2 : SR cx ⟨tm, os⟩ a1 (W.putObj l (.loop rc')) fz β := by
    refine h.sr.far rfl rfl rfl (by simp) (shape_put h.lh (by simp)) (fun b hb' hc => World.putObj_heap_other fun e => ?_) (fun b _ o v hv => cell_put h.lh (by simp) b o v hv) ?_ rfl (fun k F J hk => (noTok_all h.nt hk).elim)
    · subst e
      rcases hc with ⟨_, hc⟩ | ⟨k, hc⟩
      · omega
      · exact h.lβ k hc
    · obtain ⟨⟨Ds, d1, d2, d3⟩, d4, d5⟩ := h.sr.d
      refine ⟨⟨Ds, d1, d2, fun D hD => ?_⟩, fun W2 f b hbs => (by rw [hb] at hbs; cases hbs), fun hh => (by rw [hml] at hh; cases hh)⟩
      obtain ⟨g1, g2, g3, g4⟩ := d3 D hD
      exact ⟨g1, g2, (World.putObj_heap_other (fun e => by subst e; rw [h.lh] at g3; cases g3)).trans g3, g4⟩
  refine ⟨fz, β, h2.d, h2.low, h2.rel, ⟨h2.h.lt, h2.h.fzlt, h2.h.inj, h2.h.apart, fun k o hk => ?_⟩, h2.t⟩
  rcases htk with rfl | ⟨F', J', rfl⟩
  · exact h2.h.ob k o hk
  · simp only [List.cons_append, List.nil_append, find_cons] at hk
    split at hk
    · rename_i hk2
      subst hk2
      cases hk
      obtain ⟨g1, g2, g3, g4⟩ := h.tkd F' J' rfl
      exact ⟨g1, Y, g3, g4, g1 W Y _ Y ⟨rfl, rfl, rfl, by simp, fun b _ hny => World.putObj_heap_other (fun e => hny (e ▸ hYl)), shape_put h.lh (by simp), fun b _ h => h⟩ g2⟩
    · exact h2.h.ob k o hk
theorem AWp.rangeF {α : Type} {g : Operand} {ps : Array Tmp} {assign body : Code} {gf : Nat} {caps : List Cap} {L : List YV} (fo : α → List (Nat × Ob)) (inv : Nat → α → Prop) (x0 : α) (kr : Nat) (tkl : List (Nat × Ob))
    (hro : cx.rd = none) (hml : cx.ml = true) (hbs : cx.base = none)
    (hg : st.op cx g = .c (.fn gf caps)) (hgo : okOp g = true) (hfn : isFn P gf = true) (hcf : caps.all capF = true)
    (hit : IC P cx.G gf (caps.map Cap.av) L) (hlen : ∀ y ∈ L, y.len = ps.size)
    (hkr : kr < 1000000) (hkn : (∀ y ∈ L, y.row = none) ∨ ∀ x, St.noref ⟨st.tmps, fo x⟩ kr = true)
    (htk : tkl = [] ∨ ∃ F J, tkl = [(TK, .tok F J)] ∧ find st.objs TK = some (.tok F J))
    (hnt : ∀ x, (fo x).all (fun p => noTok p.2) = true)
    (h0 : inv 0 x0) (hs0 : Has st.objs (fo x0))
    (hround : ∀ (cx' : Cx) (sv : List Value) (i : Nat) (y : YV) (x : α), cx'.G = cx.G → cx'.defers = [] → L[i]? = some y → inv i x →
      AWp P cx' assign (rst st ps y kr (fo x) sv) (fun e s => e = .normal ∧ s.objs.all (fun p => noTok p.2) = true ∧ ∀ cx'' : Cx, cx''.G = cx.G → cx''.defers = [] → AWp P cx'' body s (rq Q tkl st sv fo inv i)))
    (hend : ∀ x, inv L.length x → Q .normal ⟨st.tmps, tkl ++ fo x⟩) : AWp P cx (.rangeFunc g ps assign body) st Q := by
  intro a w ⟨fz, β, hs⟩
  rw [hro]
  refine wpIn_rangeFunc ?_
  intro fn _
  obtain ⟨cv, hgv, hcv⟩ : ∃ cv : List Value, a.eval g = .func (.func gf) #[] cv.toArray ∧ All2 (RepCap w fz β) caps cv := by
    have := hs.op g hgo
    rw [hg] at this; exact this
  obtain ⟨rec, hrec⟩ : ∃ rec : LoopState → Option Code → Loop, rec = fun st pe => { state := st, pending := pe, fn, tmps := a.tmps, params := ps, assign, body, defers := w.heap.size } := ⟨_, rfl⟩
  obtain ⟨W1, hW1⟩ : ∃ W1, (w.alloc (.deferred (some []))).alloc (.loop (rec .ready none)) = W1 := ⟨_, rfl⟩
  obtain ⟨l, hl⟩ : ∃ l, l = w.heap.size + 1 := ⟨_, rfl⟩
  have hL1 : W1.heap[l]? = some (.loop (rec .ready none)) := by
    rw [← hW1, hl]; have := World.alloc_heap_new (w.alloc (.deferred (some []))) (.loop (rec .ready none)); rwa [World.size_alloc] at this
  have hold1 : ∀ b, b < w.heap.size → W1.heap[b]? = w.heap[b]? := fun b hb => by
    rw [← hW1]; exact (Below.heap_alloc _ _ _ (by simp; omega)).trans (Below.heap_alloc _ _ _ hb)
  have hD1 : W1.heap[w.heap.size]? = some (.deferred (some [])) := by
    rw [← hW1]; exact (Below.heap_alloc _ _ _ (by simp)).trans (World.alloc_heap_new w _)
  have hsz1 : W1.heap.size = w.heap.size + 2 := by rw [← hW1]; simp
  have hos1 : W1.os = w.os ∧ W1.tape = w.tape ∧ W1.output = w.output := by rw [← hW1]; exact ⟨rfl, rfl, rfl⟩
  obtain ⟨fz1, hfz1⟩ : ∃ fz1 : Nat → Prop, fz1 = fun b => fz b ∨ b = w.heap.size := ⟨_, rfl⟩
  obtain ⟨a1, ha1⟩ : ∃ a1 : Act, a1 = { a with defers := [mark w.heap.size] ++ a.defers } := ⟨_, rfl⟩
  have hlift := hs.lift (w' := W1) (fz' := fz1) hos1.1 hos1.2.1 hos1.2.2 (by omega) hold1 (fun b hb => by rw [hfz1]; exact .inl hb) (fun b hb => by rw [hfz1] at hb; exact hb.imp id (fun h => by omega)) (fun b hb => by
    rw [hfz1] at hb
    rcases hb with hb | hb
    · have := hs.h.fzlt b hb; omega
    · omega)
  have hsr1 : SR cx ⟨st.tmps, fo x0⟩ a1 W1 fz1 β := by
    refine ⟨?_, hlift.low, hlift.rel, ⟨hlift.h.lt, hlift.h.fzlt, hlift.h.inj, hlift.h.apart, fun k o hk => hlift.h.ob k o (hs0 k o hk)⟩, by rw [ha1]; exact hlift.t⟩
    obtain ⟨⟨Ds, d1, d2, d3⟩, d4, d5⟩ := hs.d
    obtain ⟨⟨Ds', d1', d2', d3'⟩, d4', d5'⟩ := hlift.d
    have hlow : ∀ D ∈ Ds, D < w.heap.size := fun D hD => (Array.getElem?_eq_some_iff.1 (d3 D hD).2.2.1).1
    refine ⟨⟨w.heap.size :: Ds, by rw [ha1]; simp [d1], List.nodup_cons.2 ⟨fun h => by have := hlow _ h; omega, d2⟩, fun D hD => ?_⟩, fun W2 f b hb => (by rw [hbs] at hb; cases hb), fun hh => (by rw [hml] at hh; cases hh)⟩
    rcases List.mem_cons.1 hD with rfl | hD
    · exact ⟨hs.rel.size, by rw [hfz1]; exact .inr rfl, hD1, fun k hk => by have := hs.h.lt _ _ hk; omega⟩
    · obtain ⟨g1, g2, g3, g4⟩ := d3 D hD
      exact ⟨g1, by rw [hfz1]; exact .inl g2, (hold1 D (hlow D hD)).trans g3, g4⟩
  obtain ⟨Y, hY, hYt⟩ : ∃ Y : Nat → Prop, (∀ b, w.heap.size ≤ b → Y b) ∧ ∀ Fo Jo, tkl = [(TK, .tok Fo Jo)] → Abi Jo ∧ Jo W1 Y ∧ (∀ k b, β k = some b → Y b) ∧ (∀ b, fz1 b → Fo b ∨ Y b) := by
    rcases htk with h | ⟨F, J, h, hf⟩
    · exact ⟨fun _ => True, fun _ _ => trivial, fun Fo Jo he => by rw [h] at he; cases he⟩
    · obtain ⟨g1, X, g2, g3, g4⟩ := hs.h.ob _ _ hf
      refine ⟨fun b => X b ∨ w.heap.size ≤ b, fun b hb => .inr hb, fun Fo Jo he => ?_⟩
      rw [h] at he; cases he
      refine ⟨g1, g1 w X W1 _ ⟨hos1.1, hos1.2.1, hos1.2.2, by omega, fun b hb _ => hold1 b hb, fun b s hs => (shape_eq (hold1 b (shape_lt hs))).trans hs, fun b hb h => h.resolve_right (by omega)⟩ g4, fun k b hk => .inl (g2 k b hk), fun b hb => ?_⟩
      rw [hfz1] at hb
      rcases hb with hb | hb
      · exact (g3 b hb).imp id .inl
      · exact .inr (.inr (by omega))
  have hFl : ¬ fz1 l := fun h => by
    rw [hfz1] at h
    rcases h with h | h
    · have := hs.h.fzlt l h; omega
    · omega
  have hYl : Y l := hY l (by omega)
  have hw0 : cx.w0.heap.size ≤ l := by have := hs.rel.size; omega
  have hJC0 : JC cx st.tmps a1 fz1 Y l (w.heap.size + 2) tkl (fo x0) (rec .ready none) W1 (fun _ => False) fz1 β :=
    ⟨hsr1, hnt x0, hL1, fun k hk => by have := hs.h.lt _ _ hk; omega, fun b hb => hb.elim, fun b hb => hb, by omega, hYt⟩
  have htk' : tkl = [] ∨ ∃ F J, tkl = [(TK, .tok F J)] := htk.imp id fun ⟨F, J, h, _⟩ => ⟨F, J, h⟩
  refine ⟨l, [mark w.heap.size], W1, { target := .fn (.func gf) cv.toArray, args := #[.func (.yield l) #[] #[]] }, W1, gf, #[.func (.yield l) #[] #[]] ++ cv.toArray, W1, ?_, ?_, fun _ _ => trivial, ?_, fun h => (by cases h), ?_⟩
  · rw [← hW1, hrec, hl]; exact run_enterLoop_outer _ _ _ _ _
  · simp only [resolve, hgv]
    simp [go_sem]
  · simp [invoke, go_sem, run_callFunc hfn]
  · have ecv : (#[.func (.yield l) #[] #[]] ++ cv.toArray : Array Value) = (.func (.yield l) #[] #[] :: cv).toArray := by simp
    rw [ecv]
    refine callsIn_fwr ((hit W1 fz1 (.func (.yield l) #[] #[] :: cv) l
      (fun i W X => ∃ x fz β, inv i x ∧ JC cx st.tmps a1 fz1 Y l (w.heap.size + 2) tkl (fo x) (rec .ready none) W X fz β)
      (fun W X => ∃ c os fz β, pst Q st.tmps tkl c os ∧ JC cx st.tmps a1 fz1 Y l (w.heap.size + 2) tkl os (rec .done (some c)) W X fz β)
      hsr1.h.fzlt hsr1.rel.glob ?_ ⟨?_, ?_, ?_⟩ ⟨x0, fz1, β, h0, hJC0⟩).mono ?_)
    · refine .cons (.s _ rfl) ?_
      have hA : Adv fz w W1 := .of (fun b hb => hold1 b (hs.h.fzlt b hb)) (fun b s hs => (shape_eq (hold1 b (shape_lt hs))).trans hs)
      have : All2 (fun c v => capF c = true ∧ RepCap w fz β c v) caps cv := hcv.mono fun c v hc h => ⟨List.all_eq_true.1 hcf c hc, h⟩
      exact this.map _ fun c v h => capF_av h.1 h.2 hA (fun b hb => by rw [hfz1]; exact .inl hb)
    · rintro i W X W' X' hst ⟨x, fz2, β2, g1, g2⟩
      exact ⟨x, fz2, β2, g1, g2.abi hbs hml (by omega) (n1' := w.heap.size) (by omega) hY (by omega) hst⟩
    · rintro W X W' X' hst ⟨c, os, fz2, β2, g1, g2⟩
      exact ⟨c, os, fz2, β2, g1, g2.abi hbs hml (by omega) (n1' := w.heap.size) (by omega) hY (by omega) hst⟩
    · -- a round
      rintro i y hy W X ob vs hXlt hobX ⟨x, fzc, βc, hinv, hj⟩ hrep
      have hymem : y ∈ L := List.mem_of_getElem? hy
      have hvl : vs.toArray.size = ps.size := by simp [YV.rep_len hrep, hlen y hymem]
      have hyr := run_yield (P := P) (args := vs.toArray) hj.lh (by rw [hvl]; rw [hrec])
      obtain ⟨βr, hsrr, hargs, hβr⟩ := hj.sr.imp_row hbs hrep hkr (hkn.imp (fun h => h y hymem) (fun h => h x)) (fun b hb => by
        obtain ⟨g1, g2, g3⟩ := hj.xd b (hobX b hb)
        exact ⟨by omega, hXlt b (hobX b hb), g2, g3⟩) hj.nt
      rw [hrec] at hyr
      refine ⟨fn, _, assign, body, hyr, roundIn_of_wpIn trivial ?_⟩
      have hβr' : ∀ k b, βr k = some b → (∃ k', βc k' = some b) ∨ (X b ∧ ¬ (X b ∧ ob ≠ some b)) := fun k b hk => (hβr k b hk).imp id fun h => ⟨hobX b h, fun hh => hh.2 h⟩
      have hlr : ∀ k, βr k ≠ some l := fun k hk => by
        rcases hβr' k l hk with ⟨k', h1⟩ | ⟨h1, _⟩
        · exact hj.lβ k' h1
        · have := (hj.xd l h1).1; omega
      have hlW : l < W.heap.size := (Array.getElem?_eq_some_iff.1 hj.lh).1
      -- the round's frame
      have hrep0 : StRep { cx with defers := [], rd := some l, ml := false, base := some (W, fzc, βr) } (rst st ps y kr (fo x) a.tmps.toList) { tmps := (ps.zip vs.toArray).foldl (fun t (p, v) => t.setIfInBounds p v) a.tmps, defers := [] } W := by
        refine ⟨fzc, βr, ⟨⟨[], rfl, List.nodup_nil, fun D hD => (by cases hD)⟩, fun W2 f b hb => ?_, fun _ => rfl⟩, hsrr.low, hsrr.rel.of, ⟨hsrr.h.lt, hsrr.h.fzlt, hsrr.h.inj, hsrr.h.apart, fun k o hk => ?_⟩, ?_⟩
        · cases hb; exact Stp.refl _ _ _
        · have hk : find (y.objs kr ++ (fo x ++ [(SV, .sav st.tmps a.tmps.toList)])) k = some o := hk
          rw [← List.append_assoc, find_app] at hk
          cases hf : find (y.objs kr ++ fo x) k with
          | some o' => rw [hf] at hk; cases hk; exact hsrr.h.ob k o hf
          | none =>
            rw [hf] at hk
            simp only [Option.none_or, find_cons] at hk
            split at hk
            · cases hk
              have := hsrr.t
              rw [ha1] at this
              exact this
            · cases hk
        · have ht := hsrr.t
          rw [ha1] at ht
          have := setT_rep (R := RepA W fzc βr) ps.toList (ts := st.tmps) (vs := a.tmps) ht hargs
          have ez : (ps.zip vs.toArray).foldl (fun t (p, v) => t.setIfInBounds p v) a.tmps = (ps.toList.zip vs).foldl (fun (t : Array Value) (p : Nat × Value) => t.setIfInBounds p.1 p.2) a.tmps := by
            rw [← Array.foldl_toList, Array.toList_zip]
          show All2 _ (setT st.tmps ps.toList (y.args kr)) _
          simp only [ez]
          exact this
      have hass := hround { cx with defers := [], rd := some l, ml := false, base := some (W, fzc, βr) } a.tmps.toList i y x rfl rfl hy hinv _ _ hrep0
      refine wpIn_mono hass ?_
      rintro e a2 w2 ⟨s2, ⟨rfl, hnt2, hbody⟩, fz2, β2, hs2⟩
      have hst2 : Stp W fzc βr w2 fz2 β2 := hs2.d.pr _ _ _ rfl
      have hl2 : w2.heap[l]? = some (.loop (rec .ready none)) := (hst2.blk l hlW hlr).trans hj.lh
      have hl2β : ∀ k, β2 k ≠ some l := fun k hk => by obtain ⟨k', h⟩ := hst2.own k l hlW hk; exact hlr k' h
      refine ⟨_, run_beginRound hl2 (by rw [hrec]), ?_⟩
      obtain ⟨busy, hbusy⟩ : ∃ busy : Loop, busy = { rec .ready none with state := .busy } := ⟨_, rfl⟩
      rw [← hbusy]
      have hl3 : (w2.putObj l (.loop busy)).heap[l]? = some (.loop busy) := World.putObj_heap_same (Array.getElem?_eq_some_iff.1 hl2).1
      have hs3 : StRep { cx with defers := [], rd := some l, ml := false, base := some (w2.putObj l (.loop busy), fz2, β2) } s2 a2 (w2.putObj l (.loop busy)) := by
        have hA : SR { cx with defers := [], rd := some l, ml := false, base := none } s2 a2 w2 fz2 β2 := ⟨⟨hs2.d.ds, fun W2 f b hb => (by cases hb), fun _ => hs2.d.lo rfl⟩, hs2.low, hs2.rel.of, hs2.h, hs2.t⟩
        have hB : SR { cx with defers := [], rd := some l, ml := false, base := none } s2 a2 (w2.putObj l (.loop busy)) fz2 β2 := by
          have hdf := hs2.d.lo rfl
          refine hA.far rfl rfl rfl (by simp) (shape_put hl2 (by simp)) (fun b hb' hc => World.putObj_heap_other fun e => ?_) (fun b _ o v hv => cell_put hl2 (by simp) b o v hv) ⟨⟨[], hdf, List.nodup_nil, fun D hD => (by cases hD)⟩, fun W2 f b hb => (by cases hb), fun _ => hdf⟩ rfl (fun k F J hk => (noTok_all hnt2 hk).elim)
          subst e
          rcases hc with ⟨_, hc⟩ | ⟨k, hc⟩
          · have hc : b < cx.w0.heap.size := hc; omega
          · exact hl2β k hc
        exact ⟨fz2, β2, ⟨hB.d.ds, fun W2 f b hb => (by cases hb; exact Stp.refl _ _ _), fun _ => hB.d.lo rfl⟩, hB.low, hB.rel.of, hB.h, hB.t⟩
      refine wpIn_mono (hbody { cx with defers := [], rd := some l, ml := false, base := some (w2.putObj l (.loop busy), fz2, β2) } rfl rfl _ _ hs3) ?_
      rintro e a4 w4 ⟨s4, q, fz4, β4, hs4⟩
      have hst4 : Stp (w2.putObj l (.loop busy)) fz2 β2 w4 fz4 β4 := hs4.d.pr _ _ _ rfl
      have hl4 : w4.heap[l]? = some (.loop busy) := (hst4.blk l (Array.getElem?_eq_some_iff.1 hl3).1 hl2β).trans hl3
      have fin : ∀ (jump : Option Code) (os' : List (Nat × Ob)), Has s4.objs os' → os'.all (fun p => noTok p.2) = true → find s4.objs SV = some (.sav st.tmps a.tmps.toList) →
          ∃ w5, (Instr.endRound l jump).run P w4 = .ok (.bool jump.isNone) w5 ∧ JC cx st.tmps a1 fz1 Y l (w.heap.size + 2) tkl os' (rec (if jump.isNone then .ready else .done) jump) w5 (fun b => X b ∧ ob ≠ some b) fz4 β4 ∧ Kp W (fun b => (X b ∧ ob ≠ some b) ∨ fz1 b) w5 := fun jump os' hos hnt' hsv => by
        refine ⟨_, run_endRound jump hl4, ?_⟩
        have hst : StpL l W fzc βr (w4.putObj l (.loop { busy with state := if jump.isNone then .ready else .done, pending := jump })) fz4 β4 := ((hst2.toL l).trans (StpL.put hl2)).trans ((hst4.toL l).trans (StpL.put hl4))
        have hend : (w4.putObj l (.loop { busy with state := if jump.isNone then .ready else .done, pending := jump })).heap[l]? = some (.loop (rec (if jump.isNone then .ready else .done) jump)) := by
          rw [World.putObj_heap_same (Array.getElem?_eq_some_iff.1 hl4).1, hbusy, hrec]
        have hs5 : SR { cx with defers := [], rd := some l, ml := false, base := none } ⟨st.tmps, os'⟩ { tmps := a.tmps, defers := [] } (w4.putObj l (.loop { busy with state := if jump.isNone then .ready else .done, pending := jump })) fz4 β4 := by
          have hA : SR { cx with defers := [], rd := some l, ml := false, base := none } ⟨st.tmps, os'⟩ { tmps := a.tmps, defers := [] } w4 fz4 β4 := ⟨⟨⟨[], rfl, List.nodup_nil, fun D hD => (by cases hD)⟩, fun W2 f b hb => (by cases hb), fun _ => rfl⟩, hs4.low, hs4.rel.of, ⟨hs4.h.lt, hs4.h.fzlt, hs4.h.inj, hs4.h.apart, fun k o hk => hs4.h.ob k o (hos k o hk)⟩, hs4.h.ob _ _ hsv⟩
          refine hA.far rfl rfl rfl (by simp) (shape_put hl4 (by simp)) (fun b hb' hc => World.putObj_heap_other fun e => ?_) (fun b _ o v hv => cell_put hl4 (by simp) b o v hv) ⟨⟨[], rfl, List.nodup_nil, fun D hD => (by cases hD)⟩, fun W2 f b hb => (by cases hb), fun _ => rfl⟩ rfl (fun k F J hk => (noTok_all hnt' hk).elim)
          subst e
          rcases hc with ⟨_, hc⟩ | ⟨k, hc⟩
          · have hc : b < cx.w0.heap.size := hc; omega
          · obtain ⟨k', h⟩ := hst4.own k b (by simpa using (Array.getElem?_eq_some_iff.1 hl2).1) hc; exact hl2β k' h
        obtain ⟨g1, g2⟩ := hj.go (a2 := a1) (X' := fun b => X b ∧ ob ≠ some b) (n1' := w.heap.size) hbs hml (by omega) hYl (by omega) hY hFl hβr' (fun b hb => ⟨hb.1, hXlt b hb.1⟩) hst hend hnt' hs5.rel.of hs5.h (by rw [ha1]; exact hs5.t)
        exact ⟨g1, ⟨hst.os, hst.tape, hst.output, hst.size, hst.shp, g2⟩⟩
      cases e with
      | normal =>
        obtain ⟨x', hi', hh, hsv⟩ := q
        obtain ⟨w5, r1, r2, r3⟩ := fin none _ hh (hnt x') hsv
        exact ⟨_, w5, r1, r3, .inl ⟨rfl, x', fz4, β4, hi', r2⟩⟩
      | ret =>
        obtain ⟨q1, q2, q3⟩ := q
        obtain ⟨w5, r1, r2, r3⟩ := fin (some .ret) _ (fun k o h => find_odel h) q2 q3
        exact ⟨_, w5, r1, r3, .inr ⟨rfl, .ret, _, fz4, β4, q1, r2⟩⟩
      | exit id =>
        obtain ⟨q1, q2, q3⟩ := q
        obtain ⟨w5, r1, r2, r3⟩ := fin (some (.exit id)) _ (fun k o h => find_odel h) q2 q3
        exact ⟨_, w5, r1, r3, .inr ⟨rfl, .exit id, _, fz4, β4, q1, r2⟩⟩
      | goto t =>
        obtain ⟨q1, q2, q3⟩ := q
        obtain ⟨w5, r1, r2, r3⟩ := fin (some (.goto t)) _ (fun k o h => find_odel h) q2 q3
        exact ⟨_, w5, r1, r3, .inr ⟨rfl, .goto t, _, fz4, β4, q1, r2⟩⟩
      | panic ch => exact q.elim
      | outgrown => exact q.elim
    · rintro e W2 ⟨v, r, rfl, _, X, ⟨_, x, fz2, β2, hi, hj⟩ | ⟨_, c, os, fz2, β2, hp, hj⟩⟩
      · refine ⟨none, _, ?_, ⟨_, hend x hi, ha1 ▸ hj.shut hbs hml hYl hw0 htk' (rc' := { rec .ready none with state := .exhausted })⟩⟩
        have := run_endLoop (P := P) hj.lh (by rw [hrec]; simp)
        rw [hrec] at this ⊢; exact this
      · refine ⟨some c, W2.putObj l (.loop { rec .done (some c) with state := .exhausted }), ?_, ?_⟩
        · have := run_endLoop (P := P) hj.lh (by rw [hrec]; simp)
          rw [hrec] at this ⊢; exact this
        · have hsh := hj.shut hbs hml hYl hw0 htk' (rc' := { rec .done (some c) with state := .exhausted })
          rw [ha1] at hsh
          cases c <;> simp only [pst] at hp
          case ret => exact wpIn_ret ⟨_, hp, hsh⟩
          case exit id => exact wpIn_exit ⟨_, hp, hsh⟩
          case goto t => exact wpIn_goto ⟨_, hp, hsh⟩
end
end Go.Proofs.Vl
end
section
/- Captured variables that are only read from now on; small rules for loops over functions. -/
set_option linter.all false
namespace Go.Proofs.Vl
open Go Go.RowKit
def capFz (k : Nat) (cs : List PV) : Cap → Cap
  | .key j => cond (j == k) (.fz cs) (.key j)
  | .val x => .val x
  | .fz x => .fz x
def CV.fzb (k : Nat) (cs : List PV) : CV → CV
  | .ptr j off => cond (j == k) (.eptr (cs.drop off)) (.ptr j off)
  | .fn f caps => .fn f (caps.map (capFz k cs))
  | .own j s n => cond (j == k) .any (.own j s n)
  | .win j s off n => cond (j == k) .any (.win j s off n)
  | .rptr j s i c => cond (j == k) .any (.rptr j s i c)
  | .mp j => cond (j == k) .any (.mp j)
  | .p x => .p x
  | .eptr x => .eptr x
  | .any => .any
def TV.fzb (k : Nat) (cs : List PV) : TV → TV
  | .c x => .c (x.fzb k cs)
  | .agg xs => .agg (xs.map (CV.fzb k cs))
  | .pag xs => .pag xs
def AV.fzb (k : Nat) (cs : List PV) : AV → AV
  | .c x => .c (x.fzb k cs)
  | .agg xs => .agg (xs.map (CV.fzb k cs))
  | .pag xs => .pag xs
  | .tup zs => .tup (zs.map (TV.fzb k cs))
def Ob.fzb (k : Nat) (cs : List PV) : Ob → Ob
  | .cells T xs => .cells T (xs.map (CV.fzb k cs))
  | .pcells T xs => .pcells T xs
  | .row T s xs => .row T s xs
  | .mapo es clock => .mapo es clock
  | .tok F J => .tok F J
  | .sav zs vs => .sav (zs.map (AV.fzb k cs)) vs
def ofzb (k : Nat) (cs : List PV) : List (Nat × Ob) → List (Nat × Ob)
  | [] => []
  | (j, o) :: r => cond (j == k) (ofzb k cs r) ((j, o.fzb k cs) :: ofzb k cs r)
theorem find_ofzb (k : Nat) (cs : List PV) (j : Nat) : ∀ os : List (Nat × Ob), find (ofzb k cs os) j = if j = k then none else (find os j).map (Ob.fzb k cs)
  | [] => by simp [ofzb, find]
  | (i, o) :: r => by
    have ih := find_ofzb k cs j r
    unfold ofzb
    by_cases h : i = k
    · subst h
      simp only [BEq.rfl, cond_true, ih, find_cons]
      by_cases h2 : j = i
      · simp [h2]
      · rw [if_neg h2, if_neg h2, if_neg (Ne.symm h2)]
    · have h' : (i == k) = false := by simpa using h
      simp only [h', cond_false, find_cons, ih]
      by_cases h2 : i = j
      · subst h2; simp [h]
      · rw [if_neg h2, if_neg h2]
section
variable {P : Program} {cx : Cx} {st st' : St} {a a' : Act} {w w' : World} {fz : Nat → Prop} {β : Nat → Option Nat} {Q : Exit → St → Prop} {c : Code} {K : St → Prop} {kp : Bool} {o : Oper}
theorem SR.freezeB (hs : SR cx st a w fz β) {k : Nat} {T : TypeId} {cs : List PV} (hlow : k < 1000000) (hf : find st.objs k = some (.pcells T cs)) :
    ∃ fz2, SR cx ⟨st.tmps.map (AV.fzb k cs), ofzb k cs st.objs⟩ a w fz2 (bup β k none) := by
  have hβk : ∀ b, β k = some b → cx.w0.heap.size ≤ b := fun b hb => (hs.rel.bout k b hb).resolve_left (by rw [hs.low k hlow]; simp)
  refine ⟨fun b => fz b ∨ β k = some b, ?_⟩
  have hsub : ∀ b, fz b → fz b ∨ β k = some b := fun b hb => .inl hb
  obtain ⟨b0, vs, hb0, hh, hvs⟩ := hs.h.ob k _ hf
  have hE : ∀ off, RepE w (fun b => fz b ∨ β k = some b) (cs.drop off) (.pointer (some ⟨b0, off, none⟩)) := fun off => by
    refine ⟨b0, off, rfl, fun _ => .inr hb0, fun c x hx => ?_⟩
    rw [List.getElem?_drop] at hx
    obtain ⟨v, h1, h2⟩ := hvs.get hx
    exact ⟨v, by rw [cellAt hh]; exact h1, h2.adv (Adv.refl _ _) hsub⟩
  have hne : ∀ {j : Nat}, (j == k) = false → bup β k none j = β j := fun h => bup_other _ _ _ (by simpa using h)
  have hcap : ∀ x v, RepCap w fz β x v → RepCap w (fun b => fz b ∨ β k = some b) (bup β k none) (capFz k cs x) v := fun x v h => by
    cases x with
    | key j =>
      obtain ⟨b, h1, h2⟩ := h
      dsimp only [capFz]
      cases hj : (j == k) with
      | true =>
        have hj' : j = k := by simpa using hj
        subst hj'
        rw [hb0] at h1; cases h1
        subst h2
        have := hE 0
        rw [List.drop_zero] at this
        exact this
      | false => exact ⟨b, (hne hj).trans h1, h2⟩
    | val x => exact h
    | fz x => exact RepE.adv h (Adv.refl _ _) hsub
  have hC : ∀ x v, RepC w fz β x v → RepC w (fun b => fz b ∨ β k = some b) (bup β k none) (x.fzb k cs) v := by
    intro x v hv
    cases x with
    | ptr j off =>
      dsimp only [CV.fzb]
      cases hj : (j == k) with
      | true =>
        have hj' : j = k := by simpa using hj
        subst hj'
        obtain ⟨b, h1, h2⟩ := hv
        rw [hb0] at h1; cases h1
        subst h2
        exact hE off
      | false => obtain ⟨b, h1, h2⟩ := hv; exact ⟨b, (hne hj).trans h1, h2⟩
    | fn f caps => obtain ⟨cv, h1, h2⟩ := hv; exact ⟨cv, h1, h2.map _ fun x v h => hcap x v h⟩
    | own j s n =>
      dsimp only [CV.fzb]
      cases hj : (j == k) with
      | true => trivial
      | false => exact hv.adv (Adv.refl _ _) hsub (fun i hi => hne (by have : j = i := by simpa [CV.ref] using hi
                                                                       subst this; exact hj))
    | win j s off n =>
      dsimp only [CV.fzb]
      cases hj : (j == k) with
      | true => trivial
      | false => exact hv.adv (Adv.refl _ _) hsub (fun i hi => hne (by have : j = i := by simpa [CV.ref] using hi
                                                                       subst this; exact hj))
    | rptr j s i c =>
      dsimp only [CV.fzb]
      cases hj : (j == k) with
      | true => trivial
      | false => exact hv.adv (Adv.refl _ _) hsub (fun i hi => hne (by have : j = i := by simpa [CV.ref] using hi
                                                                       subst this; exact hj))
    | mp j =>
      dsimp only [CV.fzb]
      cases hj : (j == k) with
      | true => trivial
      | false => exact hv.adv (Adv.refl _ _) hsub (fun i hi => hne (by have : j = i := by simpa [CV.ref] using hi
                                                                       subst this; exact hj))
    | p x => exact hv.adv (Adv.refl _ _) hsub (fun i hi => by cases hi)
    | eptr x => exact hv.adv (Adv.refl _ _) hsub (fun i hi => by cases hi)
    | any => trivial
  have hC1 : ∀ x v, RepC1 w fz β x v → RepC1 w (fun b => fz b ∨ β k = some b) (bup β k none) (x.fzb k cs) v := fun x v h => ⟨h.1, hC x v h.2⟩
  have hP : ∀ x v, RepP w fz x v → RepP w (fun b => fz b ∨ β k = some b) x v := fun x v h => h.adv (Adv.refl _ _) hsub
  have hst : Stp w fz β w (fun b => fz b ∨ β k = some b) (bup β k none) := .here (fun _ h => .inl h) (fun b _ hb => hb.imp id (fun h => ⟨k, h⟩)) (Stp.bupN w fz β k).own
  have hAV : ∀ x v, RepA w fz β x v → RepA w (fun b => fz b ∨ β k = some b) (bup β k none) (x.fzb k cs) v := fun x v hx => by
    cases x with
    | c y => exact hC y v hx
    | agg cs => obtain ⟨vs, h1, h2⟩ := hx; exact ⟨vs, h1, h2.map _ fun y u hy => hC1 y u hy⟩
    | pag cs => obtain ⟨vs, h1, h2⟩ := hx; exact ⟨vs, h1, h2.mono fun y u _ hy => hP y u hy⟩
    | tup zs =>
      obtain ⟨vs, h1, h2⟩ := hx
      refine ⟨vs, h1, h2.map _ fun z u hz => ?_⟩
      cases z with
      | c y => exact hC y u hz
      | agg cs => obtain ⟨vs, h1, h2⟩ := hz; exact ⟨vs, h1, h2.map _ fun y u hy => hC1 y u hy⟩
      | pag cs => obtain ⟨vs, h1, h2⟩ := hz; exact ⟨vs, h1, h2.mono fun y u _ hy => hP y u hy⟩
  refine ⟨hs.d.stp hst, hs.low, ⟨hs.rel.os, hs.rel.tape, hs.rel.output, hs.rel.size, hs.rel.old, hs.rel.shp, fun b hb => .inl (hs.rel.fzin b hb), fun b hb => ?_, fun j b hj => ?_, fun j b hj => ?_, fun g cs hg => (hs.rel.glob g cs hg).glob_adv (Adv.refl _ _) hsub, fun j hj h0 => (bup_other _ _ _ (by omega)).trans (hs.rel.bhi j hj h0)⟩, ⟨fun j b hj => ?_, fun b hb => ?_, fun j j' b h1 h2 => ?_, fun b hb j hj => ?_, fun j o hj => ?_⟩, hs.t.map _ fun x v hx => hAV x v hx⟩
  · rcases hb with hb | hb
    · exact hs.rel.fzout b hb
    · exact .inr (hβk b hb)
  · have : j ≠ k := fun e => by subst e; rw [hs.low j hlow] at hj; cases hj
    rw [bup_other _ _ _ this]; exact hs.rel.bin j b hj
  · by_cases hjk : j = k
    · subst hjk; rw [bup_same] at hj; cases hj
    · rw [bup_other _ _ _ hjk] at hj; exact hs.rel.bout j b hj
  · by_cases hjk : j = k
    · subst hjk; rw [bup_same] at hj; cases hj
    · rw [bup_other _ _ _ hjk] at hj; exact hs.h.lt j b hj
  · rcases hb with hb | hb
    · exact hs.h.fzlt b hb
    · exact hs.h.lt _ _ hb
  · by_cases hjk : j = k
    · subst hjk; rw [bup_same] at h1; cases h1
    · by_cases hjk' : j' = k
      · subst hjk'; rw [bup_same] at h2; cases h2
      · rw [bup_other _ _ _ hjk] at h1; rw [bup_other _ _ _ hjk'] at h2; exact hs.h.inj _ _ _ h1 h2
  · by_cases hjk : j = k
    · subst hjk; rw [bup_same] at hj; cases hj
    · rw [bup_other _ _ _ hjk] at hj
      rcases hb with hb | hb
      · exact hs.h.apart b hb j hj
      · exact hjk (hs.h.inj _ _ _ hj hb)
  · rw [find_ofzb] at hj
    by_cases hjk : j = k
    · rw [if_pos hjk] at hj; cases hj
    · rw [if_neg hjk] at hj
      obtain ⟨o', ho, rfl⟩ := Option.map_eq_some_iff.1 hj
      have hO := hs.h.ob j o' ho
      have hb := bup_other β k none hjk
      cases o' with
      | cells T' cs => obtain ⟨b, vs, h1, h2, h3⟩ := hO; exact ⟨b, vs, hb.trans h1, h2, h3.map _ fun x v hx => hC1 x v hx⟩
      | pcells T' cs => obtain ⟨b, vs, h1, h2, h3⟩ := hO; exact ⟨b, vs, hb.trans h1, h2, h3.mono fun x v _ hx => hP x v hx⟩
      | row T' s ys =>
        rcases hO with ⟨h1, h2⟩ | ⟨b, vs, h1, h2, h3, h4, h5⟩
        · exact .inl ⟨hb.trans h1, h2⟩
        · exact .inr ⟨b, vs, hb.trans h1, h2, h3, h4, h5.mono fun x v _ hx => hP x v hx⟩
      | mapo es clock => obtain ⟨b, h1, h2⟩ := hO; exact ⟨b, hb.trans h1, h2⟩
      | tok F J => exact tok_stp hO hst
      | sav zs vs => exact All2.map (R := RepA w fz β) _ hO fun x v hx => hAV x v hx
theorem Le.freezeB {k : Nat} {T : TypeId} {cs : List PV} (hlow : k < 1000000) (hf : find st.objs k = some (.pcells T cs)) : Le cx st ⟨st.tmps.map (AV.fzb k cs), ofzb k cs st.objs⟩ := by
  rintro a w ⟨fz, β, hs⟩
  obtain ⟨fz2, h2⟩ := hs.freezeB hlow hf
  exact ⟨fz2, _, h2⟩
theorem zbA (k : Nat) {T : TypeId} {cs : List PV} (hlow : k < 1000000 := by decide) (hf : find st.objs k = some (.pcells T cs) := by rfl)
    (hs : (⟨st.tmps.map (AV.fzb k cs), ofzb k cs st.objs⟩ : St) = st' := by (dsimp only [List.map, AV.fzb, CV.fzb, TV.fzb, Ob.fzb, ofzb, capFz, Nat.reduceBEq, cond_true, cond_false, List.drop_zero] <;> exact rfl)) (h : AWp P cx c st' Q) : AWp P cx c st Q := AWp.weak (Le.freezeB hlow hf) (hs ▸ h)
theorem zbO (k : Nat) {T : TypeId} {cs : List PV} (hlow : k < 1000000 := by decide) (hf : find st.objs k = some (.pcells T cs) := by rfl)
    (hs : (⟨st.tmps.map (AV.fzb k cs), ofzb k cs st.objs⟩ : St) = st' := by (dsimp only [List.map, AV.fzb, CV.fzb, TV.fzb, Ob.fzb, ofzb, capFz, Nat.reduceBEq, cond_true, cond_false, List.drop_zero] <;> exact rfl)) (h : OpTo P cx kp o st' K) : OpTo P cx kp o st K := OpTo.weak (Le.freezeB hlow hf) (hs ▸ h)
/-- A function that is there is not nil. -/
theorem Val.fnNil {dst : Option Tmp} {ty tx t2 : TypeId} {pos : String} {af : Array Edge} {gd : Option (Nat × Bool)} {x : Operand} {f : Nat} {caps : List Cap} {ps rs : Array TypeId} {v : Bool} (hx : st.op cx x = .c (.fn f caps)) (ho : okOp x = true) (hu : P.underlying tx = some (.func ps rs v)) :
    Val P cx true ⟨dst, .binOp .eql tx x (.const .nilFunc) t2, ty, pos, af, gd⟩ st (.c (.p (.s (.bool false)))) := fun a w fz β hs => by
  refine ⟨.bool false, .s _ rfl, fun w' _ => ?_⟩
  obtain ⟨cv, hv, _⟩ : RepC w fz β (.fn f caps) (a.eval x) := by have := hs.op x ho; rw [hx] at this; exact this
  have h1 : (Op.equal tx (.func (.func f) #[] cv.toArray) .nilFunc).run P w' = .ok false w' := by
    show (Op.equalIn (Nat.succ 9999) tx (.func (.func f) #[] cv.toArray) .nilFunc).run P w' = .ok false w'
    generalize (9999 : Nat) = n
    simp [Op.equalIn, run_underlying hu]
  have hy : a.eval (.const .nilFunc) = .nilFunc := rfl
  simp [execOp, hv, hy, eqGuard, binOp, h1]
/-- A call whose result may share what it was handed. -/
theorem callAN {dst : Option Tmp} {ty : TypeId} {pos : String} {af : Array Edge} {gd : Option (Nat × Bool)} {f : Nat} {xs : List Operand} {args : List AV} {ats : Array TypeId} {v : AV} (hf : isFn P f = true := by rfl) (ho : okOps xs = true := by rfl) (ha : xs.map (fun x => Vl.nilFro (st.op cx x)) = args := by rfl) (hk : args.all AV.keyless = true := by rfl)
    (hc : AC P cx.G f args [] (fun r _ => r = v)) (hi : avOk true v = true := by rfl) (h : K (st.put dst v)) : OpTo P cx kp ⟨dst, .call { callee := .value (.func f), args := xs.toArray, argTypes := ats }, ty, pos, af, gd⟩ st K :=
  OpTo.callA hc hf ho ha hk (fun r os' hr => by subst hr; exact ⟨_, .val hi, h⟩)
/-- A round's first state, told plainly. -/
theorem AWp.eqR (hs : st = st' := by (dsimp only [rst, setT, YV.args, YV.objs, List.set_cons_zero, List.set_cons_succ, List.cons_append, List.nil_append, List.append_nil] <;> exact rfl)) (h : AWp P cx c st' Q) : AWp P cx c st Q := hs ▸ h
theorem rst0 {p q : Prop} (h : Wr q → p := by intro hq; (refine AWp.eqR (h := ?_)); exact hq.out) (k : q) : p := h ⟨k⟩
/-- The state behind the loop, told plainly. -/
theorem QeqR {e : Exit} (hs : st = st' := by (dsimp only [odel, List.cons_append, List.nil_append, Nat.reduceBEq, cond_true, cond_false] <;> exact rfl)) (h : Q e st') : Q e st := hs ▸ h
theorem rend {p q : Prop} (h : Wr q → p := by intro hq; (refine QeqR (h := ?_)); exact hq.out) (k : q) : p := h ⟨k⟩
end
end Go.Proofs.Vl
end
section
/- Two statements that may both come next. -/
set_option linter.all false
namespace Go.Proofs.Vl
open Go Go.RowKit
section
variable {P : Program} {cx : Cx} {st : St} {Q : Exit → St → Prop} {K : St → Prop} {ops : Array Oper} {wr : List Nat} {n : Nat} {listed : Array Bool} {ds : List (Option Tmp)} {rem : List (Nat × Oper)}
theorem DR.twoR {i j : Nat} {o p : Oper} (hr : ∀ k ∈ Region.ready .any ops listed, k = i ∨ k = j) (hne : i ∈ Region.ready .any ops listed) (ho : ops[i]? = some o) (hp : ops[j]? = some p) (hg : o.guard = none) (hg' : p.guard = none)
    (h : OpTo P cx (!wr.contains i) o st (fun s => DR P cx ops wr n (listed.setIfInBounds i true) s K)) (h' : OpTo P cx (!wr.contains j) p st (fun s => DR P cx ops wr n (listed.setIfInBounds j true) s K)) : DR P cx ops wr (n + 1) listed st K := fun a w hs => by
  refine ⟨fun h0 => (by rw [h0] at hne; cases hne), fun k hk => ?_⟩
  rcases hr k hk with rfl | rfl
  · unfold wpOpV
    simp only [ho]
    rw [if_pos (by simp [Region.wanted, hg])]
    exact (h a w _ _ hs fun st' a' w' h1 h2 h3 => ⟨h3, h1 a' w' h2⟩)
  · unfold wpOpV
    simp only [hp]
    rw [if_pos (by simp [Region.wanted, hg'])]
    exact (h' a w _ _ hs fun st' a' w' h1 h2 h3 => ⟨h3, h1 a' w' h2⟩)
def only2R (ds : List (Option Tmp)) (rem : List (Nat × Oper)) (i j : Nat) : Bool := rem.all fun p => p.1 == i || p.1 == j || p.2.after.any (fun e => Region.binds .any e && todo rem e.on)
theorem Rest.only2 {i j : Nat} (h : Rest ops ds rem listed) (hc : only2R ds rem i j = true) : ∀ k ∈ Region.ready .any ops listed, k = i ∨ k = j := by
  intro k hj
  obtain ⟨h1, o, h2, h3⟩ := mem_ready.1 hj
  have := List.all_eq_true.1 hc _ (h.unl h2 h1)
  simp only [Bool.or_eq_true, beq_iff_eq] at this
  rcases this with (h4 | h4) | h4
  · exact .inl h4
  · exact .inr h4
  · obtain ⟨e, he, h5⟩ := Array.any_eq_true'.1 h4
    simp only [Bool.and_eq_true] at h5
    have h6 := h3 e he h5.1
    obtain ⟨p, hp, h7⟩ := List.any_eq_true.1 h5.2
    simp only [beq_iff_eq] at h7
    have h8 := h.todo (i := p.1) (o := p.2) hp
    rw [h7] at h8
    rw [Array.getD_eq_getD_getElem?] at h6 h8
    cases hx : listed[e.on]? <;> simp [hx] at h6 h8
    rw [h6] at h8; cases h8
theorem DL.two (k m : Nat) {i j : Nat} {o p : Oper} (hk : rem[k]? = some (i, o)) (hm : rem[m]? = some (j, p)) (hc : (nd rem && readyR ds rem o && only2R ds rem i j) = true) (hg : o.guard = none) (hg' : p.guard = none)
    (h : OpTo P cx (!wr.contains i) o st (fun s => DL P cx ds wr (rem.eraseIdx k) s K)) (h' : OpTo P cx (!wr.contains j) p st (fun s => DL P cx ds wr (rem.eraseIdx m) s K)) : DL P cx ds wr rem st K := fun ops listed hR => by
  simp only [Bool.and_eq_true] at hc
  have e1 := len_erase hk
  have e2 := len_erase hm
  have hmi := List.mem_of_getElem? hk
  have hmj := List.mem_of_getElem? hm
  have e3 : (rem.eraseIdx k).length = (rem.eraseIdx m).length := by omega
  rw [e1]
  refine DR.twoR (hR.only2 hc.2) (hR.ready hmi hc.1.2) (hR.mem _ hmi) (hR.mem _ hmj) hg hg' (h.mono fun s hs => hs _ _ (hR.next hk (nd_nodup hc.1.1))) (h'.mono fun s hs => ?_)
  rw [e3]
  exact hs _ _ (hR.next hm (nd_nodup hc.1.1))
/-- The same, where what waits for it waits through others. -/
theorem wpAnyO_firstT {pu : Bool} {i : Nat} {oi : Oper} {v : Value} {Q : Exit → Act → World → Prop} (S : Nat → Prop) (hi : ops[i]? = some oi) (hsel : ∀ (j : Nat) (o : Oper) cs b, ops[j]? = some o → o.op ≠ .select cs b) (hQ : ∀ c a w, Q (.panic c) (a.put oi.dst v) w → Q (.panic c) a w) :
    ∀ (n : Nat) (listed : Array Bool) (a : Act) (w : World),
      (∀ j oj, ops[j]? = some oj → j ≠ i → listed.getD j true = false → ¬ S j → oi.apart ops oj = true ∧ (pu = true ∨ (!wr.contains j) = true)) →
      (∀ j, S j → j ≠ i ∧ listed.getD j true = false ∧ ∃ oj, ops[j]? = some oj ∧ ∃ e ∈ oj.after, Region.binds .any e = true ∧ (e.on = i ∨ S e.on)) →
      i ∈ Region.ready .any ops listed → YieldsIf P ops (Sof pu w) oi v a → wpAnyO P ops wr Q n (listed.setIfInBounds i true) (a.put oi.dst v) w → wpAnyO P ops wr Q (n + 1) listed a w := by
  intro n
  induction n with
  | zero =>
    intro listed a w _ _ hr hy H
    refine ⟨fun h => (by rw [h] at hr; cases hr), fun j hj => ?_⟩
    by_cases hji : j = i
    · subst hji; exact YieldsIf.wpOpV hi hy (.inr (Old.refl w)) ⟨fun _ => Old.refl w, H⟩
    · have := ready_mono hj hji
      rw [H.1] at this
      cases this
  | succ n ih =>
    intro listed a w hfree hS hr hy H
    refine ⟨fun h => (by rw [h] at hr; cases hr), fun j hj => ?_⟩
    by_cases hji : j = i
    · subst hji; exact YieldsIf.wpOpV hi hy (.inr (Old.refl w)) ⟨fun _ => Old.refl w, H⟩
    · have h1 := H.2 j (ready_mono hj hji)
      obtain ⟨hjun, oj, hoj, hall⟩ := mem_ready.1 hj
      have hun' : ∀ m, listed.getD m true = false → listed[m]?.getD false = true → False := fun m h0 h1 => by
        rcases Nat.lt_or_ge m listed.size with h' | h'
        · simp [h'] at h0 h1; rw [h0] at h1; cases h1
        · simp [Array.getElem?_eq_none h'] at h1
      have hnS : ¬ S j := fun hs => by
        obtain ⟨_, _, oj', hoj', e, he, hb, heq⟩ := hS j hs
        obtain rfl : oj = oj' := Option.some.inj (hoj.symm.trans hoj')
        have h1 := hall e he hb
        rw [Array.getD_eq_getD_getElem?] at h1
        rcases heq with heq | heq
        · rw [heq] at h1; exact hun' i (mem_ready.1 hr).1 h1
        · exact hun' _ (hS _ heq).2.1 h1
      have hfj := hfree j oj hoj hji hjun hnS
      have h2 := wpOpV_putIf hoj hfj.1 (fun cs b => hsel i oi cs b hi) (fun cs b => hsel j oj cs b hoj) hQ hy h1
      refine wpOpV_mono (fun a' w' h3 => ⟨h3.2.1, ih (listed.setIfInBounds j true) a' w' ?_ ?_ (ready_mono hr (Ne.symm hji)) (YieldsIf.sub h3.1 fun u hu => ?_) ?_⟩) h2
      · intro k ok hk hki hun hno
        refine hfree k ok hk hki ?_ hno
        by_cases hjk : j = k
        · subst hjk; exact hjun
        · rw [getD_set_ne true hjk] at hun; exact hun
      · intro k hk
        obtain ⟨g1, g2, g3⟩ := hS k hk
        refine ⟨g1, ?_, g3⟩
        have hjk : ¬ j = k := fun e => hnS (by rw [e]; exact hk)
        rw [getD_set_ne true hjk]; exact g2
      · rcases hu with hu | hu
        · exact .inl hu
        · rcases hfj.2 with hp | hp
          · exact .inl hp
          · exact .inr ((h3.2.1 hp).trans hu)
      · rw [Array.setIfInBounds_comm _ _ hji]
        exact h3.2.2
/-- What waits for number i, straight or through others. -/
def clos : Nat → List (Nat × Oper) → Nat → List Nat → List Nat
  | 0, _, _, B => B
  | n + 1, rem, i, B => clos n rem i ((rem.filter fun p => p.1 != i && p.2.after.any (fun e => Region.binds .any e && (e.on == i || B.contains e.on))).map (·.1))
def freeT (ds : List (Option Tmp)) (wr : List Nat) (pu : Bool) (rem : List (Nat × Oper)) (i : Nat) (oi : Oper) (B : List Nat) : Bool :=
  (rem.all fun p => p.1 == i || B.contains p.1 || (apartD ds oi p.2 && (pu || !wr.contains p.1))) &&
  B.all fun b => rem.any fun p => p.1 == b && b != i && p.2.after.any (fun e => Region.binds .any e && (e.on == i || B.contains e.on))
theorem DL.takeT {pu : Bool} {x : AV} (k : Nat) {i : Nat} {o : Oper} (hk : rem[k]? = some (i, o)) (hc : (nd rem && readyR ds rem o && freeT ds wr pu rem i o (clos rem.length rem i [])) = true) (hg : o.guard = none) (hy : Val P cx pu o st x)
    (h : DL P cx ds wr (rem.eraseIdx k) (st.put o.dst x) K) : DL P cx ds wr rem st K := fun ops listed hR => by
  simp only [Bool.and_eq_true] at hc
  generalize clos rem.length rem i [] = B at hc
  rw [len_erase hk]
  have hm := List.mem_of_getElem? hk
  intro a w hst
  obtain ⟨fz, β, hsr⟩ := hst
  obtain ⟨v, h1, h2⟩ := hy a w fz β hsr
  have hc2 := hc.2
  unfold freeT at hc2
  simp only [Bool.and_eq_true] at hc2
  refine wpAnyO_firstT (pu := pu) (fun j => j ∈ B) (hR.mem _ hm) (Region.noSelect_spec hR.sel) (fun c a w hp => by obtain ⟨hp, _⟩ := hp; cases hp) _ listed a w ?_ ?_ (hR.ready hm hc.1.2) (.inl ⟨by simp [Region.wanted, hg], fun w' hw' => h2 w' hw'⟩) (h _ _ (hR.next hk (nd_nodup hc.1.1)) _ _ ⟨fz, β, hsr.put h1 o.dst⟩)
  · intro j oj hj hne hun hno
    have := List.all_eq_true.1 hc2.1 _ (hR.unl hj hun)
    simp only [Bool.or_eq_true, Bool.and_eq_true, beq_iff_eq, List.contains_iff_mem] at this
    rcases this with (h3 | h3) | h3
    · exact absurd h3 hne
    · exact absurd h3 hno
    · rw [hR.apart]; exact h3
  · intro j hj
    have := List.all_eq_true.1 hc2.2 j hj
    obtain ⟨p, hp, h3⟩ := List.any_eq_true.1 this
    simp only [Bool.and_eq_true, beq_iff_eq, bne_iff_ne, ne_eq] at h3
    obtain ⟨⟨h4, h5⟩, h6⟩ := h3
    obtain ⟨e, he, h7⟩ := Array.any_eq_true'.1 h6
    simp only [Bool.and_eq_true, Bool.or_eq_true, beq_iff_eq, List.contains_iff_mem] at h7
    obtain ⟨q, r⟩ := p
    dsimp only at h4 he
    subst h4
    exact ⟨h5, hR.todo hp, r, hR.mem _ hp, e, he, h7.1, h7.2⟩
end
end Go.Proofs.Vl
end
section
/- Calls that read through a pointer to the caller's own cells. -/
set_option linter.all false
namespace Go.Proofs.Vl
open Go Go.RowKit
def frzP (st : St) : AV → AV
  | .c (.ptr k off) => match find st.objs k with
    | some (.pcells _ cs) => .c (.eptr (cs.drop off))
    | _ => .c (.ptr k off)
  | z => Vl.frz st z
section
variable {P : Program} {cx : Cx} {st st' : St} {a a' : Act} {w w' : World} {fz : Nat → Prop} {β : Nat → Option Nat} {Q : Exit → St → Prop} {c : Code} {K : St → Prop} {kp : Bool} {o : Oper}
variable {dst : Option Tmp} {ty : TypeId} {pos : String} {af : Array Edge} {gd : Option (Nat × Bool)}
theorem SR.frzP (h : SR cx st a w fz β) {z : AV} {v : Value} (hz : RepA w fz β z v) (hk : (Vl.frzP st z).keyless = true) : RepA w (fzAll fz β) (fun _ => none) (Vl.frzP st z) v := by
  cases z with
  | c y =>
    cases y with
    | ptr k off =>
      cases hf : find st.objs k with
      | none => simp [Vl.frzP, hf, AV.keyless] at hk
      | some ob =>
        cases ob with
        | pcells T cs =>
          have e : Vl.frzP st (.c (.ptr k off)) = .c (.eptr (cs.drop off)) := by simp [Vl.frzP, hf]
          rw [e]
          obtain ⟨b, vs, h1, h2, h3⟩ := h.h.ob k _ hf
          obtain ⟨b', h4, h5⟩ := hz
          rw [h1] at h4; cases h4
          subst h5
          refine ⟨b, off, rfl, fun _ => .inr ⟨k, h1⟩, fun c x hx => ?_⟩
          rw [List.getElem?_drop] at hx
          obtain ⟨u, g1, g2⟩ := h3.get hx
          exact ⟨u, by rw [cellAt h2]; exact g1, g2.adv (Adv.refl _ _) (fun b hb => .inl hb)⟩
        | _ => simp [Vl.frzP, hf, AV.keyless] at hk
    | _ => exact h.frz hz hk
  | _ => exact h.frz hz hk
theorem OpTo.callE {f : Nat} {xs : List Operand} {args : List AV} {ats : Array TypeId} {Q : AV → List (Nat × Ob) → Prop} (hf : isFn P f = true) (ho : okOps xs = true) (ha : xs.map (fun x => Vl.frzP st (st.op cx x)) = args) (hk : args.all AV.keyless = true) (hc : AC P cx.G f args [] Q)
    (hq : ∀ r os', Q r os' → ∃ s', Imp false st os' dst r s' ∧ K s') : OpTo P cx kp ⟨dst, .call { callee := .value (.func f), args := xs.toArray, argTypes := ats }, ty, pos, af, gd⟩ st K := by
  intro a w next Qx ⟨fz, β, hs⟩ hn
  subst ha
  have hA : All2 (RepA w (fzAll fz β) (fun _ => none)) (xs.map (fun x => Vl.frzP st (st.op cx x))) (xs.map a.eval) :=
    all2_map_list xs fun x hx => hs.frzP (hs.op x (List.all_eq_true.1 ho x hx)) (by have := List.all_eq_true.1 hk _ (List.mem_map_of_mem (f := fun x => Vl.frzP st (st.op cx x)) hx); exact this)
  have hlt : ∀ b, fzAll fz β b → b < w.heap.size := fun b hb => by rcases hb with h | ⟨k, h⟩; exact hs.h.fzlt b h; exact hs.h.lt k b h
  have hcall := hc w (fzAll fz β) (fun _ => none) (xs.map a.eval) (fun _ _ => rfl) (H.none hlt) hs.glob hA
  unfold wpv
  have hrun : (execOp a.eval ⟨dst, .call { callee := .value (.func f), args := xs.toArray, argTypes := ats }, ty, pos, af, gd⟩).run P w = .ok (.enter f (xs.map a.eval).toArray) w := by
    simp [execOp, resolve, Act.eval, Deferred.ofValue, invoke, run_callFunc hf]
  rw [hrun, upv_enter]
  refine hcall.mono fun e w' ⟨v, r, os', fz', β', h1, h2, h3, h4, h5⟩ => ?_
  subst h1
  obtain ⟨s', h6, h7⟩ := hq r os' h2
  obtain ⟨fz2, β2, h8⟩ := hs.back (m := false) (fun b hb => .inl hb) (fun h => by cases h) h3 h4 h5 h6
  exact hn _ _ _ h7 ⟨fz2, β2, h8⟩ (fun _ => ⟨h3.size, fun b hb => h3.old rfl b hb (fun k => by simp)⟩)
theorem callEN {f : Nat} {xs : List Operand} {args : List AV} {ats : Array TypeId} {v : AV} (hf : isFn P f = true := by rfl) (ho : okOps xs = true := by rfl) (ha : xs.map (fun x => Vl.frzP st (st.op cx x)) = args := by rfl) (hk : args.all AV.keyless = true := by rfl)
    (hc : AC P cx.G f args [] (fun r _ => r = v)) (hi : avOk false v = true := by rfl) (h : K (st.put dst v)) : OpTo P cx kp ⟨dst, .call { callee := .value (.func f), args := xs.toArray, argTypes := ats }, ty, pos, af, gd⟩ st K :=
  OpTo.callE hf ho ha hk hc (fun r os' e => ⟨_, .val (by rw [e]; exact hi), by rw [e]; exact h⟩)
/-- A pointer that is there. -/
theorem Val.nilC {x : Operand} (h1 : okOp x = true) (hA : isAddr (st.op cx x) = true) : Val P cx true ⟨dst, .nilCheck x, ty, pos, af, gd⟩ st (st.op cx x) := fun a w fz β hs => by
  obtain ⟨b, o', h2, h3⟩ := (hs.op x h1).addOff hA
  exact ⟨a.eval x, hs.op x h1, fun w' _ => by simp [execOp, h2]⟩
end
end Go.Proofs.Vl
end
section
/- Function values whose captured things are only read: calls by value. -/
set_option linter.all false
namespace Go.Proofs.Vl
open Go Go.RowKit
def capFix : Cap → Bool
  | .key _ => false
  | .val x => x.oneCell'
  | .fz _ => true
section
variable {P : Program} {cx : Cx} {st st' : St} {a a' : Act} {w w' : World} {fz : Nat → Prop} {β : Nat → Option Nat} {Q : Exit → St → Prop} {c : Code} {K : St → Prop} {kp : Bool} {o : Oper}
variable {dst : Option Tmp} {ty : TypeId} {pos : String} {af : Array Edge} {gd : Option (Nat × Bool)}
theorem RepCap.fix {c : Cap} {v : Value} (h : RepCap w fz β c v) (ho : capFix c = true) {β' : Nat → Option Nat} : RepA w (fzAll fz β) β' c.av v := by
  cases c with
  | key k => cases ho
  | val x => cases h; exact RepP.s _ ho
  | fz cs => exact RepE.adv h (Adv.refl _ _) fun b hb => .inl hb
theorem OpTo.callC {f : Nat} {g : Operand} {caps : List Cap} {xs : List Operand} {args : List AV} {ats : Array TypeId} {Q : AV → List (Nat × Ob) → Prop} (hc : AC P cx.G f args [] Q) (hg : st.op cx g = .c (.fn f caps)) (hgo : okOp g = true) (hcap : caps.all capFix = true) (hf : isFn P f = true) (ho : okOps xs = true) (ha : xs.map (fun x => Vl.frz st (st.op cx x)) ++ caps.map Cap.av = args) (hk : (xs.map (fun x => Vl.frz st (st.op cx x))).all AV.keyless = true)
    (hq : ∀ r os', Q r os' → ∃ s', Imp false st os' dst r s' ∧ K s') : OpTo P cx kp ⟨dst, .call { callee := .value g, args := xs.toArray, argTypes := ats }, ty, pos, af, gd⟩ st K := by
  intro a w next Qx ⟨fz, β, hs⟩ hn
  subst ha
  have hG := hs.op g hgo
  rw [hg] at hG
  obtain ⟨cv, hgv, hcv⟩ := hG
  have hcv2 : All2 (RepA w (fzAll fz β) (fun _ => none)) (caps.map Cap.av) cv := by
    have : All2 (fun c v => RepCap w fz β c v ∧ capFix c = true) caps cv := hcv.mono fun c v hc h => ⟨h, List.all_eq_true.1 hcap c hc⟩
    exact this.map _ fun c v h => h.1.fix h.2
  have hA : All2 (RepA w (fzAll fz β) (fun _ => none)) (xs.map (fun x => Vl.frz st (st.op cx x))) (xs.map a.eval) :=
    all2_map_list xs fun x hx => hs.frz (hs.op x (List.all_eq_true.1 ho x hx)) (by have := List.all_eq_true.1 hk _ (List.mem_map_of_mem (f := fun x => Vl.frz st (st.op cx x)) hx); exact this)
  have hlt : ∀ b, fzAll fz β b → b < w.heap.size := fun b hb => by rcases hb with h | ⟨k, h⟩; exact hs.h.fzlt b h; exact hs.h.lt k b h
  have hcall := hc w (fzAll fz β) (fun _ => none) (xs.map a.eval ++ cv) (fun _ _ => rfl) (H.none hlt) hs.glob (hA.append hcv2)
  unfold wpv
  have hrun : (execOp a.eval ⟨dst, .call { callee := .value g, args := xs.toArray, argTypes := ats }, ty, pos, af, gd⟩).run P w = .ok (.enter f (xs.map a.eval ++ cv).toArray) w := by
    simp [execOp, resolve, hgv, Deferred.ofValue, invoke, run_callFunc hf]
  rw [hrun, upv_enter]
  refine hcall.mono fun e w' ⟨v, r, os', fz', β', h1, h2, h3, h4, h5⟩ => ?_
  subst h1
  obtain ⟨s', h6, h7⟩ := hq r os' h2
  obtain ⟨fz2, β2, h8⟩ := hs.back (m := false) (fun b hb => .inl hb) (fun h => by cases h) h3 h4 h5 h6
  exact hn _ _ _ h7 ⟨fz2, β2, h8⟩ (fun _ => ⟨h3.size, fun b hb => h3.old rfl b hb (fun k => by simp)⟩)
theorem callCN {f : Nat} {g : Operand} {caps : List Cap} {xs : List Operand} {args : List AV} {ats : Array TypeId} {v : AV} (hg : st.op cx g = .c (.fn f caps) := by rfl) (hgo : okOp g = true := by rfl) (hcap : caps.all capFix = true := by rfl) (hf : isFn P f = true := by rfl) (ho : okOps xs = true := by rfl) (ha : xs.map (fun x => Vl.frz st (st.op cx x)) ++ caps.map Cap.av = args := by rfl) (hk : (xs.map (fun x => Vl.frz st (st.op cx x))).all AV.keyless = true := by rfl)
    (hc : AC P cx.G f args [] (fun r _ => r = v)) (hi : avOk false v = true := by rfl) (h : K (st.put dst v)) : OpTo P cx kp ⟨dst, .call { callee := .value g, args := xs.toArray, argTypes := ats }, ty, pos, af, gd⟩ st K :=
  OpTo.callC hc hg hgo hcap hf ho ha hk (fun r os' e => ⟨_, .val (by rw [e]; exact hi), by rw [e]; exact h⟩)
/-! ### Fields of struct values -/
def fldTI (P : Program) (S : TypeId) (f : Nat) : Option (TypeId × Nat) := match P.underlying S with
  | some (.struct fs) => (fs[f]?).map fun x => (x.type, x.offset)
  | _ => none
theorem Val.fldV {S T : TypeId} {f o : Nat} {x : Operand} {cs : List PV} {z : PV} (hF : fldTI P S f = some (T, o)) (hT : tyI P T = some none) (h1 : okOp x = true) (hx : st.op cx x = .pag cs) (hz : cs[o]? = some z) : Val P cx true ⟨dst, .field S x f, ty, pos, af, gd⟩ st (.c (.p z)) := fun a w fz β hs => by
  have hX := hs.op x h1
  rw [hx] at hX
  obtain ⟨vs, e1, hr⟩ := hX
  obtain ⟨v, hv, hzv⟩ := hr.get hz
  refine ⟨v, hzv, fun w' hw => ?_⟩
  have hp := run_part1 (P := P) hT (vs := vs) (off := o) hv w'
  unfold fldTI at hF
  split at hF
  · rename_i fs hu
    obtain ⟨fd, g1, g2⟩ := Option.map_eq_some_iff.1 hF
    simp only [Prod.mk.injEq] at g2
    obtain ⟨rfl, rfl⟩ := g2
    simp [execOp, e1, Instr.field, run_underlying hu, g1, asAgg, hp]
  · cases hF
end
end Go.Proofs.Vl
end
