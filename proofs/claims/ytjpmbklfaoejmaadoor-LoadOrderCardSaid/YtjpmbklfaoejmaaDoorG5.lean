/- Equality of loads that are values. -/
import Derived.Test.YtjpmbklfaoejmaaDoorG3
import Derived.Laws.StructEq
set_option linter.all false
namespace Go.Proofs.Vl
open Go Go.RowKit
/-- Bools told alike. -/
theorem Val.eqB {P : Program} {cx : Cx} {st : St} {dst : Option Tmp} {ty tx t2 : TypeId} {pos : String} {af : Array Edge} {gd : Option (Nat × Bool)} {x y : Operand} {a b : Bool} (hu : P.underlying tx = some .bool) (hx : st.op cx x = vb a) (hy : st.op cx y = vb b) (h1 : okOp x = true) (h2 : okOp y = true) :
    Val P cx true ⟨dst, .binOp .eql tx x y t2, ty, pos, af, gd⟩ st (vb (a == b)) :=
  Val.bin (z := .bool (a == b)) hx hy h1 h2 rfl (fun w => run_eql_bool w tx a b hu) (fun w => by unfold eqGuard; split <;> simp)
theorem Val.eqL {cx : Cx} {st : St} {dst : Option Tmp} {ty t2 : TypeId} {pos : String} {af : Array Edge} {gd : Option (Nat × Bool)} {x y : Operand} {a b : Nat × Nat} (hx : st.op cx x = .pag (ldP a)) (hy : st.op cx y = .pag (ldP b)) (h1 : okOp x = true) (h2 : okOp y = true) :
    Val Tryd.prog cx true ⟨dst, .binOp .eql 24 x y t2, ty, pos, af, gd⟩ st (vb (decide (a = b))) := by
  unfold Val
  intro ac w fz β hs
  have hX := hs.op x h1
  rw [hx] at hX
  obtain ⟨vs, e1, hr⟩ := hX
  have hY := hs.op y h2
  rw [hy] at hY
  obtain ⟨us, e2, hq⟩ := hY
  have k1 : vs = [.int .u64 (a.1 : Int), .int .u64 (a.2 : Int)] := by
    cases hr with | cons p1 r1 => cases r1 with | cons p2 r2 => cases r2; rw [RepP.eq p1, RepP.eq p2]
  have k2 : us = [.int .u64 (b.1 : Int), .int .u64 (b.2 : Int)] := by
    cases hq with | cons p1 r1 => cases r1 with | cons p2 r2 => cases r2; rw [RepP.eq p1, RepP.eq p2]
  subst k1 k2
  refine ⟨.bool (decide (a = b)), RepP.s _ rfl, fun w' _ => ?_⟩
  have hu : Tryd.prog.underlying 22 = some (.int .u64) := Tryd.underlying22
  have hf : ((Tryd.prog.fieldsOf 24).toList.map fun f => (f.name, f.type, f.offset)) = [("Num", 22, 0), ("Den", 22, 1)] := by kernel_rfl
  have ht : Tryd.prog.underlying 24 = some (.struct (Tryd.prog.fieldsOf 24)) := by kernel_rfl
  have hs' : Tryd.prog.stoodInHeld 24 = false := by kernel_rfl
  have hg : Tryd.prog.eqGuardType Tryd.prog.depth 24 = false := by kernel_rfl
  have hT : tyI Tryd.prog 22 = some none := by kernel_rfl
  have hE : (Op.eqFields 9999 #[.int .u64 (a.1 : Int), .int .u64 (a.2 : Int)] #[.int .u64 (b.1 : Int), .int .u64 (b.2 : Int)] (Tryd.prog.fieldsOf 24).toList).run Tryd.prog w' = .ok (decide (a = b)) w' := by
    generalize (Tryd.prog.fieldsOf 24).toList = fs at hf
    rcases fs with _ | ⟨f, _ | ⟨g, _ | ⟨g2, gs⟩⟩⟩
    · simp at hf
    · simp at hf
    rotate_left
    · simp at hf
    · simp only [List.map, List.cons.injEq, Prod.mk.injEq, and_true] at hf
      obtain ⟨⟨n1, t1, o1⟩, n2, t2, o2⟩ := hf
      have q1 := run_part1 hT (vs := [.int .u64 (a.1 : Int), .int .u64 (a.2 : Int)]) (off := 0) rfl w'
      have q2 := run_part1 hT (vs := [.int .u64 (b.1 : Int), .int .u64 (b.2 : Int)]) (off := 0) rfl w'
      have q3 := run_part1 hT (vs := [.int .u64 (a.1 : Int), .int .u64 (a.2 : Int)]) (off := 1) rfl w'
      have q4 := run_part1 hT (vs := [.int .u64 (b.1 : Int), .int .u64 (b.2 : Int)]) (off := 1) rfl w'
      have r1 := run_equalIn_int w' 9998 22 .u64 .u64 (a.1 : Int) (b.1 : Int) hu
      have r2 := run_equalIn_int w' 9998 22 .u64 .u64 (a.2 : Int) (b.2 : Int) hu
      obtain ⟨a1, a2⟩ := a
      obtain ⟨b1, b2⟩ := b
      dsimp only at q1 q2 q3 q4 r1 r2 ⊢
      unfold Op.eqFields
      rw [if_pos (by rw [n1]; decide), t1, o1, Sem.run_bind, q1, Result.andThen_ok, Sem.run_bind, q2, Result.andThen_ok, Sem.run_bind, r1, Result.andThen_ok]
      by_cases h1 : a1 = b1
      · subst h1
        rw [if_neg (by simp)]
        unfold Op.eqFields
        rw [if_pos (by rw [n2]; decide), t2, o2, Sem.run_bind, q3, Result.andThen_ok, Sem.run_bind, q4, Result.andThen_ok, Sem.run_bind, r2, Result.andThen_ok]
        by_cases h2 : a2 = b2
        · subst h2
          rw [if_neg (by simp)]
          simp [Op.eqFields]
        · rw [if_pos (by simp; omega)]
          simp [h2]
      · rw [if_pos (by simp; omega)]
        simp [h1]
  simp only [execOp, Sem.run_bind, e1, e2]
  rw [run_eqGuard_agg w' .eql _ x y _ _ hg]
  simp only [Result.andThen_ok]
  rw [run_eql_struct, show (10000 : Nat) = 9999 + 1 from rfl, run_equalIn_agg w' 9999 _ _ _ ht hs', hE]
  rfl
theorem Val.neL {cx : Cx} {st : St} {dst : Option Tmp} {ty t2 : TypeId} {pos : String} {af : Array Edge} {gd : Option (Nat × Bool)} {x y : Operand} {a b : Nat × Nat} (hx : st.op cx x = .pag (ldP a)) (hy : st.op cx y = .pag (ldP b)) (h1 : okOp x = true) (h2 : okOp y = true) :
    Val Tryd.prog cx true ⟨dst, .binOp .neq 24 x y t2, ty, pos, af, gd⟩ st (vb (!decide (a = b))) := by
  unfold Val
  intro ac w fz β hs
  have hX := hs.op x h1
  rw [hx] at hX
  obtain ⟨vs, e1, hr⟩ := hX
  have hY := hs.op y h2
  rw [hy] at hY
  obtain ⟨us, e2, hq⟩ := hY
  have k1 : vs = [.int .u64 (a.1 : Int), .int .u64 (a.2 : Int)] := by
    cases hr with | cons p1 r1 => cases r1 with | cons p2 r2 => cases r2; rw [RepP.eq p1, RepP.eq p2]
  have k2 : us = [.int .u64 (b.1 : Int), .int .u64 (b.2 : Int)] := by
    cases hq with | cons p1 r1 => cases r1 with | cons p2 r2 => cases r2; rw [RepP.eq p1, RepP.eq p2]
  subst k1 k2
  refine ⟨.bool (!decide (a = b)), RepP.s _ rfl, fun w' _ => ?_⟩
  have hu : Tryd.prog.underlying 22 = some (.int .u64) := Tryd.underlying22
  have hf : ((Tryd.prog.fieldsOf 24).toList.map fun f => (f.name, f.type, f.offset)) = [("Num", 22, 0), ("Den", 22, 1)] := by kernel_rfl
  have ht : Tryd.prog.underlying 24 = some (.struct (Tryd.prog.fieldsOf 24)) := by kernel_rfl
  have hs' : Tryd.prog.stoodInHeld 24 = false := by kernel_rfl
  have hg : Tryd.prog.eqGuardType Tryd.prog.depth 24 = false := by kernel_rfl
  have hT : tyI Tryd.prog 22 = some none := by kernel_rfl
  have hE : (Op.eqFields 9999 #[.int .u64 (a.1 : Int), .int .u64 (a.2 : Int)] #[.int .u64 (b.1 : Int), .int .u64 (b.2 : Int)] (Tryd.prog.fieldsOf 24).toList).run Tryd.prog w' = .ok (decide (a = b)) w' := by
    generalize (Tryd.prog.fieldsOf 24).toList = fs at hf
    rcases fs with _ | ⟨f, _ | ⟨g, _ | ⟨g2, gs⟩⟩⟩
    · simp at hf
    · simp at hf
    rotate_left
    · simp at hf
    · simp only [List.map, List.cons.injEq, Prod.mk.injEq, and_true] at hf
      obtain ⟨⟨n1, t1, o1⟩, n2, t2, o2⟩ := hf
      have q1 := run_part1 hT (vs := [.int .u64 (a.1 : Int), .int .u64 (a.2 : Int)]) (off := 0) rfl w'
      have q2 := run_part1 hT (vs := [.int .u64 (b.1 : Int), .int .u64 (b.2 : Int)]) (off := 0) rfl w'
      have q3 := run_part1 hT (vs := [.int .u64 (a.1 : Int), .int .u64 (a.2 : Int)]) (off := 1) rfl w'
      have q4 := run_part1 hT (vs := [.int .u64 (b.1 : Int), .int .u64 (b.2 : Int)]) (off := 1) rfl w'
      have r1 := run_equalIn_int w' 9998 22 .u64 .u64 (a.1 : Int) (b.1 : Int) hu
      have r2 := run_equalIn_int w' 9998 22 .u64 .u64 (a.2 : Int) (b.2 : Int) hu
      obtain ⟨a1, a2⟩ := a
      obtain ⟨b1, b2⟩ := b
      dsimp only at q1 q2 q3 q4 r1 r2 ⊢
      unfold Op.eqFields
      rw [if_pos (by rw [n1]; decide), t1, o1, Sem.run_bind, q1, Result.andThen_ok, Sem.run_bind, q2, Result.andThen_ok, Sem.run_bind, r1, Result.andThen_ok]
      by_cases h1 : a1 = b1
      · subst h1
        rw [if_neg (by simp)]
        unfold Op.eqFields
        rw [if_pos (by rw [n2]; decide), t2, o2, Sem.run_bind, q3, Result.andThen_ok, Sem.run_bind, q4, Result.andThen_ok, Sem.run_bind, r2, Result.andThen_ok]
        by_cases h2 : a2 = b2
        · subst h2
          rw [if_neg (by simp)]
          simp [Op.eqFields]
        · rw [if_pos (by simp; omega)]
          simp [h2]
      · rw [if_pos (by simp; omega)]
        simp [h1]
  simp only [execOp, Sem.run_bind, e1, e2]
  rw [run_eqGuard_agg w' .neq _ x y _ _ hg]
  simp only [Result.andThen_ok]
  rw [run_neq_struct, show (10000 : Nat) = 9999 + 1 from rfl, run_equalIn_agg w' 9999 _ _ _ ht hs', hE]
  rfl
end Go.Proofs.Vl
