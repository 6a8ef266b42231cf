/- Small rules for the walk's joints. -/
import Derived.Test.YtjfpddgldfaahaaDoorV7
set_option linter.all false
namespace Go.Proofs.Vl
open Go Go.RowKit
section
variable {P : Program} {cx : Cx} {st : St} {Q : Exit → St → Prop} {N : St → Prop}
theorem thn_n (h : N st) : thn N Q .normal st := h
theorem thn_e {i : Nat} (h : Q (.exit i) st) : thn N Q (.exit i) st := h
theorem thn_r (h : Q .ret st) : thn N Q .ret st := h
theorem inb_n {id : Nat} (h : Q .normal st) : inb id Q .normal st := h
theorem inb_r {id : Nat} (h : Q .ret st) : inb id Q .ret st := h
theorem inb_hit {id : Nat} (h : Q .normal st) : inb id Q (.exit id) st := by simp only [inb, if_true]; exact h
theorem inb_miss {id i : Nat} (hi : (i == id) = false) (h : Q (.exit i) st) : inb id Q (.exit i) st := by
  have : i ≠ id := by simpa using hi
  simp only [inb, if_neg this]; exact h
theorem AWp.cond1 {c : Operand} {x y : Code} {b : Bool} (hc : st.op cx c = .c (.p (.s (.bool b)))) (ho : okOp c = true) (he : b = true) (h : AWp P cx x st Q) : AWp P cx (.cond c x y) st Q := fun a w hs => by
  subst he
  obtain ⟨fz, β, hs'⟩ := hs
  exact Go.wpIn_cond (hs'.eq hc ho) (by simpa using h a w ⟨fz, β, hs'⟩)
theorem AWp.cond0 {c : Operand} {x y : Code} {b : Bool} (hc : st.op cx c = .c (.p (.s (.bool b)))) (ho : okOp c = true) (he : b = false) (h : AWp P cx y st Q) : AWp P cx (.cond c x y) st Q := fun a w hs => by
  subst he
  obtain ⟨fz, β, hs'⟩ := hs
  exact Go.wpIn_cond (hs'.eq hc ho) (by simpa using h a w ⟨fz, β, hs'⟩)
theorem Run.yes' {ds : List (Option Tmp)} {o : Oper} {r : List Oper} {K : St → Prop} {j d : Nat} {b b' : Bool} (hg : o.guard = some (j, b)) (hd : ds[j]? = some (some d)) (hb : st.tmps[d]? = some (.c (.p (.s (.bool b'))))) (he : b' = b)
    (h : OpTo P cx false o st (fun s => Run P cx ds r s K)) : Run P cx ds (o :: r) st K := by subst he; exact Run.yes hg hd hb h
theorem AWp.condB {c : Operand} {x y : Code} {b : Bool} (hc : st.op cx c = .c (.p (.s (.bool b)))) (ho : okOp c = true) (h1 : b = true → AWp P cx x st Q) (h0 : b = false → AWp P cx y st Q) : AWp P cx (.cond c x y) st Q := fun a w hs => by
  obtain ⟨fz, β, hs'⟩ := hs
  refine Go.wpIn_cond (hs'.eq hc ho) ?_
  cases b with
  | true => simpa using h1 rfl a w ⟨fz, β, hs'⟩
  | false => simpa using h0 rfl a w ⟨fz, β, hs'⟩
variable {K : St → Prop} {ds : List (Option Tmp)} {o : Oper} {r : List Oper}
/-- A guarded operation: both ways. -/
theorem Run.both {j d : Nat} {b b' : Bool} (hg : o.guard = some (j, b)) (hd : ds[j]? = some (some d)) (hb : st.tmps[d]? = some (.c (.p (.s (.bool b')))))
    (h1 : b' = b → OpTo P cx false o st (fun s => Run P cx ds r s K)) (h0 : b' ≠ b → Run P cx ds r (st.put o.dst (.tup [])) K) : Run P cx ds (o :: r) st K := by
  by_cases h : b' = b
  · subst h; exact Run.yes hg hd hb (h1 rfl)
  · exact Run.no hg hd hb h (h0 h)
theorem Run.bothT {j d : Nat} {b' : Bool} (hg : o.guard = some (j, true)) (hd : ds[j]? = some (some d)) (hb : st.tmps[d]? = some (.c (.p (.s (.bool b')))))
    (h1 : b' = true → OpTo P cx false o st (fun s => Run P cx ds r s K)) (h0 : b' = false → Run P cx ds r (st.put o.dst (.tup [])) K) : Run P cx ds (o :: r) st K :=
  Run.both hg hd hb h1 (fun h => h0 (by simpa using h))
theorem Run.bothF {j d : Nat} {b' : Bool} (hg : o.guard = some (j, false)) (hd : ds[j]? = some (some d)) (hb : st.tmps[d]? = some (.c (.p (.s (.bool b')))))
    (h1 : b' = false → OpTo P cx false o st (fun s => Run P cx ds r s K)) (h0 : b' = true → Run P cx ds r (st.put o.dst (.tup [])) K) : Run P cx ds (o :: r) st K :=
  Run.both hg hd hb h1 (fun h => h0 (by simpa using h))
/-- A value may be told anew. -/
theorem OpTo.same {st' : St} (h : st' = st) (k : OpTo P cx false o st' K) : OpTo P cx false o st K := h ▸ k
end
end Go.Proofs.Vl
