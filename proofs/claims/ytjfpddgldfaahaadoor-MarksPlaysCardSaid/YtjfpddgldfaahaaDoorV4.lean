/- Rules over memory: stores, places of fields and elements, lengths. -/
import Derived.Test.YtjfpddgldfaahaaDoorV3
set_option linter.all false
namespace Go.Proofs.Vl
open Go Go.RowKit

section
variable {P : Program} {cx : Cx} {st : St} {a : Act} {w : World} {fz : Nat → Prop} {β : Nat → Option Nat}
variable {K : St → Prop} {dst : Option Tmp} {ty T T' : TypeId} {pos : String} {af : Array Edge} {gd : Option (Nat × Bool)} {x y : Operand} {n k off : Nat}

/-! ### Stores -/
theorem OpTo.wr {o : Oper} (hdst : o.dst = none) (k : Nat) (ob : Ob)
    (h : ∀ a w fz β, SR cx st a w fz β → ∃ b T, ∃ vs vs' : List Value, β k = some b ∧ w.heap[b]? = some (.cells vs.toArray T (0, 0)) ∧ vs'.length = vs.length ∧ (execOp a.eval o).run P w = .ok .skip (w.setRow b vs'.toArray) ∧
      ∀ w', Adv fz w w' → w'.heap[b]? = some (.cells vs'.toArray T (0, 0)) → RepO w' fz β k ob)
    (kk : K ⟨st.tmps, upd st.objs k ob⟩) : OpTo P cx false o st K := by
  intro a w next Qx ⟨fz, β, hs⟩ hn
  obtain ⟨b, T, vs, vs', h1, h2, h3, h4, h5⟩ := h a w fz β hs
  unfold wpv
  rw [h4, upv_skip, hdst]
  exact hn _ _ _ kk ⟨fz, β, hs.wr h1 h2 h3 ob h5⟩ (fun h => by cases h)
def splice {α : Type} (vs : List α) (o : Nat) (us : List α) : List α := vs.take o ++ us ++ vs.drop (o + us.length)
theorem splice_len {α : Type} {vs us : List α} {o : Nat} (h : o + us.length ≤ vs.length) : (splice vs o us).length = vs.length := by
  simp [splice]; omega
theorem All2.splice {α β : Type} {R : α → β → Prop} {as us : List α} {bs vs : List β} (h : All2 R as bs) (hu : All2 R us vs) (o : Nat) : All2 R (splice as o us) (splice bs o vs) := by
  unfold Vl.splice
  rw [hu.len]
  exact ((h.take o).append hu).append (h.drop _)
theorem splice_one {α : Type} (vs : List α) (o : Nat) (u : α) (h : o < vs.length) : splice vs o [u] = vs.set o u := by
  unfold splice
  rw [List.set_eq_take_append_cons_drop, if_pos h]
  simp
theorem run_store {T : TypeId} {b o : Nat} {T' : TypeId} {vs us : List Value} {v : Value} (hv : v.cells.toList = us) (hu : ∀ u ∈ us, u.oneCell' = true) (hT : (P.info? T).map (·.size) = some us.length)
    (hb : w.heap[b]? = some (.cells vs.toArray T' (0, 0))) (hl : o + us.length ≤ vs.length) : (storeVar T ⟨b, o, none⟩ v).run P w = .ok () (w.setRow b (splice vs o us).toArray) := by
  have h1 := run_storeCells_at (P := P) b o T' us 0 vs.toArray w hb (by simpa using hl) hu
  simp only [Nat.add_zero] at h1
  cases hi : P.info? T with
  | none => simp [hi] at hT
  | some i =>
    simp only [hi, Option.map_some, Option.some.injEq] at hT
    have hsz : v.cells.size = us.length := by rw [← hv]; simp
    simp [storeVar, sizeOf, typeInfo, hi, hT, hsz, hv, h1, splice]
theorem all2_map_p {w fz β} : ∀ {ys : List PV} {vs : List Value}, All2 (RepP w fz) ys vs → All2 (RepC1 w fz β) (ys.map CV.p) vs
  | _, _, .nil => .nil
  | _, _, .cons h t => .cons ⟨h.one, h⟩ (all2_map_p t)
theorem all2_one {w fz} {ys : List PV} {vs : List Value} (h : All2 (RepP w fz) ys vs) : ∀ u ∈ vs, u.oneCell' = true := by
  intro u hu
  obtain ⟨i, hi⟩ := List.getElem?_of_mem hu
  obtain ⟨a, _, h2⟩ := h.get' hi
  exact h2.one
theorem all2_one1 {w fz β} {ys : List CV} {vs : List Value} (h : All2 (RepC1 w fz β) ys vs) : ∀ u ∈ vs, u.oneCell' = true := by
  intro u hu
  obtain ⟨i, hi⟩ := List.getElem?_of_mem hu
  obtain ⟨a, _, h2⟩ := h.get' hi
  exact h2.1
/-- What is stored, as cells. -/
def pvs : AV → Option (List PV)
  | .c (.p z) => some [z]
  | .pag ys => some ys
  | _ => none
def cvs : AV → Option (List CV)
  | .c .any => none
  | .c z => some [z]
  | .pag ys => some (ys.map .p)
  | .agg ys => some ys
  | .tup _ => none
theorem RepA.pvs {x : AV} {v : Value} (h : RepA w fz β x v) {ys : List PV} (hy : pvs x = some ys) : ∃ us : List Value, v.cells.toList = us ∧ All2 (RepP w fz) ys us := by
  cases x with
  | c z =>
    cases z with
    | p z => cases hy; exact ⟨[v], by rw [cells_one (RepP.one h)], .cons h .nil⟩
    | _ => cases hy
  | pag zs => cases hy; obtain ⟨us, rfl, h2⟩ := h; exact ⟨us, by simp [Value.cells], h2⟩
  | _ => cases hy
theorem RepA.cvs {x : AV} {v : Value} (h : RepA w fz β x v) {ys : List CV} (hy : cvs x = some ys) : ∃ us : List Value, v.cells.toList = us ∧ All2 (RepC1 w fz β) ys us := by
  cases x with
  | c z =>
    cases z with
    | any => cases hy
    | _ =>
      cases hy
      simp only [RepA] at h
      have h1 := RepC.one h (by simp)
      exact ⟨[v], by rw [cells_one h1], .cons ⟨h1, h⟩ .nil⟩
  | pag zs => cases hy; obtain ⟨us, rfl, h2⟩ := h; exact ⟨us, by simp [Value.cells], all2_map_p h2⟩
  | agg zs => cases hy; obtain ⟨us, rfl, h2⟩ := h; exact ⟨us, by simp [Value.cells], h2⟩
  | tup zs => cases hy
theorem run_skip_store {o : Oper} (ho : o.op = .store T x y) {p : Addr} (h1 : a.eval x = .pointer (some p)) {w' : World} (h2 : (storeVar T p (a.eval y)).run P w = .ok () w') : (execOp a.eval o).run P w = .ok .skip w' := by
  simp [execOp, ho, h1, Instr.storeAt, Instr.sureAddr, h2]
/-- Into a variable of plain cells. -/
theorem OpTo.stP {cs ys : List PV} (hx : st.op cx x = .c (.ptr k off)) (h1 : okOp x = true) (hf : find st.objs k = some (.pcells T' cs)) (hy : pvs (st.op cx y) = some ys) (h2 : okOp y = true) (hT : (P.info? T).map (·.size) = some ys.length) (hl : off + ys.length ≤ cs.length)
    (kk : K ⟨st.tmps, upd st.objs k (.pcells T' (splice cs off ys))⟩) : OpTo P cx false ⟨none, .store T x y, ty, pos, af, gd⟩ st K := by
  refine OpTo.wr rfl k _ (fun a w fz β hs => ?_) kk
  have hX := hs.op x h1
  rw [hx] at hX
  obtain ⟨b, e1, e2⟩ := hX
  obtain ⟨us, e3, e4⟩ := (hs.op y h2).pvs hy
  obtain ⟨b', vs, e5, e6, e7⟩ := hs.h.ob k _ hf
  rw [e1] at e5; cases e5
  refine ⟨b, T', vs, splice vs off us, e1, e6, splice_len (by rw [← e4.len, ← e7.len]; exact hl), run_skip_store rfl e2 (run_store e3 (all2_one e4) (by rw [hT, e4.len]) e6 (by rw [← e4.len, ← e7.len]; exact hl)), fun w' hA hb => ?_⟩
  exact ⟨b, _, e1, hb, (e7.mono fun _ _ _ h => RepP.adv h hA fun _ h => h).splice (e4.mono fun _ _ _ h => RepP.adv h hA fun _ h => h) off⟩
/-- Into a variable of cells that may lead to the call's own. -/
theorem OpTo.stC {cs ys : List CV} (hx : st.op cx x = .c (.ptr k off)) (h1 : okOp x = true) (hf : find st.objs k = some (.cells T' cs)) (hy : cvs (st.op cx y) = some ys) (h2 : okOp y = true) (hT : (P.info? T).map (·.size) = some ys.length) (hl : off + ys.length ≤ cs.length)
    (kk : K ⟨st.tmps, upd st.objs k (.cells T' (splice cs off ys))⟩) : OpTo P cx false ⟨none, .store T x y, ty, pos, af, gd⟩ st K := by
  refine OpTo.wr rfl k _ (fun a w fz β hs => ?_) kk
  have hX := hs.op x h1
  rw [hx] at hX
  obtain ⟨b, e1, e2⟩ := hX
  obtain ⟨us, e3, e4⟩ := (hs.op y h2).cvs hy
  obtain ⟨b', vs, e5, e6, e7⟩ := hs.h.ob k _ hf
  rw [e1] at e5; cases e5
  refine ⟨b, T', vs, splice vs off us, e1, e6, splice_len (by rw [← e4.len, ← e7.len]; exact hl), run_skip_store rfl e2 (run_store e3 (all2_one1 e4) (by rw [hT, e4.len]) e6 (by rw [← e4.len, ← e7.len]; exact hl)), fun w' hA hb => ?_⟩
  exact ⟨b, _, e1, hb, (e7.mono fun _ _ _ h => ⟨h.1, RepC.adv h.2 hA (fun _ h => h) fun _ _ => rfl⟩).splice (e4.mono fun _ _ _ h => ⟨h.1, RepC.adv h.2 hA (fun _ h => h) fun _ _ => rfl⟩) off⟩
/-- A variable of plain cells takes in what leads to the call's own. -/
theorem OpTo.stPC {cs : List PV} {ys : List CV} (hx : st.op cx x = .c (.ptr k off)) (h1 : okOp x = true) (hf : find st.objs k = some (.pcells T' cs)) (hy : cvs (st.op cx y) = some ys) (h2 : okOp y = true) (hT : (P.info? T).map (·.size) = some ys.length) (hl : off + ys.length ≤ cs.length)
    (kk : K ⟨st.tmps, upd st.objs k (.cells T' (splice (cs.map .p) off ys))⟩) : OpTo P cx false ⟨none, .store T x y, ty, pos, af, gd⟩ st K := by
  refine OpTo.wr rfl k _ (fun a w fz β hs => ?_) kk
  have hX := hs.op x h1
  rw [hx] at hX
  obtain ⟨b, e1, e2⟩ := hX
  obtain ⟨us, e3, e4⟩ := (hs.op y h2).cvs hy
  obtain ⟨b', vs, e5, e6, e7⟩ := hs.h.ob k _ hf
  rw [e1] at e5; cases e5
  refine ⟨b, T', vs, splice vs off us, e1, e6, splice_len (by rw [← e4.len, ← e7.len]; exact hl), run_skip_store rfl e2 (run_store e3 (all2_one1 e4) (by rw [hT, e4.len]) e6 (by rw [← e4.len, ← e7.len]; exact hl)), fun w' hA hb => ?_⟩
  exact ⟨b, _, e1, hb, (all2_map_p (e7.mono fun _ _ _ h => RepP.adv h hA fun _ h => h)).splice (e4.mono fun _ _ _ h => ⟨h.1, RepC.adv h.2 hA (fun _ h => h) fun _ _ => rfl⟩) off⟩
theorem take_splice {α : Type} (vs us : List α) (o N : Nat) (h1 : o + us.length ≤ N) (h2 : N ≤ vs.length) : (splice vs o us).take N = splice (vs.take N) o us := by
  unfold splice
  rw [List.take_append, List.take_of_length_le (by simp; omega), List.take_take, Nat.min_eq_left (by omega), List.drop_take]
  congr 2
  simp
  omega
theorem splice_app {α : Type} (x A ys : List α) (p : Nat) : splice (x ++ A) (x.length + p) ys = x ++ splice A p ys := by
  unfold splice
  rw [List.take_append, List.take_of_length_le (by omega), List.drop_append, List.drop_of_length_le (by omega), Nat.add_sub_cancel_left, show x.length + p + ys.length - x.length = p + ys.length by omega]
  simp
theorem flat_splice {α : Type} {sz : Nat} : ∀ {xs : List (List α)}, (∀ cs ∈ xs, cs.length = sz) → ∀ {i : Nat} {cs : List α}, xs[i]? = some cs → ∀ (c : Nat) (ys : List α), c + ys.length ≤ sz → (xs.set i (splice cs c ys)).flatten = splice xs.flatten (i * sz + c) ys
  | [], _, i, cs, h, _, _, _ => by simp at h
  | x :: xs, hl, i, cs, h, c, ys, hc => by
    have hx := hl x List.mem_cons_self
    cases i with
    | zero =>
      simp at h; subst h
      simp only [List.set_cons_zero, List.flatten_cons, Nat.zero_mul, Nat.zero_add, splice]
      rw [List.take_append_of_le_length (by omega), List.drop_append_of_le_length (by omega)]
      simp
    | succ i =>
      simp only [List.getElem?_cons_succ] at h
      have ih := flat_splice (fun cs hcs => hl cs (List.mem_cons_of_mem _ hcs)) h c ys hc
      have e : (i + 1) * sz + c = x.length + (i * sz + c) := by rw [hx, Nat.succ_mul]; omega
      rw [List.set_cons_succ, List.flatten_cons, ih, e, List.flatten_cons, splice_app]
/-- Into an element of a row, from its cell c on. -/
theorem OpTo.stR {sz i c : Nat} {xs : List (List PV)} {cs ys : List PV} (hx : st.op cx x = .c (.rptr k sz i c)) (h1 : okOp x = true) (hf : find st.objs k = some (.row T' sz xs)) (hi : xs[i]? = some cs) (hy : pvs (st.op cx y) = some ys) (h2 : okOp y = true)
    (hT : (P.info? T).map (·.size) = some ys.length) (hl : c + ys.length ≤ sz)
    (kk : K ⟨st.tmps, upd st.objs k (.row T' sz (xs.set i (splice cs c ys)))⟩) : OpTo P cx false ⟨none, .store T x y, ty, pos, af, gd⟩ st K := by
  refine OpTo.wr rfl k _ (fun a w fz β hs => ?_) kk
  have hX := hs.op x h1
  rw [hx] at hX
  obtain ⟨b, e1, e2⟩ := hX
  obtain ⟨us, e3, e4⟩ := (hs.op y h2).pvs hy
  rcases hs.h.ob k _ hf with ⟨e5, e6⟩ | ⟨b', vs, e5, e6, e7, e8, e9⟩
  · subst e6; simp at hi
  · rw [e1] at e5; cases e5
    have hlt : i < xs.length := (List.getElem?_eq_some_iff.1 hi).1
    have hul := e4.len
    have hbd : i * sz + c + us.length ≤ xs.length * sz := by
      have h : (i + 1) * sz ≤ xs.length * sz := Nat.mul_le_mul_right _ hlt
      rw [Nat.succ_mul] at h; omega
    refine ⟨b, T', vs, splice vs (i * sz + c) us, e1, e6, splice_len (by omega), run_skip_store rfl e2 (run_store e3 (all2_one e4) (by rw [hT, e4.len]) e6 (by omega)), fun w' hA hb => .inr ⟨b, _, e1, hb, ?_, ?_, ?_⟩⟩
    · rw [splice_len (by omega), List.length_set]; exact e7
    · intro cs' hcs'
      rcases List.mem_or_eq_of_mem_set hcs' with h | h
      · exact e8 _ h
      · rw [h, splice_len (by rw [e8 cs (List.mem_of_getElem? hi)]; exact hl)]; exact e8 cs (List.mem_of_getElem? hi)
    · rw [List.length_set, flat_splice e8 hi c ys hl, take_splice _ _ _ _ hbd e7]
      exact (e9.mono fun _ _ _ h => RepP.adv h hA fun _ h => h).splice (e4.mono fun _ _ _ h => RepP.adv h hA fun _ h => h) _

/-! ### Places of fields and elements -/
variable {kp : Bool}
def addOff : AV → Nat → AV
  | .c (.ptr k off), o => .c (.ptr k (off + o))
  | .c (.rptr k sz i c), o => .c (.rptr k sz i (c + o))
  | .c (.eptr cs), o => .c (.eptr (cs.drop o))
  | _, _ => .c .any
def isAddr : AV → Bool
  | .c (.ptr ..) | .c (.rptr ..) | .c (.eptr ..) => true
  | _ => false
theorem RepA.addOff {z : AV} {v : Value} (h : RepA w fz β z v) (hz : isAddr z = true) : ∃ b o, v = .pointer (some ⟨b, o, none⟩) ∧ ∀ d, RepA w fz β (addOff z d) (.pointer (some ⟨b, o + d, none⟩)) := by
  cases z with
  | c z =>
    cases z with
    | ptr k off => obtain ⟨b, h1, h2⟩ := h; exact ⟨b, off, h2, fun d => ⟨b, h1, rfl⟩⟩
    | rptr k sz i c => obtain ⟨b, h1, h2⟩ := h; exact ⟨b, i * sz + c, h2, fun d => ⟨b, h1, by rw [Nat.add_assoc]⟩⟩
    | eptr cs =>
      obtain ⟨b, o, h1, h2, h3⟩ := h
      refine ⟨b, o, h1, fun d => ⟨b, o + d, rfl, fun hn => h2 (by intro e; subst e; simp at hn), fun c y hy => ?_⟩⟩
      rw [List.getElem?_drop] at hy
      obtain ⟨u, h4, h5⟩ := h3 _ _ hy
      exact ⟨u, by rw [Nat.add_assoc]; exact h4, h5⟩
    | _ => cases hz
  | _ => cases hz
def fldI (P : Program) (S : TypeId) (f : Nat) : Option Nat :=
  match P.underlying S with
  | some (.struct fs) => match fs[f]? with
    | some fd => match P.info? fd.type with
      | some i => if i.size = 0 then none else some fd.offset
      | none => none
    | none => none
  | _ => none
theorem Val.fld {S : TypeId} {f o : Nat} (hF : fldI P S f = some o) (h1 : okOp x = true) (hA : isAddr (st.op cx x) = true) : Val P cx true ⟨dst, .fieldAddr S x f, ty, pos, af, gd⟩ st ((addOff (st.op cx x) o)) := fun a w fz β hs => by
    obtain ⟨b, o', h2, h3⟩ := (hs.op x h1).addOff hA
    refine ⟨_, h3 o, fun w' hw => ?_⟩
    unfold fldI at hF
    cases hu : P.underlying S with
    | none => simp [hu] at hF
    | some D =>
      cases D with
      | struct fs =>
        simp only [hu] at hF
        cases hf : fs[f]? with
        | none => simp [hf] at hF
        | some fd =>
          simp only [hf] at hF
          cases hi : P.info? fd.type with
          | none => simp [hi] at hF
          | some i =>
            simp only [hi] at hF
            by_cases h0 : i.size = 0
            · simp [h0] at hF
            · simp only [h0, if_false, Option.some.injEq] at hF
              subst hF
              simp [execOp, h2, Instr.fieldAt, run_underlying hu, hf, Instr.sureAddr, fieldPlace, sizeOf, typeInfo, hi, h0, Addr.add_lit]
      | _ => simp [hu] at hF
/-- An array's element. -/
theorem Val.ixA {S E : TypeId} {L sz : Nat} {kd : IntKind} {i : Int} (hu : P.underlying S = some (.array L E)) (hz : (P.info? E).map (·.size) = some sz) (h1 : okOp x = true) (h2 : okOp y = true) (hA : isAddr (st.op cx x) = true)
    (hi : st.op cx y = .c (.p (.s (.int kd i)))) (h0 : 0 ≤ i) (hL : i < L) : Val P cx true ⟨dst, .indexAddr S x y, ty, pos, af, gd⟩ st ((addOff (st.op cx x) (i.toNat * sz))) := fun a w fz β hs => by
    obtain ⟨b, o', h3, h4⟩ := (hs.op x h1).addOff hA
    have e := hs.eq hi h2
    refine ⟨_, h4 (i.toNat * sz), fun w' hw => ?_⟩
    cases hi' : P.info? E with
    | none => simp [hi'] at hz
    | some inf =>
      simp only [hi', Option.map_some, Option.some.injEq] at hz
      simp [execOp, h3, e, Instr.indexAt, run_underlying hu, asIntOf, Instr.sureAddr, sizeOf, typeInfo, hi', hz, h0, hL, Addr.add_lit]
/-- An element of a row that is only read. -/
theorem Val.ixF {S E : TypeId} {sz : Nat} {kd : IntKind} {i : Int} {xs : List (List PV)} {cs : List PV} (hu : P.underlying S = some (.slice E)) (hz : (P.info? E).map (·.size) = some sz) (h1 : okOp x = true) (h2 : okOp y = true) (hx : st.op cx x = .c (.p (.fro xs)))
    (hi : st.op cx y = .c (.p (.s (.int kd i)))) (h0 : 0 ≤ i) (hc : xs[i.toNat]? = some cs) (hcs : cs.length = sz) : Val P cx true ⟨dst, .indexAddr S x y, ty, pos, af, gd⟩ st ((.c (.eptr cs))) := fun a w fz β hs => by
    have hX := hs.op x h1
    rw [hx] at hX
    have e := hs.eq hi h2
    have hlt : i.toNat < xs.length := (List.getElem?_eq_some_iff.1 hc).1
    have hL : i < xs.length := by omega
    generalize hv : a.eval x = v at hX
    cases hi' : P.info? E with
    | none => simp [hi'] at hz
    | some inf =>
      simp only [hi', Option.map_some, Option.some.injEq] at hz
      cases hX with
      | nil ad cap => simp at hlt
      | fro _ b o cap sz' val hb hcap hl hcc hr =>
        have hs' : sz' = sz := by rw [← hl _ _ hc]; exact hcs
        subst hs'
        refine ⟨.pointer (some ⟨b, o + i.toNat * sz', none⟩), ⟨b, o + i.toNat * sz', rfl, fun hne => hb (by have := List.length_pos_iff.2 hne; omega), fun c z hzc => ⟨val i.toNat c, ?_, hr _ _ _ _ hc hzc⟩⟩, fun w' hw => ?_⟩
        · rw [Nat.add_assoc]; exact hcc _ _ _ _ hc hzc
        · simp [execOp, hv, e, Instr.indexAt, run_underlying hu, asIntOf, sizeOf, typeInfo, hi', hz, h0, hL, Addr.add_lit]
/-- An element of a row of the call's own. -/
theorem Val.ixO {S E : TypeId} {sz : Nat} {kd : IntKind} {i : Int} {n : Nat} (hu : P.underlying S = some (.slice E)) (hz : (P.info? E).map (·.size) = some sz) (h1 : okOp x = true) (h2 : okOp y = true) (hx : st.op cx x = .c (.own k sz n))
    (hi : st.op cx y = .c (.p (.s (.int kd i)))) (h0 : 0 ≤ i) (hL : i < n) : Val P cx true ⟨dst, .indexAddr S x y, ty, pos, af, gd⟩ st ((.c (.rptr k sz i.toNat 0))) := fun a w fz β hs => by
    have hX := hs.op x h1
    rw [hx] at hX
    have e := hs.eq hi h2
    cases hi' : P.info? E with
    | none => simp [hi'] at hz
    | some inf =>
      simp only [hi', Option.map_some, Option.some.injEq] at hz
      rcases hX with ⟨_, h3, _⟩ | ⟨b, cap, T, h3, h4, h5, h6⟩
      · omega
      · exact ⟨.pointer (some ⟨b, i.toNat * sz + 0, none⟩), ⟨b, h3, rfl⟩, fun w' hw => by simp [execOp, h4, e, Instr.indexAt, run_underlying hu, asIntOf, sizeOf, typeInfo, hi', hz, h0, hL, Addr.add_lit]⟩
theorem Val.ixW {S E : TypeId} {sz : Nat} {kd : IntKind} {i : Int} {n off : Nat} (hu : P.underlying S = some (.slice E)) (hz : (P.info? E).map (·.size) = some sz) (h1 : okOp x = true) (h2 : okOp y = true) (hx : st.op cx x = .c (.win k sz off n))
    (hi : st.op cx y = .c (.p (.s (.int kd i)))) (h0 : 0 ≤ i) (hL : i < n) : Val P cx true ⟨dst, .indexAddr S x y, ty, pos, af, gd⟩ st ((.c (.rptr k sz (off + i.toNat) 0))) := fun a w fz β hs => by
    have hX := hs.op x h1
    rw [hx] at hX
    have e := hs.eq hi h2
    cases hi' : P.info? E with
    | none => simp [hi'] at hz
    | some inf =>
      simp only [hi', Option.map_some, Option.some.injEq] at hz
      rcases hX with ⟨h3, _⟩ | ⟨b, cap, h3, h4, h5⟩
      · omega
      · exact ⟨.pointer (some ⟨b, (off + i.toNat) * sz + 0, none⟩), ⟨b, h3, rfl⟩, fun w' hw => by simp [execOp, h4, e, Instr.indexAt, run_underlying hu, asIntOf, sizeOf, typeInfo, hi', hz, h0, hL, Addr.add_lit, Nat.add_mul]⟩

/-! ### Lengths, least and greatest -/
def lenA : AV → Option Nat
  | .c (.p (.fro xs)) => some xs.length
  | .c (.own _ _ n) => some n
  | .c (.win _ _ _ n) => some n
  | .c (.p (.s (.slice none 0 0))) => some 0
  | _ => none
theorem Val.len {E at_ : TypeId} {n : Nat} (hu : P.underlying at_ = some (.slice E)) (h1 : okOp x = true) (hn : lenA (st.op cx x) = some n) : Val P cx true ⟨dst, .call { callee := .builtin .len, args := #[x], argTypes := #[at_] }, ty, pos, af, gd⟩ st ((.c (.p (.s (.int .i64 n))))) := fun a w fz β hs => by
    have hX := hs.op x h1
    refine ⟨.int .i64 n, RepP.s _ rfl, fun w' hw => ?_⟩
    have : ∃ ad cap, a.eval x = .slice ad n cap := by
      revert hX hn
      generalize a.eval x = v
      cases st.op cx x with
      | c z =>
        cases z with
        | p z =>
          cases z with
          | s v => intro hn hX; have := RepP.eq hX; unfold lenA at hn; split at hn <;> simp_all
          | fro xs => intro hn hX; simp only [lenA, Option.some.injEq] at hn; subst hn; cases hX <;> exact ⟨_, _, rfl⟩
        | own k sz m => intro hn hX; simp only [lenA, Option.some.injEq] at hn; subst hn; rcases hX with ⟨_, h2, h3⟩ | ⟨b, cap, T, _, h3, _⟩; (subst h2; exact ⟨_, _, h3⟩); exact ⟨_, _, h3⟩
        | win k sz off m => intro hn hX; simp only [lenA, Option.some.injEq] at hn; subst hn; rcases hX with ⟨h2, ad, cap, h3⟩ | ⟨b, cap, _, h3, _⟩; (subst h2; exact ⟨_, _, h3⟩); exact ⟨_, _, h3⟩
        | _ => intro hn; simp [lenA] at hn
      | _ => intro hn; simp [lenA] at hn
    obtain ⟨ad, cap, he⟩ := this
    simp [execOp, resolve, invoke, builtin, Builtin.len_, run_underlying hu, he, goInt]
theorem Val.lenS {at_ : TypeId} {s : ByteArray} (hu : P.underlying at_ = some .string) (h1 : okOp x = true) (hn : st.op cx x = .c (.p (.s (.string s)))) : Val P cx true ⟨dst, .call { callee := .builtin .len, args := #[x], argTypes := #[at_] }, ty, pos, af, gd⟩ st ((.c (.p (.s (.int .i64 s.size))))) := fun a w fz β hs => by
    have e := hs.eq hn h1
    exact ⟨.int .i64 s.size, RepP.s _ rfl, fun w' hw => by simp [execOp, resolve, invoke, builtin, Builtin.len_, run_underlying hu, e, goInt]⟩
theorem Val.min2 {ats : Array TypeId} {kd kj : IntKind} {u v : Int} (hx : st.op cx x = .c (.p (.s (.int kd u)))) (hy : st.op cx y = .c (.p (.s (.int kj v)))) (h1 : okOp x = true) (h2 : okOp y = true) : Val P cx true ⟨dst, .call { callee := .builtin .min, args := #[x, y], argTypes := ats }, ty, pos, af, gd⟩ st ((.c (.p (.s (.int kd (if v < u then v else u)))))) := fun a w fz β hs => by
    have e1 := hs.eq hx h1
    have e2 := hs.eq hy h2
    exact ⟨_, RepP.s _ rfl, fun w' hw => by simp [execOp, resolve, invoke, builtin, Builtin.min_, Builtin.min2, e1, e2]⟩
theorem Val.max2 {ats : Array TypeId} {kd kj : IntKind} {u v : Int} (hx : st.op cx x = .c (.p (.s (.int kd u)))) (hy : st.op cx y = .c (.p (.s (.int kj v)))) (h1 : okOp x = true) (h2 : okOp y = true) : Val P cx true ⟨dst, .call { callee := .builtin .max, args := #[x, y], argTypes := ats }, ty, pos, af, gd⟩ st ((.c (.p (.s (.int kd (if v > u then v else u)))))) := fun a w fz β hs => by
    have e1 := hs.eq hx h1
    have e2 := hs.eq hy h2
    exact ⟨_, RepP.s _ rfl, fun w' hw => by simp [execOp, resolve, invoke, builtin, Builtin.max_, Builtin.max2, e1, e2]⟩
end
end Go.Proofs.Vl
