/- More rules: whole variables, rows made and cut, structs put together. -/
import Derived.Test.YtjfpddgldfaahaaDoorV11
set_option linter.all false
namespace Go.Proofs.Vl
open Go Go.RowKit
section
variable {P : Program} {cx : Cx} {st : St} {a : Act} {w : World} {fz : Nat → Prop} {β : Nat → Option Nat}
variable {K : St → Prop} {dst : Option Tmp} {ty T T' E : TypeId} {pos : String} {af : Array Edge} {gd : Option (Nat × Bool)} {x y : Operand} {n k off : Nat} {kp : Bool}
/-! ### Whole variables -/
theorem Val.ldF {cs : List PV} (hT : tyI P T = some (some n)) (ho : okOp x = true) (hp : placeP st (st.op cx x) = some cs) (hn : cs.length = n) : Val P cx false ⟨dst, .load T x, ty, pos, af, gd⟩ st (.pag cs) := by
  have := Val.ldN (dst := dst) (ty := ty) (pos := pos) (af := af) (gd := gd) hT ho hp (Nat.le_of_eq hn.symm)
  rwa [List.take_of_length_le (Nat.le_of_eq hn)] at this
theorem Val.lcF {cs : List CV} (hT : tyI P T = some (some n)) (ho : okOp x = true) (hp : placeC st (st.op cx x) = some cs) (hn : cs.length = n) : Val P cx false ⟨dst, .load T x, ty, pos, af, gd⟩ st (.agg cs) := by
  have := Val.lcN (dst := dst) (ty := ty) (pos := pos) (af := af) (gd := gd) hT ho hp (Nat.le_of_eq hn.symm)
  rwa [List.take_of_length_le (Nat.le_of_eq hn)] at this
theorem splice_full {α : Type} (cs ys : List α) (h : ys.length = cs.length) : splice cs 0 ys = ys := by
  simp [splice, h]
theorem OpTo.stF {cs ys : List PV} (hx : st.op cx x = .c (.ptr k 0)) (h1 : okOp x = true) (hf : find st.objs k = some (.pcells T' cs)) (hy : pvs (st.op cx y) = some ys) (h2 : okOp y = true) (hT : (P.info? T).map (·.size) = some n) (hn : ys.length = n) (hl : cs.length = n)
    (kk : K ⟨st.tmps, upd st.objs k (.pcells T' ys)⟩) : OpTo P cx false ⟨none, .store T x y, ty, pos, af, gd⟩ st K := by
  refine OpTo.stP hx h1 hf hy h2 (by rw [hT, hn]) (by omega) ?_
  rw [splice_full _ _ (by omega)]; exact kk
theorem ResV.ldF {t : Nat} {cs : List PV} {z : AV} (h : st.tmps[t]? = some z) (hT : tyI P T = some (some n)) (hp : placeP st z = some cs) (hn : cs.length = n) : ResV P st (.cell t T) (.pag cs) := by
  have := ResV.ldN h hT hp (Nat.le_of_eq hn.symm)
  rwa [List.take_of_length_le (Nat.le_of_eq hn)] at this
theorem ResV.lcF {t : Nat} {cs : List CV} {z : AV} (h : st.tmps[t]? = some z) (hT : tyI P T = some (some n)) (hp : placeC st z = some cs) (hn : cs.length = n) : ResV P st (.cell t T) (.agg cs) := by
  have := ResV.lcN h hT hp (Nat.le_of_eq hn.symm)
  rwa [List.take_of_length_le (Nat.le_of_eq hn)] at this
/-! ### Rows made -/
theorem made_at (z : Array Value) (n j : Nat) (hj : j < n) : (madeCells z n).toList[j]? = some (z[j % z.size]!) := by
  simp [madeCells, hj]
theorem all2_made {w fz} {z : Value} {sz : Nat} (hz : z.cells.size = sz) (hs : 0 < sz) (hok : ∀ u ∈ z.cells.toList, u.oneCell' = true) : ∀ l N, l * sz ≤ N → All2 (RepP w fz) (List.replicate l (z.cells.toList.map PV.s)).flatten ((madeCells z.cells N).toList.take (l * sz)) := by
  intro l N hN
  have hlen : ∀ cs ∈ List.replicate l (z.cells.toList.map PV.s), cs.length = sz := fun cs h => by
    rw [List.eq_of_mem_replicate h]; simp [hz]
  refine All2.of_get (by rw [flat_len hlen]; simp [size_madeCells]; omega) fun i a b h1 h2 => ?_
  have hi : i < l * sz := by have := (List.getElem?_eq_some_iff.1 h1).1; rw [flat_len hlen] at this; simpa using this
  have hq : i / sz < l := Nat.div_lt_of_lt_mul (by rw [Nat.mul_comm]; exact hi)
  have hget : (List.replicate l (z.cells.toList.map PV.s))[i / sz]? = some (z.cells.toList.map PV.s) := by simp [hq]
  have := flat_get hlen hget (i % sz) (Nat.mod_lt _ hs)
  rw [show i / sz * sz + i % sz = i by rw [Nat.mul_comm]; exact Nat.div_add_mod i sz, h1] at this
  rw [List.getElem?_take, if_pos hi, made_at _ _ _ (by omega), hz] at h2
  have hm : i % sz < z.cells.size := by rw [hz]; exact Nat.mod_lt _ hs
  cases h2
  have h3 : z.cells[i % sz]! = z.cells[i % sz] := by simp [hm]
  rw [h3]
  simp only [List.getElem?_map] at this
  rw [List.getElem?_eq_getElem (by simpa using hm)] at this
  simp only [Option.map_some, Option.some.injEq, Array.getElem_toList] at this
  subst this
  exact .s _ (hok _ (by simp))
theorem OpTo.made2 {o : Oper} {d : Nat} {ob : Ob} {z : AV} (hdst : o.dst = some d) (hlow : d < 1000000) (hd : st.noref d = true) (hr : ob.ref d = false)
    (h : ∀ a w fz β, SR cx st a w fz β → ∃ (v : Value) (O : Obj) (w' : World), (execOp a.eval o).run P w = .ok (.value v) w' ∧ (w'.os = w.os ∧ w'.tape = w.tape ∧ w'.output = w.output) ∧ w'.heap = w.heap.push O ∧
      (∀ β', β' d = some w.heap.size → (∀ k, k ≠ d → β' k = β k) → RepO w' fz β' d ob ∧ RepA w' fz β' z v))
    (k : K (St.put ⟨st.tmps, upd st.objs d ob⟩ (some d) z)) : OpTo P cx kp o st K := OpTo.made hdst hlow hd hr h k
/-- make([]T, l, c). -/
theorem OpTo.make {d : Nat} {z : Value} {sz by_ : Nat} {kl kc : IntKind} {l c : Int} (hu : P.underlying T = some (.slice E)) (hE : tyF P E = some (some z, sz, by_)) (hzs : z.cells.size = sz) (hs0 : 0 < sz) (hok : okV z = true) (hnt : z.oneCell' = true ∨ ∃ cs, z = .agg cs)
    (hx : st.op cx x = .c (.p (.s (.int kl l)))) (hy : st.op cx y = .c (.p (.s (.int kc c)))) (h1 : okOp x = true) (h2 : okOp y = true) (h0 : 0 ≤ l) (hlc : l ≤ c) (hb : (by_ : Int) * c ≤ 281474976710656) (hm : c ≤ 9223372036854775807) (hlow : d < 1000000) (hd : st.noref d = true)
    (kk : K (St.put ⟨st.tmps, upd st.objs d (.row E sz (List.replicate l.toNat (z.cells.toList.map .s)))⟩ (some d) (.c (.own d sz l.toNat)))) : OpTo P cx kp ⟨some d, .makeSlice T x y, ty, pos, af, gd⟩ st K := by
  refine OpTo.made rfl hlow hd rfl (fun a w fz β hs => ?_) kk
  obtain ⟨i, hi, hiz, his, hib⟩ := tyF_spec hE
  have e1 := hs.eq hx h1
  have e2 := hs.eq hy h2
  have hr := run_make (P := P) w T E i z hu hi hiz kl kc l c h0 hlc (by rw [hib]; exact hb) hm
  refine ⟨.slice (some ⟨w.heap.size, 0, none⟩) l.toNat c.toNat, .cells (madeCells z.cells (c.toNat * i.size)) E, w.alloc (.cells (madeCells z.cells (c.toNat * i.size)) E), by simp [execOp, e1, e2, hr], ⟨rfl, rfl, rfl⟩, rfl, fun β' hβ _ => ?_⟩
  have hnew : (w.alloc (.cells (madeCells z.cells (c.toNat * i.size)) E)).heap[w.heap.size]? = some (.cells (madeCells z.cells (c.toNat * i.size)).toList.toArray E) := by rw [heap_alloc_new]
  have hlen : (madeCells z.cells (c.toNat * i.size)).toList.length = c.toNat * sz := by simp [size_madeCells, his]
  have hle : l.toNat * sz ≤ c.toNat * sz := Nat.mul_le_mul_right _ (by omega)
  refine ⟨.inr ⟨w.heap.size, _, hβ, hnew, by rw [hlen, List.length_replicate]; exact hle, fun cs h => by rw [List.eq_of_mem_replicate h]; simp [hzs], ?_⟩, .inr ⟨w.heap.size, c.toNat, E, hβ, rfl, by rw [shapeAt hnew, hlen], by unfold maxLen; omega, by omega⟩⟩
  rw [List.length_replicate, his]
  exact all2_made hzs hs0 (okCells hok (fun vs e => by subst e; rcases hnt with h | ⟨cs, h⟩ <;> cases h)) _ _ hle
/-! ### Put together -/
def fillA {α : Type} (place : Nat → Option (Nat × Nat)) : List α → List (Nat × Option (List α)) → Option (List α)
  | cells, [] => some cells
  | cells, (i, some us) :: r => match place i with
    | some (off, size) => cond (us.length == size && decide (off + size ≤ cells.length)) (fillA place (splice cells off us) r) none
    | none => none
  | _, (_, none) :: _ => none
theorem splice_cons {α : Type} (cs : List α) (o : Nat) (u : α) (us : List α) (h : o < cs.length) : splice (cs.set o u) (o + 1) us = splice cs o (u :: us) := by
  unfold splice
  rw [List.set_eq_take_append_cons_drop, if_pos h]
  have h1 : (cs.take o).length = o := by simp; omega
  have h2 : (cs.take o ++ u :: cs.drop (o + 1)) = (cs.take o ++ [u]) ++ cs.drop (o + 1) := by simp
  rw [h2, List.take_append_of_le_length (by simp; omega), List.take_of_length_le (by simp; omega), List.drop_append, List.drop_of_length_le (by simp; omega)]
  simp only [List.length_append, h1, List.length_cons, List.length_nil, List.nil_append, List.drop_drop, List.append_assoc, List.cons_append]
  rw [show o + 1 + (o + 1 + us.length - (o + (0 + 1))) = o + (us.length + 1) by omega]
theorem foldl_splice (off : Nat) : ∀ (us cs : List Value) (j : Nat), off + j + us.length ≤ cs.length → (us.zipIdx j).foldl (fun (c : Array Value) (p : Value × Nat) => c.setIfInBounds (off + p.2) p.1) cs.toArray = (splice cs (off + j) us).toArray
  | [], cs, j, _ => by simp [splice]
  | u :: us, cs, j, h => by
    simp only [List.zipIdx_cons, List.foldl_cons, List.setIfInBounds_toArray]
    simp only [List.length_cons] at h
    rw [foldl_splice off us _ (j + 1) (by simp; omega), ← Nat.add_assoc, splice_cons _ _ _ _ (by omega)]
theorem fill_rep {α : _} {R : α → Value → Prop} {place : Nat → Option (Nat × Nat)} : ∀ (parts : List (Nat × Option (List α))) (vals : List (Nat × Value)) (cs cs' : List α) (vcs : List Value), All2 R cs vcs →
    All2 (fun (p : Nat × Option (List α)) (q : Nat × Value) => p.1 = q.1 ∧ ∀ us, p.2 = some us → All2 R us q.2.cells.toList) parts vals → fillA place cs parts = some cs' →
    ∃ vcs' : List Value, Instr.fill place vcs.toArray vals = some vcs'.toArray ∧ All2 R cs' vcs'
  | _, _, cs, cs', vcs, h, .nil, hf => by simp only [fillA, Option.some.injEq] at hf; subst hf; exact ⟨vcs, rfl, h⟩
  | _, _, cs, cs', vcs, h, .cons (a := (i, ou)) (b := (i', v)) hp hr, hf => by
    obtain ⟨rfl, hp⟩ := hp
    dsimp only at hp
    cases ou with
    | none => simp [fillA] at hf
    | some us =>
      simp only [fillA] at hf
      cases hpl : place i with
      | none => simp [hpl] at hf
      | some os =>
        obtain ⟨off, size⟩ := os
        simp only [hpl] at hf
        obtain ⟨h1, h2⟩ := cond_some hf
        simp only [Bool.and_eq_true, beq_iff_eq, decide_eq_true_eq] at h1
        have hu := hp us rfl
        have hvs : v.cells.size = size := by rw [← h1.1, hu.len]; simp
        have hcs := h.len
        have hul := hu.len
        obtain ⟨vcs', h3, h4⟩ := fill_rep _ _ (splice cs off us) cs' (splice vcs off v.cells.toList) (h.splice hu off) hr h2
        refine ⟨vcs', ?_, h4⟩
        have hfold := foldl_splice off v.cells.toList vcs 0 (by simp at hul ⊢; omega)
        unfold Instr.fill
        simp only [hpl]
        rw [if_neg (by simp only [List.size_toArray, Bool.or_eq_true, bne_iff_ne, ne_eq, decide_eq_true_eq, not_or]; exact ⟨by omega, by omega⟩)]
        rw [← h3]
        congr 1
        simp only [Nat.add_zero] at hfold
        rw [← hfold, ← Array.foldl_toList, Array.toList_zipIdx]
end
end Go.Proofs.Vl
