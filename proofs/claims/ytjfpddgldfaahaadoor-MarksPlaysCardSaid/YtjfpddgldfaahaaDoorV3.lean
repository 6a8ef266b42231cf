/- Rules over memory: loads, stores, new blocks, rows. -/
import Derived.Test.YtjfpddgldfaahaaDoorV2
import Derived.Maps.AppendAt
set_option linter.all false
namespace Go.Proofs.Vl
open Go Go.RowKit

section
variable {P : Program} {cx : Cx} {st : St} {a : Act} {w : World} {fz : Nat → Prop} {β : Nat → Option Nat}

/-! ### Worlds that step on -/
def bup (β : Nat → Option Nat) (d : Nat) (b : Option Nat) : Nat → Option Nat := fun k => if k = d then b else β k
theorem bup_same (β : Nat → Option Nat) (d : Nat) (b : Option Nat) : bup β d b d = b := by simp [bup]
theorem bup_other (β : Nat → Option Nat) (d : Nat) (b : Option Nat) {k : Nat} (h : k ≠ d) : bup β d b k = β k := by simp [bup, h]
def St.noref (st : St) (d : Nat) : Bool := st.tmps.all (fun x => !x.ref d) && st.objs.all (fun x => x.1 == d || !x.2.ref d)
theorem St.noref_t {d : _} (h : st.noref d = true) {x : AV} (hx : x ∈ st.tmps) : x.ref d = false := by
  simp only [St.noref, Bool.and_eq_true, List.all_eq_true] at h
  simpa using h.1 x hx
theorem find_mem {os : List (Nat × Ob)} {k : Nat} {o : Ob} (h : find os k = some o) : (k, o) ∈ os := by
  induction os with
  | nil => simp [find] at h
  | cons x r ih =>
    obtain ⟨j, p⟩ := x
    rw [find_cons] at h
    by_cases hj : j = k
    · rw [if_pos hj] at h; cases h; subst hj; exact List.mem_cons_self
    · rw [if_neg hj] at h; exact List.mem_cons_of_mem _ (ih h)
theorem St.noref_o {d : _} (h : st.noref d = true) {k : Nat} {o : Ob} (hk : find st.objs k = some o) (hne : k ≠ d) : o.ref d = false := by
  simp only [St.noref, Bool.and_eq_true, List.all_eq_true] at h
  have := h.2 _ (find_mem hk)
  simpa [hne] using this
theorem cellAt {w : World} {b : Nat} {vs : List Value} {T : TypeId} {fr : Nat × Nat} (h : w.heap[b]? = some (.cells vs.toArray T fr)) (j : Nat) : w.cell? ⟨b, j, none⟩ = vs[j]? := by
  simp [World.cell?, h]
theorem shapeAt {w : World} {b : Nat} {vs : List Value} {T : TypeId} {fr : Nat × Nat} (h : w.heap[b]? = some (.cells vs.toArray T fr)) : w.shape? b = some (T, vs.length) := by
  simp [World.shape?, h]
theorem shape_eq {w w' : World} {b : Nat} (h : w'.heap[b]? = w.heap[b]?) : w'.shape? b = w.shape? b := by simp [World.shape?, h]
theorem shape_lt {w : World} {b : Nat} {s} (h : w.shape? b = some s) : b < w.heap.size := by
  unfold World.shape? at h
  split at h
  · rename_i hh; exact (Array.getElem?_eq_some_iff.1 hh).1
  · cases h
theorem Stp.bupN (w : World) (fz : Nat → Prop) (β : Nat → Option Nat) (d : Nat) : Stp w fz β w fz (bup β d none) := .here (fun _ h => h) (fun _ _ h => .inl h) (fun k b _ h => by
  by_cases hk : k = d
  · subst hk; rw [bup_same] at h; cases h
  · rw [bup_other _ _ _ hk] at h; exact ⟨k, h⟩)
theorem RepC.glob_adv {w' : World} {fz' : Nat → Prop} {cs : List PV} {v : Value} (h : RepC w fz (fun _ => none) (.eptr cs) v) (hA : Adv fz w w') (hs : ∀ b, fz b → fz' b) : RepC w' fz' (fun _ => none) (.eptr cs) v :=
  RepC.adv h hA hs (fun k hk => rfl)

/-- A new block under key d. -/
theorem SR.mk' (h : SR cx st a w fz β) {d : Nat} (hlow : d < 1000000) (hd : st.noref d = true) (ob : Ob) (hr : ob.ref d = false) {w' : World} (hw : w'.os = w.os ∧ w'.tape = w.tape ∧ w'.output = w.output) (o : Obj) (hh : w'.heap = w.heap.push o)
    (hrep : RepO w' fz (bup β d (some w.heap.size)) d ob) :
    SR cx ⟨st.tmps, upd st.objs d ob⟩ a w' fz (bup β d (some w.heap.size)) := by
  have hsz : w'.heap.size = w.heap.size + 1 := by rw [hh]; simp
  have hold : ∀ b, b < w.heap.size → w'.heap[b]? = w.heap[b]? := fun b hb => by rw [hh, Array.getElem?_push, if_neg (by omega)]
  have hA : Adv fz w w' := .of (fun b hb => hold b (h.h.fzlt b hb)) (fun b s hs => (shape_eq (hold b (shape_lt hs))).trans hs)
  have hst : Stp w fz β w' fz (bup β d (some w.heap.size)) := ⟨hw.1, hw.2.1, hw.2.2, by rw [hsz]; exact Nat.le_succ _, fun b hb _ => hold b hb, hA.shp, fun b _ hb => .inl hb, fun k b hb hk => by
    by_cases hkd : k = d
    · subst hkd; rw [bup_same] at hk; cases hk; omega
    · rw [bup_other _ _ _ hkd] at hk; exact ⟨k, hk⟩, fun _ h => h⟩
  refine ⟨h.d.stp hst, h.low, ⟨hw.1.trans h.rel.os, hw.2.1.trans h.rel.tape, hw.2.2.trans h.rel.output, by rw [hsz]; exact Nat.le_succ_of_le h.rel.size, ?_, fun b s hs => hA.shp b s (h.rel.shp b s hs), h.rel.fzin, h.rel.fzout, ?_, ?_, fun g cs hg => (h.rel.glob g cs hg).glob_adv hA (fun _ h => h), fun k hk h0 => (bup_other _ _ _ (by omega)).trans (h.rel.bhi k hk h0)⟩, ⟨?_, ?_, ?_, ?_, ?_⟩, ?_⟩
  · intro hrr b hb hn
    rw [hold b (Nat.lt_of_lt_of_le hb h.rel.size)]
    exact h.rel.old hrr b hb hn
  · intro k b hk
    by_cases hkd : k = d
    · subst hkd; rw [h.low k hlow] at hk; cases hk
    · rw [bup_other _ _ _ hkd]; exact h.rel.bin k b hk
  · intro k b hk
    by_cases hkd : k = d
    · subst hkd; rw [bup_same] at hk; cases hk; exact .inr h.rel.size
    · rw [bup_other _ _ _ hkd] at hk; exact h.rel.bout k b hk
  · intro k b hk
    by_cases hkd : k = d
    · subst hkd; rw [bup_same] at hk; cases hk; omega
    · rw [bup_other _ _ _ hkd] at hk; have := h.h.lt k b hk; omega
  · intro b hb; have := h.h.fzlt b hb; omega
  · intro k k' b h1 h2
    by_cases hk : k = d <;> by_cases hk' : k' = d
    · exact hk.trans hk'.symm
    · rw [hk, bup_same] at h1; rw [bup_other _ _ _ hk'] at h2; cases h1; have := h.h.lt _ _ h2; omega
    · rw [hk', bup_same] at h2; rw [bup_other _ _ _ hk] at h1; cases h2; have := h.h.lt _ _ h1; omega
    · rw [bup_other _ _ _ hk] at h1; rw [bup_other _ _ _ hk'] at h2; exact h.h.inj _ _ _ h1 h2
  · intro b hb k hk
    by_cases hkd : k = d
    · subst hkd; rw [bup_same] at hk; cases hk; have := h.h.fzlt _ hb; omega
    · rw [bup_other _ _ _ hkd] at hk; exact h.h.apart b hb k hk
  · intro k o' hk
    rw [find_upd] at hk
    by_cases hkd : d = k
    · subst hkd; rw [if_pos rfl] at hk; cases hk; exact hrep
    · rw [if_neg hkd] at hk
      refine (h.h.ob k o' hk).adv hA (fun _ h => h) (bup_other _ _ _ (Ne.symm hkd)) (fun b hb => hold b (h.h.lt k b hb)) (fun j hj => bup_other _ _ _ ?_) hst
      intro e; subst e; rw [St.noref_o hd hk (Ne.symm hkd)] at hj; cases hj
  · refine h.t.mono fun x v hx hv => hv.adv hA (fun _ h => h) (fun j hj => bup_other _ _ _ ?_)
    intro e; subst e; rw [St.noref_t hd hx] at hj; cases hj

/-- The block of key k is written: as many cells as it had. -/
theorem SR.wr (h : SR cx st a w fz β) {k b : Nat} (hk : β k = some b) {vs vs' : List Value} {T : TypeId} (hb : w.heap[b]? = some (.cells vs.toArray T (0, 0))) (hlen : vs'.length = vs.length)
    (ob : Ob) (hrep : ∀ w', Adv fz w w' → w'.heap[b]? = some (.cells vs'.toArray T (0, 0)) → RepO w' fz β k ob) :
    SR cx ⟨st.tmps, upd st.objs k ob⟩ a (w.setRow b vs'.toArray) fz β := by
  have hw : (w.setRow b vs'.toArray).heap[b]? = some (.cells vs'.toArray T (0, 0)) := setRow_heap w b _ _ T _ hb
  have ho : ∀ j, j ≠ b → (w.setRow b vs'.toArray).heap[j]? = w.heap[j]? := fun j hj => setRow_other w b j _ hj
  have hA : Adv fz w (w.setRow b vs'.toArray) := .of (fun j hj => ho j (fun e => h.h.apart j hj k (e ▸ hk))) (fun j s hs => by
    by_cases hj : j = b
    · subst hj; rw [shapeAt hb] at hs; rw [shapeAt hw, hlen]; exact hs
    · exact (shape_eq (ho j hj)).trans hs)
  have hsz : (w.setRow b vs'.toArray).heap.size = w.heap.size := by simp [World.setRow]
  have hst : Stp w fz β (w.setRow b vs'.toArray) fz β := ⟨rfl, rfl, rfl, by rw [hsz]; exact Nat.le_refl _, fun j _ hn => ho j (fun e => hn k (e ▸ hk)), hA.shp, fun b _ h => .inl h, fun k b _ h => ⟨k, h⟩, fun _ h => h⟩
  refine ⟨h.d.stp hst, h.low, ⟨h.rel.os, h.rel.tape, h.rel.output, by rw [hsz]; exact h.rel.size, ?_, fun b s hs => hA.shp b s (h.rel.shp b s hs), h.rel.fzin, h.rel.fzout, h.rel.bin, h.rel.bout, fun g cs hg => (h.rel.glob g cs hg).glob_adv hA (fun _ h => h), h.rel.bhi⟩, ⟨?_, ?_, h.h.inj, h.h.apart, ?_⟩, ?_⟩
  · intro hrr j hj hn
    rw [ho j ?_]
    · exact h.rel.old hrr j hj hn
    · intro e; subst e
      rcases h.rel.bout k j hk with h1 | h1
      · exact hn k h1
      · omega
  · intro k b hk; rw [hsz]; exact h.h.lt k b hk
  · intro b hb; rw [hsz]; exact h.h.fzlt b hb
  · intro k' o' hk'
    rw [find_upd] at hk'
    by_cases he : k = k'
    · subst he; rw [if_pos rfl] at hk'; cases hk'; exact hrep _ hA hw
    · rw [if_neg he] at hk'
      exact (h.h.ob k' o' hk').adv hA (fun _ h => h) rfl (fun j hj => ho j (fun e => he (h.h.inj _ _ _ hk (e ▸ hj)))) (fun _ _ => rfl) hst
  · exact h.t.mono fun x v hx hv => hv.adv hA (fun _ h => h) (fun _ _ => rfl)

/-! ### Types -/
def tyI (P : Program) (T : TypeId) : Option (Option Nat) :=
  match P.underlying T, P.info? T with
  | some (.struct _), some i | some (.array _ _), some i => some (some i.size)
  | some _, some _ => some none
  | _, _ => none
def tyZ (P : Program) (T : TypeId) : Option (Nat × Nat) := (P.info? T).map fun i => (i.size, i.bytes)
theorem run_loadVar1 {T : TypeId} (hT : tyI P T = some none) (p : Addr) {v : Value} (hv : w.cell? p = some v) : (loadVar T p).run P w = .ok v w := by
  unfold tyI at hT
  cases hu : P.underlying T with
  | none => simp [hu] at hT
  | some D =>
    cases hi : P.info? T with
    | none => cases D <;> simp [hu, hi] at hT
    | some i => cases D <;> simp [hu, hi] at hT <;> simp [loadVar, isAgg, run_underlying hu, hv]
theorem run_loadVarN {T : TypeId} {n : Nat} (hT : tyI P T = some (some n)) (b o : Nat) (vs : List Value) (hn : vs.length = n) (hv : ∀ (j : Nat) v, vs[j]? = some v → w.cell? ⟨b, o + j, none⟩ = some v) : (loadVar T ⟨b, o, none⟩).run P w = .ok (.agg vs.toArray) w := by
  subst hn
  have hl : (loadCells ⟨b, o, none⟩ vs.length).run P w = .ok vs.toArray w := run_loadCells_list (P := P) w ⟨b, o, none⟩ vs (fun j v h => by rw [Addr.add_lit]; exact hv j v h)
  unfold tyI at hT
  cases hu : P.underlying T with
  | none => simp [hu] at hT
  | some D =>
    cases hi : P.info? T with
    | none => cases D <;> simp [hu, hi] at hT
    | some i => cases D <;> simp [hu, hi] at hT <;> simp [loadVar, isAgg, run_underlying hu, sizeOf, typeInfo, hi, hT, hl]

/-! ### Places that are read -/
def placeP (st : St) : AV → Option (List PV)
  | .c (.ptr k off) => match find st.objs k with
    | some (.pcells _ cs) => some (cs.drop off)
    | _ => none
  | .c (.rptr k sz i c) => match find st.objs k with
    | some (.row _ sz' xs) => if sz = sz' then (xs[i]?).map (·.drop c) else none
    | _ => none
  | .c (.eptr cs) => some cs
  | _ => none
def placeC (st : St) : AV → Option (List CV)
  | .c (.ptr k off) => match find st.objs k with
    | some (.cells _ cs) => some (cs.drop off)
    | _ => none
  | _ => none
theorem flat_get {α : Type} {sz : Nat} : ∀ {xs : List (List α)}, (∀ cs ∈ xs, cs.length = sz) → ∀ {i : Nat} {cs : List α}, xs[i]? = some cs → ∀ c : Nat, c < sz → xs.flatten[i * sz + c]? = cs[c]?
  | [], _, i, cs, h, c, _ => by simp at h
  | x :: xs, hl, i, cs, h, c, hc => by
    have hx := hl x List.mem_cons_self
    cases i with
    | zero =>
      simp at h; subst h
      simp only [Nat.zero_mul, Nat.zero_add, List.flatten_cons]
      rw [List.getElem?_append_left (by omega)]
    | succ i =>
      simp only [List.getElem?_cons_succ] at h
      simp only [List.flatten_cons]
      rw [List.getElem?_append_right (by rw [hx, Nat.succ_mul]; omega), hx]
      rw [← flat_get (fun cs hcs => hl cs (List.mem_cons_of_mem _ hcs)) h c hc]
      congr 1
      rw [Nat.succ_mul]; omega
theorem flat_len {α : Type} {sz : Nat} : ∀ {xs : List (List α)}, (∀ cs ∈ xs, cs.length = sz) → xs.flatten.length = xs.length * sz
  | [], _ => by simp
  | x :: xs, hl => by
    rw [List.flatten_cons, List.length_append, hl x List.mem_cons_self, flat_len (fun cs h => hl cs (List.mem_cons_of_mem _ h)), List.length_cons, Nat.succ_mul, Nat.add_comm]
/-- A cell of a row, in the block. -/
theorem row_at {T : TypeId} {sz : Nat} {xs : List (List PV)} {vs : List Value} (hl : ∀ cs ∈ xs, cs.length = sz) (hf : All2 (RepP w fz) xs.flatten (vs.take (xs.length * sz))) {i : Nat} {cs : List PV} (hi : xs[i]? = some cs) {c : Nat} {x : PV} (hc : cs[c]? = some x) : ∃ v, vs[i * sz + c]? = some v ∧ RepP w fz x v := by
  have hcs := hl cs (List.mem_of_getElem? hi)
  have hlt : c < sz := by have := (List.getElem?_eq_some_iff.1 hc).1; omega
  obtain ⟨v, h1, h2⟩ := hf.get ((flat_get hl hi c hlt).trans hc)
  rw [List.getElem?_take] at h1
  split at h1
  · exact ⟨v, h1, h2⟩
  · cases h1
theorem SR.placeP (h : SR cx st a w fz β) {x : AV} {v : Value} (hx : RepA w fz β x v) {cs : List PV} (hp : placeP st x = some cs) :
    ∃ b o, v = .pointer (some ⟨b, o, none⟩) ∧ ∀ (c : Nat) y, cs[c]? = some y → ∃ u, w.cell? ⟨b, o + c, none⟩ = some u ∧ RepP w fz y u := by
  cases x with
  | c x =>
    cases x with
    | ptr k off =>
      obtain ⟨b, h1, h2⟩ := hx
      refine ⟨b, off, h2, fun c y hy => ?_⟩
      unfold Vl.placeP at hp
      cases hf : find st.objs k with
      | none => simp [hf] at hp
      | some ob =>
        cases ob with
        | pcells T cs' =>
          simp only [hf, Option.some.injEq] at hp
          subst hp
          obtain ⟨b', vs, h3, h4, h5⟩ := h.h.ob k _ hf
          rw [h1] at h3; cases h3
          rw [List.getElem?_drop] at hy
          obtain ⟨u, h6, h7⟩ := h5.get hy
          exact ⟨u, (cellAt h4 _).trans h6, h7⟩
        | _ => simp [hf] at hp
    | rptr k sz i c =>
      obtain ⟨b, h1, h2⟩ := hx
      refine ⟨b, i * sz + c, h2, fun c' y hy => ?_⟩
      unfold Vl.placeP at hp
      cases hf : find st.objs k with
      | none => simp [hf] at hp
      | some ob =>
        cases ob with
        | row T sz' xs =>
          simp only [hf] at hp
          by_cases hs : sz = sz'
          · subst hs
            rw [if_pos rfl] at hp
            cases hxi : xs[i]? with
            | none => simp [hxi] at hp
            | some cs' =>
              simp only [hxi, Option.map_some, Option.some.injEq] at hp
              subst hp
              rcases h.h.ob k _ hf with ⟨h3, h4⟩ | ⟨b', vs, h3, h4, h5, h6, h7⟩
              · subst h4; simp at hxi
              · rw [h1] at h3; cases h3
                rw [List.getElem?_drop] at hy
                obtain ⟨u, h8, h9⟩ := row_at (T := T) h6 h7 hxi hy
                exact ⟨u, by rw [cellAt h4, Nat.add_assoc]; exact h8, h9⟩
          · simp [hs] at hp
        | _ => simp [hf] at hp
    | eptr cs' =>
      simp only [Vl.placeP, Option.some.injEq] at hp
      subst hp
      obtain ⟨b, o, h1, h2, h3⟩ := hx
      exact ⟨b, o, h1, h3⟩
    | _ => simp [Vl.placeP] at hp
  | _ => simp [Vl.placeP] at hp
theorem SR.placeC (h : SR cx st a w fz β) {x : AV} {v : Value} (hx : RepA w fz β x v) {cs : List CV} (hp : placeC st x = some cs) :
    ∃ b o, v = .pointer (some ⟨b, o, none⟩) ∧ ∀ (c : Nat) y, cs[c]? = some y → ∃ u, w.cell? ⟨b, o + c, none⟩ = some u ∧ RepC1 w fz β y u := by
  cases x with
  | c x =>
    cases x with
    | ptr k off =>
      obtain ⟨b, h1, h2⟩ := hx
      refine ⟨b, off, h2, fun c y hy => ?_⟩
      unfold Vl.placeC at hp
      cases hf : find st.objs k with
      | none => simp [hf] at hp
      | some ob =>
        cases ob with
        | cells T cs' =>
          simp only [hf, Option.some.injEq] at hp
          subst hp
          obtain ⟨b', vs, h3, h4, h5⟩ := h.h.ob k _ hf
          rw [h1] at h3; cases h3
          rw [List.getElem?_drop] at hy
          obtain ⟨u, h6, h7⟩ := h5.get hy
          exact ⟨u, (cellAt h4 _).trans h6, h7⟩
        | _ => simp [hf] at hp
    | _ => simp [Vl.placeC] at hp
  | _ => simp [Vl.placeC] at hp
/-- The values of a place's first n cells. -/
theorem place_vals {α : Type} {R : α → Value → Prop} {b : Nat} : ∀ (cs : List α) (o : Nat), (∀ (c : Nat) y, cs[c]? = some y → ∃ u, w.cell? ⟨b, o + c, none⟩ = some u ∧ R y u) → ∃ vs : List Value, All2 R cs vs ∧ ∀ (j : Nat) v, vs[j]? = some v → w.cell? ⟨b, o + j, none⟩ = some v
  | [], o, _ => ⟨[], .nil, fun j v h => by simp at h⟩
  | c :: cs, o, h => by
    obtain ⟨u, h1, h2⟩ := h 0 c rfl
    obtain ⟨vs, h3, h4⟩ := place_vals (b := b) cs (o + 1) (fun j y hy => by have := h (j + 1) y hy; rwa [show o + (j + 1) = o + 1 + j by omega] at this)
    refine ⟨u :: vs, .cons h2 h3, fun j v hv => ?_⟩
    cases j with
    | zero => simp at hv; subst hv; exact h1
    | succ j => have := h4 j v (by simpa using hv); rwa [show o + 1 + j = o + (j + 1) by omega] at this

variable {kp : Bool} {K : St → Prop} {dst : Option Tmp} {ty T : TypeId} {pos : String} {af : Array Edge} {gd : Option (Nat × Bool)} {x y : Operand} {n : Nat}
theorem Val.ld1 {cs : List PV} {z : PV} (hT : tyI P T = some none) (ho : okOp x = true) (hp : placeP st (st.op cx x) = some cs) (hz : cs[0]? = some z) : Val P cx false ⟨dst, .load T x, ty, pos, af, gd⟩ st ((.c (.p z))) := fun a w fz β hs => by
    obtain ⟨b, o, h1, h2⟩ := hs.placeP (hs.op x ho) hp
    obtain ⟨u, h3, h4⟩ := h2 0 z hz
    exact ⟨u, h4, fun w' hw => by simp [execOp, h1, Instr.loadAt, Instr.sureAddr, run_loadVar1 hT ⟨b, o, none⟩ ((hw.resolve_left (by simp)).cell (by simpa using h3))]⟩
theorem Val.ldN {cs : List PV} (hT : tyI P T = some (some n)) (ho : okOp x = true) (hp : placeP st (st.op cx x) = some cs) (hn : n ≤ cs.length) : Val P cx false ⟨dst, .load T x, ty, pos, af, gd⟩ st ((.pag (cs.take n))) := fun a w fz β hs => by
    obtain ⟨b, o, h1, h2⟩ := hs.placeP (hs.op x ho) hp
    obtain ⟨vs, h3, h4⟩ := place_vals (R := RepP w fz) (b := b) (cs.take n) o (fun c y hy => h2 c y (by rw [List.getElem?_take] at hy; split at hy; exact hy; cases hy))
    exact ⟨.agg vs.toArray, ⟨vs, rfl, h3⟩, fun w' hw => by simp [execOp, h1, Instr.loadAt, Instr.sureAddr, run_loadVarN hT b o vs (by rw [← h3.len, List.length_take]; omega) (fun j v hj => (hw.resolve_left (by simp)).cell (h4 j v hj))]⟩
theorem Val.lc1 {cs : List CV} {z : CV} (hT : tyI P T = some none) (ho : okOp x = true) (hp : placeC st (st.op cx x) = some cs) (hz : cs[0]? = some z) : Val P cx false ⟨dst, .load T x, ty, pos, af, gd⟩ st ((.c z)) := fun a w fz β hs => by
    obtain ⟨b, o, h1, h2⟩ := hs.placeC (hs.op x ho) hp
    obtain ⟨u, h3, h4⟩ := h2 0 z hz
    exact ⟨u, h4.2, fun w' hw => by simp [execOp, h1, Instr.loadAt, Instr.sureAddr, run_loadVar1 hT ⟨b, o, none⟩ ((hw.resolve_left (by simp)).cell (by simpa using h3))]⟩
theorem Val.lcN {cs : List CV} (hT : tyI P T = some (some n)) (ho : okOp x = true) (hp : placeC st (st.op cx x) = some cs) (hn : n ≤ cs.length) : Val P cx false ⟨dst, .load T x, ty, pos, af, gd⟩ st ((.agg (cs.take n))) := fun a w fz β hs => by
    obtain ⟨b, o, h1, h2⟩ := hs.placeC (hs.op x ho) hp
    obtain ⟨vs, h3, h4⟩ := place_vals (R := RepC1 w fz β) (b := b) (cs.take n) o (fun c y hy => h2 c y (by rw [List.getElem?_take] at hy; split at hy; exact hy; cases hy))
    exact ⟨.agg vs.toArray, ⟨vs, rfl, h3⟩, fun w' hw => by simp [execOp, h1, Instr.loadAt, Instr.sureAddr, run_loadVarN hT b o vs (by rw [← h3.len, List.length_take]; omega) (fun j v hj => (hw.resolve_left (by simp)).cell (h4 j v hj))]⟩

/-! ### New variables -/
def tyZero (P : Program) (T : TypeId) : Option Value := (P.info? T).bind (·.zero)
theorem okCells {z : Value} (hz : okV z = true) (hn : ∀ vs, z ≠ .tuple vs) : ∀ u ∈ z.cells.toList, u.oneCell' = true := by
  intro u hu
  cases z with
  | agg cs => exact (Array.all_eq_true_iff_forall_mem.1 hz) u (by simpa [Value.cells] using hu)
  | tuple vs => exact absurd rfl (hn vs)
  | _ => simp [Value.cells] at hu; subst hu; rfl
theorem all2_s {w fz} : ∀ (l : List Value), (∀ u ∈ l, u.oneCell' = true) → All2 (RepP w fz) (l.map PV.s) l
  | [], _ => .nil
  | u :: l, h => .cons (.s u (h u (by simp))) (all2_s l fun v hv => h v (by simp [hv]))
/-- An operation that makes a block under its own slot's number. -/
theorem OpTo.made {o : Oper} {d : Nat} {ob : Ob} {z : AV} (hdst : o.dst = some d) (hlow : d < 1000000) (hd : st.noref d = true) (hr : ob.ref d = false)
    (h : ∀ a w fz β, SR cx st a w fz β → ∃ (v : Value) (O : Obj) (w' : World), (execOp a.eval o).run P w = .ok (.value v) w' ∧ (w'.os = w.os ∧ w'.tape = w.tape ∧ w'.output = w.output) ∧ w'.heap = w.heap.push O ∧
      (∀ β', β' d = some w.heap.size → (∀ k, k ≠ d → β' k = β k) → RepO w' fz β' d ob ∧ RepA w' fz β' z v))
    (k : K (St.put ⟨st.tmps, upd st.objs d ob⟩ (some d) z)) : OpTo P cx kp o st K := by
  intro a w next Qx ⟨fz, β, hs⟩ hn
  obtain ⟨v, O, w', h1, h2, h3, h4⟩ := h a w fz β hs
  obtain ⟨h5, h6⟩ := h4 (bup β d (some w.heap.size)) (bup_same _ _ _) (fun k hk => bup_other _ _ _ hk)
  have hs' := hs.mk' hlow hd ob hr h2 O h3 h5
  unfold wpv
  rw [h1]
  rw [upv_value, hdst]
  exact hn _ _ _ k ⟨fz, _, hs'.put h6 (some d)⟩ (fun _ => Old.push h3)
theorem adv_push {w w' : World} {O : Obj} (hh : w'.heap = w.heap.push O) (hf : ∀ b, fz b → b < w.heap.size) : Adv fz w w' :=
  .of (fun b hb => by rw [hh, Array.getElem?_push, if_neg (by have := hf b hb; omega)]) (fun b s hs => by rw [shape_eq (w := w)]; exact hs; rw [hh, Array.getElem?_push, if_neg (by have := shape_lt hs; omega)])
theorem OpTo.alloc {d : Nat} {z : Value} (hz : tyZero P T = some z) (hok : okV z = true) (hnt : z.oneCell' = true ∨ ∃ cs, z = .agg cs) (hlow : d < 1000000) (hd : st.noref d = true)
    (k : K (St.put ⟨st.tmps, upd st.objs d (.pcells T (z.cells.toList.map .s))⟩ (some d) (.c (.ptr d 0)))) : OpTo P cx kp ⟨some d, .alloc T, ty, pos, af, gd⟩ st K := by
  refine OpTo.made rfl hlow hd rfl (fun a w fz β hs => ?_) k
  have hz' : ∃ i, P.info? T = some i ∧ i.zero = some z := by
    unfold tyZero at hz
    cases hi : P.info? T with
    | none => simp [hi] at hz
    | some i => exact ⟨i, rfl, by simpa [hi] using hz⟩
  obtain ⟨i, hi, hzz⟩ := hz'
  refine ⟨.pointer (some ⟨w.heap.size, 0, none⟩), .cells z.cells T, w.alloc (.cells z.cells T), by simp [execOp, Instr.alloc, zeroValue, typeInfo, hi, hzz, newVar, newRow], ⟨rfl, rfl, rfl⟩, rfl, fun β' h1 h2 => ⟨⟨w.heap.size, z.cells.toList, h1, by rw [heap_alloc_new], ?_⟩, ⟨w.heap.size, h1, rfl⟩⟩⟩
  exact all2_s _ (okCells hok (fun vs e => by subst e; rcases hnt with h | ⟨cs, h⟩ <;> cases h))
def obOf (T : TypeId) : AV → Option Ob
  | .c (.p y) => some (.pcells T [y])
  | .c .any => none
  | .c y => some (.cells T [y])
  | .pag ys => some (.pcells T ys)
  | .agg ys => some (.cells T ys)
  | .tup _ => none
theorem RepC.one {x : CV} {v : Value} (h : RepC w fz β x v) (hx : x ≠ .any) : v.oneCell' = true := by
  cases x with
  | p x => exact RepP.one h
  | own k sz n => rcases h with ⟨_, _, rfl⟩ | ⟨b, cap, T, _, rfl, _⟩ <;> rfl
  | win k sz off n => rcases h with ⟨_, a, cap, rfl⟩ | ⟨b, cap, _, rfl, _⟩ <;> rfl
  | ptr k off => obtain ⟨b, _, rfl⟩ := h; rfl
  | rptr k sz i c => obtain ⟨b, _, rfl⟩ := h; rfl
  | mp k => obtain ⟨b, _, rfl⟩ := h; rfl
  | eptr cs => obtain ⟨b, o, rfl, _⟩ := h; rfl
  | fn f caps => obtain ⟨cv, rfl, _⟩ := h; rfl
  | any => exact absurd rfl hx
theorem cells_one {v : Value} (h : v.oneCell' = true) : v.cells = #[v] := by cases v <;> first | rfl | cases h
theorem OpTo.box {d : Nat} {ob : Ob} (hob : obOf T (st.op cx x) = some ob) (ho : okOp x = true) (hlow : d < 1000000) (hd : st.noref d = true) (hr : ob.ref d = false)
    (k : K (St.put ⟨st.tmps, upd st.objs d ob⟩ (some d) (.c (.ptr d 0)))) : OpTo P cx kp ⟨some d, .box T x, ty, pos, af, gd⟩ st K := by
  refine OpTo.made rfl hlow hd hr (fun a w fz β hs => ?_) k
  have hx := hs.op x ho
  refine ⟨.pointer (some ⟨w.heap.size, 0, none⟩), .cells (a.eval x).cells T, w.alloc (.cells (a.eval x).cells T), by simp [execOp, Instr.box, newVar, newRow], ⟨rfl, rfl, rfl⟩, rfl, fun β' h1 h2 => ⟨?_, ⟨w.heap.size, h1, rfl⟩⟩⟩
  have hA : Adv fz w (w.alloc (.cells (a.eval x).cells T)) := adv_push rfl hs.h.fzlt
  generalize st.op cx x = av at hob hx
  generalize a.eval x = v at hx hA
  have hnew : (w.alloc (.cells v.cells T)).heap[w.heap.size]? = some (.cells v.cells T) := heap_alloc_new w _
  cases av with
  | c y =>
    cases y with
    | p y =>
      cases hob
      rw [cells_one (RepP.one hx)] at hnew ⊢
      rw [cells_one (RepP.one hx)] at hA
      exact ⟨w.heap.size, [v], h1, hnew, .cons (RepP.adv hx hA (fun _ h => h)) .nil⟩
    | any => cases hob
    | _ =>
      cases hob
      simp only [RepA] at hx
      have h1v := RepC.one hx (by simp)
      rw [cells_one h1v] at hnew hA ⊢
      exact ⟨w.heap.size, [v], h1, hnew, .cons ⟨h1v, RepC.adv hx hA (fun _ h => h) (fun j hj => h2 j (by intro e; subst e; simp [Ob.ref] at hr; rw [hr] at hj; cases hj))⟩ .nil⟩
  | pag ys =>
    cases hob
    obtain ⟨vs, rfl, h3⟩ := hx
    exact ⟨w.heap.size, vs, h1, hnew, h3.mono fun _ _ _ h => RepP.adv h hA (fun _ h => h)⟩
  | agg ys =>
    cases hob
    obtain ⟨vs, rfl, h3⟩ := hx
    refine ⟨w.heap.size, vs, h1, hnew, h3.mono fun c u hc h => ⟨h.1, h.2.adv hA (fun _ h => h) (fun j hj => h2 j ?_)⟩⟩
    intro e; subst e
    simp only [Ob.ref, List.any_eq_false] at hr
    exact absurd hj (hr c hc)
  | tup ys => cases hob
end
end Go.Proofs.Vl
