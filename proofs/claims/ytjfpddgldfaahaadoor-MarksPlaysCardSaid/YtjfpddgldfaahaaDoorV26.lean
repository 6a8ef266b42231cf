/- The statement that ranges over a function. -/
import Derived.Test.YtjfpddgldfaahaaDoorV25
set_option linter.all false
namespace Go.Proofs.Vl
open Go Go.RowKit

/-- A step that may change block l, beside one's own. -/
structure StpL (l : Nat) (w : World) (fz : Nat → Prop) (β : Nat → Option Nat) (w' : World) (fz' : Nat → Prop) (β' : Nat → Option Nat) : Prop where
  os : w'.os = w.os
  tape : w'.tape = w.tape
  output : w'.output = w.output
  size : w.heap.size ≤ w'.heap.size
  blk : ∀ b, b < w.heap.size → b ≠ l → (∀ k, β k ≠ some b) → w'.heap[b]? = w.heap[b]?
  shp : ∀ b s, w.shape? b = some s → w'.shape? b = some s
  ffz : ∀ b, b < w.heap.size → fz' b → fz b ∨ ∃ k, β k = some b
  own : ∀ k b, b < w.heap.size → β' k = some b → ∃ k', β k' = some b
  mono : ∀ b, fz b → fz' b
section
variable {l : Nat} {w w' w2 : World} {fz fz' fz2 : Nat → Prop} {β β' β2 : Nat → Option Nat}
theorem Stp.toL (h : Stp w fz β w' fz' β') (l : Nat) : StpL l w fz β w' fz' β' := ⟨h.os, h.tape, h.output, h.size, fun b hb _ hn => h.blk b hb hn, h.shp, h.ffz, h.own, h.mono⟩
theorem StpL.trans (h : StpL l w fz β w' fz' β') (h' : StpL l w' fz' β' w2 fz2 β2) : StpL l w fz β w2 fz2 β2 where
  os := h'.os.trans h.os
  tape := h'.tape.trans h.tape
  output := h'.output.trans h.output
  size := Nat.le_trans h.size h'.size
  blk := fun b hb hl hn => (h'.blk b (Nat.lt_of_lt_of_le hb h.size) hl fun k hk => by obtain ⟨k', hk'⟩ := h.own k b hb hk; exact hn k' hk').trans (h.blk b hb hl hn)
  shp := fun b s hs => h'.shp b s (h.shp b s hs)
  ffz := fun b hb hf => by
    rcases h'.ffz b (Nat.lt_of_lt_of_le hb h.size) hf with h1 | ⟨k, h1⟩
    · exact h.ffz b hb h1
    · exact .inr (h.own k b hb h1)
  own := fun k b hb hk => by obtain ⟨k', hk'⟩ := h'.own k b (Nat.lt_of_lt_of_le hb h.size) hk; exact h.own k' b hb hk'
  mono := fun b hb => h'.mono b (h.mono b hb)
theorem StpL.put {r : Loop} {o' : Obj} (h : w.heap[l]? = some (.loop r)) : StpL l w fz β (w.putObj l o') fz β :=
  ⟨rfl, rfl, rfl, by simp, fun b _ hl _ => World.putObj_heap_other hl, shape_put h (by simp), fun b _ h => .inl h, fun k b _ h => ⟨k, h⟩, fun _ h => h⟩
end
theorem find_app (os os' : List (Nat × Ob)) (k : Nat) : find (os ++ os') k = (find os k).or (find os' k) := by
  induction os with
  | nil => simp [find]
  | cons p r ih =>
    obtain ⟨j, o⟩ := p
    rw [List.cons_append, find_cons, find_cons, ih]
    by_cases h : j = k
    · simp [h]
    · simp [h]
abbrev SV : Nat := 999998
def odel (k : Nat) : List (Nat × Ob) → List (Nat × Ob)
  | [] => []
  | (j, o) :: r => cond (j == k) (odel k r) ((j, o) :: odel k r)
theorem find_odel {os : List (Nat × Ob)} {k j : Nat} {o : Ob} (h : find (odel k os) j = some o) : find os j = some o := by
  induction os with
  | nil => exact h
  | cons p r ih =>
    obtain ⟨i, q⟩ := p
    rw [odel] at h
    have nk : ∀ {r : List (Nat × Ob)}, find (odel k r) k = none := fun {r} => by
      induction r with
      | nil => rfl
      | cons p r ih =>
        obtain ⟨i, q⟩ := p
        rw [odel]
        by_cases hi : i = k
        · simp [hi, ih]
        · have : (i == k) = false := by simpa using hi
          rw [this, cond_false, find_cons, if_neg hi]; exact ih
    by_cases hi : i = k
    · subst hi
      rw [beq_self_eq_true, cond_true] at h
      rw [find_cons]
      by_cases hij : i = j
      · subst hij; rw [nk] at h; cases h
      · rw [if_neg hij]; exact ih h
    · have : (i == k) = false := by simpa using hi
      rw [this, cond_false, find_cons] at h
      rw [find_cons]
      split
      · rename_i hh; rw [if_pos hh] at h; exact h
      · rename_i hh; rw [if_neg hh] at h; exact ih h
def Has (os os' : List (Nat × Ob)) : Prop := ∀ k o, find os' k = some o → find os k = some o
def setT : List AV → List Nat → List AV → List AV
  | ts, p :: ps, x :: xs => setT (ts.set p x) ps xs
  | ts, _, _ => ts
theorem setT_rep {R : AV → Value → Prop} : ∀ {ts : List AV} {vs : Array Value} (ps : List Nat) {xs : List AV} {us : List Value}, All2 R ts vs.toList → All2 R xs us →
    All2 R (setT ts ps xs) ((ps.zip us).foldl (fun (t : Array Value) (p : Nat × Value) => t.setIfInBounds p.1 p.2) vs).toList
  | ts, vs, [], xs, us, h, h' => by cases h' <;> simpa [setT] using h
  | ts, vs, p :: ps, _, _, h, .nil => by simpa [setT] using h
  | ts, vs, p :: ps, _, _, h, .cons h1 h2 => by
    simp only [setT, List.zip_cons_cons, List.foldl_cons]
    exact setT_rep ps (by rw [Array.toList_setIfInBounds]; exact h.set h1 p) h2
def YV.args (y : YV) (kr : Nat) : List AV := y.xs ++ match y.row with
  | none => []
  | some (_, sz, rs) => [.c (.own kr sz rs.length)]
def YV.objs (y : YV) (kr : Nat) : List (Nat × Ob) := match y.row with
  | none => []
  | some (T, sz, rs) => [(kr, .row T sz rs)]
/-- Where a round begins. -/
def rst (st : St) (ps : Array Tmp) (y : YV) (kr : Nat) (os : List (Nat × Ob)) (sv : List Value) : St := ⟨setT st.tmps ps.toList (y.args kr), y.objs kr ++ (os ++ [(SV, .sav st.tmps sv)])⟩
/-- How a round may end. -/
def rq {α : Type} (Q : Exit → St → Prop) (tkl : List (Nat × Ob)) (st : St) (sv : List Value) (fo : α → List (Nat × Ob)) (inv : Nat → α → Prop) (i : Nat) : Exit → St → Prop
  | .normal, s => ∃ x, inv (i + 1) x ∧ Has s.objs (fo x) ∧ find s.objs SV = some (.sav st.tmps sv)
  | .ret, s => Q .ret ⟨st.tmps, tkl ++ odel SV s.objs⟩ ∧ (odel SV s.objs).all (fun p => noTok p.2) = true ∧ find s.objs SV = some (.sav st.tmps sv)
  | .exit id, s => Q (.exit id) ⟨st.tmps, tkl ++ odel SV s.objs⟩ ∧ (odel SV s.objs).all (fun p => noTok p.2) = true ∧ find s.objs SV = some (.sav st.tmps sv)
  | .goto t, s => Q (.goto t) ⟨st.tmps, tkl ++ odel SV s.objs⟩ ∧ (odel SV s.objs).all (fun p => noTok p.2) = true ∧ find s.objs SV = some (.sav st.tmps sv)
  | _, _ => False
def capF : Cap → Bool
  | .key _ => false
  | .val x => x.oneCell'
  | .fz _ => true
section
variable {P : Program} {cx : Cx} {st : St} {a a' : Act} {w w' : World} {fz : Nat → Prop} {β : Nat → Option Nat}
theorem SR.sub (h : SR cx st a w fz β) {os : List (Nat × Ob)} (ho : Has st.objs os) : SR cx ⟨st.tmps, os⟩ a w fz β :=
  ⟨h.d, h.low, h.rel, ⟨h.h.lt, h.h.fzlt, h.h.inj, h.h.apart, fun k o hk => h.h.ob k o (ho k o hk)⟩, h.t⟩
theorem RepP.of_pure {x : PV} {v : Value} {fz' : Nat → Prop} (h : RepP w (fun _ => False) x v) : RepP w fz' x v := h.adv (Adv.refl _ _) (fun _ h => h.elim)
/-- A row that is handed over. -/
theorem SR.imp_row (h : SR cx st a w fz β) (hb : cx.base = none) {y : YV} {ob : Option Nat} {vs : List Value} (hrep : y.rep w ob vs) {kr : Nat} (hlow : kr < 1000000) (hn : y.row = none ∨ st.noref kr = true)
    (hob : ∀ b, ob = some b → cx.w0.heap.size ≤ b ∧ b < w.heap.size ∧ ¬ fz b ∧ ∀ k, β k ≠ some b) (hnt : st.objs.all (fun p => noTok p.2) = true) :
    ∃ βr, SR cx ⟨st.tmps, y.objs kr ++ st.objs⟩ a w fz βr ∧ All2 (RepA w fz βr) (y.args kr) vs ∧ ∀ k b, βr k = some b → (∃ k', β k' = some b) ∨ ob = some b := by
  obtain ⟨xs, row⟩ := y
  cases row with
  | none =>
    simp only [YV.rep] at hrep
    refine ⟨β, h, ?_, fun k b hk => .inl ⟨k, hk⟩⟩
    simp only [YV.args, List.append_nil]
    exact hrep.2.2.mono fun x v hm hx => pureA_rep (List.all_eq_true.1 hrep.2.1 x hm) hx
  | some r =>
    obtain ⟨T, sz, rs⟩ := r
    simp only [YV.rep] at hrep
    obtain ⟨us, v, rfl, hpa, h1, h2, h3⟩ := hrep
    have hn := hn.resolve_left (by simp)
    have hrow : ∀ β' : Nat → Option Nat, β' kr = ob → RepO w fz β' kr (.row T sz rs) ∧ RepC w fz β' (.own kr sz rs.length) v := fun β' hβ => by
      constructor
      · rcases h3 with ⟨g1, g2⟩ | ⟨b, us', g1, g2, g3, g4, g5⟩
        · exact .inl ⟨hβ.trans (by simpa [yβ] using g1), g2⟩
        · exact .inr ⟨b, us', hβ.trans (by simpa [yβ] using g1), g2, g3, g4, g5.mono fun x u _ hr => hr.of_pure⟩
      · rcases h2 with ⟨g1, g2⟩ | ⟨b, cap, T', g1, g2⟩
        · exact .inl ⟨hβ.trans (by simpa [yβ] using g1), g2⟩
        · exact .inr ⟨b, cap, T', hβ.trans (by simpa [yβ] using g1), g2⟩
    obtain ⟨hR, hC⟩ := hrow (bup β kr ob) (bup_same _ _ _)
    refine ⟨bup β kr ob, ?_, ?_, fun k b hk => ?_⟩
    · refine ⟨?_, h.low, ⟨h.rel.os, h.rel.tape, h.rel.output, h.rel.size, h.rel.old, h.rel.shp, h.rel.fzin, h.rel.fzout, ?_, ?_, h.rel.glob, fun k hk h0 => (bup_other _ _ _ (by omega)).trans (h.rel.bhi k hk h0)⟩, ⟨?_, h.h.fzlt, ?_, ?_, ?_⟩, ?_⟩
      · obtain ⟨⟨Ds, d1, d2, d3⟩, d4, d5⟩ := h.d
        refine ⟨⟨Ds, d1, d2, fun D hD => ?_⟩, fun W f b hbs => (by rw [hb] at hbs; cases hbs), d5⟩
        obtain ⟨g1, g2, g3, g4⟩ := d3 D hD
        refine ⟨g1, g2, g3, fun k hk => ?_⟩
        by_cases hkd : k = kr
        · subst hkd; rw [bup_same] at hk; exact (hob D hk).2.2.1 g2
        · rw [bup_other _ _ _ hkd] at hk; exact g4 k hk
      · intro k b hk
        by_cases hkd : k = kr
        · subst hkd; rw [h.low k hlow] at hk; cases hk
        · rw [bup_other _ _ _ hkd]; exact h.rel.bin k b hk
      · intro k b hk
        by_cases hkd : k = kr
        · subst hkd; rw [bup_same] at hk; exact .inr (hob b hk).1
        · rw [bup_other _ _ _ hkd] at hk; exact h.rel.bout k b hk
      · intro k b hk
        by_cases hkd : k = kr
        · subst hkd; rw [bup_same] at hk; exact (hob b hk).2.1
        · rw [bup_other _ _ _ hkd] at hk; exact h.h.lt k b hk
      · intro k k' b e1 e2
        by_cases hk : k = kr <;> by_cases hk' : k' = kr
        · exact hk.trans hk'.symm
        · rw [hk, bup_same] at e1; rw [bup_other _ _ _ hk'] at e2; exact absurd e2 ((hob b e1).2.2.2 _)
        · rw [hk', bup_same] at e2; rw [bup_other _ _ _ hk] at e1; exact absurd e1 ((hob b e2).2.2.2 _)
        · rw [bup_other _ _ _ hk] at e1; rw [bup_other _ _ _ hk'] at e2; exact h.h.inj _ _ _ e1 e2
      · intro b hb k hk
        by_cases hkd : k = kr
        · subst hkd; rw [bup_same] at hk; exact (hob b hk).2.2.1 hb
        · rw [bup_other _ _ _ hkd] at hk; exact h.h.apart b hb k hk
      · intro k o hk
        simp only [YV.objs, List.cons_append, List.nil_append, find_cons] at hk
        by_cases hkd : kr = k
        · subst hkd; rw [if_pos rfl] at hk; cases hk; exact hR
        · rw [if_neg hkd] at hk
          refine RepO.adv0 (fun F J e => ?_) (h.h.ob k o hk) (Adv.refl _ _) (fun _ h => h) (bup_other _ _ _ (Ne.symm hkd)) (fun _ _ => rfl) (fun j hj => bup_other _ _ _ ?_)
          · subst e; exact noTok_all hnt hk
          · intro e; subst e; rw [St.noref_o hn hk (Ne.symm hkd)] at hj; cases hj
      · refine h.t.mono fun x v hx hv => hv.adv (Adv.refl _ _) (fun _ h => h) (fun j hj => bup_other _ _ _ ?_)
        intro e; subst e; rw [St.noref_t hn hx] at hj; cases hj
    · simp only [YV.args]
      exact (h1.mono fun x v hm hx => pureA_rep (List.all_eq_true.1 hpa x hm) hx).append (.cons hC .nil)
    · by_cases hkd : k = kr
      · subst hkd; rw [bup_same] at hk; exact .inr hk
      · rw [bup_other _ _ _ hkd] at hk; exact .inl ⟨k, hk⟩
end
end Go.Proofs.Vl
