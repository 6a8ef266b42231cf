/- Iterators: what they yield, and to whom. -/
import Derived.Test.YtjfpddgldfaahaaDoorV24
set_option linter.all false
namespace Go.Proofs.Vl
open Go Go.RowKit

def pureA : AV → Bool
  | .c (.p (.s v)) => v.oneCell'
  | .tup [] => true
  | .pag cs => cs.all fun | .s v => v.oneCell' | _ => false
  | _ => false
theorem pureA_rep {r : AV} (hp : pureA r = true) {w w' : World} {fz fz' : Nat → Prop} {β β' : Nat → Option Nat} {v : Value} (h : RepA w fz β r v) : RepA w' fz' β' r v := by
  unfold pureA at hp
  split at hp
  · cases h; exact RepP.s _ hp
  · obtain ⟨vs, h1, h2⟩ := h; cases h2; exact ⟨[], h1, .nil⟩
  · obtain ⟨vs, h1, h2⟩ := h
    refine ⟨vs, h1, h2.mono fun a b ha hr => ?_⟩
    have := List.all_eq_true.1 hp a ha
    cases a with
    | s v => cases hr; exact .s _ this
    | fro xs => cases this
  · cases hp
/-- What is yielded: values, and at most one row that is handed over. -/
structure YV where
  xs : List AV
  row : Option (TypeId × Nat × List (List PV)) := none
def yβ (ob : Option Nat) : Nat → Option Nat := fun k => if k = 0 then ob else none
def YV.rep (y : YV) (w : World) (ob : Option Nat) (vs : List Value) : Prop :=
  match y.row with
  | none => ob = none ∧ y.xs.all pureA = true ∧ All2 (RepA w (fun _ => False) (fun _ => none)) y.xs vs
  | some (T, sz, rs) => ∃ us v, vs = us ++ [v] ∧ y.xs.all pureA = true ∧ All2 (RepA w (fun _ => False) (fun _ => none)) y.xs us ∧ RepC w (fun _ => False) (yβ ob) (.own 0 sz rs.length) v ∧ RepO w (fun _ => False) (yβ ob) 0 (.row T sz rs)
def YV.len (y : YV) : Nat := y.xs.length + (if y.row.isSome then 1 else 0)
theorem YV.rep_len {y : YV} {w : World} {ob : Option Nat} {vs : List Value} (h : y.rep w ob vs) : vs.length = y.len := by
  obtain ⟨xs, row⟩ := y
  unfold YV.rep at h
  cases row with
  | none => simp only at h; simp [YV.len, ← h.2.2.len]
  | some r =>
    obtain ⟨T, sz, rs⟩ := r
    simp only at h
    obtain ⟨us, v, rfl, _, h1, _⟩ := h
    simp [YV.len, ← h1.len]
/-- What a round lets be. -/
structure Kp (w : World) (Y : Nat → Prop) (w' : World) : Prop where
  os : w'.os = w.os
  tape : w'.tape = w.tape
  output : w'.output = w.output
  size : w.heap.size ≤ w'.heap.size
  shp : ∀ b s, w.shape? b = some s → w'.shape? b = some s
  blk : ∀ b, b < w.heap.size → Y b → w'.heap[b]? = w.heap[b]?
/-- A call of yield, and the round that it makes. -/
def YAt (P : Program) (l : Nat) (args : Array Value) (W : World) (R : Ending → World → Prop) : Prop :=
  ∃ fn tmps assign body, (Instr.yield l args).run P W = .ok (.round l fn tmps assign body) W ∧ RoundIn (fwr none) 0 P l fn tmps assign body W R
/-- The rounds of a loop, as the iterator sees them. -/
structure Rnd (P : Program) (l : Nat) (F : Nat → Prop) (J : Nat → World → (Nat → Prop) → Prop) (Jx : World → (Nat → Prop) → Prop) (L : List YV) : Prop where
  abi : ∀ i, Abi (J i)
  abx : Abi Jx
  rnd : ∀ (i : Nat) (y : YV), L[i]? = some y → ∀ (w : World) (X : Nat → Prop) (ob : Option Nat) (vs : List Value), (∀ b, X b → b < w.heap.size) → (∀ b, ob = some b → X b) → J i w X → y.rep w ob vs →
    YAt P l vs.toArray w (fun e w' => Kp w (fun b => (X b ∧ ob ≠ some b) ∨ F b) w' ∧
      ((e = .returned (.bool true) ∧ J (i + 1) w' (fun b => X b ∧ ob ≠ some b)) ∨ (e = .returned (.bool false) ∧ Jx w' (fun b => X b ∧ ob ≠ some b))))
def yv (l : Nat) : AV := .c (.p (.s (.func (.yield l) #[] #[])))
/-- A function that is handed a yield: it yields what L tells, in this order. -/
def GC (P : Program) (G : Nat → Option (List PV)) (f : Nat) (args : Nat → List AV) (L : List YV) (rt rf : AV → Prop) : Prop :=
  ∀ (w : World) (F : Nat → Prop) (vs : List Value) (l : Nat) (J : Nat → World → (Nat → Prop) → Prop) (Jx : World → (Nat → Prop) → Prop), (∀ b, F b → b < w.heap.size) →
    (∀ g cs, G g = some cs → RepC w F (fun _ => none) (.eptr cs) (.pointer (some ⟨g, 0, none⟩))) → All2 (RepA w F (fun _ => none)) (args l) vs → Rnd P l F J Jx L → J 0 w (fun _ => False) →
    Calls P f vs.toArray w (fun e w' => ∃ v r, e = .returned v ∧ RepA w' (fun _ => False) (fun _ => none) r v ∧ ∃ X, (rt r ∧ J L.length w' X) ∨ (rf r ∧ Jx w' X))
def IC (P : Program) (G : Nat → Option (List PV)) (f : Nat) (args : List AV) (L : List YV) : Prop := GC P G f (fun l => yv l :: args) L (fun _ => True) (fun _ => True)
abbrev TK : Nat := 999999
/-- At the end of a body that yields. -/
def retG (P : Program) (fn : Func) (F : Nat → Prop) (rt rf : AV → Prop) (Jn Jx : World → (Nat → Prop) → Prop) : Exit → St → Prop
  | .normal, st | .ret, st => ∃ zs, All2 (fun rv (z : TV) => ResV P st rv z.av) fn.results.toList zs ∧ pureA (tupOf zs) = true ∧ st.objs.all (fun p => p.1 == TK || noTok p.2) = true ∧
      ((rt (tupOf zs) ∧ find st.objs TK = some (.tok F Jn)) ∨ (rf (tupOf zs) ∧ find st.objs TK = some (.tok F Jx)))
  | _, _ => False
section
variable {P : Program} {cx : Cx} {st : St} {a a' : Act} {w w' : World} {fz : Nat → Prop} {β : Nat → Option Nat}
theorem one_tok {os : List (Nat × Ob)} (h : os.all (fun p => p.1 == TK || noTok p.2) = true) {k : Nat} {F : Nat → Prop} {J : World → (Nat → Prop) → Prop} (hk : find os k = some (.tok F J)) : k = TK := by
  have := List.all_eq_true.1 h _ (find_mem hk)
  simpa [noTok] using this
theorem GC.body {G : Nat → Option (List PV)} {f n : Nat} {args : Nat → List AV} {L : List YV} {rt rf : AV → Prop} {fn : Func} {c : Code} (hf : P.funcs[f]? = some fn) (hn : fn.ntmps = n) (hb : fn.body = some c) (hlen : ∀ l, (args l).length = (args 0).length)
    (h : ∀ (cx : Cx) (l : Nat) (J : Nat → World → (Nat → Prop) → Prop) (Jx : World → (Nat → Prop) → Prop), cx.defers = [] → cx.G = G → cx.rd = none → cx.ml = true → cx.base = none → cx.rr = true → Rnd P l cx.fz0 J Jx L →
      AWp P cx c ⟨args l ++ List.replicate (n - (args 0).length) (.c .any), [(TK, .tok cx.fz0 (J 0))]⟩ (retG P fn cx.fz0 rt rf (J L.length) Jx)) : GC P G f args L rt rf := by
  subst hn
  intro w F vs l J Jx hF hG hA hR h0
  have hH : H w F (fun _ => none) [(TK, .tok F (J 0))] := ⟨fun k b hk => (by cases hk), hF, fun k k' b hk => (by cases hk), fun b _ k hk => (by cases hk), fun k o hk => by
    rw [find_cons] at hk
    split at hk
    · cases hk; exact ⟨hR.abi 0, fun _ => False, fun k b hk => (by cases hk), fun b hb => .inl hb, h0⟩
    · cases hk⟩
  refine callsIn_wide.1 (callsIn_of_wp_marks (n := 0) hf hb trivial (wpIn_mono (h { Cx.of w F (fun _ => none) G with ml := true, rr := true } l J Jx rfl rfl rfl rfl rfl rfl hR { tmps := vs.toArray ++ Array.replicate (fn.ntmps - vs.toArray.size) undef, defers := [] } w ⟨F, fun _ => none, DM.nil _ _ _ _ _ rfl rfl, fun _ _ => rfl, ⟨rfl, rfl, rfl, Nat.le_refl _, fun _ _ _ _ => rfl, fun _ _ h => h, fun _ h => h, fun _ h => .inl h, fun _ _ h => h, fun _ _ h => .inl h, hG, fun _ _ h => h⟩, hH, ?_⟩) ?_))
  · simp only [Array.toList_append, Array.toList_replicate, List.size_toArray, ← hA.len, hlen l]
    exact hA.append (All2.replicate (RepA.any _) _)
  · rintro e a' w' ⟨st', hq, fz', β', hs⟩
    have key : (∃ zs, All2 (fun rv (z : TV) => ResV P st' rv z.av) fn.results.toList zs ∧ pureA (tupOf zs) = true ∧ st'.objs.all (fun p => p.1 == TK || noTok p.2) = true ∧
        ((rt (tupOf zs) ∧ find st'.objs TK = some (.tok F (J L.length))) ∨ (rf (tupOf zs) ∧ find st'.objs TK = some (.tok F Jx)))) →
        LeavesInM (fwr none) 0 P fn a'.tmps (fun e w' => ∃ v r, e = .returned v ∧ RepA w' (fun _ => False) (fun _ => none) r v ∧ ∃ X, (rt r ∧ J L.length w' X) ∨ (rf r ∧ Jx w' X)) a'.defers .returning w' := by
      rintro ⟨zs, h1, h2, h3, h4⟩
      obtain ⟨⟨Ds, d1, d2, d3⟩, d4, d5⟩ := hs.d
      have d1' : a'.defers = Ds.map mark := by rw [d1]; show Ds.map mark ++ [] = _; simp
      rw [d1']
      refine shut (β := β') (fz := fz') fn _ rfl rfl rfl (fun w2 fz2 hout D hD1 hD2 hD3 k F' J' hk hO => ?_) (fun a2 w2 hs2 => ?_) Ds a' w' hs d2 d3 d1'
      · obtain rfl := one_tok h3 hk
        have hF' : F' = F := by
          rcases h4 with ⟨_, h4⟩ | ⟨_, h4⟩ <;> rw [hk] at h4 <;> cases h4 <;> rfl
        subst hF'
        obtain ⟨g1, X, g2, g3, g4⟩ := hO
        have hXD : X D := by
          rcases g3 D hD2 with h | h
          · have := hF D h; have hD1 : w.heap.size ≤ D := hD1; omega
          · exact h
        refine ⟨g1, X, g2, g3, g1 w2 X _ X ⟨rfl, rfl, rfl, by simp, fun b hb hX => World.putObj_heap_other (fun e => hX (e ▸ hXD)), shape_put hD3 (by simp), fun b _ h => h⟩ g4⟩
      · obtain ⟨v, h5, h6⟩ := hs2.results h1
        refine ⟨v, h5, v, _, rfl, pureA_rep h2 h6, ?_⟩
        rcases h4 with ⟨h7, h8⟩ | ⟨h7, h8⟩
        · obtain ⟨_, X, _, _, g4⟩ := hs2.h.ob _ _ h8; exact ⟨X, .inl ⟨h7, g4⟩⟩
        · obtain ⟨_, X, _, _, g4⟩ := hs2.h.ob _ _ h8; exact ⟨X, .inr ⟨h7, g4⟩⟩
    cases e with
    | normal => exact key hq
    | ret => exact key hq
    | exit _ => exact hq
    | goto _ => exact hq
    | panic _ => exact hq.elim
    | outgrown => exact hq.elim

/-! ### Yield -/
/-- What lies behind a round, for the iterator. -/
theorem SR.yielded (hs : SR cx st a w fz β) (hb : cx.base = none) (hrr : cx.rr = true) {F : Nat → Prop} {J J' : World → (Nat → Prop) → Prop} {X : Nat → Prop} (h1 : find st.objs TK = some (.tok F J)) (hnt : st.objs.all (fun p => p.1 == TK || noTok p.2) = true)
    (hX1 : ∀ k b, β k = some b → X b) (hX2 : ∀ b, fz b → F b ∨ X b) {w' : World} (hk : Kp w (fun b => X b ∨ F b) w') (ha : Abi J') (hJ : J' w' X) : SR cx ⟨st.tmps, upd st.objs TK (.tok F J')⟩ a w' fz β := by
  have hfz : ∀ b, fz b → w'.heap[b]? = w.heap[b]? := fun b hb' => hk.blk b (hs.h.fzlt b hb') ((hX2 b hb').symm)
  have hβ : ∀ k b, β k = some b → w'.heap[b]? = w.heap[b]? := fun k b hb' => hk.blk b (hs.h.lt k b hb') (.inl (hX1 k b hb'))
  have hA : Adv fz w w' := .of hfz hk.shp
  refine ⟨?_, hs.low, ⟨hk.os.trans hs.rel.os, hk.tape.trans hs.rel.tape, hk.output.trans hs.rel.output, Nat.le_trans hs.rel.size hk.size, fun h => (by rw [hrr] at h; cases h), fun b s h => hk.shp b s (hs.rel.shp b s h), hs.rel.fzin, hs.rel.fzout, hs.rel.bin, hs.rel.bout, fun g cs hg => (hs.rel.glob g cs hg).glob_adv hA (fun _ h => h), hs.rel.bhi⟩, ⟨fun k b h => Nat.lt_of_lt_of_le (hs.h.lt k b h) hk.size, fun b h => Nat.lt_of_lt_of_le (hs.h.fzlt b h) hk.size, hs.h.inj, hs.h.apart, fun k o hk' => ?_⟩, hs.t.mono fun x v hx hv => hv.adv hA (fun _ h => h) (fun _ _ => rfl)⟩
  · obtain ⟨⟨Ds, d1, d2, d3⟩, d4, d5⟩ := hs.d
    exact ⟨⟨Ds, d1, d2, fun D hD => by obtain ⟨g1, g2, g3, g4⟩ := d3 D hD; exact ⟨g1, g2, (hfz D g2).trans g3, g4⟩⟩, fun W f b h => (by rw [hb] at h; cases h), d5⟩
  · rw [find_upd] at hk'
    split at hk'
    · cases hk'; exact ⟨ha, X, hX1, hX2, hJ⟩
    · rename_i hne
      refine RepO.adv0 (fun F J e => ?_) (hs.h.ob k o hk') hA (fun _ h => h) rfl (fun b h => hβ k b h) (fun _ _ => rfl)
      subst e; exact hne (one_tok hnt hk').symm
variable {K : St → Prop} {L : List YV} {J : Nat → World → (Nat → Prop) → Prop} {Jx : World → (Nat → Prop) → Prop} {F : Nat → Prop} {l i : Nat} {y : YV}
variable {dst : Option Tmp} {ty : TypeId} {pos : String} {af : Array Edge} {gd : Option (Nat × Bool)}
theorem OpTo.yield {t : Operand} {xs : List Operand} {ats : Array TypeId} (hr : Rnd P l F J Jx L) (hi : L[i]? = some y) (hb : cx.base = none) (hrr : cx.rr = true)
    (ht : st.op cx t = yv l) (hto : okOp t = true) (ho : okOps xs = true) (hf : find st.objs TK = some (.tok F (J i))) (hnt : st.objs.all (fun p => p.1 == TK || noTok p.2) = true)
    (hy0 : y.row = none) (hy : xs.map (fun x => st.op cx x) = y.xs) (hyp : y.xs.all pureA = true)
    (k1 : K (St.put ⟨st.tmps, upd st.objs TK (.tok F (J (i + 1)))⟩ dst (.c (.p (.s (.bool true))))))
    (k2 : K (St.put ⟨st.tmps, upd st.objs TK (.tok F Jx)⟩ dst (.c (.p (.s (.bool false)))))) :
    OpTo P cx false ⟨dst, .call { callee := .value t, args := xs.toArray, argTypes := ats }, ty, pos, af, gd⟩ st K := by
  intro a w next Qx ⟨fz, β, hs⟩ hn
  obtain ⟨hab, X, hX1, hX2, hJ⟩ := hs.h.ob _ _ hf
  have hJ' : J i w (fun b => X b ∧ b < w.heap.size) := hab w X w _ ⟨rfl, rfl, rfl, Nat.le_refl _, fun _ _ _ => rfl, fun _ _ h => h, fun b _ h => h.1⟩ hJ
  have hrep : y.rep w none (xs.map a.eval) := by
    unfold YV.rep
    rw [hy0]
    refine ⟨rfl, hyp, ?_⟩
    rw [← hy]
    refine all2_map_list xs fun x hx => pureA_rep (List.all_eq_true.1 hyp _ (by rw [← hy]; exact List.mem_map_of_mem (f := fun x => st.op cx x) hx)) (hs.op x (List.all_eq_true.1 ho x hx))
  obtain ⟨fn, tm, as, bo, hyr, hround⟩ := hr.rnd i y hi w _ none _ (fun b h => h.2) (fun b h => (by cases h)) hJ' hrep
  have hte : a.eval t = .func (.yield l) #[] #[] := hs.eq ht hto
  unfold wpv
  have hrun : (execOp a.eval ⟨dst, .call { callee := .value t, args := xs.toArray, argTypes := ats }, ty, pos, af, gd⟩).run P w = .ok (.round l fn tm as bo) w := by
    simp [execOp, resolve, hte, Deferred.ofValue, invoke, hyr]
  rw [hrun]
  refine RoundIn.mono hround fun e w' ⟨hk, hc⟩ => ?_
  have hk' : Kp w (fun b => (X b ∧ b < w.heap.size) ∨ F b) w' := ⟨hk.os, hk.tape, hk.output, hk.size, hk.shp, fun b hb h => hk.blk b hb (h.imp (fun h => ⟨h, by simp⟩) id)⟩
  have hX1' : ∀ k b, β k = some b → X b ∧ b < w.heap.size := fun k b h => ⟨hX1 k b h, hs.h.lt k b h⟩
  have hX2' : ∀ b, fz b → F b ∨ (X b ∧ b < w.heap.size) := fun b h => (hX2 b h).imp id (fun h2 => ⟨h2, hs.h.fzlt b h⟩)
  have mk : ∀ (Z : World → (Nat → Prop) → Prop), Abi Z → Z w' (fun b => (X b ∧ b < w.heap.size) ∧ (none : Option Nat) ≠ some b) → Z w' (fun b => X b ∧ b < w.heap.size) := fun Z hZ h => hZ w' _ w' _ ⟨rfl, rfl, rfl, Nat.le_refl _, fun _ _ _ => rfl, fun _ _ h => h, fun b _ h => ⟨h, by simp⟩⟩ h
  rcases hc with ⟨rfl, hc⟩ | ⟨rfl, hc⟩
  · exact hn _ _ _ k1 ⟨fz, β, (hs.yielded hb hrr hf hnt hX1' hX2' hk' (hr.abi _) (mk _ (hr.abi _) hc)).put (x := .c (.p (.s (.bool true)))) (.s _ rfl) dst⟩ (fun h => (by cases h))
  · exact hn _ _ _ k2 ⟨fz, β, (hs.yielded hb hrr hf hnt hX1' hX2' hk' hr.abx (mk _ hr.abx hc)).put (x := .c (.p (.s (.bool false)))) (.s _ rfl) dst⟩ (fun h => (by cases h))
end
end Go.Proofs.Vl
