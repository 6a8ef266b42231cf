/- More rules: scopes; which operations write. -/
import Derived.Test.YtjfpddgldfaahaaDoorV15
import Derived.Scope
set_option linter.all false
namespace Go.Proofs.Vl
open Go Go.RowKit
section
variable {P : Program} {cx : Cx} {st : St} {Q : Exit → St → Prop} {c : Code}
/-- A label that no goto leads to. -/
def nog (Q : Exit → St → Prop) : Exit → St → Prop
  | .goto _, _ => False
  | .normal, s => Q .normal s
  | .exit i, s => Q (.exit i) s
  | .ret, s => Q .ret s
  | .panic p, s => Q (.panic p) s
  | .outgrown, s => Q .outgrown s
theorem AWp.scope (h : AWp P cx c st (nog Q)) : AWp P cx (.scope c) st Q := fun a w hs => by
  refine Vl.wpIn_scope (Go.wpIn_mono (h a w hs) ?_)
  rintro e a' w' ⟨s, q, r⟩
  cases e with
  | goto l => exact q.elim
  | _ => exact ⟨s, q, r⟩
theorem nog_n (h : Q .normal st) : nog Q .normal st := h
theorem nog_r (h : Q .ret st) : nog Q .ret st := h
theorem nog_e {i : Nat} (h : Q (.exit i) st) : nog Q (.exit i) st := h
def isWr : Op → Bool
  | .store .. | .entryStore .. | .mapUpdate .. | .insert .. => true
  | .call c => match c.callee with
    | .builtin .append | .builtin .copy | .builtin .delete | .builtin .clear => true
    | _ => false
  | _ => false
def wrs : Nat → List Oper → List Nat
  | _, [] => []
  | n, o :: r => cond (isWr o.op) (n :: wrs (n + 1) r) (wrs (n + 1) r)
theorem AWp.dla {id : Nat} {l : List Oper} {ds : List (Option Tmp)} (hm : P.follows .mixedOrders = true) (hs : l.all noSel = true) (hds : l.map (·.dst) = ds) (h : DL P cx ds (wrs 0 l) (enum 0 l) st (fun s => Q .normal s)) : AWp P cx (.region id l.toArray true) st Q :=
  AWp.dl _ hm hs hds h
theorem UN_succ {n : Nat} (h : AWp P cx c st (thn (fun s' => UN P cx c Q n s') Q)) : UN P cx c Q (n + 1) st := h
end
end Go.Proofs.Vl
namespace Go.Proofs.Vl
open Go Go.RowKit
section
variable {P : Program} {cx : Cx} {st st0 : St} {Q : Exit → St → Prop} {c : Code}
/-- A loop, from a state that says less. -/
theorem AWp.loopW (st0 : St) (I : Nat → St → Prop) (n : Nat) (hl : Le cx st st0) (h0 : I n st0)
    (hr : ∀ n s, I n s → AWp P cx c s (thn (fun s' => ∃ m s'', m < n ∧ I m s'' ∧ Le cx s' s'') Q)) : AWp P cx (.loop c) st Q := AWp.weak hl (AWp.loop I n h0 hr)
theorem round {s' : St} {I : Nat → St → Prop} {n : Nat} (m : Nat) (s'' : St) (hm : m < n) (hi : I m s'') (hl : Le cx s' s'') : ∃ m s'', m < n ∧ I m s'' ∧ Le cx s' s'' := ⟨m, s'', hm, hi, hl⟩
end
theorem find_none {k : Nat} {x : Ob} {q : Prop} (h : find [] k = some x) : q := by cases h
theorem find_keep {j k : Nat} {o x : Ob} {r r' : List (Nat × Ob)} (h : find r k = some x → find r' k = some x) (h' : find ((j, o) :: r) k = some x) : find ((j, o) :: r') k = some x := by
  simp only [find] at h' ⊢
  cases hjk : (j == k)
  · rw [hjk] at h'; exact h h'
  · rw [hjk] at h'; exact h'
theorem find_skip {j k : Nat} {o x : Ob} {r r' : List (Nat × Ob)} (hn : find r j = none) (h : find r k = some x → find r' k = some x) (h' : find r k = some x) : find ((j, o) :: r') k = some x := by
  simp only [find]
  cases hjk : (j == k)
  · exact h h'
  · rw [show j = k by simpa using hjk, h'] at hn; cases hn
theorem OpTo.weak {P : Program} {cx : Cx} {st st' : St} {K : St → Prop} {kp : Bool} {o : Oper} (hl : Le cx st st') (h : OpTo P cx kp o st' K) : OpTo P cx kp o st K := fun a w next Qx hs => h a w next Qx (hl a w hs)
theorem roundZ {cx : Cx} {s' s1 : St} {I : Nat → St → Prop} {n : Nat} (hl : Le cx s' s1) (h : ∃ m s'', m < n ∧ I m s'' ∧ Le cx s1 s'') : ∃ m s'', m < n ∧ I m s'' ∧ Le cx s' s'' := by
  obtain ⟨m, s'', h1, h2, h3⟩ := h
  exact ⟨m, s'', h1, h2, hl.trans h3⟩
/-- What follows a loop is walked once, whichever way it is left. -/
theorem AWp.cutB {P : Program} {cx : Cx} {x y : Code} {st : St} {id : Nat} {Q : Exit → St → Prop} (E : St → Prop) (h2 : ∀ s, E s → AWp P cx y s Q) (h1 : AWp P cx x st (inb id (thn (fun s => ∃ s', E s' ∧ Le cx s s') Q))) :
    AWp P cx x st (inb id (thn (fun s => AWp P cx y s Q) Q)) := by
  refine h1.mono fun e s h => ?_
  have H : ∀ s, (∃ s', E s' ∧ Le cx s s') → AWp P cx y s Q := fun s ⟨s', he, hl⟩ => AWp.weak hl (h2 s' he)
  cases e with
  | normal => exact H s h
  | ret => exact h
  | goto l => exact h
  | panic c => exact h
  | outgrown => exact h
  | exit i =>
    simp only [inb] at h ⊢
    split at h
    · rename_i hi; simp only [hi, if_true]; exact H s h
    · rename_i hi; simp only [hi, if_false]; exact h
theorem leave {cx : Cx} {E : St → Prop} {s : St} (s' : St) (he : E s') (hl : Le cx s s') : ∃ s', E s' ∧ Le cx s s' := ⟨s', he, hl⟩
/-- A slice that is told: its elements are given. -/
theorem OpTo.litR {P : Program} {cx : Cx} {st : St} {K : St → Prop} {kp : Bool} {E T ty : TypeId} {pos : String} {af : Array Edge} {gd : Option (Nat × Bool)} (rows : List (List PV)) {d len : Nat} {z : Value} {sz by_ : Nat} {parts : List (Nat × Operand)} {cs : List PV} (hu : P.underlying T = some (.slice E)) (hE : tyF P E = some (some z, sz, by_)) (hzs : z.cells.size = sz) (hs0 : 0 < sz) (hok : okV z = true) (hnt : z.oneCell' = true ∨ ∃ cs, z = .agg cs)
    (hb : len * sz ≤ 16777216) (ho : parts.all (fun p => okOp p.2) = true) (hf : fillA (fun i => some (i * sz, sz)) (zeros sz z len) (parts.map fun p => (p.1, pvs (st.op cx p.2))) = some cs) (hlow : d < 1000000) (hd : st.noref d = true) (hr : chunks sz len cs = rows)
    (kk : K (St.put ⟨st.tmps, upd st.objs d (.row E sz rows)⟩ (some d) (.c (.own d sz len)))) : OpTo P cx kp ⟨some d, .buildSlice T len parts.toArray, ty, pos, af, gd⟩ st K :=
  OpTo.lit hu hE hzs hs0 hok hnt hb ho hf hlow hd (by rw [hr]; exact kk)
abbrev vi (n : Int) : AV := .c (.p (.s (.int .i64 n)))
abbrev vu (n : Int) : AV := .c (.p (.s (.int .u64 n)))
abbrev vb (b : Bool) : AV := .c (.p (.s (.bool b)))
abbrev ti (n : Int) : TV := .c (.p (.s (.int .i64 n)))
abbrev tu (n : Int) : TV := .c (.p (.s (.int .u64 n)))
abbrev tb (b : Bool) : TV := .c (.p (.s (.bool b)))
abbrev A_ : AV := .c .any
def fus (l : List Int) : AV := .c (.p (.fro (l.map (pvI .u64))))
def fis (l : List Int) : AV := .c (.p (.fro (l.map (pvI .i64))))
theorem frz_fus {k sz xs l} : AV.frz k sz xs (fus l) = fus l := rfl
theorem frz_fis {k sz xs l} : AV.frz k sz xs (fis l) = fis l := rfl
theorem kill_fus {k l} : AV.kill k (fus l) = fus l := rfl
theorem kill_fis {k l} : AV.kill k (fis l) = fis l := rfl
theorem fmap_at {α : Type} (f : α → List PV) (l : List α) (j : Nat) (h : j < l.length) : (l.map f)[j]? = some (f l[j]) := by simp [h]
end Go.Proofs.Vl
