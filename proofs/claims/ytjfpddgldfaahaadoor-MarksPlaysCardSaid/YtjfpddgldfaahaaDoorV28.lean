/- Captured variables that are only read from now on; small rules for loops over functions. -/
import Derived.Test.YtjfpddgldfaahaaDoorV27
set_option linter.all false
namespace Go.Proofs.Vl
open Go Go.RowKit
def capFz (k : Nat) (cs : List PV) : Cap → Cap
  | .key j => cond (j == k) (.fz cs) (.key j)
  | .val x => .val x
  | .fz x => .fz x
def CV.fzb (k : Nat) (cs : List PV) : CV → CV
  | .ptr j off => cond (j == k) (.eptr (cs.drop off)) (.ptr j off)
  | .fn f caps => .fn f (caps.map (capFz k cs))
  | .own j s n => cond (j == k) .any (.own j s n)
  | .win j s off n => cond (j == k) .any (.win j s off n)
  | .rptr j s i c => cond (j == k) .any (.rptr j s i c)
  | .mp j => cond (j == k) .any (.mp j)
  | .p x => .p x
  | .eptr x => .eptr x
  | .any => .any
def TV.fzb (k : Nat) (cs : List PV) : TV → TV
  | .c x => .c (x.fzb k cs)
  | .agg xs => .agg (xs.map (CV.fzb k cs))
  | .pag xs => .pag xs
def AV.fzb (k : Nat) (cs : List PV) : AV → AV
  | .c x => .c (x.fzb k cs)
  | .agg xs => .agg (xs.map (CV.fzb k cs))
  | .pag xs => .pag xs
  | .tup zs => .tup (zs.map (TV.fzb k cs))
def Ob.fzb (k : Nat) (cs : List PV) : Ob → Ob
  | .cells T xs => .cells T (xs.map (CV.fzb k cs))
  | .pcells T xs => .pcells T xs
  | .row T s xs => .row T s xs
  | .mapo es clock => .mapo es clock
  | .tok F J => .tok F J
  | .sav zs vs => .sav (zs.map (AV.fzb k cs)) vs
def ofzb (k : Nat) (cs : List PV) : List (Nat × Ob) → List (Nat × Ob)
  | [] => []
  | (j, o) :: r => cond (j == k) (ofzb k cs r) ((j, o.fzb k cs) :: ofzb k cs r)
theorem find_ofzb (k : Nat) (cs : List PV) (j : Nat) : ∀ os : List (Nat × Ob), find (ofzb k cs os) j = if j = k then none else (find os j).map (Ob.fzb k cs)
  | [] => by simp [ofzb, find]
  | (i, o) :: r => by
    have ih := find_ofzb k cs j r
    unfold ofzb
    by_cases h : i = k
    · subst h
      simp only [BEq.rfl, cond_true, ih, find_cons]
      by_cases h2 : j = i
      · simp [h2]
      · rw [if_neg h2, if_neg h2, if_neg (Ne.symm h2)]
    · have h' : (i == k) = false := by simpa using h
      simp only [h', cond_false, find_cons, ih]
      by_cases h2 : i = j
      · subst h2; simp [h]
      · rw [if_neg h2, if_neg h2]
section
variable {P : Program} {cx : Cx} {st st' : St} {a a' : Act} {w w' : World} {fz : Nat → Prop} {β : Nat → Option Nat} {Q : Exit → St → Prop} {c : Code} {K : St → Prop} {kp : Bool} {o : Oper}
theorem SR.freezeB (hs : SR cx st a w fz β) {k : Nat} {T : TypeId} {cs : List PV} (hlow : k < 1000000) (hf : find st.objs k = some (.pcells T cs)) :
    ∃ fz2, SR cx ⟨st.tmps.map (AV.fzb k cs), ofzb k cs st.objs⟩ a w fz2 (bup β k none) := by
  have hβk : ∀ b, β k = some b → cx.w0.heap.size ≤ b := fun b hb => (hs.rel.bout k b hb).resolve_left (by rw [hs.low k hlow]; simp)
  refine ⟨fun b => fz b ∨ β k = some b, ?_⟩
  have hsub : ∀ b, fz b → fz b ∨ β k = some b := fun b hb => .inl hb
  obtain ⟨b0, vs, hb0, hh, hvs⟩ := hs.h.ob k _ hf
  have hE : ∀ off, RepE w (fun b => fz b ∨ β k = some b) (cs.drop off) (.pointer (some ⟨b0, off, none⟩)) := fun off => by
    refine ⟨b0, off, rfl, fun _ => .inr hb0, fun c x hx => ?_⟩
    rw [List.getElem?_drop] at hx
    obtain ⟨v, h1, h2⟩ := hvs.get hx
    exact ⟨v, by rw [cellAt hh]; exact h1, h2.adv (Adv.refl _ _) hsub⟩
  have hne : ∀ {j : Nat}, (j == k) = false → bup β k none j = β j := fun h => bup_other _ _ _ (by simpa using h)
  have hcap : ∀ x v, RepCap w fz β x v → RepCap w (fun b => fz b ∨ β k = some b) (bup β k none) (capFz k cs x) v := fun x v h => by
    cases x with
    | key j =>
      obtain ⟨b, h1, h2⟩ := h
      dsimp only [capFz]
      cases hj : (j == k) with
      | true =>
        have hj' : j = k := by simpa using hj
        subst hj'
        rw [hb0] at h1; cases h1
        subst h2
        have := hE 0
        rw [List.drop_zero] at this
        exact this
      | false => exact ⟨b, (hne hj).trans h1, h2⟩
    | val x => exact h
    | fz x => exact RepE.adv h (Adv.refl _ _) hsub
  have hC : ∀ x v, RepC w fz β x v → RepC w (fun b => fz b ∨ β k = some b) (bup β k none) (x.fzb k cs) v := by
    intro x v hv
    cases x with
    | ptr j off =>
      dsimp only [CV.fzb]
      cases hj : (j == k) with
      | true =>
        have hj' : j = k := by simpa using hj
        subst hj'
        obtain ⟨b, h1, h2⟩ := hv
        rw [hb0] at h1; cases h1
        subst h2
        exact hE off
      | false => obtain ⟨b, h1, h2⟩ := hv; exact ⟨b, (hne hj).trans h1, h2⟩
    | fn f caps => obtain ⟨cv, h1, h2⟩ := hv; exact ⟨cv, h1, h2.map _ fun x v h => hcap x v h⟩
    | own j s n =>
      dsimp only [CV.fzb]
      cases hj : (j == k) with
      | true => trivial
      | false => exact hv.adv (Adv.refl _ _) hsub (fun i hi => hne (by have : j = i := by simpa [CV.ref] using hi
                                                                       subst this; exact hj))
    | win j s off n =>
      dsimp only [CV.fzb]
      cases hj : (j == k) with
      | true => trivial
      | false => exact hv.adv (Adv.refl _ _) hsub (fun i hi => hne (by have : j = i := by simpa [CV.ref] using hi
                                                                       subst this; exact hj))
    | rptr j s i c =>
      dsimp only [CV.fzb]
      cases hj : (j == k) with
      | true => trivial
      | false => exact hv.adv (Adv.refl _ _) hsub (fun i hi => hne (by have : j = i := by simpa [CV.ref] using hi
                                                                       subst this; exact hj))
    | mp j =>
      dsimp only [CV.fzb]
      cases hj : (j == k) with
      | true => trivial
      | false => exact hv.adv (Adv.refl _ _) hsub (fun i hi => hne (by have : j = i := by simpa [CV.ref] using hi
                                                                       subst this; exact hj))
    | p x => exact hv.adv (Adv.refl _ _) hsub (fun i hi => by cases hi)
    | eptr x => exact hv.adv (Adv.refl _ _) hsub (fun i hi => by cases hi)
    | any => trivial
  have hC1 : ∀ x v, RepC1 w fz β x v → RepC1 w (fun b => fz b ∨ β k = some b) (bup β k none) (x.fzb k cs) v := fun x v h => ⟨h.1, hC x v h.2⟩
  have hP : ∀ x v, RepP w fz x v → RepP w (fun b => fz b ∨ β k = some b) x v := fun x v h => h.adv (Adv.refl _ _) hsub
  have hst : Stp w fz β w (fun b => fz b ∨ β k = some b) (bup β k none) := .here (fun _ h => .inl h) (fun b _ hb => hb.imp id (fun h => ⟨k, h⟩)) (Stp.bupN w fz β k).own
  have hAV : ∀ x v, RepA w fz β x v → RepA w (fun b => fz b ∨ β k = some b) (bup β k none) (x.fzb k cs) v := fun x v hx => by
    cases x with
    | c y => exact hC y v hx
    | agg cs => obtain ⟨vs, h1, h2⟩ := hx; exact ⟨vs, h1, h2.map _ fun y u hy => hC1 y u hy⟩
    | pag cs => obtain ⟨vs, h1, h2⟩ := hx; exact ⟨vs, h1, h2.mono fun y u _ hy => hP y u hy⟩
    | tup zs =>
      obtain ⟨vs, h1, h2⟩ := hx
      refine ⟨vs, h1, h2.map _ fun z u hz => ?_⟩
      cases z with
      | c y => exact hC y u hz
      | agg cs => obtain ⟨vs, h1, h2⟩ := hz; exact ⟨vs, h1, h2.map _ fun y u hy => hC1 y u hy⟩
      | pag cs => obtain ⟨vs, h1, h2⟩ := hz; exact ⟨vs, h1, h2.mono fun y u _ hy => hP y u hy⟩
  refine ⟨hs.d.stp hst, hs.low, ⟨hs.rel.os, hs.rel.tape, hs.rel.output, hs.rel.size, hs.rel.old, hs.rel.shp, fun b hb => .inl (hs.rel.fzin b hb), fun b hb => ?_, fun j b hj => ?_, fun j b hj => ?_, fun g cs hg => (hs.rel.glob g cs hg).glob_adv (Adv.refl _ _) hsub, fun j hj h0 => (bup_other _ _ _ (by omega)).trans (hs.rel.bhi j hj h0)⟩, ⟨fun j b hj => ?_, fun b hb => ?_, fun j j' b h1 h2 => ?_, fun b hb j hj => ?_, fun j o hj => ?_⟩, hs.t.map _ fun x v hx => hAV x v hx⟩
  · rcases hb with hb | hb
    · exact hs.rel.fzout b hb
    · exact .inr (hβk b hb)
  · have : j ≠ k := fun e => by subst e; rw [hs.low j hlow] at hj; cases hj
    rw [bup_other _ _ _ this]; exact hs.rel.bin j b hj
  · by_cases hjk : j = k
    · subst hjk; rw [bup_same] at hj; cases hj
    · rw [bup_other _ _ _ hjk] at hj; exact hs.rel.bout j b hj
  · by_cases hjk : j = k
    · subst hjk; rw [bup_same] at hj; cases hj
    · rw [bup_other _ _ _ hjk] at hj; exact hs.h.lt j b hj
  · rcases hb with hb | hb
    · exact hs.h.fzlt b hb
    · exact hs.h.lt _ _ hb
  · by_cases hjk : j = k
    · subst hjk; rw [bup_same] at h1; cases h1
    · by_cases hjk' : j' = k
      · subst hjk'; rw [bup_same] at h2; cases h2
      · rw [bup_other _ _ _ hjk] at h1; rw [bup_other _ _ _ hjk'] at h2; exact hs.h.inj _ _ _ h1 h2
  · by_cases hjk : j = k
    · subst hjk; rw [bup_same] at hj; cases hj
    · rw [bup_other _ _ _ hjk] at hj
      rcases hb with hb | hb
      · exact hs.h.apart b hb j hj
      · exact hjk (hs.h.inj _ _ _ hj hb)
  · rw [find_ofzb] at hj
    by_cases hjk : j = k
    · rw [if_pos hjk] at hj; cases hj
    · rw [if_neg hjk] at hj
      obtain ⟨o', ho, rfl⟩ := Option.map_eq_some_iff.1 hj
      have hO := hs.h.ob j o' ho
      have hb := bup_other β k none hjk
      cases o' with
      | cells T' cs => obtain ⟨b, vs, h1, h2, h3⟩ := hO; exact ⟨b, vs, hb.trans h1, h2, h3.map _ fun x v hx => hC1 x v hx⟩
      | pcells T' cs => obtain ⟨b, vs, h1, h2, h3⟩ := hO; exact ⟨b, vs, hb.trans h1, h2, h3.mono fun x v _ hx => hP x v hx⟩
      | row T' s ys =>
        rcases hO with ⟨h1, h2⟩ | ⟨b, vs, h1, h2, h3, h4, h5⟩
        · exact .inl ⟨hb.trans h1, h2⟩
        · exact .inr ⟨b, vs, hb.trans h1, h2, h3, h4, h5.mono fun x v _ hx => hP x v hx⟩
      | mapo es clock => obtain ⟨b, h1, h2⟩ := hO; exact ⟨b, hb.trans h1, h2⟩
      | tok F J => exact tok_stp hO hst
      | sav zs vs => exact All2.map (R := RepA w fz β) _ hO fun x v hx => hAV x v hx
theorem Le.freezeB {k : Nat} {T : TypeId} {cs : List PV} (hlow : k < 1000000) (hf : find st.objs k = some (.pcells T cs)) : Le cx st ⟨st.tmps.map (AV.fzb k cs), ofzb k cs st.objs⟩ := by
  rintro a w ⟨fz, β, hs⟩
  obtain ⟨fz2, h2⟩ := hs.freezeB hlow hf
  exact ⟨fz2, _, h2⟩
theorem zbA (k : Nat) {T : TypeId} {cs : List PV} (hlow : k < 1000000 := by decide) (hf : find st.objs k = some (.pcells T cs) := by rfl)
    (hs : (⟨st.tmps.map (AV.fzb k cs), ofzb k cs st.objs⟩ : St) = st' := by (dsimp only [List.map, AV.fzb, CV.fzb, TV.fzb, Ob.fzb, ofzb, capFz, Nat.reduceBEq, cond_true, cond_false, List.drop_zero] <;> exact rfl)) (h : AWp P cx c st' Q) : AWp P cx c st Q := AWp.weak (Le.freezeB hlow hf) (hs ▸ h)
theorem zbO (k : Nat) {T : TypeId} {cs : List PV} (hlow : k < 1000000 := by decide) (hf : find st.objs k = some (.pcells T cs) := by rfl)
    (hs : (⟨st.tmps.map (AV.fzb k cs), ofzb k cs st.objs⟩ : St) = st' := by (dsimp only [List.map, AV.fzb, CV.fzb, TV.fzb, Ob.fzb, ofzb, capFz, Nat.reduceBEq, cond_true, cond_false, List.drop_zero] <;> exact rfl)) (h : OpTo P cx kp o st' K) : OpTo P cx kp o st K := OpTo.weak (Le.freezeB hlow hf) (hs ▸ h)
/-- A function that is there is not nil. -/
theorem Val.fnNil {dst : Option Tmp} {ty tx t2 : TypeId} {pos : String} {af : Array Edge} {gd : Option (Nat × Bool)} {x : Operand} {f : Nat} {caps : List Cap} {ps rs : Array TypeId} {v : Bool} (hx : st.op cx x = .c (.fn f caps)) (ho : okOp x = true) (hu : P.underlying tx = some (.func ps rs v)) :
    Val P cx true ⟨dst, .binOp .eql tx x (.const .nilFunc) t2, ty, pos, af, gd⟩ st (.c (.p (.s (.bool false)))) := fun a w fz β hs => by
  refine ⟨.bool false, .s _ rfl, fun w' _ => ?_⟩
  obtain ⟨cv, hv, _⟩ : RepC w fz β (.fn f caps) (a.eval x) := by have := hs.op x ho; rw [hx] at this; exact this
  have h1 : (Op.equal tx (.func (.func f) #[] cv.toArray) .nilFunc).run P w' = .ok false w' := by
    show (Op.equalIn (Nat.succ 9999) tx (.func (.func f) #[] cv.toArray) .nilFunc).run P w' = .ok false w'
    generalize (9999 : Nat) = n
    simp [Op.equalIn, run_underlying hu]
  have hy : a.eval (.const .nilFunc) = .nilFunc := rfl
  simp [execOp, hv, hy, eqGuard, binOp, h1]
/-- A call whose result may share what it was handed. -/
theorem callAN {dst : Option Tmp} {ty : TypeId} {pos : String} {af : Array Edge} {gd : Option (Nat × Bool)} {f : Nat} {xs : List Operand} {args : List AV} {ats : Array TypeId} {v : AV} (hf : isFn P f = true := by rfl) (ho : okOps xs = true := by rfl) (ha : xs.map (fun x => Vl.nilFro (st.op cx x)) = args := by rfl) (hk : args.all AV.keyless = true := by rfl)
    (hc : AC P cx.G f args [] (fun r _ => r = v)) (hi : avOk true v = true := by rfl) (h : K (st.put dst v)) : OpTo P cx kp ⟨dst, .call { callee := .value (.func f), args := xs.toArray, argTypes := ats }, ty, pos, af, gd⟩ st K :=
  OpTo.callA hc hf ho ha hk (fun r os' hr => by subst hr; exact ⟨_, .val hi, h⟩)
/-- A round's first state, told plainly. -/
theorem AWp.eqR (hs : st = st' := by (dsimp only [rst, setT, YV.args, YV.objs, List.set_cons_zero, List.set_cons_succ, List.cons_append, List.nil_append, List.append_nil] <;> exact rfl)) (h : AWp P cx c st' Q) : AWp P cx c st Q := hs ▸ h
theorem rst0 {p q : Prop} (h : Wr q → p := by intro hq; (refine AWp.eqR (h := ?_)); exact hq.out) (k : q) : p := h ⟨k⟩
/-- The state behind the loop, told plainly. -/
theorem QeqR {e : Exit} (hs : st = st' := by (dsimp only [odel, List.cons_append, List.nil_append, Nat.reduceBEq, cond_true, cond_false] <;> exact rfl)) (h : Q e st') : Q e st := hs ▸ h
theorem rend {p q : Prop} (h : Wr q → p := by intro hq; (refine QeqR (h := ?_)); exact hq.out) (k : q) : p := h ⟨k⟩
end
end Go.Proofs.Vl
