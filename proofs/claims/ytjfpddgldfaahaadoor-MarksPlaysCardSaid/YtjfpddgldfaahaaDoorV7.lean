/- Calls: the rules at a call. -/
import Derived.Test.YtjfpddgldfaahaaDoorV6
set_option linter.all false
namespace Go.Proofs.Vl
open Go Go.RowKit

section
variable {P : Program} {cx : Cx} {st : St} {a : Act} {w : World} {fz : Nat → Prop} {β : Nat → Option Nat}
variable {kp : Bool} {K : St → Prop} {dst : Option Tmp} {ty T T' E : TypeId} {pos : String} {af : Array Edge} {gd : Option (Nat × Bool)} {x y : Operand}

theorem elems_none_p {z : AV} (h : elems st z = none) : frz st z = z := by simp [frz, h]
theorem SR.frz (h : SR cx st a w fz β) {z : AV} {v : Value} (hz : RepA w fz β z v) (hk : (frz st z).keyless = true) : RepA w (fzAll fz β) (fun _ => none) (frz st z) v := by
  cases he : elems st z with
  | none =>
    rw [elems_none_p he] at hk ⊢
    exact hz.adv (Adv.refl _ _) (fun b hb => .inl hb) (fun k hr => by rw [AV.keyless_ref hk] at hr; cases hr)
  | some xs =>
    have hfr : Vl.frz st z = .c (.p (.fro xs)) := by simp [Vl.frz, he]
    rw [hfr]
    obtain ⟨sz, hL⟩ := h.lies hz he
    cases z with
    | c z =>
      cases z with
      | p z =>
        cases z with
        | s u' =>
          unfold elems at he
          split at he
          · simp_all
          · simp_all
          · simp_all
          · rename_i heq; cases heq; cases he; have := RepA.eq hz; subst this; exact .nil _ _
          · cases he
        | fro ys =>
          simp only [elems, Option.some.injEq] at he; subst he
          exact RepP.adv hz (Adv.refl _ _) (fun b hb => .inl hb)
      | own k sz n =>
        refine hL.fro (fun b hb => .inl hb) (fun b o u hu hb => ?_)
        rcases hz with ⟨_, _, rfl⟩ | ⟨b', cap, T, h1, rfl, _⟩
        · simp [Value.ownBlock] at hb
        · simp [Value.ownBlock] at hb; subst hb; exact .inr ⟨k, h1⟩
      | win k sz off n =>
        by_cases hn : xs = []
        · subst hn
          obtain ⟨ad, cap, h1, _⟩ := hL.ex
          subst h1; exact .nil _ _
        · refine hL.fro (fun b hb => .inl hb) (fun b o u hu hb => ?_)
          rcases hz with ⟨h0, ad, cap, h1⟩ | ⟨b', cap, h1, rfl, _⟩
          · obtain ⟨ad', cap', h2, _⟩ := hL.ex
            rw [h1] at h2
            have h3 : 0 = xs.length := by injection h2
            exact absurd (List.eq_nil_of_length_eq_zero (by omega)) hn
          · simp [Value.ownBlock] at hb; subst hb; exact .inr ⟨k, h1⟩
      | _ => simp [elems] at he
    | _ => simp [elems] at he

/-! ### What comes back -/
def PV.solid : PV → Bool
  | .s _ => true
  | .fro _ => false
def TV.solid : TV → Bool
  | .c (.p x) => x.solid
  | .c .any => true
  | .pag cs => cs.all PV.solid
  | _ => false
def AV.solid : AV → Bool
  | .c (.p x) => x.solid
  | .c .any => true
  | .pag cs => cs.all PV.solid
  | .tup xs => xs.all TV.solid
  | _ => false
def TV.keyless : TV → Bool
  | .c (.p _) | .c .any | .c (.eptr _) | .pag _ => true
  | _ => false
def AV.keyless' : AV → Bool
  | .tup xs => xs.all TV.keyless
  | z => z.keyless
/-- m: what is only read is taken over as it is; else it must hold no rows. -/
def pvOk (m : Bool) (x : PV) : Bool := m || x.solid
def avOk (m : Bool) (x : AV) : Bool := if m then x.keyless' else x.solid
def tvOk (m : Bool) (x : TV) : Bool := if m then x.keyless else x.solid
inductive Imp (m : Bool) (st : St) (os' : List (Nat × Ob)) (dst : Option Tmp) : AV → St → Prop
  | val {r : AV} (h : avOk m r = true) : Imp m st os' dst r (st.put dst r)
  | row {k' sz n d : Nat} {T : TypeId} {xs : List (List PV)} (hd : dst = some d) (hf : find os' k' = some (.row T sz xs)) (hs : ∀ cs ∈ xs, ∀ x ∈ cs, pvOk m x = true) (hlow : d < 1000000) (hn : st.noref d = true) :
      Imp m st os' dst (.c (.own k' sz n)) (St.put ⟨st.tmps, upd st.objs d (.row T sz xs)⟩ (some d) (.c (.own d sz n)))
  | ptr {k' d : Nat} {T : TypeId} {cs : List PV} (hd : dst = some d) (hf : find os' k' = some (.pcells T cs)) (hs : ∀ x ∈ cs, pvOk m x = true) (hlow : d < 1000000) (hn : st.noref d = true) :
      Imp m st os' dst (.c (.ptr k' 0)) (St.put ⟨st.tmps, upd st.objs d (.pcells T cs)⟩ (some d) (.c (.ptr d 0)))
  | row2 {k' sz n d : Nat} {T : TypeId} {xs : List (List PV)} {zs : List TV} (hd : dst = some d) (hf : find os' k' = some (.row T sz xs)) (hs : ∀ cs ∈ xs, ∀ x ∈ cs, pvOk m x = true) (hz : ∀ z ∈ zs, tvOk m z = true) (hlow : d < 1000000) (hn : st.noref d = true) :
      Imp m st os' dst (.tup (.c (.own k' sz n) :: zs)) (St.put ⟨st.tmps, upd st.objs d (.row T sz xs)⟩ (some d) (.tup (.c (.own d sz n) :: zs)))
theorem RepP.solid {w fz fz'} {x : PV} {v : Value} (h : RepP w fz x v) (hx : x.solid = true) : RepP w fz' x v := by
  cases h with
  | s v h => exact .s v h
  | _ => cases hx
section
variable {m : Bool} {fz' fz2 : Nat → Prop} {β' β2 : Nat → Option Nat}
theorem RepP.imp {x : PV} {v : Value} (h : RepP w fz' x v) (hx : pvOk m x = true) (hm : m = true → ∀ b, fz' b → fz2 b) : RepP w fz2 x v := by
  cases m with
  | true => exact h.adv (Adv.refl _ _) (hm rfl)
  | false => exact h.solid (by simpa [pvOk] using hx)
theorem RepT.imp {x : TV} {v : Value} (h : RepT w fz' β' x v) (hx : tvOk m x = true) (hm : m = true → ∀ b, fz' b → fz2 b) : RepT w fz2 β2 x v := by
  cases m with
  | true =>
    refine RepT.adv h (Adv.refl _ _) (hm rfl) (fun k hk => ?_)
    simp only [tvOk, if_true] at hx
    cases x with
    | c y => cases y <;> first | (simp [TV.keyless] at hx; done) | (simp [TV.ref, CV.ref] at hk; done)
    | agg cs => simp [TV.keyless] at hx
    | pag cs => simp [TV.ref] at hk
  | false =>
    simp only [tvOk] at hx
    cases x with
    | c y =>
      cases y with
      | p y => exact RepP.solid h (by simpa [TV.solid] using hx)
      | any => trivial
      | _ => simp [TV.solid] at hx
    | agg cs => simp [TV.solid] at hx
    | pag cs =>
      obtain ⟨vs, h1, h2⟩ := h
      simp only [TV.solid] at hx
      exact ⟨vs, h1, h2.mono fun a b ha hr => hr.solid ((List.all_eq_true.1 (by simpa using hx)) a ha)⟩
theorem RepA.imp {x : AV} {v : Value} (h : RepA w fz' β' x v) (hx : avOk m x = true) (hm : m = true → ∀ b, fz' b → fz2 b) : RepA w fz2 β2 x v := by
  cases x with
  | tup xs =>
    obtain ⟨vs, h1, h2⟩ := h
    refine ⟨vs, h1, h2.mono fun a b ha hr => RepT.imp (m := m) hr ?_ hm⟩
    cases m with
    | true => simp only [avOk, if_true, AV.keyless', List.all_eq_true] at hx; simpa [tvOk] using hx a ha
    | false => simp only [avOk, AV.solid] at hx; simpa [tvOk] using (List.all_eq_true.1 (by simpa using hx)) a ha
  | c y =>
    cases m with
    | true =>
      refine RepA.adv (x := .c y) h (Adv.refl _ _) (hm rfl) (fun k hk => ?_)
      simp only [avOk, if_true, AV.keyless'] at hx
      rw [AV.keyless_ref hx] at hk; cases hk
    | false =>
      simp only [avOk] at hx
      cases y with
      | p y => exact RepP.solid h (by simpa [AV.solid] using hx)
      | any => trivial
      | _ => simp [AV.solid] at hx
  | agg cs =>
    cases m with
    | true =>
      refine RepA.adv (x := .agg cs) h (Adv.refl _ _) (hm rfl) (fun k hk => ?_)
      simp only [avOk, if_true, AV.keyless'] at hx
      rw [AV.keyless_ref hx] at hk; cases hk
    | false => simp [avOk, AV.solid] at hx
  | pag cs =>
    cases m with
    | true => exact RepA.adv (x := .pag cs) h (Adv.refl _ _) (hm rfl) (fun k hk => by cases hk)
    | false =>
      obtain ⟨vs, h1, h2⟩ := h
      simp only [avOk, AV.solid] at hx
      exact ⟨vs, h1, h2.mono fun a b ha hr => hr.solid ((List.all_eq_true.1 (by simpa using hx)) a ha)⟩
end
/-- The state behind a call that was lent nothing. -/
theorem SR.back {m : Bool} (h : SR cx st a w fz β) {fzc fz' : Nat → Prop} {β' : Nat → Option Nat} {w' : World} {G} {os' : List (Nat × Ob)} {r : AV} {v : Value} (hfc : ∀ b, fz b → fzc b) (hm : m = true → ∀ b, fzc b → fz b)
    (hr : Rel (Cx.of w fzc (fun _ => none) G) w' fz' β') (hH : H w' fz' β' os') (hv : RepA w' fz' β' r v) {s' : St} (hi : Imp m st os' dst r s') : ∃ fz2 β2, SR cx s' (a.put dst v) w' fz2 β2 := by
  have hold : ∀ b, b < w.heap.size → w'.heap[b]? = w.heap[b]? := fun b hb => hr.old rfl b hb (fun k => by simp)
  -- what is only read from now on
  obtain ⟨fz2, e1, e2, e3, e4⟩ : ∃ fz2 : Nat → Prop, (∀ b, fz b → fz2 b) ∧ (∀ b, fz2 b → fz b ∨ w.heap.size ≤ b) ∧ (∀ b, fz2 b → b < w'.heap.size ∧ (w.heap.size ≤ b → fz' b)) ∧ (m = true → ∀ b, fz' b → fz2 b) := by
    cases m with
    | true =>
      refine ⟨fz', fun b hb => hr.fzin b (hfc b hb), fun b hb => ?_, fun b hb => ⟨hH.fzlt b hb, fun _ => hb⟩, fun _ b hb => hb⟩
      rcases hr.fzout b hb with h1 | h1
      · exact .inl (hm rfl b h1)
      · exact .inr h1
    | false => exact ⟨fz, fun b hb => hb, fun b hb => .inl hb, fun b hb => ⟨Nat.lt_of_lt_of_le (h.h.fzlt b hb) hr.size, fun hle => absurd (h.h.fzlt b hb) (by omega)⟩, fun h => by cases h⟩
  have hs := h.lift (w' := w') (fz' := fz2) hr.os hr.tape hr.output hr.size hold e1 e2 (fun b hb => (e3 b hb).1)
  have new : ∀ k' b0, β' k' = some b0 → cx.w0.heap.size ≤ b0 ∧ b0 < w'.heap.size ∧ ¬ fz2 b0 ∧ ∀ k, β k ≠ some b0 := by
    intro k' b0 hk
    have h1 : w.heap.size ≤ b0 := (hr.bout k' b0 hk).resolve_left (by simp)
    refine ⟨Nat.le_trans h.rel.size h1, hH.lt _ _ hk, fun hb => hH.apart _ ((e3 _ hb).2 h1) _ hk, fun k hk2 => ?_⟩
    have := h.h.lt _ _ hk2; omega
  have hA : ∀ (o : Ob) {d : Nat} {b0 : Nat} {k' : Nat}, β' k' = some b0 → (∀ β2, β2 d = some b0 → RepO w' fz2 β2 d o) → o.ref d = false → d < 1000000 → st.noref d = true → SR cx ⟨st.tmps, upd st.objs d o⟩ a w' fz2 (bup β d (some b0)) :=
    fun o d b0 k' hk ho hro hlow hn => by
      have hst : Stp w fz β w' fz2 (bup β d (some b0)) := ⟨hr.os, hr.tape, hr.output, hr.size, fun b hb _ => hold b hb, hr.shp, fun b hb hf => (e2 b hf).elim .inl (fun h => absurd h (by omega)), fun k b hb hk2 => by
        by_cases hkd : k = d
        · subst hkd; rw [bup_same] at hk2
          obtain rfl : b0 = b := Option.some.inj hk2
          have : w.heap.size ≤ b0 := (hr.bout k' b0 hk).resolve_left (by simp)
          omega
        · rw [bup_other _ _ _ hkd] at hk2; exact ⟨k, hk2⟩, e1⟩
      refine hs.add hlow hn o hro (new _ _ hk).1 (new _ _ hk).2.1 (new _ _ hk).2.2.1 (new _ _ hk).2.2.2 ho (h.d.stp hst) fun k o' hk2 hkd => ?_
      refine (h.h.ob k o' hk2).adv (.of (fun b hb => hold b (h.h.fzlt b hb)) hr.shp) e1 (bup_other _ _ _ hkd) (fun b hb => hold b (h.h.lt k b hb)) (fun j hj => bup_other _ _ _ ?_) hst
      intro e; subst e; rw [St.noref_o hn hk2 hkd] at hj; cases hj
  have rowK : ∀ {k' sz d : Nat} {T : TypeId} {xs : List (List PV)}, find os' k' = some (.row T sz xs) → (∀ cs ∈ xs, ∀ x ∈ cs, pvOk m x = true) → d < 1000000 → st.noref d = true →
      ∃ β2, SR cx ⟨st.tmps, upd st.objs d (.row T sz xs)⟩ a w' fz2 β2 ∧ β2 d = β' k' := by
    intro k' sz d T xs hf hso hlow hn
    rcases hH.ob _ _ hf with ⟨h1, h2⟩ | ⟨b0, vs, h1, h2, h3, h4, h5⟩
    · -- a row of no block
      subst h2
      have hsn := hs
      refine ⟨bup β d none, ⟨hs.d.stp (Stp.bupN _ _ _ _), hs.low, ⟨hs.rel.os, hs.rel.tape, hs.rel.output, hs.rel.size, hs.rel.old, hs.rel.shp, hs.rel.fzin, hs.rel.fzout, ?_, ?_, hs.rel.glob, fun k hk h0 => (bup_other _ _ _ (by omega)).trans (hs.rel.bhi k hk h0)⟩, ⟨?_, hs.h.fzlt, ?_, ?_, ?_⟩, ?_⟩, by rw [bup_same, h1]⟩
      · intro j b hj
        have : j ≠ d := fun e => by subst e; rw [hs.low j hlow] at hj; cases hj
        rw [bup_other _ _ _ this]; exact hs.rel.bin j b hj
      · intro j b hj
        by_cases hjk : j = d
        · subst hjk; rw [bup_same] at hj; cases hj
        · rw [bup_other _ _ _ hjk] at hj; exact hs.rel.bout j b hj
      · intro j b hj
        by_cases hjk : j = d
        · subst hjk; rw [bup_same] at hj; cases hj
        · rw [bup_other _ _ _ hjk] at hj; exact hs.h.lt j b hj
      · intro j j' b h3 h4
        by_cases hjk : j = d
        · subst hjk; rw [bup_same] at h3; cases h3
        · by_cases hjk' : j' = d
          · subst hjk'; rw [bup_same] at h4; cases h4
          · rw [bup_other _ _ _ hjk] at h3; rw [bup_other _ _ _ hjk'] at h4; exact hs.h.inj _ _ _ h3 h4
      · intro b hb' j hj
        by_cases hjk : j = d
        · subst hjk; rw [bup_same] at hj; cases hj
        · rw [bup_other _ _ _ hjk] at hj; exact hs.h.apart b hb' j hj
      · intro j o hj
        rw [find_upd] at hj
        by_cases hjk : d = j
        · subst hjk; rw [if_pos rfl] at hj; cases hj; exact .inl ⟨bup_same _ _ _, rfl⟩
        · rw [if_neg hjk] at hj
          refine (hs.h.ob j o hj).adv (Adv.refl _ _) (fun _ h => h) (bup_other _ _ _ (Ne.symm hjk)) (fun _ _ => rfl) (fun m hm' => bup_other _ _ _ ?_) (Stp.bupN _ _ _ _)
          intro e; subst e; rw [St.noref_o hn hj (Ne.symm hjk)] at hm'; cases hm'
      · refine hs.t.mono fun u v hu' hv' => hv'.adv (Adv.refl _ _) (fun _ h => h) (fun m hm' => bup_other _ _ _ ?_)
        intro e; subst e; rw [St.noref_t hn hu'] at hm'; cases hm'
    · refine ⟨_, hA (.row T sz xs) h1 (fun β2 hb => .inr ⟨b0, vs, hb, h2, h3, h4, h5.mono fun x v hx hr => hr.imp (m := m) ?_ e4⟩) rfl hlow hn, by rw [bup_same, h1]⟩
      obtain ⟨cs, hcs, hxc⟩ := List.mem_flatten.1 hx
      exact hso cs hcs x hxc
  have ownK : ∀ {k' d sz n : Nat} {u : Value} {β2 : Nat → Option Nat}, RepC w' fz' β' (.own k' sz n) u → β2 d = β' k' → RepC w' fz2 β2 (.own d sz n) u := by
    intro k' d sz n u β2 hu he
    rcases hu with ⟨h1, h2⟩ | ⟨b, cap, T, h1, h2⟩
    · exact .inl ⟨he.trans h1, h2⟩
    · exact .inr ⟨b, cap, T, he.trans h1, h2⟩
  cases hi with
  | val hx => exact ⟨fz2, β, hs.put (hv.imp (m := m) hx e4) dst⟩
  | row hd hf hso hlow hn =>
    rename_i k' sz n d T xs
    obtain ⟨β2, h1, h2⟩ := rowK hf hso hlow hn
    subst hd
    exact ⟨fz2, β2, h1.put (x := .c (.own d sz n)) (ownK hv h2) (some d)⟩
  | ptr hd hf hso hlow hn =>
    rename_i k' d T cs
    obtain ⟨b0, vs, h1, h2, h3⟩ := hH.ob _ _ hf
    subst hd
    have h4 := hA (.pcells T cs) h1 (fun β2 hb => ⟨b0, vs, hb, h2, h3.mono fun x v hx hr => hr.imp (m := m) (hso x hx) e4⟩) rfl hlow hn
    refine ⟨fz2, _, h4.put (x := .c (.ptr d 0)) ?_ (some d)⟩
    obtain ⟨b1, h5, h6⟩ := hv
    rw [h1] at h5; cases h5
    exact ⟨b0, bup_same _ _ _, h6⟩
  | row2 hd hf hso hz hlow hn =>
    rename_i k' sz n d T xs zs
    obtain ⟨β2, h1, h2⟩ := rowK hf hso hlow hn
    subst hd
    refine ⟨fz2, β2, h1.put (x := .tup (.c (.own d sz n) :: zs)) ?_ (some d)⟩
    obtain ⟨vs, h3, h4⟩ := hv
    cases h4 with
    | cons h5 h6 => exact ⟨_, h3, .cons (ownK h5 h2) (h6.mono fun z u hz' hr => RepT.imp (m := m) hr (hz z hz') e4)⟩

/-! ### Calls -/
def okOps (xs : List Operand) : Bool := xs.all okOp
theorem SR.glob (h : SR cx st a w fz β) : ∀ g cs, cx.G g = some cs → RepC w (fzAll fz β) (fun _ => none) (.eptr cs) (.pointer (some ⟨g, 0, none⟩)) :=
  fun g cs hg => (h.rel.glob g cs hg).glob_adv (Adv.refl _ _) (fun b hb => .inl hb)
theorem H.none {w : World} {fz : Nat → Prop} (h : ∀ b, fz b → b < w.heap.size) : H w fz (fun _ => Option.none) [] where
  lt := fun k b hk => by cases hk
  fzlt := h
  inj := fun k k' b hk => by cases hk
  apart := fun b _ k hk => by cases hk
  ob := fun k o hk => by cases hk
def isFn (P : Program) (f : Nat) : Bool := match P.funcs[f]? with
  | some fn => fn.body.isSome && !(fn.name == "runtime.NumGoroutine")
  | none => false
theorem run_callFunc {f : Nat} (hf : isFn P f = true) (args : Array Value) : (callFunc f args).run P w = .ok (.enter f args) w := by
  unfold isFn at hf
  cases h : P.funcs[f]? with
  | none => simp [h] at hf
  | some fn =>
    simp only [h, Bool.and_eq_true, Bool.not_eq_true'] at hf
    cases hb : fn.body with
    | none => simp [hb] at hf
    | some c => have h2 : ¬ fn.name = "runtime.NumGoroutine" := by simpa using hf.2
                simp [callFunc, h, h2, hb]
theorem all2_map_list {α β γ : Type} {R : β → γ → Prop} {f : α → β} {g : α → γ} : ∀ (l : List α), (∀ x ∈ l, R (f x) (g x)) → All2 R (l.map f) (l.map g)
  | [], _ => .nil
  | x :: l, h => .cons (h x (by simp)) (all2_map_list l fun y hy => h y (by simp [hy]))
/-- A function called by name; what it is handed is only read; it hands back no rows but one of its own. -/
theorem OpTo.call {f : Nat} {xs : List Operand} {args : List AV} {ats : Array TypeId} {Q : AV → List (Nat × Ob) → Prop} (hc : AC P cx.G f args [] Q) (hf : isFn P f = true) (ho : okOps xs = true) (ha : xs.map (fun x => Vl.frz st (st.op cx x)) = args) (hk : args.all AV.keyless = true)
    (hq : ∀ r os', Q r os' → ∃ s', Imp false st os' dst r s' ∧ K s') : OpTo P cx kp ⟨dst, .call { callee := .value (.func f), args := xs.toArray, argTypes := ats }, ty, pos, af, gd⟩ st K := by
  intro a w next Qx ⟨fz, β, hs⟩ hn
  subst ha
  have hA : All2 (RepA w (fzAll fz β) (fun _ => none)) (xs.map (fun x => Vl.frz st (st.op cx x))) (xs.map a.eval) :=
    all2_map_list xs fun x hx => hs.frz (hs.op x (List.all_eq_true.1 ho x hx)) (by have := List.all_eq_true.1 hk _ (List.mem_map_of_mem (f := fun x => Vl.frz st (st.op cx x)) hx); exact this)
  have hlt : ∀ b, fzAll fz β b → b < w.heap.size := fun b hb => by rcases hb with h | ⟨k, h⟩; exact hs.h.fzlt b h; exact hs.h.lt k b h
  have hcall := hc w (fzAll fz β) (fun _ => none) (xs.map a.eval) (fun _ _ => rfl) (H.none hlt) hs.glob hA
  unfold wpv
  have hrun : (execOp a.eval ⟨dst, .call { callee := .value (.func f), args := xs.toArray, argTypes := ats }, ty, pos, af, gd⟩).run P w = .ok (.enter f (xs.map a.eval).toArray) w := by
    simp [execOp, resolve, Act.eval, Deferred.ofValue, invoke, run_callFunc hf]
  rw [hrun, upv_enter]
  refine hcall.mono fun e w' ⟨v, r, os', fz', β', h1, h2, h3, h4, h5⟩ => ?_
  subst h1
  obtain ⟨s', h6, h7⟩ := hq r os' h2
  obtain ⟨fz2, β2, h8⟩ := hs.back (m := false) (fun b hb => .inl hb) (fun h => by cases h) h3 h4 h5 h6
  exact hn _ _ _ h7 ⟨fz2, β2, h8⟩ (fun _ => ⟨h3.size, fun b hb => h3.old rfl b hb (fun k => by simp)⟩)
/-- The same where nothing of the call's own is handed on: what comes back may share what was handed on. -/
def nilFro : AV → AV
  | .c (.p (.s (.slice none 0 0))) => .c (.p (.fro []))
  | z => z
theorem RepA.nilFro {z : AV} {v : Value} (h : RepA w fz β z v) : RepA w fz β (nilFro z) v := by
  unfold Vl.nilFro
  split
  · have := RepA.eq h; subst this; exact .nil _ _
  · exact h
theorem OpTo.callA {f : Nat} {xs : List Operand} {args : List AV} {ats : Array TypeId} {Q : AV → List (Nat × Ob) → Prop} (hc : AC P cx.G f args [] Q) (hf : isFn P f = true) (ho : okOps xs = true) (ha : xs.map (fun x => Vl.nilFro (st.op cx x)) = args) (hk : args.all AV.keyless = true)
    (hq : ∀ r os', Q r os' → ∃ s', Imp true st os' dst r s' ∧ K s') : OpTo P cx kp ⟨dst, .call { callee := .value (.func f), args := xs.toArray, argTypes := ats }, ty, pos, af, gd⟩ st K := by
  intro a w next Qx ⟨fz, β, hs⟩ hn
  subst ha
  have hA : All2 (RepA w fz (fun _ => none)) (xs.map (fun x => Vl.nilFro (st.op cx x))) (xs.map a.eval) :=
    all2_map_list xs fun x hx => (hs.op x (List.all_eq_true.1 ho x hx)).nilFro.adv (Adv.refl _ _) (fun _ h => h) (fun k hr => by
      have := List.all_eq_true.1 hk _ (List.mem_map_of_mem (f := fun x => Vl.nilFro (st.op cx x)) hx)
      rw [AV.keyless_ref this] at hr; cases hr)
  have hcall := hc w fz (fun _ => none) (xs.map a.eval) (fun _ _ => rfl) (H.none hs.h.fzlt) hs.rel.glob hA
  unfold wpv
  have hrun : (execOp a.eval ⟨dst, .call { callee := .value (.func f), args := xs.toArray, argTypes := ats }, ty, pos, af, gd⟩).run P w = .ok (.enter f (xs.map a.eval).toArray) w := by
    simp [execOp, resolve, Act.eval, Deferred.ofValue, invoke, run_callFunc hf]
  rw [hrun, upv_enter]
  refine hcall.mono fun e w' ⟨v, r, os', fz', β', h1, h2, h3, h4, h5⟩ => ?_
  subst h1
  obtain ⟨s', h6, h7⟩ := hq r os' h2
  obtain ⟨fz2, β2, h8⟩ := hs.back (m := true) (fun b hb => hb) (fun _ b hb => hb) h3 h4 h5 h6
  exact hn _ _ _ h7 ⟨fz2, β2, h8⟩ (fun _ => ⟨h3.size, fun b hb => h3.old rfl b hb (fun k => by simp)⟩)
end
end Go.Proofs.Vl
