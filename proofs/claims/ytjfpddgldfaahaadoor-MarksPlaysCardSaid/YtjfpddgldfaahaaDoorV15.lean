/- More rules: rows given up to be only read; loops of few rounds; functions of no body. -/
import Derived.Test.YtjfpddgldfaahaaDoorV14
import Derived.Laws.Externs
set_option linter.all false
namespace Go.Proofs.Vl
open Go Go.RowKit
section
variable {P : Program} {cx : Cx} {st : St} {a : Act} {w : World} {fz : Nat → Prop} {β : Nat → Option Nat} {Q : Exit → St → Prop} {c : Code}
variable {K : St → Prop} {dst : Option Tmp} {ty T T' E : TypeId} {pos : String} {af : Array Edge} {gd : Option (Nat × Bool)} {x y : Operand} {n k off : Nat} {kp : Bool}
/-! ### A row is only read from now on -/
def CV.frz (k sz : Nat) (xs : List (List PV)) : CV → CV
  | .own j s n => cond (j == k) (cond (s == sz && n == xs.length) (.p (.fro xs)) .any) (.own j s n)
  | .win j s off n => cond (j == k) (cond (s == sz && decide (off + n ≤ xs.length)) (.p (.fro ((xs.drop off).take n))) .any) (.win j s off n)
  | x => cond (x.ref k) .any x
def TV.frz (k sz : Nat) (xs : List (List PV)) : TV → TV
  | .c x => .c (x.frz k sz xs)
  | .agg cs => .agg (cs.map (CV.frz k sz xs))
  | .pag cs => .pag cs
def AV.frz (k sz : Nat) (xs : List (List PV)) : AV → AV
  | .c x => .c (x.frz k sz xs)
  | .agg cs => .agg (cs.map (CV.frz k sz xs))
  | .pag cs => .pag cs
  | .tup zs => .tup (zs.map (TV.frz k sz xs))
def Ob.frz (k sz : Nat) (xs : List (List PV)) : Ob → Ob
  | .cells T cs => .cells T (cs.map (CV.frz k sz xs))
  | .pcells T cs => .pcells T cs
  | .row T s xs => .row T s xs
  | .mapo es clock => .mapo es clock
  | .tok F J => .tok F J
  | .sav zs vs => .sav (zs.map (AV.frz k sz xs)) vs
def ofrz (k sz : Nat) (xs : List (List PV)) : List (Nat × Ob) → List (Nat × Ob)
  | [] => []
  | (j, o) :: r => cond (j == k) (ofrz k sz xs r) ((j, o.frz k sz xs) :: ofrz k sz xs r)
theorem find_ofrz (k sz : Nat) (xs : List (List PV)) (j : Nat) : ∀ os : List (Nat × Ob), find (ofrz k sz xs os) j = if j = k then none else (find os j).map (Ob.frz k sz xs)
  | [] => by simp [ofrz, find]
  | (i, o) :: r => by
    have ih := find_ofrz k sz xs j r
    unfold ofrz
    by_cases h : i = k
    · subst h
      simp only [BEq.rfl, cond_true, ih, find_cons]
      by_cases h2 : j = i
      · simp [h2]
      · rw [if_neg h2, if_neg h2, if_neg (Ne.symm h2)]
    · have h' : (i == k) = false := by simpa using h
      simp only [h', cond_false, find_cons, ih]
      by_cases h2 : i = j
      · subst h2; simp [h]
      · rw [if_neg h2, if_neg h2]
theorem SR.freeze (hs : SR cx st a w fz β) {k sz : Nat} {T : TypeId} {xs : List (List PV)} (hlow : k < 1000000) (hf : find st.objs k = some (.row T sz xs)) :
    ∃ fz2, SR cx ⟨st.tmps.map (AV.frz k sz xs), ofrz k sz xs st.objs⟩ a w fz2 (bup β k none) := by
  have hβk : ∀ b, β k = some b → cx.w0.heap.size ≤ b := fun b hb => (hs.rel.bout k b hb).resolve_left (by rw [hs.low k hlow]; simp)
  refine ⟨fun b => fz b ∨ β k = some b, ?_⟩
  have hsub : ∀ b, fz b → fz b ∨ β k = some b := fun b hb => .inl hb
  -- one cell
  have hC : ∀ x v, RepC w fz β x v → RepC w (fun b => fz b ∨ β k = some b) (bup β k none) (x.frz k sz xs) v := by
    intro x v hv
    have keep : x.ref k = false → RepC w (fun b => fz b ∨ β k = some b) (bup β k none) x v := fun hr => hv.adv (Adv.refl _ _) hsub (fun j hj => bup_other _ _ _ (by intro e; subst e; rw [hr] at hj; cases hj))
    have row : ∀ z, x.ref k = true → (x = .own k sz xs.length ∧ z = xs ∨ ∃ off n, x = .win k sz off n ∧ off + n ≤ xs.length ∧ z = (xs.drop off).take n) → RepP w (fun b => fz b ∨ β k = some b) (.fro z) v := by
      intro z _ hx
      have he : elems st (.c x) = some z := by
        rcases hx with ⟨rfl, rfl⟩ | ⟨off, n, rfl, h1, rfl⟩
        · simp [elems, hf]
        · simp [elems, hf, h1]
      obtain ⟨sz', hL⟩ := hs.lies (z := .c x) hv he
      by_cases hz : z = []
      · subst hz
        obtain ⟨ad, cap, h1, _⟩ := hL.ex
        subst h1; exact .nil _ _
      · refine hL.fro hsub (fun b o u hu hb => ?_)
        rcases hx with ⟨rfl, rfl⟩ | ⟨off, n, rfl, h1, rfl⟩
        · rcases hv with ⟨_, _, rfl⟩ | ⟨b', cap, T', h2, rfl, _⟩
          · simp [Value.ownBlock] at hb
          · simp [Value.ownBlock] at hb; subst hb; exact .inr h2
        · rcases hv with ⟨h0, ad, cap, h2⟩ | ⟨b', cap, h2, rfl, _⟩
          · exact absurd (by subst h0; simp) hz
          · simp [Value.ownBlock] at hb; subst hb; exact .inr h2
    have other : ∀ y, (y = cond (x.ref k) .any x) → RepC w (fun b => fz b ∨ β k = some b) (bup β k none) y v := by
      intro y hy
      subst hy
      cases hr : x.ref k with
      | true => trivial
      | false => exact keep hr
    cases x with
    | own j s n =>
      dsimp only [CV.frz]
      cases hj : (j == k) with
      | false => exact keep hj
      | true =>
        rw [cond_true]
        cases hc : (s == sz && n == xs.length) with
        | false => trivial
        | true =>
          simp only [Bool.and_eq_true, beq_iff_eq] at hc hj
          obtain ⟨rfl, rfl⟩ := hc
          subst hj
          exact row xs (by simp [CV.ref]) (.inl ⟨rfl, rfl⟩)
    | win j s off n =>
      dsimp only [CV.frz]
      cases hj : (j == k) with
      | false => exact keep hj
      | true =>
        rw [cond_true]
        cases hc : (s == sz && decide (off + n ≤ xs.length)) with
        | false => trivial
        | true =>
          simp only [Bool.and_eq_true, beq_iff_eq, decide_eq_true_eq] at hc hj
          obtain ⟨rfl, h1⟩ := hc
          subst hj
          exact row _ (by simp [CV.ref]) (.inr ⟨off, n, rfl, h1, rfl⟩)
    | _ => exact other _ rfl
  have hC1 : ∀ x v, RepC1 w fz β x v → RepC1 w (fun b => fz b ∨ β k = some b) (bup β k none) (x.frz k sz xs) v := fun x v h => ⟨h.1, hC x v h.2⟩
  have hP : ∀ x v, RepP w fz x v → RepP w (fun b => fz b ∨ β k = some b) x v := fun x v h => h.adv (Adv.refl _ _) hsub
  have hst : Stp w fz β w (fun b => fz b ∨ β k = some b) (bup β k none) := .here (fun _ h => .inl h) (fun b _ hb => hb.imp id (fun h => ⟨k, h⟩)) (Stp.bupN w fz β k).own
  have hAV : ∀ x v, RepA w fz β x v → RepA w (fun b => fz b ∨ β k = some b) (bup β k none) (x.frz k sz xs) v := fun x v hx => by
    cases x with
    | c y => exact hC y v hx
    | agg cs => obtain ⟨vs, h1, h2⟩ := hx; exact ⟨vs, h1, h2.map _ fun y u hy => hC1 y u hy⟩
    | pag cs => obtain ⟨vs, h1, h2⟩ := hx; exact ⟨vs, h1, h2.mono fun y u _ hy => hP y u hy⟩
    | tup zs =>
      obtain ⟨vs, h1, h2⟩ := hx
      refine ⟨vs, h1, h2.map _ fun z u hz => ?_⟩
      cases z with
      | c y => exact hC y u hz
      | agg cs => obtain ⟨vs, h1, h2⟩ := hz; exact ⟨vs, h1, h2.map _ fun y u hy => hC1 y u hy⟩
      | pag cs => obtain ⟨vs, h1, h2⟩ := hz; exact ⟨vs, h1, h2.mono fun y u _ hy => hP y u hy⟩
  refine ⟨hs.d.stp hst, hs.low, ⟨hs.rel.os, hs.rel.tape, hs.rel.output, hs.rel.size, hs.rel.old, hs.rel.shp, fun b hb => .inl (hs.rel.fzin b hb), fun b hb => ?_, fun j b hj => ?_, fun j b hj => ?_, fun g cs hg => (hs.rel.glob g cs hg).glob_adv (Adv.refl _ _) hsub, fun j hj h0 => (bup_other _ _ _ (by omega)).trans (hs.rel.bhi j hj h0)⟩, ⟨fun j b hj => ?_, fun b hb => ?_, fun j j' b h1 h2 => ?_, fun b hb j hj => ?_, fun j o hj => ?_⟩, hs.t.map _ fun x v hx => ?_⟩
  · rcases hb with hb | hb
    · exact hs.rel.fzout b hb
    · exact .inr (hβk b hb)
  · have : j ≠ k := fun e => by subst e; rw [hs.low j hlow] at hj; cases hj
    rw [bup_other _ _ _ this]; exact hs.rel.bin j b hj
  · by_cases hjk : j = k
    · subst hjk; rw [bup_same] at hj; cases hj
    · rw [bup_other _ _ _ hjk] at hj; exact hs.rel.bout j b hj
  · by_cases hjk : j = k
    · subst hjk; rw [bup_same] at hj; cases hj
    · rw [bup_other _ _ _ hjk] at hj; exact hs.h.lt j b hj
  · rcases hb with hb | hb
    · exact hs.h.fzlt b hb
    · exact hs.h.lt _ _ hb
  · by_cases hjk : j = k
    · subst hjk; rw [bup_same] at h1; cases h1
    · by_cases hjk' : j' = k
      · subst hjk'; rw [bup_same] at h2; cases h2
      · rw [bup_other _ _ _ hjk] at h1; rw [bup_other _ _ _ hjk'] at h2; exact hs.h.inj _ _ _ h1 h2
  · by_cases hjk : j = k
    · subst hjk; rw [bup_same] at hj; cases hj
    · rw [bup_other _ _ _ hjk] at hj
      rcases hb with hb | hb
      · exact hs.h.apart b hb j hj
      · exact hjk (hs.h.inj _ _ _ hj hb)
  · rw [find_ofrz] at hj
    by_cases hjk : j = k
    · rw [if_pos hjk] at hj; cases hj
    · rw [if_neg hjk] at hj
      obtain ⟨o', ho, rfl⟩ := Option.map_eq_some_iff.1 hj
      have hO := hs.h.ob j o' ho
      have hb := bup_other β k none hjk
      cases o' with
      | cells T' cs => obtain ⟨b, vs, h1, h2, h3⟩ := hO; exact ⟨b, vs, hb.trans h1, h2, h3.map _ fun x v hx => hC1 x v hx⟩
      | pcells T' cs => obtain ⟨b, vs, h1, h2, h3⟩ := hO; exact ⟨b, vs, hb.trans h1, h2, h3.mono fun x v _ hx => hP x v hx⟩
      | row T' s ys =>
        rcases hO with ⟨h1, h2⟩ | ⟨b, vs, h1, h2, h3, h4, h5⟩
        · exact .inl ⟨hb.trans h1, h2⟩
        · exact .inr ⟨b, vs, hb.trans h1, h2, h3, h4, h5.mono fun x v _ hx => hP x v hx⟩
      | mapo es clock => obtain ⟨b, h1, h2⟩ := hO; exact ⟨b, hb.trans h1, h2⟩
      | tok F J => exact tok_stp hO hst
      | sav zs vs => exact All2.map (R := RepA w fz β) _ hO fun x v hx => hAV x v hx
  · exact hAV x v hx
  /- cases x with
    | c y => exact hC y v hx
    | agg cs => obtain ⟨vs, h1, h2⟩ := hx; exact ⟨vs, h1, h2.map _ fun y u hy => hC1 y u hy⟩
    | pag cs => obtain ⟨vs, h1, h2⟩ := hx; exact ⟨vs, h1, h2.mono fun y u _ hy => hP y u hy⟩
    | tup zs =>
      obtain ⟨vs, h1, h2⟩ := hx
      refine ⟨vs, h1, h2.map _ fun z u hz => ?_⟩
      cases z with
      | c y => exact hC y u hz
      | agg cs => obtain ⟨vs, h1, h2⟩ := hz; exact ⟨vs, h1, h2.map _ fun y u hy => hC1 y u hy⟩
      | pag cs => obtain ⟨vs, h1, h2⟩ := hz; exact ⟨vs, h1, h2.mono fun y u _ hy => hP y u hy⟩ -/
theorem Le.freeze {k sz : Nat} {T : TypeId} {xs : List (List PV)} (hlow : k < 1000000) (hf : find st.objs k = some (.row T sz xs)) : Le cx st ⟨st.tmps.map (AV.frz k sz xs), ofrz k sz xs st.objs⟩ := by
  intro a w h
  obtain ⟨fz, β, hs⟩ := h
  obtain ⟨fz2, h2⟩ := hs.freeze hlow hf
  exact ⟨fz2, _, h2⟩
theorem Le.trans {s1 s2 s3 : St} (h : Le cx s1 s2) (h' : Le cx s2 s3) : Le cx s1 s3 := fun a w hs => h' a w (h a w hs)
/-! ### Loops of few rounds -/
def UN (P : Program) (cx : Cx) (c : Code) (Q : Exit → St → Prop) : Nat → St → Prop
  | 0, _ => False
  | n + 1, s => AWp P cx c s (thn (fun s' => UN P cx c Q n s') Q)
theorem AWp.unroll (n : Nat) (h : UN P cx c Q n st) : AWp P cx (.loop c) st Q := by
  refine AWp.loop (fun m s => UN P cx c Q m s) n h (fun m s hm => ?_)
  cases m with
  | zero => exact hm.elim
  | succ m => exact hm.mono fun e s q => by cases e <;> first | exact q | exact ⟨m, s, Nat.lt_succ_self _, q, Le.refl⟩
/-- A function of no body, over values that are known. -/
theorem Val.ext {f : Nat} {xs : List Operand} {ats : Array TypeId} {vs : List Value} {v : Value} {z : AV} (ho : okOps xs = true) (hx : xs.map (fun x => exV (st.op cx x)) = vs.map some) (hz : ∀ w fz β, RepA w fz β z v) (hr : ∀ w, (callFunc f vs.toArray).run P w = .ok (.value v) w) :
    Val P cx true ⟨dst, .call { callee := .value (.func f), args := xs.toArray, argTypes := ats }, ty, pos, af, gd⟩ st z := fun a w fz β hs => by
  have he : xs.map a.eval = vs := by
    clear hr
    induction xs generalizing vs with
    | nil => cases vs with | nil => rfl | cons v vs => simp at hx
    | cons x xs ih =>
      cases vs with
      | nil => simp at hx
      | cons v vs =>
        simp only [List.map_cons, List.cons.injEq] at hx ⊢
        simp only [okOps, List.all_cons, Bool.and_eq_true] at ho
        exact ⟨hs.eq (exV_eq hx.1) ho.1, ih ho.2 hx.2⟩
  refine ⟨v, hz w fz β, fun w' _ => ?_⟩
  have h1 : (execOp a.eval ⟨dst, .call { callee := .value (.func f), args := xs.toArray, argTypes := ats }, ty, pos, af, gd⟩) = callFunc f (xs.map a.eval).toArray := by
    simp [execOp, resolve, Act.eval, Deferred.ofValue, invoke]
  rw [h1, he]; exact hr w'
end
end Go.Proofs.Vl
