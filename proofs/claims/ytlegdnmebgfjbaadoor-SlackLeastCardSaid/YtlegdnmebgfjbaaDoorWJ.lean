/- Chapter 22: halves, asked of a bound method. -/
import Derived.Test.YtlegdnmebgfjbaaDoorWF
set_option linter.all false
set_option maxRecDepth 2000
set_option maxHeartbeats 8000000
namespace Go.Proofs.Vl
open Go Go.RowKit
attribute [local irreducible] AWp OpTo Run DL Val UN DR AC Le thn inb nog
theorem SR.val1 {cx : Cx} {st : St} {a : Act} {w : World} {fz : Nat → Prop} {β : Nat → Option Nat} (hs : SR cx st a w fz β) {g : Operand} {v : Value} (hg : st.op cx g = .c (.p (.s v))) (ho : okOp g = true) : a.eval g = v := by
  have := hs.op g ho
  rw [hg] at this
  have this : RepP w fz (.s v) (a.eval g) := this
  exact RepP.eq this
/-- A method bound to what it is called on. -/
theorem OpTo.fnB {P : Program} {cx : Cx} {kp : Bool} {st : St} {K : St → Prop} {dst : Option Tmp} {ty : TypeId} {pos : String} {af : Array Edge} {gd : Option (Nat × Bool)} {f ks : Nat} {x : Operand} {z : AV} (ho : okOp x = true) (hx : st.op cx x = z)
    (h : ∀ v : Value, K (St.put ⟨st.tmps, upd st.objs ks (.sav [z] [v])⟩ dst (.c (.p (.s (.func (.func f) #[v] #[])))))) : OpTo P cx kp ⟨dst, .makeFunc (.func f) #[x] #[], ty, pos, af, gd⟩ st K := by
  unfold OpTo
  intro a w next Qx ⟨fz, β, hs⟩ hn
  have hr := hs.op x ho
  rw [hx] at hr
  unfold wpv
  have hv : (execOp a.eval ⟨dst, .makeFunc (.func f) #[x] #[], ty, pos, af, gd⟩).run P w = .ok (.value (.func (.func f) #[a.eval x] #[])) w := by
    simp [execOp, Instr.makeFunc]
  rw [hv]
  have hs2 := hs.reob (k := ks) (o' := .sav [z] [a.eval x]) (.cons hr .nil)
  exact hn _ _ _ (h (a.eval x)) ⟨fz, β, hs2.put (show RepA w fz β (.c (.p (.s (.func (.func f) #[a.eval x] #[])))) _ from RepP.s _ rfl) dst⟩ (fun _ => Old.refl w)
/-- Its call: what is lent are all blocks. -/
theorem OpTo.callB {P : Program} {cx : Cx} {st : St} {K : St → Prop} {dst : Option Tmp} {ty : TypeId} {pos : String} {af : Array Edge} {gd : Option (Nat × Bool)} {f ks : Nat} {g : Operand} {xs : List Operand} {v : Value} {z : AV} {args : List AV} {os0 : List (Nat × Ob)} {ats : Array TypeId} {Q : AV → List (Nat × Ob) → Prop} (im : List (Nat × Nat)) (hc : AC P cx.G f args os0 Q) (hg : st.op cx g = .c (.p (.s (.func (.func f) #[v] #[])))) (hgo : okOp g = true) (hsv : find st.objs ks = some (.sav [z] [v])) (hos : lend st.objs = os0) (hf : isFn P f = true) (ho : okOps xs = true)
    (ha : z.up :: xs.map (fun x => (nilFro (st.op cx x)).up) = args) (hi : imOk im = true) (hno : norefT st im = true) (hq : ∀ r os', Q r os' → K (St.put ⟨st.tmps, dnO im os'⟩ dst (r.dn im))) :
    OpTo P cx false ⟨dst, .call { callee := .value g, args := xs.toArray, argTypes := ats }, ty, pos, af, gd⟩ st K := by
  unfold OpTo
  intro a w next Qx ⟨fz, β, hs⟩ hn
  subst ha hos
  have hgv := hs.val1 hg hgo
  have hz : RepA w fz β z v := by
    have := hs.h.ob ks _ hsv
    cases this with
    | cons h _ => exact h
  unfold AC at hc
  have hcall := hc w fz (βup β) (v :: xs.map a.eval) (fun k hk => βup_low _ hk) hs.h.lend hs.rel.glob (.cons hz.up (hs.argsR ho))
  unfold wpv
  have hrun : (execOp a.eval ⟨dst, .call { callee := .value g, args := xs.toArray, argTypes := ats }, ty, pos, af, gd⟩).run P w = .ok (.enter f (v :: xs.map a.eval).toArray) w := by
    simp [execOp, resolve, hgv, Deferred.ofValue, invoke, run_callFunc hf]
  rw [hrun, upv_enter]
  refine hcall.mono fun e w' ⟨v', r, os', fz', β', h1, h2, h3, h4, h5⟩ => ?_
  subst h1
  obtain ⟨h6, h7⟩ := hs.backR hi hno h3 h4
  exact hn _ _ _ (hq r os' h2) ⟨fz', _, h6.put (h5.dn h7) dst⟩ (fun h => by cases h)
theorem least_gen (G) (fv : PV) {σ : Type} (os : σ → List (Nat × Ob)) (step : σ → Int → σ) (so : Int → Bool)
    (lo hi : Int) (h1 : ok64 lo) (h2 : ok64 hi)
    (hc : ∀ s n, lo ≤ n → n ≤ hi → ∀ (cx : Cx) (st : St) (g x : Operand) (dst : Option Tmp) (ats : Array TypeId) (ty : TypeId) (pos : String) (af : Array Edge) (gd : Option (Nat × Bool)) (K : St → Prop), cx.G = G → st.objs = os s → st.op cx g = .c (.p fv) → okOp g = true → st.op cx x = vi n → okOp x = true → K (St.put ⟨st.tmps, os (step s n)⟩ dst (vb (so n))) → OpTo Tryd.prog cx false ⟨dst, .call { callee := .value g, args := #[x], argTypes := ats }, ty, pos, af, gd⟩ st K)
    (Inv : Nat → σ → Prop) (hst : ∀ k s n, lo ≤ n → n ≤ hi → Inv k s → Inv (k + 1) (step s n)) (s0 : σ) (h0 : Inv 0 s0) :
    AC Tryd.prog G 10 [vi lo, vi hi, .c (.p fv)] (os s0) (fun r os' => r = .tup [ti (leN so lo hi), .c (.p (.s (.bool (leB so lo hi))))] ∧ ∃ k s, k ≤ 66 ∧ Inv k s ∧ os' = os s) := by
  refine AC.body' Tryd.func10 Tryd.ntmps10 rfl ?_
  intro cx hd hG
  refine nrmL (k := ?_)
  repeat refine w1 (k := ?_)
  obtain ⟨w0, fz0, β0, df, G0⟩ := cx
  obtain rfl : G0 = G := hG
  unfold leN leB
  first | refine bothTN (h1 := fun h3 => ?_) (h0 := fun h3 => ?_) | refine bothFN (h1 := fun h3 => ?_) (h0 := fun h3 => ?_)
  all_goals repeat refine w1 (k := ?_)
  ·
    rw [decide_eq_true h3]
    refine hc s0 hi h3 (Int.le_refl _) _ _ _ _ _ _ _ _ _ _ _ rfl rfl rfl rfl rfl rfl ?_
    refine nrm (k := ?_)
    repeat refine w1 (k := ?_)
    have hi1 := hst 0 s0 hi h3 (Int.le_refl _) h0
    generalize step s0 hi = s1 at *
    cases hso : so hi with
    | false =>
      rw [Bool.not_false]
      repeat refine w1 (k := ?_)
      rw [if_neg (fun h => by cases h.2)]
      exact ⟨[.c _, .c _], .cons (.tmp rfl) (.cons (.tmp rfl) .nil), rfl, 1, s1, by omega, hi1, rfl⟩
    | true =>
      rw [Bool.not_true, if_pos ⟨h3, rfl⟩]
      repeat refine w1 (k := ?_)
      have hpw : hi - lo < 2 ^ 64 := by unfold ok64 at h1 h2; omega
      refine loopN [(8, 1), (18, 17)] (α := Int × Int × Nat × σ) (fun x => [(0, vi x.1), (1, vi x.2.1)]) (fun x =>  os x.2.2.2) (fun x => (x.2.1 - x.1).toNat) (fun x => lo ≤ x.1 ∧ x.1 ≤ x.2.1 ∧ x.2.1 ≤ hi ∧ x.2.2.1 ≤ 64 ∧ x.2.1 - x.1 < 2 ^ x.2.2.1 ∧ Inv (65 - x.2.2.1) x.2.2.2 ∧ lsF so x.2.2.1 x.1 x.2.1 = lsF so 64 lo hi) (x0 := (lo, hi, 64, s1)) (h0 := by exact ⟨Int.le_refl _, h3, Int.le_refl _, Nat.le_refl _, hpw, hi1, rfl⟩) (hr := ?_)
      intro x hI
      refine nrmL (k := ?_)
      obtain ⟨a, b, f, s⟩ := x
      dsimp only at hI
      obtain ⟨i1, i2, i3, i4, i5, i6, i7⟩ := hI
      have ha : ok64 a := by unfold ok64 at h1 h2 ⊢; omega
      have hb : ok64 b := by unfold ok64 at h1 h2 ⊢; omega
      repeat refine w1 (k := ?_)
      refine condN (h1 := fun h4 => ?_) (h0 := fun h4 => ?_)
      ·
        repeat refine w1 (k := ?_)
        have hr : b = lsF so 64 lo hi := by rw [← i7, h4]; cases f <;> simp [lsF]
        rw [hr]
        exact ⟨[.c _, .c _], .cons (.tmp rfl) (.cons (.tmp rfl) .nil), rfl, _, s, by omega, i6, rfl⟩
      ·
        repeat refine w1 (k := ?_)
        rw [half_id ha hb i2]
        cases f with
        | zero => simp at i5; omega
        | succ f =>
          have hp : (2 : Int) ^ (f + 1) = 2 * 2 ^ f := by rw [Int.pow_succ]; omega
          rw [hp] at i5
          have hls : lsF so (f + 1) a b = if so (a + (b - a) / 2) then lsF so f a (a + (b - a) / 2) else lsF so f (a + (b - a) / 2 + 1) b := by
            rw [lsF, if_neg h4]
          rw [hls] at i7
          have hi2 := hst _ s (a + (b - a) / 2) (by omega) (by omega) i6
          rw [show 65 - (f + 1) + 1 = 65 - f by omega] at hi2
          have hcm := hc s (a + (b - a) / 2) (by omega) (by omega)
          have hm1 : lo ≤ a + (b - a) / 2 ∧ a + (b - a) / 2 ≤ hi := by omega
          have hm2 : a ≤ a + (b - a) / 2 ∧ a + (b - a) / 2 < b := by omega
          have hm3 : a + (b - a) / 2 - a < 2 ^ f ∧ b - (a + (b - a) / 2 + 1) < 2 ^ f := by omega
          generalize a + (b - a) / 2 = m at *
          have hm4 : -9223372036854775808 ≤ m ∧ m + 1 < 9223372036854775808 := by unfold ok64 at ha hb; omega
          refine hcm _ _ _ _ _ _ _ _ _ _ _ rfl rfl rfl rfl rfl rfl ?_
          refine nrm (k := ?_)
          repeat refine w1 (k := ?_)
          generalize step s m = s2 at *
          cases hsm : so m with
          | true =>
            rw [hsm, if_pos rfl] at i7
            repeat refine w1 (k := ?_)
            refine ⟨(a, m, f, s2), by dsimp only; omega, by dsimp only; exact ⟨i1, hm2.1, by omega, by omega, hm3.1, hi2, i7⟩, frg⟩
          | false =>
            rw [hsm, if_neg (by simp)] at i7
            repeat refine w1 (k := ?_)
            refine ⟨(m + 1, b, f, s2), by dsimp only; omega, by dsimp only; exact ⟨by omega, by omega, i3, by omega, hm3.2, hi2, i7⟩, frg⟩
  ·
    repeat refine w1 (k := ?_)
    rw [if_neg (fun h => by omega), decide_eq_false (show ¬ lo ≤ hi by omega)]
    exact ⟨[.c _, .c _], .cons (.tmp rfl) (.cons (.tmp rfl) .nil), rfl, 0, s0, by omega, h0, rfl⟩
