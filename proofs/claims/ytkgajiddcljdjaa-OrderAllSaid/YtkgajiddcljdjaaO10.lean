/- Chapter 18: yield of a row that is handed over; a call that hands yield on (XE4, XE6). -/
import Derived.Test.YtkgajiddcljdjaaO9
set_option linter.all false
namespace Go.Proofs.Vl
open Go Go.RowKit
variable {P : Program} {cx : Cx} {st : St}
variable {K : St → Prop} {L : List YV} {J : Nat → World → (Nat → Prop) → Prop} {Jx : World → (Nat → Prop) → Prop} {F : Nat → Prop} {l i : Nat} {y : YV}
variable {dst : Option Tmp} {ty : TypeId} {pos : String} {af : Array Edge} {gd : Option (Nat × Bool)}
theorem OpTo.yieldR {t x : Operand} {xs : List Operand} {ats : Array TypeId} {k sz : Nat} {T : TypeId} {rs : List (List PV)} (xs0 : List Operand) (hr : Rnd P l F J Jx L) (hi : L[i]? = some y) (hyr : y.row = some (T, sz, rs)) (hb : cx.base = none) (hrr : cx.rr = true)
    (ht : st.op cx t = yv l) (hto : okOp t = true) (hxs : xs = xs0 ++ [x]) (ho : okOps xs0 = true) (hox : okOp x = true) (hx : st.op cx x = .c (.own k sz rs.length)) (hf : find st.objs k = some (.row T sz rs)) (hsol : ∀ cs ∈ rs, ∀ z ∈ cs, z.solid = true) (hlow : k < 1000000)
    (hft : find (upd (okill k st.objs) k (.row T sz [])) TK = some (.tok F (J i))) (hft0 : find st.objs TK = some (.tok F (J i))) (hnt : (upd (okill k st.objs) k (.row T sz [])).all (fun p => p.1 == TK || noTok p.2) = true)
    (hy : xs0.map (fun x => st.op cx x) = y.xs) (hyp : y.xs.all pureA = true)
    (k1 : K (St.put ⟨(st.kill k).tmps, upd (upd (okill k st.objs) k (.row T sz [])) TK (.tok F (J (i + 1)))⟩ dst (.c (.p (.s (.bool true))))))
    (k2 : K (St.put ⟨(st.kill k).tmps, upd (upd (okill k st.objs) k (.row T sz [])) TK (.tok F Jx)⟩ dst (.c (.p (.s (.bool false)))))) :
    OpTo P cx false ⟨dst, .call { callee := .value t, args := xs.toArray, argTypes := ats }, ty, pos, af, gd⟩ st K := by
  subst hxs
  intro a w next Qx ⟨fz, β, hs⟩ hn
  obtain ⟨hab, X, hX1, hX2, hJ⟩ := hs.h.ob _ _ hft0
  have hJ' : J i w (fun b => X b ∧ b < w.heap.size) := hab w X w _ ⟨rfl, rfl, rfl, Nat.le_refl _, fun _ _ _ => rfl, fun _ _ h => h, fun b _ h => h.1⟩ hJ
  have hown : RepC w fz β (.own k sz rs.length) (a.eval x) := by have := hs.op x hox; rw [hx] at this; exact this
  have hrow := hs.h.ob k _ hf
  have hrep : y.rep w (β k) (xs0.map a.eval ++ [a.eval x]) := by
    unfold YV.rep
    rw [hyr]
    refine ⟨_, _, rfl, hyp, ?_, ?_, ?_⟩
    · rw [← hy]
      refine all2_map_list xs0 fun x hx => pureA_rep (List.all_eq_true.1 hyp _ (by rw [← hy]; exact List.mem_map_of_mem (f := fun x => st.op cx x) hx)) (hs.op x (List.all_eq_true.1 ho x hx))
    · rcases hown with ⟨g1, g2, g3⟩ | ⟨b, cap, T', g1, g2, g3⟩
      · exact .inl ⟨g1, g2, g3⟩
      · exact .inr ⟨b, cap, T', g1, g2, g3⟩
    · rcases hrow with ⟨g1, g2⟩ | ⟨b, vs, g1, g2, g3, g4, g5⟩
      · exact .inl ⟨g1, g2⟩
      · refine .inr ⟨b, vs, g1, g2, g3, g4, g5.mono fun z v hz hv => RepP.solid hv ?_⟩
        obtain ⟨cs, hc, hz⟩ := List.mem_flatten.1 hz
        exact hsol cs hc z hz
  obtain ⟨fn, tm, asg, bo, hyr', hround⟩ := hr.rnd i y hi w _ (β k) _ (fun b h => h.2) (fun b h => ⟨hX1 k b h, hs.h.lt k b h⟩) hJ' hrep
  have hte : a.eval t = .func (.yield l) #[] #[] := hs.eq ht hto
  unfold wpv
  have hrun : (execOp a.eval ⟨dst, .call { callee := .value t, args := (xs0 ++ [x]).toArray, argTypes := ats }, ty, pos, af, gd⟩).run P w = .ok (.round l fn tm asg bo) w := by
    have e : ((xs0 ++ [x]).toArray.map a.eval) = (xs0.map a.eval ++ [a.eval x]).toArray := by simp
    simp [execOp, resolve, hte, Deferred.ofValue, invoke, hyr']
  rw [hrun]
  have hs1 : SR cx ⟨(st.kill k).tmps, upd (okill k st.objs) k (.row T sz [])⟩ a w fz (bup β k none) := (hs.kill k).nilrow (d := k) (T := T) (sz := sz) hlow (noref_kill k st)
  refine RoundIn.mono hround fun e w' ⟨hk, hc⟩ => ?_
  have hX1' : ∀ j b, bup β k none j = some b → (X b ∧ b < w.heap.size) ∧ β k ≠ some b := fun j b h => by
    by_cases e : j = k
    · subst e; rw [bup_same] at h; cases h
    · rw [bup_other β k none e] at h
      exact ⟨⟨hX1 j b h, hs.h.lt j b h⟩, fun h' => e (hs.h.inj _ _ _ h h')⟩
  have hX2' : ∀ b, fz b → F b ∨ ((X b ∧ b < w.heap.size) ∧ β k ≠ some b) := fun b h => (hX2 b h).imp id (fun h2 => ⟨⟨h2, hs.h.fzlt b h⟩, fun h' => hs.h.apart b h k h'⟩)
  rcases hc with ⟨rfl, hc⟩ | ⟨rfl, hc⟩
  · exact hn _ _ _ k1 ⟨fz, _, (hs1.yielded hb hrr hft hnt hX1' hX2' hk (hr.abi _) hc).put (x := .c (.p (.s (.bool true)))) (.s _ rfl) dst⟩ (fun h => (by cases h))
  · exact hn _ _ _ k2 ⟨fz, _, (hs1.yielded hb hrr hft hnt hX1' hX2' hk hr.abx hc).put (x := .c (.p (.s (.bool false)))) (.s _ rfl) dst⟩ (fun h => (by cases h))
/-- The rounds, as one sees them who was handed yield by the iterator. -/
def hand (w : World) (X0 F : Nat → Prop) (J : World → (Nat → Prop) → Prop) (W : World) (X1 : Nat → Prop) : Prop := Kp w (fun b => X0 b ∨ F b) W ∧ (∀ b, X1 b → w.heap.size ≤ b) ∧ J W (fun b => X0 b ∨ X1 b)
theorem hand_abi {w : World} {X0 F : Nat → Prop} {J : World → (Nat → Prop) → Prop} (hJ : Abi J) : Abi (hand w X0 F J) := by
  rintro W X W' X' hst ⟨h1, h2, h3⟩
  have hlt : ∀ b, b < w.heap.size → ¬ X b := fun b hb hx => by have := h2 b hx; omega
  refine ⟨⟨hst.os.trans h1.os, hst.tape.trans h1.tape, hst.output.trans h1.output, Nat.le_trans h1.size hst.size, fun b s h => hst.shp b s (h1.shp b s h), fun b hb hc => (hst.blk b (Nat.lt_of_lt_of_le hb h1.size) (hlt b hb)).trans (h1.blk b hb hc)⟩, fun b hx => ?_, ?_⟩
  · refine Nat.le_of_not_lt fun hb => ?_
    exact hlt b hb (hst.own b (Nat.lt_of_lt_of_le hb h1.size) hx)
  · refine hJ W _ W' _ ⟨hst.os, hst.tape, hst.output, hst.size, fun b hb hn => hst.blk b hb fun hx => hn (.inr hx), hst.shp, fun b hb hx => hx.imp id (hst.own b hb)⟩ h3
theorem OpTo.callG {f : Nat} {xs : List Operand} {args : Nat → List AV} {ats : Array TypeId} {L' : List YV} {rt rf : AV → Prop} (hr : Rnd P l F J Jx L) (hL : ∀ m y, L'[m]? = some y → L[i + m]? = some y) (hb : cx.base = none) (hrr : cx.rr = true)
    (hc : GC P cx.G f args L' rt rf) (hpt : ∀ r, rt r → pureA r = true) (hpf : ∀ r, rf r → pureA r = true) (hfn : isFn P f = true) (ho : okOps xs = true) (ha : xs.map (fun x => Vl.nilFro (st.op cx x)) = args l) (hk : (args l).all AV.keyless = true)
    (hf : find st.objs TK = some (.tok F (J i))) (hnt : st.objs.all (fun p => p.1 == TK || noTok p.2) = true)
    (k1 : ∀ r, rt r → K (St.put ⟨st.tmps, upd st.objs TK (.tok F (J (i + L'.length)))⟩ dst r))
    (k2 : ∀ r, rf r → K (St.put ⟨st.tmps, upd st.objs TK (.tok F Jx)⟩ dst r)) :
    OpTo P cx false ⟨dst, .call { callee := .value (.func f), args := xs.toArray, argTypes := ats }, ty, pos, af, gd⟩ st K := by
  intro a w next Qx ⟨fz, β, hs⟩ hn
  obtain ⟨hab, X, hX1, hX2, hJ⟩ := hs.h.ob _ _ hf
  obtain ⟨X0, hX0⟩ : ∃ X0 : Nat → Prop, X0 = fun b => X b ∧ b < w.heap.size := ⟨_, rfl⟩
  have hX0lt : ∀ b, X0 b → b < w.heap.size := fun b h => by rw [hX0] at h; exact h.2
  have hJ0 : J i w X0 := by rw [hX0]; exact hab w X w _ ⟨rfl, rfl, rfl, Nat.le_refl _, fun _ _ _ => rfl, fun _ _ h => h, fun b _ h => h.1⟩ hJ
  have hβ0 : ∀ k b, β k = some b → X0 b := fun k b h => by rw [hX0]; exact ⟨hX1 k b h, hs.h.lt k b h⟩
  have hfz0 : ∀ b, fz b → F b ∨ X0 b := fun b h => (hX2 b h).imp id fun h2 => by rw [hX0]; exact ⟨h2, hs.h.fzlt b h⟩
  have hA : All2 (RepA w fz (fun _ => none)) (args l) (xs.map a.eval) := by
    rw [← ha]
    exact all2_map_list xs fun x hx => (hs.op x (List.all_eq_true.1 ho x hx)).nilFro.adv (Adv.refl _ _) (fun _ h => h) (fun k hr => by
      have := List.all_eq_true.1 hk _ (by rw [← ha]; exact List.mem_map_of_mem (f := fun x => Vl.nilFro (st.op cx x)) hx)
      rw [AV.keyless_ref this] at hr; cases hr)
  have hrun : (execOp a.eval ⟨dst, .call { callee := .value (.func f), args := xs.toArray, argTypes := ats }, ty, pos, af, gd⟩).run P w = .ok (.enter f (xs.map a.eval).toArray) w := by
    simp [execOp, resolve, Act.eval, Deferred.ofValue, invoke, run_callFunc hfn]
  have hcall := hc w fz (xs.map a.eval) l (fun m => hand w X0 F (J (i + m))) (hand w X0 F Jx) hs.h.fzlt hs.rel.glob hA
    ⟨fun m => hand_abi (hr.abi _), hand_abi hr.abx, fun m y hy W X1 ob vs hX1lt hob ⟨g1, g2, g3⟩ hrep => by
      obtain ⟨fn, tm, asg, bo, hyr, hround⟩ := hr.rnd (i + m) y (hL m y hy) W _ ob vs (fun b h => h.elim (fun h => Nat.lt_of_lt_of_le (hX0lt b h) g1.size) (hX1lt b)) (fun b h => .inr (hob b h)) g3 hrep
      refine ⟨fn, tm, asg, bo, hyr, RoundIn.mono hround fun e w' ⟨hk, hcc⟩ => ?_⟩
      have hobn : ∀ b, X0 b → ob ≠ some b := fun b h he => by have := g2 b (hob b he); have := hX0lt b h; omega
      have hkp : Kp w (fun b => X0 b ∨ F b) w' := ⟨hk.os.trans g1.os, hk.tape.trans g1.tape, hk.output.trans g1.output, Nat.le_trans g1.size hk.size, fun b s h => hk.shp b s (g1.shp b s h), fun b hb' hc' => (hk.blk b (Nat.lt_of_lt_of_le hb' g1.size) (hc'.imp (fun h => ⟨.inl h, hobn b h⟩) id)).trans (g1.blk b hb' hc')⟩
      have mk : ∀ Z : World → (Nat → Prop) → Prop, Abi Z → Z w' (fun b => (X0 b ∨ X1 b) ∧ ob ≠ some b) → hand w X0 F Z w' (fun b => X1 b ∧ ob ≠ some b) := fun Z hZ hz =>
        ⟨hkp, fun b h => g2 b h.1, hZ w' _ w' _ ⟨rfl, rfl, rfl, Nat.le_refl _, fun _ _ _ => rfl, fun _ _ h => h, fun b _ h => h.elim (fun h => ⟨.inl h, hobn b h⟩) (fun h => ⟨.inr h.1, h.2⟩)⟩ hz⟩
      refine ⟨⟨hk.os, hk.tape, hk.output, hk.size, hk.shp, fun b hb' hc' => hk.blk b hb' ?_⟩, hcc.imp (fun h => ⟨h.1, mk _ (hr.abi _) h.2⟩) (fun h => ⟨h.1, mk _ hr.abx h.2⟩)⟩
      rcases hc' with h | h
      · exact .inl ⟨.inr h.1, h.2⟩
      · exact (hfz0 b h).symm.imp (fun h => ⟨.inl h, hobn b h⟩) id⟩
    ⟨⟨rfl, rfl, rfl, Nat.le_refl _, fun _ _ h => h, fun _ _ _ => rfl⟩, fun b h => h.elim, hab w _ w _ ⟨rfl, rfl, rfl, Nat.le_refl _, fun _ _ _ => rfl, fun _ _ h => h, fun b _ h => h.elim id (fun h => h.elim)⟩ hJ0⟩
  unfold wpv
  rw [hrun, upv_enter]
  refine hcall.mono fun e w' ⟨v, r, h1, h2, X1, h3⟩ => ?_
  subst h1
  have fin : ∀ Z : World → (Nat → Prop) → Prop, Abi Z → hand w X0 F Z w' X1 → SR cx ⟨st.tmps, upd st.objs TK (.tok F Z)⟩ a w' fz β := fun Z hZ ⟨g1, g2, g3⟩ =>
    hs.yielded hb hrr hf hnt hβ0 hfz0 g1 hZ (hZ w' _ w' _ ⟨rfl, rfl, rfl, Nat.le_refl _, fun _ _ _ => rfl, fun _ _ h => h, fun b _ h => .inl h⟩ g3)
  rcases h3 with ⟨h3, h4⟩ | ⟨h3, h4⟩
  · exact hn _ _ _ (k1 r h3) ⟨fz, β, (fin _ (hr.abi _) h4).put (pureA_rep (hpt r h3) h2) dst⟩ (fun h => (by cases h))
  · exact hn _ _ _ (k2 r h3) ⟨fz, β, (fin _ hr.abx h4).put (pureA_rep (hpf r h3) h2) dst⟩ (fun h => (by cases h))
end Go.Proofs.Vl
