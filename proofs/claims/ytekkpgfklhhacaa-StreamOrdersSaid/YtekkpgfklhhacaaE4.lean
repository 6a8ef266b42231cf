/- Yield, of values and of a row that is handed over. -/
import Derived.Test.YtekkpgfklhhacaaE3
set_option linter.all false
namespace Go.Proofs.Vl
open Go Go.RowKit
variable {P : Program} {cx : Cx} {st : St}
variable {K : St → Prop} {L : List YV} {J : Nat → World → (Nat → Prop) → Prop} {Jx : World → (Nat → Prop) → Prop} {F : Nat → Prop} {l i : Nat} {y : YV}
variable {dst : Option Tmp} {ty : TypeId} {pos : String} {af : Array Edge} {gd : Option (Nat × Bool)}
theorem OpTo.yieldR {t x : Operand} {xs : List Operand} {ats : Array TypeId} {k sz : Nat} {T : TypeId} {rs : List (List PV)} (xs0 : List Operand) (hr : Rnd P l F J Jx L) (hi : L[i]? = some y) (hyr : y.row = some (T, sz, rs)) (hb : cx.base = none) (hrr : cx.rr = true)
    (ht : st.op cx t = yv l) (hto : okOp t = true) (hxs : xs = xs0 ++ [x]) (ho : okOps xs0 = true) (hox : okOp x = true) (hx : st.op cx x = .c (.own k sz rs.length)) (hf : find st.objs k = some (.row T sz rs)) (hsol : ∀ cs ∈ rs, ∀ z ∈ cs, z.solid = true) (hlow : k < 1000000)
    (hft : find (upd (okill k st.objs) k (.row T sz [])) TK = some (.tok F (J i))) (hft0 : find st.objs TK = some (.tok F (J i))) (hnt : (upd (okill k st.objs) k (.row T sz [])).all (fun p => p.1 == TK || noTok p.2) = true)
    (hy : xs0.map (fun x => st.op cx x) = y.xs) (hyp : y.xs.all pureA = true)
    (k1 : K (St.put ⟨(st.kill k).tmps, upd (upd (okill k st.objs) k (.row T sz [])) TK (.tok F (J (i + 1)))⟩ dst (.c (.p (.s (.bool true))))))
    (k2 : K (St.put ⟨(st.kill k).tmps, upd (upd (okill k st.objs) k (.row T sz [])) TK (.tok F Jx)⟩ dst (.c (.p (.s (.bool false)))))) :
    OpTo P cx false ⟨dst, .call { callee := .value t, args := xs.toArray, argTypes := ats }, ty, pos, af, gd⟩ st K := by
  subst hxs
  intro a w next Qx ⟨fz, β, hs⟩ hn
  obtain ⟨hab, X, hX1, hX2, hJ⟩ := hs.h.ob _ _ hft0
  have hJ' : J i w (fun b => X b ∧ b < w.heap.size) := hab w X w _ ⟨rfl, rfl, rfl, Nat.le_refl _, fun _ _ _ => rfl, fun _ _ h => h, fun b _ h => h.1⟩ hJ
  have hown : RepC w fz β (.own k sz rs.length) (a.eval x) := by have := hs.op x hox; rw [hx] at this; exact this
  have hrow := hs.h.ob k _ hf
  have hrep : y.rep w (β k) (xs0.map a.eval ++ [a.eval x]) := by
    unfold YV.rep
    rw [hyr]
    refine ⟨_, _, rfl, hyp, ?_, ?_, ?_⟩
    · rw [← hy]
      refine all2_map_list xs0 fun x hx => pureA_rep (List.all_eq_true.1 hyp _ (by rw [← hy]; exact List.mem_map_of_mem (f := fun x => st.op cx x) hx)) (hs.op x (List.all_eq_true.1 ho x hx))
    · rcases hown with ⟨g1, g2, g3⟩ | ⟨b, cap, T', g1, g2, g3⟩
      · exact .inl ⟨g1, g2, g3⟩
      · exact .inr ⟨b, cap, T', g1, g2, g3⟩
    · rcases hrow with ⟨g1, g2⟩ | ⟨b, vs, g1, g2, g3, g4, g5⟩
      · exact .inl ⟨g1, g2⟩
      · refine .inr ⟨b, vs, g1, g2, g3, g4, g5.mono fun z v hz hv => RepP.solid hv ?_⟩
        obtain ⟨cs, hc, hz⟩ := List.mem_flatten.1 hz
        exact hsol cs hc z hz
  obtain ⟨fn, tm, asg, bo, hyr', hround⟩ := hr.rnd i y hi w _ (β k) _ (fun b h => h.2) (fun b h => ⟨hX1 k b h, hs.h.lt k b h⟩) hJ' hrep
  have hte : a.eval t = .func (.yield l) #[] #[] := hs.eq ht hto
  unfold wpv
  have hrun : (execOp a.eval ⟨dst, .call { callee := .value t, args := (xs0 ++ [x]).toArray, argTypes := ats }, ty, pos, af, gd⟩).run P w = .ok (.round l fn tm asg bo) w := by
    have e : ((xs0 ++ [x]).toArray.map a.eval) = (xs0.map a.eval ++ [a.eval x]).toArray := by simp
    simp [execOp, resolve, hte, Deferred.ofValue, invoke, hyr']
  rw [hrun]
  have hs1 : SR cx ⟨(st.kill k).tmps, upd (okill k st.objs) k (.row T sz [])⟩ a w fz (bup β k none) := (hs.kill k).nilrow (d := k) (T := T) (sz := sz) hlow (noref_kill k st)
  refine RoundIn.mono hround fun e w' ⟨hk, hc⟩ => ?_
  have hX1' : ∀ j b, bup β k none j = some b → (X b ∧ b < w.heap.size) ∧ β k ≠ some b := fun j b h => by
    by_cases e : j = k
    · subst e; rw [bup_same] at h; cases h
    · rw [bup_other β k none e] at h
      exact ⟨⟨hX1 j b h, hs.h.lt j b h⟩, fun h' => e (hs.h.inj _ _ _ h h')⟩
  have hX2' : ∀ b, fz b → F b ∨ ((X b ∧ b < w.heap.size) ∧ β k ≠ some b) := fun b h => (hX2 b h).imp id (fun h2 => ⟨⟨h2, hs.h.fzlt b h⟩, fun h' => hs.h.apart b h k h'⟩)
  rcases hc with ⟨rfl, hc⟩ | ⟨rfl, hc⟩
  · exact hn _ _ _ k1 ⟨fz, _, (hs1.yielded hb hrr hft hnt hX1' hX2' hk (hr.abi _) hc).put (x := .c (.p (.s (.bool true)))) (.s _ rfl) dst⟩ (fun h => (by cases h))
  · exact hn _ _ _ k2 ⟨fz, _, (hs1.yielded hb hrr hft hnt hX1' hX2' hk hr.abx hc).put (x := .c (.p (.s (.bool false)))) (.s _ rfl) dst⟩ (fun h => (by cases h))
end Go.Proofs.Vl
