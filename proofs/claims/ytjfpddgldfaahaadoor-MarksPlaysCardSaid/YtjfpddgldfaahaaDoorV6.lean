/- Calls: what a function answers, told of values alone. -/
import Derived.Test.YtjfpddgldfaahaaDoorV5
set_option linter.all false
namespace Go.Proofs.Vl
open Go Go.RowKit

/-- Called at these arguments, over these blocks (keys from 1000000 on), the function returns what Q tells. -/
def AC (P : Program) (G : Nat → Option (List PV)) (f : Nat) (args : List AV) (os : List (Nat × Ob)) (Q : AV → List (Nat × Ob) → Prop) : Prop :=
  ∀ (w : World) (fz : Nat → Prop) (β : Nat → Option Nat) (vs : List Value), (∀ k, k < 1000000 → β k = none) → H w fz β os →
    (∀ g cs, G g = some cs → RepC w fz (fun _ => none) (.eptr cs) (.pointer (some ⟨g, 0, none⟩))) → All2 (RepA w fz β) args vs →
    Calls P f vs.toArray w (fun e w' => ∃ v r os' fz' β', e = .returned v ∧ Q r os' ∧ Rel (Cx.of w fz β G) w' fz' β' ∧ H w' fz' β' os' ∧ RepA w' fz' β' r v)
theorem AC.mono {P : Program} {G} {f : Nat} {args : List AV} {os} {Q Q' : AV → List (Nat × Ob) → Prop} (h : AC P G f args os Q) (hq : ∀ r o, Q r o → Q' r o) : AC P G f args os Q' :=
  fun w fz β vs h1 h2 h3 h4 => (h w fz β vs h1 h2 h3 h4).mono fun e w' ⟨v, r, os', fz', β', h5, h6, h7⟩ => ⟨v, r, os', fz', β', h5, hq _ _ h6, h7⟩

section
variable {P : Program} {cx : Cx} {st : St} {a : Act} {w : World} {fz : Nat → Prop} {β : Nat → Option Nat}

/-! ### Results -/
inductive ResV (P : Program) (st : St) : ResultVar → AV → Prop
  | tmp {t : Nat} {z : AV} (h : st.tmps[t]? = some z) : ResV P st (.tmp t) z
  | ld1 {t : Nat} {T : TypeId} {x : AV} {cs : List PV} {z : PV} (h : st.tmps[t]? = some x) (hT : tyI P T = some none) (hp : placeP st x = some cs) (hz : cs[0]? = some z) : ResV P st (.cell t T) (.c (.p z))
  | ldN {t n : Nat} {T : TypeId} {x : AV} {cs : List PV} (h : st.tmps[t]? = some x) (hT : tyI P T = some (some n)) (hp : placeP st x = some cs) (hn : n ≤ cs.length) : ResV P st (.cell t T) (.pag (cs.take n))
  | lc1 {t : Nat} {T : TypeId} {x : AV} {cs : List CV} {z : CV} (h : st.tmps[t]? = some x) (hT : tyI P T = some none) (hp : placeC st x = some cs) (hz : cs[0]? = some z) : ResV P st (.cell t T) (.c z)
  | lcN {t n : Nat} {T : TypeId} {x : AV} {cs : List CV} (h : st.tmps[t]? = some x) (hT : tyI P T = some (some n)) (hp : placeC st x = some cs) (hn : n ≤ cs.length) : ResV P st (.cell t T) (.agg (cs.take n))
def resOne (P : Program) (tmps : Array Value) : ResultVar → Sem Value
  | .tmp t => pure (tmps.getD t undef)
  | .cell a t => do loadVar t (← asAddr (tmps.getD a undef))
theorem SR.tmp (h : SR cx st a w fz β) {t : Nat} {z : AV} (ht : st.tmps[t]? = some z) : ∃ v, a.tmps.getD t undef = v ∧ RepA w fz β z v := by
  obtain ⟨v, h1, h2⟩ := h.t.get ht
  refine ⟨v, ?_, h2⟩
  simp at h1
  simp [Array.getD_eq_getD_getElem?, h1]
theorem SR.res (h : SR cx st a w fz β) {rv : ResultVar} {z : AV} (hz : ResV P st rv z) : ∃ v, (resOne P a.tmps rv).run P w = .ok v w ∧ RepA w fz β z v := by
  cases hz with
  | tmp ht => obtain ⟨v, h1, h2⟩ := h.tmp ht; exact ⟨v, by simp [resOne, h1], h2⟩
  | ld1 ht hT hp hz =>
    obtain ⟨v, h1, h2⟩ := h.tmp ht
    obtain ⟨b, o, h3, h4⟩ := h.placeP h2 hp
    obtain ⟨u, h5, h6⟩ := h4 0 _ hz
    subst h3
    exact ⟨u, by simp [resOne, h1, asAddr, run_loadVar1 hT ⟨b, o, none⟩ (by simpa using h5)], h6⟩
  | ldN ht hT hp hn =>
    rename_i n T x cs
    obtain ⟨v, h1, h2⟩ := h.tmp ht
    obtain ⟨b, o, h3, h4⟩ := h.placeP h2 hp
    obtain ⟨vs, h5, h6⟩ := place_vals (R := RepP w fz) (b := b) (cs.take n) o (fun c y hy => h4 c y (by rw [List.getElem?_take] at hy; split at hy; exact hy; cases hy))
    subst h3
    exact ⟨.agg vs.toArray, by simp [resOne, h1, asAddr, run_loadVarN hT b o vs (by rw [← h5.len, List.length_take]; omega) h6], ⟨vs, rfl, h5⟩⟩
  | lc1 ht hT hp hz =>
    obtain ⟨v, h1, h2⟩ := h.tmp ht
    obtain ⟨b, o, h3, h4⟩ := h.placeC h2 hp
    obtain ⟨u, h5, h6⟩ := h4 0 _ hz
    subst h3
    exact ⟨u, by simp [resOne, h1, asAddr, run_loadVar1 hT ⟨b, o, none⟩ (by simpa using h5)], h6.2⟩
  | lcN ht hT hp hn =>
    rename_i n T x cs
    obtain ⟨v, h1, h2⟩ := h.tmp ht
    obtain ⟨b, o, h3, h4⟩ := h.placeC h2 hp
    obtain ⟨vs, h5, h6⟩ := place_vals (R := RepC1 w fz β) (b := b) (cs.take n) o (fun c y hy => h4 c y (by rw [List.getElem?_take] at hy; split at hy; exact hy; cases hy))
    subst h3
    exact ⟨.agg vs.toArray, by simp [resOne, h1, asAddr, run_loadVarN hT b o vs (by rw [← h5.len, List.length_take]; omega) h6], ⟨vs, rfl, h5⟩⟩
theorem RepA.tv {x : TV} {v : Value} (h : RepA w fz β x.av v) : RepT w fz β x v := by cases x <;> exact h
def tupOf : List TV → AV
  | [z] => z.av
  | zs => .tup zs
theorem SR.ress (h : SR cx st a w fz β) : ∀ {rvs : List ResultVar} {zs : List TV}, All2 (fun rv (z : TV) => ResV P st rv z.av) rvs zs → ∃ vs : List Value, (rvs.mapM (resOne P a.tmps)).run P w = .ok vs w ∧ All2 (RepT w fz β) zs vs
  | _, _, .nil => ⟨[], by simp, .nil⟩
  | _, _, .cons h1 h2 => by
    obtain ⟨v, e1, e2⟩ := h.res h1
    obtain ⟨vs, e3, e4⟩ := h.ress h2
    exact ⟨v :: vs, by simp [List.mapM_cons, e1, e3], .cons e2.tv e4⟩
/-- At the end of a body: its results are these. -/
def retQ (P : Program) (fn : Func) (Q : AV → List (Nat × Ob) → Prop) : Exit → St → Prop
  | .normal, st | .ret, st => ∃ zs, All2 (fun rv (z : TV) => ResV P st rv z.av) fn.results.toList zs ∧ Q (tupOf zs) st.objs
  | _, _ => False
theorem SR.results (h : SR cx st a w fz β) {fn : Func} {zs : List TV} (hz : All2 (fun rv (z : TV) => ResV P st rv z.av) fn.results.toList zs) : ∃ v, (Go.results fn a.tmps).run P w = .ok v w ∧ RepA w fz β (tupOf zs) v := by
  obtain ⟨vs, h1, h2⟩ := h.ress hz
  have hr : (Go.results fn a.tmps).run P w = .ok (if h : vs.toArray.size = 1 then vs.toArray[0] else .tuple vs.toArray) w := by
    unfold Go.results
    have h3 : (fn.results.mapM (resOne P a.tmps)).run P w = .ok vs.toArray w := by
      rw [Array.mapM_eq_mapM_toList]; simp [h1]
    have e : (fn.results.mapM fun
      | .tmp t => pure (a.tmps.getD t undef)
      | .cell b t => do loadVar t (← asAddr (a.tmps.getD b undef))) = fn.results.mapM (resOne P a.tmps) := by
      congr 1
    rw [Sem.run_bind]
    show Result.andThen (Sem.run P (fn.results.mapM fun
      | .tmp t => pure (a.tmps.getD t undef)
      | .cell b t => do loadVar t (← asAddr (a.tmps.getD b undef))) w) _ = _
    rw [e, h3]; rfl
  refine ⟨_, hr, ?_⟩
  cases h2 with
  | nil => exact ⟨[], by simp, .nil⟩
  | cons h3 h4 =>
    cases h4 with
    | nil => simp only [List.size_toArray, List.length_singleton, dite_true]; exact h3.av
    | cons h5 h6 => rw [dif_neg (by simp)]; exact ⟨_, rfl, .cons h3 (.cons h5 h6)⟩
theorem AC.body {G : Nat → Option (List PV)} {f : Nat} {args : List AV} {os : List (Nat × Ob)} {Q : AV → List (Nat × Ob) → Prop} {fn : Func} {c : Code} (hf : P.funcs[f]? = some fn) (hb : fn.body = some c)
    (h : ∀ cx : Cx, cx.defers = [] → cx.G = G → AWp P cx c ⟨args ++ List.replicate (fn.ntmps - args.length) (.c .any), os⟩ (retQ P fn Q)) : AC P G f args os Q := by
  intro w fz β vs hβ hH hG hA
  refine calls_of_wp hf hb (wp_mono (wpIn_wide_of (h (Cx.of w fz β G) rfl rfl { tmps := vs.toArray ++ Array.replicate (fn.ntmps - vs.toArray.size) undef, defers := [] } w ⟨fz, β, DM.nil _ _ _ _ _ rfl rfl, hβ, ⟨rfl, rfl, rfl, Nat.le_refl _, fun _ _ _ _ => rfl, fun _ _ h => h, fun _ h => h, fun _ h => .inl h, fun _ _ h => h, fun _ _ h => .inl h, hG, fun _ _ h => h⟩, hH, ?_⟩)) ?_)
  · simp only [Array.toList_append, Array.toList_replicate, List.size_toArray, hA.len]
    exact hA.append (All2.replicate (RepA.any _) _)
  · rintro e a' w' ⟨st', hq, fz', β', hs⟩
    have key : (∃ zs, All2 (fun rv (z : TV) => ResV P st' rv z.av) fn.results.toList zs ∧ Q (tupOf zs) st'.objs) → a'.defers = [] ∧ ∃ v, (Go.results fn a'.tmps).run P w' = .ok v w' ∧ ∃ v_1 r os' fz' β', Ending.returned v = .returned v_1 ∧ Q r os' ∧ Rel (Cx.of w fz β G) w' fz' β' ∧ H w' fz' β' os' ∧ RepA w' fz' β' r v_1 := by
      rintro ⟨zs, h1, h2⟩
      obtain ⟨v, h3, h4⟩ := hs.results h1
      exact ⟨hs.d.lo rfl, v, h3, v, _, st'.objs, fz', β', rfl, h2, hs.rel, hs.h, h4⟩
    cases e with
    | normal => exact key hq
    | ret => exact key hq
    | exit _ => exact hq
    | goto _ => exact hq
    | panic _ => exact hq.elim
    | outgrown => exact hq.elim

theorem AC.body' {G : Nat → Option (List PV)} {f n : Nat} {args : List AV} {os : List (Nat × Ob)} {Q : AV → List (Nat × Ob) → Prop} {fn : Func} {c : Code} (hf : P.funcs[f]? = some fn) (hn : fn.ntmps = n) (hb : fn.body = some c)
    (h : ∀ cx : Cx, cx.defers = [] → cx.G = G → AWp P cx c ⟨args ++ List.replicate (n - args.length) (.c .any), os⟩ (retQ P fn Q)) : AC P G f args os Q := by
  subst hn; exact AC.body hf hb h

/-! ### Worlds behind a call -/
theorem SR.lift (h : SR cx st a w fz β) {w' : World} {fz' : Nat → Prop} (ho : w'.os = w.os) (ht : w'.tape = w.tape) (hp : w'.output = w.output) (hsz : w.heap.size ≤ w'.heap.size) (hold : ∀ b, b < w.heap.size → w'.heap[b]? = w.heap[b]?)
    (hf1 : ∀ b, fz b → fz' b) (hf2 : ∀ b, fz' b → fz b ∨ w.heap.size ≤ b) (hf3 : ∀ b, fz' b → b < w'.heap.size) : SR cx st a w' fz' β := by
  have hA : Adv fz w w' := .of (fun b hb => hold b (h.h.fzlt b hb)) (fun b s hs => (shape_eq (hold b (shape_lt hs))).trans hs)
  have hst : Stp w fz β w' fz' β := ⟨ho, ht, hp, hsz, fun b hb _ => hold b hb, hA.shp, fun b hb hf => (hf2 b hf).elim .inl (fun h => absurd h (by omega)), fun k b _ h => ⟨k, h⟩, hf1⟩
  refine ⟨h.d.stp hst, h.low, ⟨ho.trans h.rel.os, ht.trans h.rel.tape, hp.trans h.rel.output, Nat.le_trans h.rel.size hsz, fun hrr b hb hn => (hold b (Nat.lt_of_lt_of_le hb h.rel.size)).trans (h.rel.old hrr b hb hn), fun b s hs => hA.shp b s (h.rel.shp b s hs), fun b hb => hf1 b (h.rel.fzin b hb), fun b hb => ?_, h.rel.bin, h.rel.bout, fun g cs hg => (h.rel.glob g cs hg).glob_adv hA hf1, h.rel.bhi⟩, ⟨fun k b hk => Nat.lt_of_lt_of_le (h.h.lt k b hk) hsz, hf3, h.h.inj, fun b hb k hk => ?_, fun k o hk => (h.h.ob k o hk).adv hA hf1 rfl (fun b hb => hold b (h.h.lt k b hb)) (fun _ _ => rfl) hst⟩, h.t.mono fun x v hx hv => hv.adv hA hf1 (fun _ _ => rfl)⟩
  · rcases hf2 b hb with h1 | h1
    · exact h.rel.fzout b h1
    · exact .inr (Nat.le_trans h.rel.size h1)
  · rcases hf2 b hb with h1 | h1
    · exact h.h.apart b h1 k hk
    · have := h.h.lt k b hk; omega
/-- A block that is the call's own from now on. -/
theorem SR.add (h : SR cx st a w fz β) {d b0 : Nat} (hlow : d < 1000000) (hd : st.noref d = true) (ob : Ob) (hr : ob.ref d = false) (h1 : cx.w0.heap.size ≤ b0) (h2 : b0 < w.heap.size) (h3 : ¬ fz b0) (h4 : ∀ k, β k ≠ some b0)
    (hrep : ∀ β', β' d = some b0 → RepO w fz β' d ob) (hd0 : DM cx a w fz (bup β d (some b0))) (hob : ∀ k o', find st.objs k = some o' → k ≠ d → RepO w fz (bup β d (some b0)) k o') : SR cx ⟨st.tmps, upd st.objs d ob⟩ a w fz (bup β d (some b0)) := by
  refine ⟨hd0, h.low, ⟨h.rel.os, h.rel.tape, h.rel.output, h.rel.size, h.rel.old, h.rel.shp, h.rel.fzin, h.rel.fzout, ?_, ?_, h.rel.glob, fun k hk h0 => (bup_other _ _ _ (by omega)).trans (h.rel.bhi k hk h0)⟩, ⟨?_, h.h.fzlt, ?_, ?_, ?_⟩, ?_⟩
  · intro k b hk
    by_cases hkd : k = d
    · subst hkd; rw [h.low k hlow] at hk; cases hk
    · rw [bup_other _ _ _ hkd]; exact h.rel.bin k b hk
  · intro k b hk
    by_cases hkd : k = d
    · subst hkd; rw [bup_same] at hk; cases hk; exact .inr h1
    · rw [bup_other _ _ _ hkd] at hk; exact h.rel.bout k b hk
  · intro k b hk
    by_cases hkd : k = d
    · subst hkd; rw [bup_same] at hk; cases hk; exact h2
    · rw [bup_other _ _ _ hkd] at hk; exact h.h.lt k b hk
  · intro k k' b e1 e2
    by_cases hk : k = d <;> by_cases hk' : k' = d
    · exact hk.trans hk'.symm
    · rw [hk, bup_same] at e1; rw [bup_other _ _ _ hk'] at e2; cases e1; exact absurd e2 (h4 _)
    · rw [hk', bup_same] at e2; rw [bup_other _ _ _ hk] at e1; cases e2; exact absurd e1 (h4 _)
    · rw [bup_other _ _ _ hk] at e1; rw [bup_other _ _ _ hk'] at e2; exact h.h.inj _ _ _ e1 e2
  · intro b hb k hk
    by_cases hkd : k = d
    · subst hkd; rw [bup_same] at hk; cases hk; exact h3 hb
    · rw [bup_other _ _ _ hkd] at hk; exact h.h.apart b hb k hk
  · intro k o' hk
    rw [find_upd] at hk
    by_cases hkd : d = k
    · subst hkd; rw [if_pos rfl] at hk; cases hk; exact hrep _ (bup_same _ _ _)
    · rw [if_neg hkd] at hk
      exact hob k o' hk (Ne.symm hkd)
  · refine h.t.mono fun x v hx hv => hv.adv (Adv.refl _ _) (fun _ h => h) (fun j hj => bup_other _ _ _ ?_)
    intro e; subst e; rw [St.noref_t hd hx] at hj; cases hj

/-! ### Arguments -/
/-- A row of the call's own is handed on to be read. -/
def frz (st : St) (z : AV) : AV := match elems st z with
  | some xs => .c (.p (.fro xs))
  | none => z
def AV.keyless : AV → Bool
  | .c (.p _) | .c (.eptr _) | .c .any | .pag _ => true
  | .c (.fn _ caps) => caps.all fun | .val _ | .fz _ => true | .key _ => false
  | .agg cs => cs.all fun | .p _ | .eptr _ | .any => true | _ => false
  | _ => false
theorem CV.ref_p {x : CV} (h : (match x with | .p _ | .eptr _ | .any => true | _ => false) = true) (k : Nat) : x.ref k = false := by cases x <;> first | rfl | cases h
theorem AV.keyless_ref {z : AV} (h : z.keyless = true) (k : Nat) : z.ref k = false := by
  cases z with
  | c x =>
    cases x <;> first | rfl | (simp [AV.keyless] at h; done) | skip
    rename_i f caps
    simp only [AV.keyless, List.all_eq_true] at h
    simp only [AV.ref, CV.ref, List.any_eq_false]
    intro c hc
    have := h c hc
    cases c <;> simp_all [Cap.ref]
  | agg cs =>
    simp only [AV.keyless, List.all_eq_true] at h
    simp only [AV.ref, List.any_eq_false]
    intro c hc
    simp [CV.ref_p (h c hc) k]
  | pag cs => rfl
  | tup xs => cases h
/-- All blocks that the call may look at. -/
def fzAll (fz : Nat → Prop) (β : Nat → Option Nat) : Nat → Prop := fun b => fz b ∨ ∃ k, β k = some b
theorem Lies.fro {v : Value} {sz : Nat} {xs : List (List PV)} {fz' : Nat → Prop} (h : Lies w fz v sz xs) (hf : ∀ b, fz b → fz' b) (hin : ∀ b o u, w.cell? ⟨b, o, none⟩ = some u → v.ownBlock = some b → fz' b) : RepP w fz' (.fro xs) v := by
  obtain ⟨ad, cap, h1, h2, h3⟩ := h.ex
  subst h1
  by_cases h0 : xs = []
  · subst h0; exact .nil _ _
  · obtain ⟨b, o, rfl, h5, news, h6, h7⟩ := h3.resolve_left h0
    have hget : ∀ (j : Nat) (cs : List PV) (c : Nat) (x : PV), xs[j]? = some cs → cs[c]? = some x → ∃ u, news[j * sz + c]? = some u ∧ RepP w fz x u := fun j cs c x hj hc => by
      have hlt : c < sz := by have := (List.getElem?_eq_some_iff.1 hc).1; rw [h5 cs (List.mem_of_getElem? hj)] at this; exact this
      exact h6.get ((flat_get h5 hj c hlt).trans hc)
    have hb : 0 < sz → fz' b := by
        intro hs0
        cases xs with
        | nil => exact absurd rfl h0
        | cons c0 xr =>
          have hl := h5 c0 List.mem_cons_self
          obtain ⟨x0, hx0⟩ : ∃ x0, c0[0]? = some x0 := ⟨c0[0]'(by omega), List.getElem?_eq_getElem _⟩
          obtain ⟨u, hu, _⟩ := hget 0 c0 0 x0 rfl hx0
          exact hin b _ u (h7 _ u hu) rfl
    refine .fro xs b o cap sz (fun j c => (news[j * sz + c]?).getD undef) hb h2 (fun j cs hj => h5 cs (List.mem_of_getElem? hj)) (fun j cs c x hj hc => ?_) (fun j cs c x hj hc => ?_)
    · obtain ⟨u, hu, _⟩ := hget j cs c x hj hc
      simp only [hu, Option.getD_some]
      exact h7 _ u hu
    · obtain ⟨u, hu, hr⟩ := hget j cs c x hj hc
      simp only [hu, Option.getD_some]
      exact hr.adv (Adv.refl _ _) hf
end
end Go.Proofs.Vl
