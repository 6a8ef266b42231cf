/- Range over a function: what is not a call's own abides; iterators, yields, the statement. -/
import Derived.Test.YtjfpddgldfaahaaDoorV23
import Derived.RangeFuncRecord
set_option linter.all false
namespace Go.Proofs.Vl
open Go Go.RowKit

/-! ### Worlds that change elsewhere -/
section
variable {P : Program} {cx : Cx} {st : St} {a a' : Act} {w w' : World} {fz : Nat → Prop} {β : Nat → Option Nat}
theorem Rel.of {cx' : Cx} (h : Rel cx w fz β) (h1 : cx'.w0 = cx.w0 := by rfl) (h2 : cx'.fz0 = cx.fz0 := by rfl) (h3 : cx'.β0 = cx.β0 := by rfl) (h4 : cx'.G = cx.G := by rfl) (h5 : cx'.rr = cx.rr := by rfl) : Rel cx' w fz β := by
  obtain ⟨w0, fz0, β0, df, G, rd, rr, ml, bs⟩ := cx
  obtain ⟨w0', fz0', β0', df', G', rd', rr', ml', bs'⟩ := cx'
  dsimp only at h1 h2 h3 h4 h5
  subst h1 h2 h3 h4 h5
  exact ⟨h.os, h.tape, h.output, h.size, h.old, h.shp, h.fzin, h.fzout, h.bin, h.bout, h.glob, h.bhi⟩
theorem SR.far (h : SR cx st a w fz β) (ho : w'.os = w.os) (ht : w'.tape = w.tape) (hp : w'.output = w.output) (hsz : w.heap.size ≤ w'.heap.size)
    (hshp : ∀ b s, w.shape? b = some s → w'.shape? b = some s)
    (hold : ∀ b, b < w.heap.size → ((cx.rr = false ∧ b < cx.w0.heap.size) ∨ ∃ k, β k = some b) → w'.heap[b]? = w.heap[b]?)
    (hcell : ∀ b, fz b → ∀ o v, w.cell? ⟨b, o, none⟩ = some v → w'.cell? ⟨b, o, none⟩ = some v)
    (hd : DM cx a' w' fz β) (ha : a'.tmps = a.tmps) (htok : ∀ k F J, find st.objs k = some (.tok F J) → RepO w' fz β k (.tok F J)) : SR cx st a' w' fz β := by
  have hA : Adv fz w w' := ⟨hcell, hshp⟩
  refine ⟨hd, h.low, ⟨ho.trans h.rel.os, ht.trans h.rel.tape, hp.trans h.rel.output, Nat.le_trans h.rel.size hsz, fun hrr b hb hn => (hold b (Nat.lt_of_lt_of_le hb h.rel.size) (.inl ⟨hrr, hb⟩)).trans (h.rel.old hrr b hb hn), fun b s hs => hshp b s (h.rel.shp b s hs), h.rel.fzin, h.rel.fzout, h.rel.bin, h.rel.bout, fun g cs hg => (h.rel.glob g cs hg).glob_adv hA (fun _ h => h), h.rel.bhi⟩, ⟨fun k b hk => Nat.lt_of_lt_of_le (h.h.lt k b hk) hsz, fun b hb => Nat.lt_of_lt_of_le (h.h.fzlt b hb) hsz, h.h.inj, h.h.apart, fun k o hk => ?_⟩, ?_⟩
  · by_cases hn : ∃ F J, o = .tok F J
    · obtain ⟨F, J, rfl⟩ := hn; exact htok k F J hk
    · exact RepO.adv0 (fun F J e => hn ⟨F, J, e⟩) (h.h.ob k o hk) hA (fun _ h => h) rfl (fun b hb => hold b (h.h.lt k b hb) (.inr ⟨k, hb⟩)) (fun _ _ => rfl)
  · rw [ha]; exact h.t.mono fun x v hx hv => hv.adv hA (fun _ h => h) (fun _ _ => rfl)
theorem shape_put {l : Nat} {o o' : Obj} (h : w.heap[l]? = some o) (hc : ∀ vs T fr, o ≠ .cells vs T fr) (b : Nat) (s) (hs : w.shape? b = some s) : (w.putObj l o').shape? b = some s := by
  by_cases hb : b = l
  · subst hb
    unfold World.shape? at hs
    rw [h] at hs
    cases o <;> simp at hs
    exact absurd rfl (hc _ _ _)
  · rw [shape_eq (World.putObj_heap_other hb)]; exact hs
theorem cell_put {l : Nat} {o o' : Obj} (h : w.heap[l]? = some o) (hc : ∀ vs T fr, o ≠ .cells vs T fr) (b q : Nat) (v : Value) (hs : w.cell? ⟨b, q, none⟩ = some v) : (w.putObj l o').cell? ⟨b, q, none⟩ = some v := by
  by_cases hb : b = l
  · subst hb
    unfold World.cell? at hs
    simp only [h] at hs
    cases o <;> simp at hs
    exact absurd rfl (hc _ _ _)
  · exact (World.cell?_of_block (w := w) (a := ⟨b, q, none⟩) (World.putObj_heap_other hb)).trans hs
def noTok : Ob → Bool
  | .tok _ _ => false
  | _ => true
theorem noTok_all {os : List (Nat × Ob)} (h : os.all (fun p => noTok p.2) = true) {k : Nat} {F : Nat → Prop} {J : World → (Nat → Prop) → Prop} (hk : find os k = some (.tok F J)) : False := by
  have := List.all_eq_true.1 h _ (find_mem hk)
  cases this

/-! ### Functions that range over functions -/
theorem shut (fn : Func) (R : Ending → World → Prop) (hb : cx.base = none) (hdf : cx.defers = []) (hml : cx.ml = true)
    (htok : ∀ (w : World) (fz : Nat → Prop), (∀ b, fz b → cx.fz0 b ∨ cx.w0.heap.size ≤ b) → ∀ D, cx.w0.heap.size ≤ D → fz D → w.heap[D]? = some (.deferred (some [])) → ∀ k F J, find st.objs k = some (.tok F J) → RepO w fz β k (.tok F J) → RepO (w.putObj D (.deferred none)) fz β k (.tok F J))
    (hfin : ∀ a' w', SR cx st a' w' fz β → ∃ v, (Go.results fn a'.tmps).run P w' = .ok v w' ∧ R (.returned v) w') :
    ∀ (Ds : List Nat) (a : Act) (w : World), SR cx st a w fz β → Ds.Nodup → (∀ D ∈ Ds, cx.w0.heap.size ≤ D ∧ fz D ∧ PR w β D (.deferred (some []))) → a.defers = Ds.map mark → LeavesInM (fwr none) 0 P fn a.tmps R (Ds.map mark) .returning w
  | [], a, w, hs, _, _, _ => by obtain ⟨v, h1, h2⟩ := hfin a w hs; exact ⟨v, h1, h2⟩
  | D :: Ds, a, w, hs, hn, hD, ha => by
    obtain ⟨h1, h2, h3, h4⟩ := hD D List.mem_cons_self
    have hne : ∀ D' ∈ Ds, D' ≠ D := fun D' h e => by subst e; exact (List.nodup_cons.1 hn).1 h
    have hD' : ∀ D' ∈ Ds, cx.w0.heap.size ≤ D' ∧ fz D' ∧ PR (w.putObj D (.deferred none)) β D' (.deferred (some [])) := fun D' h => by
      obtain ⟨g1, g2, g3, g4⟩ := hD D' (List.mem_cons_of_mem _ h)
      exact ⟨g1, g2, (World.putObj_heap_other (hne D' h)).trans g3, g4⟩
    have hs2 : SR cx st { tmps := a.tmps, defers := Ds.map mark } (w.putObj D (.deferred none)) fz β := by
      refine hs.far rfl rfl rfl (by simp) (shape_put h3 (by simp)) (fun b hb hc => World.putObj_heap_other ?_) (fun b _ o v hv => cell_put h3 (by simp) b o v hv) ⟨⟨Ds, by simp [hdf], (List.nodup_cons.1 hn).2, hD'⟩, fun W f b hbs => (by rw [hb] at hbs; cases hbs), fun h => (by rw [hml] at h; cases h)⟩ rfl
        (fun k F J hk => htok w fz hs.rel.fzout D h1 h2 h3 k F J hk (hs.h.ob _ _ hk))
      intro e; subst e
      rcases hc with ⟨_, hc⟩ | ⟨k, hc⟩
      · omega
      · exact h4 k hc
    exact ⟨by simp, .inl ⟨D, w.putObj D (.deferred none), rfl, run_takeDeferred h3, shut fn R hb hdf hml htok hfin Ds { tmps := a.tmps, defers := Ds.map mark } _ hs2 (List.nodup_cons.1 hn).2 hD' rfl⟩⟩
def retQM (P : Program) (fn : Func) (Q : AV → List (Nat × Ob) → Prop) : Exit → St → Prop
  | .normal, st | .ret, st => st.objs.all (fun p => noTok p.2) = true ∧ ∃ zs, All2 (fun rv (z : TV) => ResV P st rv z.av) fn.results.toList zs ∧ Q (tupOf zs) st.objs
  | _, _ => False
theorem AC.bodyM {G : Nat → Option (List PV)} {f n : Nat} {args : List AV} {os : List (Nat × Ob)} {Q : AV → List (Nat × Ob) → Prop} {fn : Func} {c : Code} (hf : P.funcs[f]? = some fn) (hn : fn.ntmps = n) (hb : fn.body = some c)
    (h : ∀ cx : Cx, cx.defers = [] → cx.G = G → cx.rd = none → cx.ml = true → cx.base = none → AWp P cx c ⟨args ++ List.replicate (n - args.length) (.c .any), os⟩ (retQM P fn Q)) : AC P G f args os Q := by
  subst hn
  intro w fz β vs hβ hH hG hA
  refine callsIn_wide.1 (callsIn_of_wp_marks (n := 0) hf hb trivial (wpIn_mono (h { Cx.of w fz β G with ml := true } rfl rfl rfl rfl rfl { tmps := vs.toArray ++ Array.replicate (fn.ntmps - vs.toArray.size) undef, defers := [] } w ⟨fz, β, DM.nil _ _ _ _ _ rfl rfl, hβ, ⟨rfl, rfl, rfl, Nat.le_refl _, fun _ _ _ _ => rfl, fun _ _ h => h, fun _ h => h, fun _ h => .inl h, fun _ _ h => h, fun _ _ h => .inl h, hG, fun _ _ h => h⟩, hH, ?_⟩) ?_))
  · simp only [Array.toList_append, Array.toList_replicate, List.size_toArray, hA.len]
    exact hA.append (All2.replicate (RepA.any _) _)
  · rintro e a' w' ⟨st', hq, fz', β', hs⟩
    have key : (st'.objs.all (fun p => noTok p.2) = true ∧ ∃ zs, All2 (fun rv (z : TV) => ResV P st' rv z.av) fn.results.toList zs ∧ Q (tupOf zs) st'.objs) → LeavesInM (fwr none) 0 P fn a'.tmps (fun e w' => ∃ v r os' fz' β', e = .returned v ∧ Q r os' ∧ Rel (Cx.of w fz β G) w' fz' β' ∧ H w' fz' β' os' ∧ RepA w' fz' β' r v) a'.defers .returning w' := by
      rintro ⟨hnt, zs, h1, h2⟩
      obtain ⟨⟨Ds, d1, d2, d3⟩, d4, d5⟩ := hs.d
      have d1' : a'.defers = Ds.map mark := by rw [d1]; show Ds.map mark ++ [] = _; simp
      rw [d1']
      refine shut (β := β') (fz := fz') fn _ rfl rfl rfl (fun _ _ _ _ _ _ _ k F J hk _ => (noTok_all hnt hk).elim) (fun a2 w2 hs2 => ?_) Ds a' w' hs d2 d3 d1'
      obtain ⟨v, h3, h4⟩ := hs2.results h1
      exact ⟨v, h3, v, _, st'.objs, fz', β', rfl, h2, hs2.rel.of, hs2.h, h4⟩
    cases e with
    | normal => exact key hq
    | ret => exact key hq
    | exit _ => exact hq
    | goto _ => exact hq
    | panic _ => exact hq.elim
    | outgrown => exact hq.elim
end
end Go.Proofs.Vl
