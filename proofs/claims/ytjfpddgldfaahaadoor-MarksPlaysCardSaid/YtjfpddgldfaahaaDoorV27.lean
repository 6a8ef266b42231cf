/- The rule for the statement that ranges over a function. -/
import Derived.Test.YtjfpddgldfaahaaDoorV26
set_option linter.all false
set_option maxHeartbeats 1000000
namespace Go.Proofs.Vl
open Go Go.RowKit
section
variable {P : Program} {cx : Cx} {st : St} {a a' : Act} {w w' : World} {fz : Nat → Prop} {β : Nat → Option Nat} {Q : Exit → St → Prop}
/-- What the loop's own call keeps while the iterator runs. -/
structure JC (cx : Cx) (tm : List AV) (a1 : Act) (F Y : Nat → Prop) (l n1 : Nat) (tkl os : List (Nat × Ob)) (rc : Loop) (W : World) (X : Nat → Prop) (fz : Nat → Prop) (β : Nat → Option Nat) : Prop where
  sr : SR cx ⟨tm, os⟩ a1 W fz β
  nt : os.all (fun p => noTok p.2) = true
  lh : W.heap[l]? = some (.loop rc)
  lβ : ∀ k, β k ≠ some l
  xd : ∀ b, X b → n1 ≤ b ∧ ¬ fz b ∧ ∀ k, β k ≠ some b
  fd : ∀ b, F b → fz b
  nh : n1 ≤ W.heap.size
  tkd : ∀ Fo Jo, tkl = [(TK, .tok Fo Jo)] → Abi Jo ∧ Jo W Y ∧ (∀ k b, β k = some b → Y b) ∧ (∀ b, fz b → Fo b ∨ Y b)
/-- From one such state to a later one. -/
theorem JC.go {tm : List AV} {a1 a2 : Act} {F Y X X' : Nat → Prop} {l n1 n1' : Nat} {tkl os os' : List (Nat × Ob)} {rc rc' : Loop} {W W' : World} {fz' : Nat → Prop} {βr β' : Nat → Option Nat}
    (h : JC cx tm a1 F Y l n1 tkl os rc W X fz β) (hb : cx.base = none) (hml : cx.ml = true) (hl1 : l < n1) (hYl : Y l) (hn1 : n1' ≤ n1) (hY : ∀ b, n1' ≤ b → Y b) (hFl : ¬ F l)
    (hr : ∀ k b, βr k = some b → (∃ k', β k' = some b) ∨ (X b ∧ ¬ X' b)) (hX : ∀ b, X' b → X b ∧ b < W.heap.size)
    (hst : StpL l W fz βr W' fz' β') (hl' : W'.heap[l]? = some (.loop rc')) (hnt : os'.all (fun p => noTok p.2) = true)
    (hrel : Rel cx W' fz' β') (hH : H W' fz' β' os') (ht : All2 (RepA W' fz' β') tm a1.tmps.toList) :
    JC cx tm a1 F Y l n1 tkl os' rc' W' X' fz' β' ∧ ∀ b, b < W.heap.size → (X' b ∨ F b) → W'.heap[b]? = W.heap[b]? := by
  have hln : ∀ k, βr k ≠ some l := fun k hk => by
    rcases hr k l hk with ⟨k', h1⟩ | ⟨h1, _⟩
    · exact h.lβ k' h1
    · have := (h.xd l h1).1; omega
  have hfβ : ∀ b, fz b → ∀ k, βr k ≠ some b := fun b hb' k hk => by
    rcases hr k b hk with ⟨k', h1⟩ | ⟨h1, _⟩
    · exact h.sr.h.apart b hb' k' h1
    · exact (h.xd b h1).2.1 hb'
  have hxβ : ∀ b, X' b → ∀ k, βr k ≠ some b := fun b hb' k hk => by
    rcases hr k b hk with ⟨k', h1⟩ | ⟨_, h1⟩
    · exact (h.xd b (hX b hb').1).2.2 k' h1
    · exact h1 hb'
  have hnl : ∀ b o, W.heap[b]? = some o → (∀ r, o ≠ .loop r) → b ≠ l := fun b o hb' ho e => by subst e; rw [h.lh] at hb'; cases hb'; exact ho _ rfl
  refine ⟨⟨⟨?_, h.sr.low, hrel, hH, ht⟩, hnt, hl', ?_, ?_, ?_, ?_, ?_⟩, ?_⟩
  · obtain ⟨⟨Ds, d1, d2, d3⟩, d4, d5⟩ := h.sr.d
    refine ⟨⟨Ds, d1, d2, fun D hD => ?_⟩, fun W2 f b hbs => (by rw [hb] at hbs; cases hbs), fun hh => (by rw [hml] at hh; cases hh)⟩
    obtain ⟨g1, g2, g3, g4⟩ := d3 D hD
    have hDlt : D < W.heap.size := (Array.getElem?_eq_some_iff.1 g3).1
    refine ⟨g1, hst.mono D g2, (hst.blk D hDlt (hnl D _ g3 (by simp)) (hfβ D g2)).trans g3, fun k hk => ?_⟩
    obtain ⟨k', hk'⟩ := hst.own k D hDlt hk
    exact hfβ D g2 k' hk'
  · intro k hk
    have hlt : l < W.heap.size := (Array.getElem?_eq_some_iff.1 h.lh).1
    obtain ⟨k', hk'⟩ := hst.own k l hlt hk
    exact hln k' hk'
  · intro b hb'
    obtain ⟨g1, g2⟩ := hX b hb'
    refine ⟨(h.xd b g1).1, fun hf => ?_, fun k hk => ?_⟩
    · rcases hst.ffz b g2 hf with h1 | ⟨k, h1⟩
      · exact (h.xd b g1).2.1 h1
      · exact hxβ b hb' k h1
    · obtain ⟨k', hk'⟩ := hst.own k b g2 hk; exact hxβ b hb' k' hk'
  · exact fun b hb' => hst.mono b (h.fd b hb')
  · exact Nat.le_trans h.nh hst.size
  · intro Fo Jo he
    obtain ⟨g1, g2, g3, g4⟩ := h.tkd Fo Jo he
    have hβY : ∀ k b, βr k = some b → Y b := fun k b hk => by
      rcases hr k b hk with ⟨k', h1⟩ | ⟨h1, _⟩
      · exact g3 k' b h1
      · exact hY b (Nat.le_trans hn1 (h.xd b h1).1)
    have hnew : ∀ b, ¬ b < W.heap.size → Y b := fun b hb' => hY b (by have := h.nh; omega)
    refine ⟨g1, g1 W Y W' Y ⟨hst.os, hst.tape, hst.output, hst.size, fun b hb' hny => hst.blk b hb' (fun e => hny (e ▸ hYl)) (fun k hk => hny (hβY k b hk)), hst.shp, fun b _ h => h⟩ g2, fun k b hk => ?_, fun b hf => ?_⟩
    · by_cases hb' : b < W.heap.size
      · obtain ⟨k', hk'⟩ := hst.own k b hb' hk; exact hβY k' b hk'
      · exact hnew b hb'
    · by_cases hb' : b < W.heap.size
      · rcases hst.ffz b hb' hf with h1 | ⟨k, h1⟩
        · exact g4 b h1
        · exact .inr (hβY k b h1)
      · exact .inr (hnew b hb')
  · intro b hb' hc
    rcases hc with hc | hc
    · exact hst.blk b hb' (fun e => by subst e; have := (h.xd b (hX b hc).1).1; omega) (hxβ b hc)
    · refine hst.blk b hb' (fun e => hFl (e ▸ hc)) (hfβ b (h.fd b hc))
theorem JC.abi {tm : List AV} {a1 : Act} {F Y X X' : Nat → Prop} {l n1 n1' : Nat} {tkl os : List (Nat × Ob)} {rc : Loop} {W W' : World}
    (h : JC cx tm a1 F Y l n1 tkl os rc W X fz β) (hb : cx.base = none) (hml : cx.ml = true) (hl1 : l < n1) (hn1 : n1' ≤ n1) (hY : ∀ b, n1' ≤ b → Y b) (hw0 : cx.w0.heap.size ≤ n1) (hst : StX W X W' X') :
    JC cx tm a1 F Y l n1 tkl os rc W' X' fz β := by
  have hfzs : ∀ b, fz b → W'.heap[b]? = W.heap[b]? := fun b hb' => hst.blk b (h.sr.h.fzlt b hb') (fun hx => (h.xd b hx).2.1 hb')
  have hlt : l < W.heap.size := (Array.getElem?_eq_some_iff.1 h.lh).1
  refine ⟨h.sr.far hst.os hst.tape hst.output hst.size hst.shp (fun b hb' hc => hst.blk b hb' fun hx => ?_) (fun b hb' o v hv => (World.cell?_of_block (w := W) (a := ⟨b, o, none⟩) (hfzs b hb')).trans hv) ?_ rfl (fun k F J hk => (noTok_all h.nt hk).elim), h.nt, (hst.blk l hlt fun hx => (by have := (h.xd l hx).1; omega)).trans h.lh, h.lβ, fun b hx => ?_, h.fd, Nat.le_trans h.nh hst.size, fun Fo Jo he => ?_⟩
  · have h1 := h.xd b hx
    rcases hc with ⟨_, hc⟩ | ⟨k, hc⟩
    · omega
    · exact h1.2.2 k hc
  · obtain ⟨⟨Ds, d1, d2, d3⟩, d4, d5⟩ := h.sr.d
    refine ⟨⟨Ds, d1, d2, fun D hD => ?_⟩, fun W2 f b hbs => (by rw [hb] at hbs; cases hbs), fun hh => (by rw [hml] at hh; cases hh)⟩
    obtain ⟨g1, g2, g3, g4⟩ := d3 D hD
    exact ⟨g1, g2, (hfzs D g2).trans g3, g4⟩
  · by_cases hb' : b < W.heap.size
    · exact h.xd b (hst.own b hb' hx)
    · refine ⟨by have := h.nh; omega, fun hf => hb' (h.sr.h.fzlt b hf), fun k hk => hb' (h.sr.h.lt k b hk)⟩
  · obtain ⟨g1, g2, g3, g4⟩ := h.tkd Fo Jo he
    exact ⟨g1, g1 W Y W' Y ⟨hst.os, hst.tape, hst.output, hst.size, fun b hb' hny => hst.blk b hb' fun hx => hny (hY b (Nat.le_trans hn1 (h.xd b hx).1)), hst.shp, fun b _ h => h⟩ g2, g3, g4⟩
def pst (Q : Exit → St → Prop) (tm : List AV) (tkl : List (Nat × Ob)) : Code → List (Nat × Ob) → Prop
  | .ret, os => Q .ret ⟨tm, tkl ++ os⟩
  | .exit id, os => Q (.exit id) ⟨tm, tkl ++ os⟩
  | .goto t, os => Q (.goto t) ⟨tm, tkl ++ os⟩
  | _, _ => False
theorem capF_av {c : Cap} {v : Value} {β' : Nat → Option Nat} (hc : capF c = true) (h : RepCap w fz β c v) {w' : World} {fz' : Nat → Prop} (hA : Adv fz w w') (hs : ∀ b, fz b → fz' b) : RepA w' fz' β' c.av v := by
  cases c with
  | key k => cases hc
  | val x => cases h; exact RepP.s _ hc
  | fz cs => exact RepE.adv h hA hs
/-- Behind the iterator. -/
theorem JC.shut {tm : List AV} {a1 : Act} {F Y X : Nat → Prop} {l n1 : Nat} {tkl os : List (Nat × Ob)} {rc rc' : Loop} {W : World}
    (h : JC cx tm a1 F Y l n1 tkl os rc W X fz β) (hb : cx.base = none) (hml : cx.ml = true) (hYl : Y l) (hw0 : cx.w0.heap.size ≤ l) (htk : tkl = [] ∨ ∃ F J, tkl = [(TK, .tok F J)]) :
    StRep cx ⟨tm, tkl ++ os⟩ a1 (W.putObj l (.loop rc')) := by
  have hlt : l < W.heap.size := (Array.getElem?_eq_some_iff.1 h.lh).1
  have h2 : SR cx ⟨tm, os⟩ a1 (W.putObj l (.loop rc')) fz β := by
    refine h.sr.far rfl rfl rfl (by simp) (shape_put h.lh (by simp)) (fun b hb' hc => World.putObj_heap_other fun e => ?_) (fun b _ o v hv => cell_put h.lh (by simp) b o v hv) ?_ rfl (fun k F J hk => (noTok_all h.nt hk).elim)
    · subst e
      rcases hc with ⟨_, hc⟩ | ⟨k, hc⟩
      · omega
      · exact h.lβ k hc
    · obtain ⟨⟨Ds, d1, d2, d3⟩, d4, d5⟩ := h.sr.d
      refine ⟨⟨Ds, d1, d2, fun D hD => ?_⟩, fun W2 f b hbs => (by rw [hb] at hbs; cases hbs), fun hh => (by rw [hml] at hh; cases hh)⟩
      obtain ⟨g1, g2, g3, g4⟩ := d3 D hD
      exact ⟨g1, g2, (World.putObj_heap_other (fun e => by subst e; rw [h.lh] at g3; cases g3)).trans g3, g4⟩
  refine ⟨fz, β, h2.d, h2.low, h2.rel, ⟨h2.h.lt, h2.h.fzlt, h2.h.inj, h2.h.apart, fun k o hk => ?_⟩, h2.t⟩
  rcases htk with rfl | ⟨F', J', rfl⟩
  · exact h2.h.ob k o hk
  · simp only [List.cons_append, List.nil_append, find_cons] at hk
    split at hk
    · rename_i hk2
      subst hk2
      cases hk
      obtain ⟨g1, g2, g3, g4⟩ := h.tkd F' J' rfl
      exact ⟨g1, Y, g3, g4, g1 W Y _ Y ⟨rfl, rfl, rfl, by simp, fun b _ hny => World.putObj_heap_other (fun e => hny (e ▸ hYl)), shape_put h.lh (by simp), fun b _ h => h⟩ g2⟩
    · exact h2.h.ob k o hk
theorem AWp.rangeF {α : Type} {g : Operand} {ps : Array Tmp} {assign body : Code} {gf : Nat} {caps : List Cap} {L : List YV} (fo : α → List (Nat × Ob)) (inv : Nat → α → Prop) (x0 : α) (kr : Nat) (tkl : List (Nat × Ob))
    (hro : cx.rd = none) (hml : cx.ml = true) (hbs : cx.base = none)
    (hg : st.op cx g = .c (.fn gf caps)) (hgo : okOp g = true) (hfn : isFn P gf = true) (hcf : caps.all capF = true)
    (hit : IC P cx.G gf (caps.map Cap.av) L) (hlen : ∀ y ∈ L, y.len = ps.size)
    (hkr : kr < 1000000) (hkn : (∀ y ∈ L, y.row = none) ∨ ∀ x, St.noref ⟨st.tmps, fo x⟩ kr = true)
    (htk : tkl = [] ∨ ∃ F J, tkl = [(TK, .tok F J)] ∧ find st.objs TK = some (.tok F J))
    (hnt : ∀ x, (fo x).all (fun p => noTok p.2) = true)
    (h0 : inv 0 x0) (hs0 : Has st.objs (fo x0))
    (hround : ∀ (cx' : Cx) (sv : List Value) (i : Nat) (y : YV) (x : α), cx'.G = cx.G → cx'.defers = [] → L[i]? = some y → inv i x →
      AWp P cx' assign (rst st ps y kr (fo x) sv) (fun e s => e = .normal ∧ s.objs.all (fun p => noTok p.2) = true ∧ ∀ cx'' : Cx, cx''.G = cx.G → cx''.defers = [] → AWp P cx'' body s (rq Q tkl st sv fo inv i)))
    (hend : ∀ x, inv L.length x → Q .normal ⟨st.tmps, tkl ++ fo x⟩) : AWp P cx (.rangeFunc g ps assign body) st Q := by
  intro a w ⟨fz, β, hs⟩
  rw [hro]
  refine wpIn_rangeFunc ?_
  intro fn _
  obtain ⟨cv, hgv, hcv⟩ : ∃ cv : List Value, a.eval g = .func (.func gf) #[] cv.toArray ∧ All2 (RepCap w fz β) caps cv := by
    have := hs.op g hgo
    rw [hg] at this; exact this
  obtain ⟨rec, hrec⟩ : ∃ rec : LoopState → Option Code → Loop, rec = fun st pe => { state := st, pending := pe, fn, tmps := a.tmps, params := ps, assign, body, defers := w.heap.size } := ⟨_, rfl⟩
  obtain ⟨W1, hW1⟩ : ∃ W1, (w.alloc (.deferred (some []))).alloc (.loop (rec .ready none)) = W1 := ⟨_, rfl⟩
  obtain ⟨l, hl⟩ : ∃ l, l = w.heap.size + 1 := ⟨_, rfl⟩
  have hL1 : W1.heap[l]? = some (.loop (rec .ready none)) := by
    rw [← hW1, hl]; have := World.alloc_heap_new (w.alloc (.deferred (some []))) (.loop (rec .ready none)); rwa [World.size_alloc] at this
  have hold1 : ∀ b, b < w.heap.size → W1.heap[b]? = w.heap[b]? := fun b hb => by
    rw [← hW1]; exact (Below.heap_alloc _ _ _ (by simp; omega)).trans (Below.heap_alloc _ _ _ hb)
  have hD1 : W1.heap[w.heap.size]? = some (.deferred (some [])) := by
    rw [← hW1]; exact (Below.heap_alloc _ _ _ (by simp)).trans (World.alloc_heap_new w _)
  have hsz1 : W1.heap.size = w.heap.size + 2 := by rw [← hW1]; simp
  have hos1 : W1.os = w.os ∧ W1.tape = w.tape ∧ W1.output = w.output := by rw [← hW1]; exact ⟨rfl, rfl, rfl⟩
  obtain ⟨fz1, hfz1⟩ : ∃ fz1 : Nat → Prop, fz1 = fun b => fz b ∨ b = w.heap.size := ⟨_, rfl⟩
  obtain ⟨a1, ha1⟩ : ∃ a1 : Act, a1 = { a with defers := [mark w.heap.size] ++ a.defers } := ⟨_, rfl⟩
  have hlift := hs.lift (w' := W1) (fz' := fz1) hos1.1 hos1.2.1 hos1.2.2 (by omega) hold1 (fun b hb => by rw [hfz1]; exact .inl hb) (fun b hb => by rw [hfz1] at hb; exact hb.imp id (fun h => by omega)) (fun b hb => by
    rw [hfz1] at hb
    rcases hb with hb | hb
    · have := hs.h.fzlt b hb; omega
    · omega)
  have hsr1 : SR cx ⟨st.tmps, fo x0⟩ a1 W1 fz1 β := by
    refine ⟨?_, hlift.low, hlift.rel, ⟨hlift.h.lt, hlift.h.fzlt, hlift.h.inj, hlift.h.apart, fun k o hk => hlift.h.ob k o (hs0 k o hk)⟩, by rw [ha1]; exact hlift.t⟩
    obtain ⟨⟨Ds, d1, d2, d3⟩, d4, d5⟩ := hs.d
    obtain ⟨⟨Ds', d1', d2', d3'⟩, d4', d5'⟩ := hlift.d
    have hlow : ∀ D ∈ Ds, D < w.heap.size := fun D hD => (Array.getElem?_eq_some_iff.1 (d3 D hD).2.2.1).1
    refine ⟨⟨w.heap.size :: Ds, by rw [ha1]; simp [d1], List.nodup_cons.2 ⟨fun h => by have := hlow _ h; omega, d2⟩, fun D hD => ?_⟩, fun W2 f b hb => (by rw [hbs] at hb; cases hb), fun hh => (by rw [hml] at hh; cases hh)⟩
    rcases List.mem_cons.1 hD with rfl | hD
    · exact ⟨hs.rel.size, by rw [hfz1]; exact .inr rfl, hD1, fun k hk => by have := hs.h.lt _ _ hk; omega⟩
    · obtain ⟨g1, g2, g3, g4⟩ := d3 D hD
      exact ⟨g1, by rw [hfz1]; exact .inl g2, (hold1 D (hlow D hD)).trans g3, g4⟩
  obtain ⟨Y, hY, hYt⟩ : ∃ Y : Nat → Prop, (∀ b, w.heap.size ≤ b → Y b) ∧ ∀ Fo Jo, tkl = [(TK, .tok Fo Jo)] → Abi Jo ∧ Jo W1 Y ∧ (∀ k b, β k = some b → Y b) ∧ (∀ b, fz1 b → Fo b ∨ Y b) := by
    rcases htk with h | ⟨F, J, h, hf⟩
    · exact ⟨fun _ => True, fun _ _ => trivial, fun Fo Jo he => by rw [h] at he; cases he⟩
    · obtain ⟨g1, X, g2, g3, g4⟩ := hs.h.ob _ _ hf
      refine ⟨fun b => X b ∨ w.heap.size ≤ b, fun b hb => .inr hb, fun Fo Jo he => ?_⟩
      rw [h] at he; cases he
      refine ⟨g1, g1 w X W1 _ ⟨hos1.1, hos1.2.1, hos1.2.2, by omega, fun b hb _ => hold1 b hb, fun b s hs => (shape_eq (hold1 b (shape_lt hs))).trans hs, fun b hb h => h.resolve_right (by omega)⟩ g4, fun k b hk => .inl (g2 k b hk), fun b hb => ?_⟩
      rw [hfz1] at hb
      rcases hb with hb | hb
      · exact (g3 b hb).imp id .inl
      · exact .inr (.inr (by omega))
  have hFl : ¬ fz1 l := fun h => by
    rw [hfz1] at h
    rcases h with h | h
    · have := hs.h.fzlt l h; omega
    · omega
  have hYl : Y l := hY l (by omega)
  have hw0 : cx.w0.heap.size ≤ l := by have := hs.rel.size; omega
  have hJC0 : JC cx st.tmps a1 fz1 Y l (w.heap.size + 2) tkl (fo x0) (rec .ready none) W1 (fun _ => False) fz1 β :=
    ⟨hsr1, hnt x0, hL1, fun k hk => by have := hs.h.lt _ _ hk; omega, fun b hb => hb.elim, fun b hb => hb, by omega, hYt⟩
  have htk' : tkl = [] ∨ ∃ F J, tkl = [(TK, .tok F J)] := htk.imp id fun ⟨F, J, h, _⟩ => ⟨F, J, h⟩
  refine ⟨l, [mark w.heap.size], W1, { target := .fn (.func gf) cv.toArray, args := #[.func (.yield l) #[] #[]] }, W1, gf, #[.func (.yield l) #[] #[]] ++ cv.toArray, W1, ?_, ?_, fun _ _ => trivial, ?_, fun h => (by cases h), ?_⟩
  · rw [← hW1, hrec, hl]; exact run_enterLoop_outer _ _ _ _ _
  · simp only [resolve, hgv]
    simp [go_sem]
  · simp [invoke, go_sem, run_callFunc hfn]
  · have ecv : (#[.func (.yield l) #[] #[]] ++ cv.toArray : Array Value) = (.func (.yield l) #[] #[] :: cv).toArray := by simp
    rw [ecv]
    refine callsIn_fwr ((hit W1 fz1 (.func (.yield l) #[] #[] :: cv) l
      (fun i W X => ∃ x fz β, inv i x ∧ JC cx st.tmps a1 fz1 Y l (w.heap.size + 2) tkl (fo x) (rec .ready none) W X fz β)
      (fun W X => ∃ c os fz β, pst Q st.tmps tkl c os ∧ JC cx st.tmps a1 fz1 Y l (w.heap.size + 2) tkl os (rec .done (some c)) W X fz β)
      hsr1.h.fzlt hsr1.rel.glob ?_ ⟨?_, ?_, ?_⟩ ⟨x0, fz1, β, h0, hJC0⟩).mono ?_)
    · refine .cons (.s _ rfl) ?_
      have hA : Adv fz w W1 := .of (fun b hb => hold1 b (hs.h.fzlt b hb)) (fun b s hs => (shape_eq (hold1 b (shape_lt hs))).trans hs)
      have : All2 (fun c v => capF c = true ∧ RepCap w fz β c v) caps cv := hcv.mono fun c v hc h => ⟨List.all_eq_true.1 hcf c hc, h⟩
      exact this.map _ fun c v h => capF_av h.1 h.2 hA (fun b hb => by rw [hfz1]; exact .inl hb)
    · rintro i W X W' X' hst ⟨x, fz2, β2, g1, g2⟩
      exact ⟨x, fz2, β2, g1, g2.abi hbs hml (by omega) (n1' := w.heap.size) (by omega) hY (by omega) hst⟩
    · rintro W X W' X' hst ⟨c, os, fz2, β2, g1, g2⟩
      exact ⟨c, os, fz2, β2, g1, g2.abi hbs hml (by omega) (n1' := w.heap.size) (by omega) hY (by omega) hst⟩
    · -- a round
      rintro i y hy W X ob vs hXlt hobX ⟨x, fzc, βc, hinv, hj⟩ hrep
      have hymem : y ∈ L := List.mem_of_getElem? hy
      have hvl : vs.toArray.size = ps.size := by simp [YV.rep_len hrep, hlen y hymem]
      have hyr := run_yield (P := P) (args := vs.toArray) hj.lh (by rw [hvl]; rw [hrec])
      obtain ⟨βr, hsrr, hargs, hβr⟩ := hj.sr.imp_row hbs hrep hkr (hkn.imp (fun h => h y hymem) (fun h => h x)) (fun b hb => by
        obtain ⟨g1, g2, g3⟩ := hj.xd b (hobX b hb)
        exact ⟨by omega, hXlt b (hobX b hb), g2, g3⟩) hj.nt
      rw [hrec] at hyr
      refine ⟨fn, _, assign, body, hyr, roundIn_of_wpIn trivial ?_⟩
      have hβr' : ∀ k b, βr k = some b → (∃ k', βc k' = some b) ∨ (X b ∧ ¬ (X b ∧ ob ≠ some b)) := fun k b hk => (hβr k b hk).imp id fun h => ⟨hobX b h, fun hh => hh.2 h⟩
      have hlr : ∀ k, βr k ≠ some l := fun k hk => by
        rcases hβr' k l hk with ⟨k', h1⟩ | ⟨h1, _⟩
        · exact hj.lβ k' h1
        · have := (hj.xd l h1).1; omega
      have hlW : l < W.heap.size := (Array.getElem?_eq_some_iff.1 hj.lh).1
      -- the round's frame
      have hrep0 : StRep { cx with defers := [], rd := some l, ml := false, base := some (W, fzc, βr) } (rst st ps y kr (fo x) a.tmps.toList) { tmps := (ps.zip vs.toArray).foldl (fun t (p, v) => t.setIfInBounds p v) a.tmps, defers := [] } W := by
        refine ⟨fzc, βr, ⟨⟨[], rfl, List.nodup_nil, fun D hD => (by cases hD)⟩, fun W2 f b hb => ?_, fun _ => rfl⟩, hsrr.low, hsrr.rel.of, ⟨hsrr.h.lt, hsrr.h.fzlt, hsrr.h.inj, hsrr.h.apart, fun k o hk => ?_⟩, ?_⟩
        · cases hb; exact Stp.refl _ _ _
        · have hk : find (y.objs kr ++ (fo x ++ [(SV, .sav st.tmps a.tmps.toList)])) k = some o := hk
          rw [← List.append_assoc, find_app] at hk
          cases hf : find (y.objs kr ++ fo x) k with
          | some o' => rw [hf] at hk; cases hk; exact hsrr.h.ob k o hf
          | none =>
            rw [hf] at hk
            simp only [Option.none_or, find_cons] at hk
            split at hk
            · cases hk
              have := hsrr.t
              rw [ha1] at this
              exact this
            · cases hk
        · have ht := hsrr.t
          rw [ha1] at ht
          have := setT_rep (R := RepA W fzc βr) ps.toList (ts := st.tmps) (vs := a.tmps) ht hargs
          have ez : (ps.zip vs.toArray).foldl (fun t (p, v) => t.setIfInBounds p v) a.tmps = (ps.toList.zip vs).foldl (fun (t : Array Value) (p : Nat × Value) => t.setIfInBounds p.1 p.2) a.tmps := by
            rw [← Array.foldl_toList, Array.toList_zip]
          show All2 _ (setT st.tmps ps.toList (y.args kr)) _
          simp only [ez]
          exact this
      have hass := hround { cx with defers := [], rd := some l, ml := false, base := some (W, fzc, βr) } a.tmps.toList i y x rfl rfl hy hinv _ _ hrep0
      refine wpIn_mono hass ?_
      rintro e a2 w2 ⟨s2, ⟨rfl, hnt2, hbody⟩, fz2, β2, hs2⟩
      have hst2 : Stp W fzc βr w2 fz2 β2 := hs2.d.pr _ _ _ rfl
      have hl2 : w2.heap[l]? = some (.loop (rec .ready none)) := (hst2.blk l hlW hlr).trans hj.lh
      have hl2β : ∀ k, β2 k ≠ some l := fun k hk => by obtain ⟨k', h⟩ := hst2.own k l hlW hk; exact hlr k' h
      refine ⟨_, run_beginRound hl2 (by rw [hrec]), ?_⟩
      obtain ⟨busy, hbusy⟩ : ∃ busy : Loop, busy = { rec .ready none with state := .busy } := ⟨_, rfl⟩
      rw [← hbusy]
      have hl3 : (w2.putObj l (.loop busy)).heap[l]? = some (.loop busy) := World.putObj_heap_same (Array.getElem?_eq_some_iff.1 hl2).1
      have hs3 : StRep { cx with defers := [], rd := some l, ml := false, base := some (w2.putObj l (.loop busy), fz2, β2) } s2 a2 (w2.putObj l (.loop busy)) := by
        have hA : SR { cx with defers := [], rd := some l, ml := false, base := none } s2 a2 w2 fz2 β2 := ⟨⟨hs2.d.ds, fun W2 f b hb => (by cases hb), fun _ => hs2.d.lo rfl⟩, hs2.low, hs2.rel.of, hs2.h, hs2.t⟩
        have hB : SR { cx with defers := [], rd := some l, ml := false, base := none } s2 a2 (w2.putObj l (.loop busy)) fz2 β2 := by
          have hdf := hs2.d.lo rfl
          refine hA.far rfl rfl rfl (by simp) (shape_put hl2 (by simp)) (fun b hb' hc => World.putObj_heap_other fun e => ?_) (fun b _ o v hv => cell_put hl2 (by simp) b o v hv) ⟨⟨[], hdf, List.nodup_nil, fun D hD => (by cases hD)⟩, fun W2 f b hb => (by cases hb), fun _ => hdf⟩ rfl (fun k F J hk => (noTok_all hnt2 hk).elim)
          subst e
          rcases hc with ⟨_, hc⟩ | ⟨k, hc⟩
          · have hc : b < cx.w0.heap.size := hc; omega
          · exact hl2β k hc
        exact ⟨fz2, β2, ⟨hB.d.ds, fun W2 f b hb => (by cases hb; exact Stp.refl _ _ _), fun _ => hB.d.lo rfl⟩, hB.low, hB.rel.of, hB.h, hB.t⟩
      refine wpIn_mono (hbody { cx with defers := [], rd := some l, ml := false, base := some (w2.putObj l (.loop busy), fz2, β2) } rfl rfl _ _ hs3) ?_
      rintro e a4 w4 ⟨s4, q, fz4, β4, hs4⟩
      have hst4 : Stp (w2.putObj l (.loop busy)) fz2 β2 w4 fz4 β4 := hs4.d.pr _ _ _ rfl
      have hl4 : w4.heap[l]? = some (.loop busy) := (hst4.blk l (Array.getElem?_eq_some_iff.1 hl3).1 hl2β).trans hl3
      have fin : ∀ (jump : Option Code) (os' : List (Nat × Ob)), Has s4.objs os' → os'.all (fun p => noTok p.2) = true → find s4.objs SV = some (.sav st.tmps a.tmps.toList) →
          ∃ w5, (Instr.endRound l jump).run P w4 = .ok (.bool jump.isNone) w5 ∧ JC cx st.tmps a1 fz1 Y l (w.heap.size + 2) tkl os' (rec (if jump.isNone then .ready else .done) jump) w5 (fun b => X b ∧ ob ≠ some b) fz4 β4 ∧ Kp W (fun b => (X b ∧ ob ≠ some b) ∨ fz1 b) w5 := fun jump os' hos hnt' hsv => by
        refine ⟨_, run_endRound jump hl4, ?_⟩
        have hst : StpL l W fzc βr (w4.putObj l (.loop { busy with state := if jump.isNone then .ready else .done, pending := jump })) fz4 β4 := ((hst2.toL l).trans (StpL.put hl2)).trans ((hst4.toL l).trans (StpL.put hl4))
        have hend : (w4.putObj l (.loop { busy with state := if jump.isNone then .ready else .done, pending := jump })).heap[l]? = some (.loop (rec (if jump.isNone then .ready else .done) jump)) := by
          rw [World.putObj_heap_same (Array.getElem?_eq_some_iff.1 hl4).1, hbusy, hrec]
        have hs5 : SR { cx with defers := [], rd := some l, ml := false, base := none } ⟨st.tmps, os'⟩ { tmps := a.tmps, defers := [] } (w4.putObj l (.loop { busy with state := if jump.isNone then .ready else .done, pending := jump })) fz4 β4 := by
          have hA : SR { cx with defers := [], rd := some l, ml := false, base := none } ⟨st.tmps, os'⟩ { tmps := a.tmps, defers := [] } w4 fz4 β4 := ⟨⟨⟨[], rfl, List.nodup_nil, fun D hD => (by cases hD)⟩, fun W2 f b hb => (by cases hb), fun _ => rfl⟩, hs4.low, hs4.rel.of, ⟨hs4.h.lt, hs4.h.fzlt, hs4.h.inj, hs4.h.apart, fun k o hk => hs4.h.ob k o (hos k o hk)⟩, hs4.h.ob _ _ hsv⟩
          refine hA.far rfl rfl rfl (by simp) (shape_put hl4 (by simp)) (fun b hb' hc => World.putObj_heap_other fun e => ?_) (fun b _ o v hv => cell_put hl4 (by simp) b o v hv) ⟨⟨[], rfl, List.nodup_nil, fun D hD => (by cases hD)⟩, fun W2 f b hb => (by cases hb), fun _ => rfl⟩ rfl (fun k F J hk => (noTok_all hnt' hk).elim)
          subst e
          rcases hc with ⟨_, hc⟩ | ⟨k, hc⟩
          · have hc : b < cx.w0.heap.size := hc; omega
          · obtain ⟨k', h⟩ := hst4.own k b (by simpa using (Array.getElem?_eq_some_iff.1 hl2).1) hc; exact hl2β k' h
        obtain ⟨g1, g2⟩ := hj.go (a2 := a1) (X' := fun b => X b ∧ ob ≠ some b) (n1' := w.heap.size) hbs hml (by omega) hYl (by omega) hY hFl hβr' (fun b hb => ⟨hb.1, hXlt b hb.1⟩) hst hend hnt' hs5.rel.of hs5.h (by rw [ha1]; exact hs5.t)
        exact ⟨g1, ⟨hst.os, hst.tape, hst.output, hst.size, hst.shp, g2⟩⟩
      cases e with
      | normal =>
        obtain ⟨x', hi', hh, hsv⟩ := q
        obtain ⟨w5, r1, r2, r3⟩ := fin none _ hh (hnt x') hsv
        exact ⟨_, w5, r1, r3, .inl ⟨rfl, x', fz4, β4, hi', r2⟩⟩
      | ret =>
        obtain ⟨q1, q2, q3⟩ := q
        obtain ⟨w5, r1, r2, r3⟩ := fin (some .ret) _ (fun k o h => find_odel h) q2 q3
        exact ⟨_, w5, r1, r3, .inr ⟨rfl, .ret, _, fz4, β4, q1, r2⟩⟩
      | exit id =>
        obtain ⟨q1, q2, q3⟩ := q
        obtain ⟨w5, r1, r2, r3⟩ := fin (some (.exit id)) _ (fun k o h => find_odel h) q2 q3
        exact ⟨_, w5, r1, r3, .inr ⟨rfl, .exit id, _, fz4, β4, q1, r2⟩⟩
      | goto t =>
        obtain ⟨q1, q2, q3⟩ := q
        obtain ⟨w5, r1, r2, r3⟩ := fin (some (.goto t)) _ (fun k o h => find_odel h) q2 q3
        exact ⟨_, w5, r1, r3, .inr ⟨rfl, .goto t, _, fz4, β4, q1, r2⟩⟩
      | panic ch => exact q.elim
      | outgrown => exact q.elim
    · rintro e W2 ⟨v, r, rfl, _, X, ⟨_, x, fz2, β2, hi, hj⟩ | ⟨_, c, os, fz2, β2, hp, hj⟩⟩
      · refine ⟨none, _, ?_, ⟨_, hend x hi, ha1 ▸ hj.shut hbs hml hYl hw0 htk' (rc' := { rec .ready none with state := .exhausted })⟩⟩
        have := run_endLoop (P := P) hj.lh (by rw [hrec]; simp)
        rw [hrec] at this ⊢; exact this
      · refine ⟨some c, W2.putObj l (.loop { rec .done (some c) with state := .exhausted }), ?_, ?_⟩
        · have := run_endLoop (P := P) hj.lh (by rw [hrec]; simp)
          rw [hrec] at this ⊢; exact this
        · have hsh := hj.shut hbs hml hYl hw0 htk' (rc' := { rec .done (some c) with state := .exhausted })
          rw [ha1] at hsh
          cases c <;> simp only [pst] at hp
          case ret => exact wpIn_ret ⟨_, hp, hsh⟩
          case exit id => exact wpIn_exit ⟨_, hp, hsh⟩
          case goto t => exact wpIn_goto ⟨_, hp, hsh⟩
end
end Go.Proofs.Vl
