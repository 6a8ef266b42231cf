/- The value logic (merged). -/
import Derived.Test.YtlegdnmebgfjbaaDoorVA
import Derived.Deep.Slices
import Derived.Deep.Fields
import Derived.OpenShut
import Derived.ChangeSame
import Derived.Laws.Externs
import Derived.Scope
import Derived.Laws.Strings
import Derived.MapKept
import Derived.Carry
import Derived.Laws.BytesString
section
/- What an argument's reading as data says of the values that lie there; contracts from calls and back. -/
set_option linter.all false
namespace Go.Proofs.Vl
open Go Go.RowKit Go.Deep Go.ChangeShapes Go.WideShapes
def Elder (w : World) : Nat → Prop := fun b => b < w.heap.size
/-- Whatever reads as data of type T lies there as the cells that f tells. -/
def Opens (P : Program) (T : TypeId) {α : Type} (f : α → List PV) (ok : α → Prop) : Prop :=
  ∀ {H : Type} {enc : TypeId × Value → H} {w : World} {base : Nat} {spare : Nat → Bool} {held : Bool} {fuel : Nat} {cs : List Value} {x : DataW H × List MemPlace},
    DataW.trod enc P w base spare held fuel T cs = some x → ∃ a, All2 (RepP w (Elder w)) (f a) cs ∧ ok a
def pvI (k : IntKind) (n : Int) : List PV := [.s (.int k n)]
section
variable {P : Program} {T e : TypeId} {α : Type} {f : α → List PV} {ok : α → Prop}
theorem Opens.int {k : IntKind} (ht : P.underlying T = some (.int k)) : Opens P T (pvI k) (fun x => (Lit.int k x).wf = true) := fun h => by
  obtain ⟨n, rfl, _, hw⟩ := DataW.trod_int ht h
  exact ⟨n, .cons (.s _ rfl) .nil, hw⟩
theorem Opens.bool (ht : P.underlying T = some .bool) : Opens P T (fun b => [PV.s (.bool b)]) (fun _ => True) := fun h => by
  obtain ⟨n, rfl, _⟩ := DataW.trod_bool ht h
  exact ⟨n, .cons (.s _ rfl) .nil, trivial⟩
theorem Opens.string (ht : P.underlying T = some .string) : Opens P T (fun s => [PV.s (.string s)]) (fun x => x.size ≤ maxLen) := fun h => by
  obtain ⟨n, rfl, _, hw⟩ := DataW.trod_string ht h
  exact ⟨n, .cons (.s _ rfl) .nil, hw⟩
theorem Opens.slice {sz : Nat} (ht : P.underlying T = some (.slice e)) (hsz : P.cellsOf e = sz) (hf : ∀ a, (f a).length = sz) (hs0 : 0 < sz) (he : Opens P e f ok) : Opens P T (fun xs : List α => [PV.fro (xs.map f)]) (fun xs => xs.length ≤ maxLen ∧ ∀ x ∈ xs, ok x) := by
  intro H enc w base spare held fuel cs x h
  rcases open_slice ht h with ⟨rfl, _⟩ | ⟨a, len, cap, m, n, D, Pl, rfl, _, hl, hm, hmm, _, hi⟩
  · exact ⟨[], .cons (.nil _ _) .nil, by simp, by simp⟩
  · have hlm : len ≤ m := by rw [hmm]; split <;> omega
    have hel : ∀ i, i < len → ∃ a', (∃ cs' : List Value, All2 (RepP w (Elder w)) (f a') cs' ∧ ∀ (j : Nat) u, cs'[j]? = some u → w.cell? (a.add (i * sz + j)) = some u) ∧ ok a' := by
      intro i hil
      obtain ⟨cs', hc, ht'⟩ := hi i (by omega)
      obtain ⟨a', hk, ho⟩ := he ht'
      obtain ⟨_, hcl, hat⟩ := World.cells?_some hc
      refine ⟨a', ⟨cs', hk, fun j u hu => ?_⟩, ho⟩
      have hj : j < P.cellsOf e := by rw [← hcl]; exact (List.getElem?_eq_some_iff.1 hu).1
      have := hat j hj
      rw [Go.Deep.add_add, hsz] at this
      rw [this, hu]
    rcases Nat.eq_zero_or_pos len with h0 | h0
    · subst h0
      exact ⟨[], .cons (.nil _ _) .nil, by simp, by simp⟩
    · obtain ⟨a0, _⟩ := hel 0 h0
      obtain ⟨g, hg⟩ : ∃ g : Nat → α, ∀ i, i < len → (∃ cs' : List Value, All2 (RepP w (Elder w)) (f (g i)) cs' ∧ ∀ (j : Nat) u, cs'[j]? = some u → w.cell? (a.add (i * sz + j)) = some u) ∧ ok (g i) := by
        refine ⟨fun i => if h : i < len then (hel i h).choose else a0, fun i h => ?_⟩
        simp only [dif_pos h]
        exact (hel i h).choose_spec
      have hspot : a.spot = none := by
        obtain ⟨⟨cs', h1, h2⟩, _⟩ := hg 0 h0
        have h3 := h1.len; rw [hf] at h3
        have h4 := h2 0 _ (List.getElem?_eq_getElem (by omega))
        have h5 : a.add (0 * sz + 0) = a := by simp [Addr.add]
        rw [h5] at h4
        unfold World.cell? at h4
        split at h4
        · split at h4
          · cases h4
          · rename_i hh; simpa using hh
        · cases h4
      obtain ⟨b, o, sp⟩ := a
      simp only at hspot
      subst hspot
      have hget : ∀ (j : Nat) cs', ((List.range len).map g |>.map f)[j]? = some cs' → j < len ∧ cs' = f (g j) := fun j cs' hj => by
        rw [List.map_map, List.getElem?_map] at hj
        obtain ⟨i, hi', rfl⟩ := Option.map_eq_some_iff.1 hj
        obtain ⟨hlt, rfl⟩ := List.getElem?_eq_some_iff.1 hi'
        simp only [List.length_range] at hlt
        exact ⟨hlt, by simp⟩
      have hcell : ∀ (j : Nat) cs' (c : Nat) z, ((List.range len).map g |>.map f)[j]? = some cs' → cs'[c]? = some z → ∃ u, w.cell? ⟨b, o + (j * sz + c), none⟩ = some u ∧ RepP w (Elder w) z u := fun j cs' c z hj hc => by
        obtain ⟨hlt, rfl⟩ := hget j cs' hj
        obtain ⟨⟨cs2, h1, h2⟩, _⟩ := hg j hlt
        obtain ⟨u, h3, h4⟩ := h1.get hc
        have h5 := h2 c u h3
        rw [Addr.add_lit] at h5
        exact ⟨u, h5, h4⟩
      refine ⟨(List.range len).map g, .cons ?_ .nil, by simp; omega, fun x hx => ?_⟩
      · have hlen : ((List.range len).map g |>.map f).length = len := by simp
        have := RepP.fro (w := w) (fz := Elder w) ((List.range len).map g |>.map f) b o cap sz (fun j c => (w.cell? ⟨b, o + (j * sz + c), none⟩).getD undef) (fun _ => ?_) (by rw [hlen]; exact hl) (fun j cs' hj => by obtain ⟨_, rfl⟩ := hget j cs' hj; exact hf _)
          (fun j cs' c z hj hc => by obtain ⟨u, h1, _⟩ := hcell j cs' c z hj hc; simp [h1]) (fun j cs' c z hj hc => by obtain ⟨u, h1, h2⟩ := hcell j cs' c z hj hc; simpa [h1] using h2)
        · rw [hlen] at this; exact this
        · obtain ⟨⟨cs', h1, h2⟩, _⟩ := hg 0 h0
          have h3 := h1.len; rw [hf] at h3
          have h4 := h2 0 _ (List.getElem?_eq_getElem (by omega))
          have h5 := World.block_lt_of_cell? w _ h4
          simpa [Addr.add_lit, Elder] using h5
      · obtain ⟨i, hi', rfl⟩ := List.mem_map.1 hx
        exact (hg i (List.mem_range.1 hi')).2
end

/-! ### Contracts from calls, and back -/
section
variable {P : Program} {G : Nat → Option (List PV)} {f : Nat}
theorem AC.ofCalls {vs : List Value} {v : Value} {r : AV} (hr : ∀ w fz β, RepA w fz β r v) (h : ∀ w, Calls P f vs.toArray w fun e w' => e = .returned v ∧ Below w.heap.size w w') : AC P G f (vs.map fun v => .c (.p (.s v))) [] (fun r' _ => r' = r) := by
  intro w fz β us hβ hH hG hA
  have hus : us = vs := by
    clear h
    induction vs generalizing us with
    | nil => cases hA; rfl
    | cons v vs ih => cases hA with | cons h1 h2 => rw [RepA.eq h1, ih _ h2]
  subst hus
  refine (h w).mono fun e w' ⟨he, hb⟩ => ⟨v, r, [], fz, β, he, rfl, ?_, ?_, hr _ _ _⟩
  · exact ⟨hb.os, hb.tape, hb.output, hb.size, fun _ b hlt _ => hb.block b hlt, fun b s hs => (shape_eq (hb.block b (shape_lt hs))).trans hs, fun _ h => h, fun _ h => .inl h, fun _ _ h => h, fun _ _ h => .inl h, fun g cs hg => (hG g cs hg).glob_adv (.of (fun b hb' => hb.block b (hH.fzlt b hb')) (fun b s hs => (shape_eq (hb.block b (shape_lt hs))).trans hs)) (fun _ h => h), fun _ _ h => h⟩
  · exact ⟨fun k b hk => Nat.lt_of_lt_of_le (hH.lt k b hk) hb.size, fun b hb' => Nat.lt_of_lt_of_le (hH.fzlt b hb') hb.size, hH.inj, hH.apart, fun k o hk => by cases hk⟩
/-- At the top: called over arguments that are only read. -/
theorem AC.top {args : List AV} {w : World} {vs : List Value} {v : Value} (h : AC P (fun _ => none) f args [] (fun r _ => r = .c (.p (.s v)))) (hA : All2 (RepA w (Elder w) (fun _ => none)) args vs) :
    Calls P f vs.toArray w fun e w' => e = .returned v ∧ Below w.heap.size w w' := by
  refine (h w (Elder w) (fun _ => none) vs (fun _ _ => rfl) (H.none fun b hb => hb) (fun g cs hg => by cases hg) hA).mono ?_
  rintro e w' ⟨v', r, os', fz', β', he, rfl, hR, hH, hv⟩
  have := RepA.eq hv; subst this
  exact ⟨he, ⟨hR.os, hR.tape, hR.output, hR.size, fun b hb => hR.old rfl b hb (fun k => by simp)⟩⟩
end

/-! ### At the heads of loops -/
section
variable {P : Program} {cx : Cx} {st : St} {a : Act} {w : World} {fz : Nat → Prop} {β : Nat → Option Nat} {Q : Exit → St → Prop} {c : Code}
theorem Le.forget {tm : List AV} {os : List (Nat × Ob)} (ht : All2 (fun x y => y = AV.c .any ∨ y = x) st.tmps tm) (ho : ∀ k o, find os k = some o → find st.objs k = some o) : Le cx st ⟨tm, os⟩ := by
  intro a w h
  obtain ⟨fz, β, hs⟩ := h
  refine ⟨fz, β, hs.d, hs.low, hs.rel, ⟨hs.h.lt, hs.h.fzlt, hs.h.inj, hs.h.apart, fun k o hk => hs.h.ob k o (ho k o hk)⟩, ?_⟩
  have h2 := hs.t
  obtain ⟨tmps, objs⟩ := st
  dsimp only at ht h2 ⊢
  generalize a.tmps.toList = vs at h2
  clear hs ho
  induction ht generalizing vs with
  | nil => exact h2
  | cons h1 _ ih =>
    cases h2 with
    | cons h3 h4 =>
      refine .cons ?_ (ih _ h4)
      rcases h1 with rfl | rfl
      · exact RepA.any _
      · exact h3
theorem SR.nilrow (hs : SR cx st a w fz β) {d sz : Nat} {T : TypeId} (hlow : d < 1000000) (hn : st.noref d = true) : SR cx ⟨st.tmps, upd st.objs d (.row T sz [])⟩ a w fz (bup β d none) := by
  refine ⟨hs.d.stp (Stp.bupN _ _ _ _), hs.low, ⟨hs.rel.os, hs.rel.tape, hs.rel.output, hs.rel.size, hs.rel.old, hs.rel.shp, hs.rel.fzin, hs.rel.fzout, ?_, ?_, hs.rel.glob, fun k hk h0 => (bup_other _ _ _ (by omega)).trans (hs.rel.bhi k hk h0)⟩, ⟨?_, hs.h.fzlt, ?_, ?_, ?_⟩, ?_⟩
  · intro j b hj
    have : j ≠ d := fun e => by subst e; rw [hs.low j hlow] at hj; cases hj
    rw [bup_other _ _ _ this]; exact hs.rel.bin j b hj
  · intro j b hj
    by_cases hjk : j = d
    · subst hjk; rw [bup_same] at hj; cases hj
    · rw [bup_other _ _ _ hjk] at hj; exact hs.rel.bout j b hj
  · intro j b hj
    by_cases hjk : j = d
    · subst hjk; rw [bup_same] at hj; cases hj
    · rw [bup_other _ _ _ hjk] at hj; exact hs.h.lt j b hj
  · intro j j' b h3 h4
    by_cases hjk : j = d
    · subst hjk; rw [bup_same] at h3; cases h3
    · by_cases hjk' : j' = d
      · subst hjk'; rw [bup_same] at h4; cases h4
      · rw [bup_other _ _ _ hjk] at h3; rw [bup_other _ _ _ hjk'] at h4; exact hs.h.inj _ _ _ h3 h4
  · intro b hb' j hj
    by_cases hjk : j = d
    · subst hjk; rw [bup_same] at hj; cases hj
    · rw [bup_other _ _ _ hjk] at hj; exact hs.h.apart b hb' j hj
  · intro j o hj
    rw [find_upd] at hj
    by_cases hjk : d = j
    · subst hjk; rw [if_pos rfl] at hj; cases hj; exact .inl ⟨bup_same _ _ _, rfl⟩
    · rw [if_neg hjk] at hj
      refine (hs.h.ob j o hj).adv (Adv.refl _ _) (fun _ h => h) (bup_other _ _ _ (Ne.symm hjk)) (fun _ _ => rfl) (fun m hm' => bup_other _ _ _ ?_) (Stp.bupN _ _ _ _)
      intro e; subst e; rw [St.noref_o hn hj (Ne.symm hjk)] at hm'; cases hm'
  · refine hs.t.mono fun u v hu' hv' => hv'.adv (Adv.refl _ _) (fun _ h => h) (fun m hm' => bup_other _ _ _ ?_)
    intro e; subst e; rw [St.noref_t hn hu'] at hm'; cases hm'
/-- A slice that is nil becomes a row of the call's own, of no elements. -/
theorem AWp.seed (t d sz : Nat) (T : TypeId) (ht : st.tmps[t]? = some (.c (.p (.s (.slice none 0 0))))) (hlow : d < 1000000) (hn : st.noref d = true) (h : AWp P cx c ⟨st.tmps.set t (.c (.own d sz 0)), upd st.objs d (.row T sz [])⟩ Q) : AWp P cx c st Q := fun a w ⟨fz, β, hs⟩ => by
  refine h a w ⟨fz, bup β d none, ?_⟩
  have h1 := hs.nilrow (T := T) (sz := sz) hlow hn
  refine ⟨h1.d, h1.low, h1.rel, h1.h, ?_⟩
  obtain ⟨v, h2, h3⟩ := hs.t.get ht
  have := RepA.eq h3; subst this
  have h4 : RepA w fz (bup β d none) (.c (.own d sz 0)) (.slice none 0 0) := .inl ⟨bup_same _ _ _, rfl, rfl⟩
  have h5 := h1.t.set h4 t
  have h6 : a.tmps.toList.set t (.slice none 0 0) = a.tmps.toList := by
    apply List.ext_getElem?
    intro i
    rw [List.getElem?_set]
    split
    · rename_i hi; subst hi
      split
      · exact h2.symm
      · rename_i hlt; rw [List.getElem?_eq_none (by omega)]
    · rfl
  rw [h6] at h5
  exact h5
end
end Go.Proofs.Vl
end
section
/- More rules: rows given up to be only read; loops of few rounds; functions of no body. -/
set_option linter.all false
namespace Go.Proofs.Vl
open Go Go.RowKit
section
variable {P : Program} {cx : Cx} {st : St} {a : Act} {w : World} {fz : Nat → Prop} {β : Nat → Option Nat} {Q : Exit → St → Prop} {c : Code}
variable {K : St → Prop} {dst : Option Tmp} {ty T T' E : TypeId} {pos : String} {af : Array Edge} {gd : Option (Nat × Bool)} {x y : Operand} {n k off : Nat} {kp : Bool}
/-! ### A row is only read from now on -/
def CV.frz (k sz : Nat) (xs : List (List PV)) : CV → CV
  | .own j s n => cond (j == k) (cond (s == sz && n == xs.length) (.p (.fro xs)) .any) (.own j s n)
  | .win j s off n => cond (j == k) (cond (s == sz && decide (off + n ≤ xs.length)) (.p (.fro ((xs.drop off).take n))) .any) (.win j s off n)
  | x => cond (x.ref k) .any x
def TV.frz (k sz : Nat) (xs : List (List PV)) : TV → TV
  | .c x => .c (x.frz k sz xs)
  | .agg cs => .agg (cs.map (CV.frz k sz xs))
  | .pag cs => .pag cs
def AV.frz (k sz : Nat) (xs : List (List PV)) : AV → AV
  | .c x => .c (x.frz k sz xs)
  | .agg cs => .agg (cs.map (CV.frz k sz xs))
  | .pag cs => .pag cs
  | .tup zs => .tup (zs.map (TV.frz k sz xs))
def Ob.frz (k sz : Nat) (xs : List (List PV)) : Ob → Ob
  | .cells T cs => .cells T (cs.map (CV.frz k sz xs))
  | .pcells T cs => .pcells T cs
  | .row T s xs => .row T s xs
  | .mapo es clock => .mapo es clock
  | .tok F J => .tok F J
  | .sav zs vs => .sav (zs.map (AV.frz k sz xs)) vs
def ofrz (k sz : Nat) (xs : List (List PV)) : List (Nat × Ob) → List (Nat × Ob)
  | [] => []
  | (j, o) :: r => cond (j == k) (ofrz k sz xs r) ((j, o.frz k sz xs) :: ofrz k sz xs r)
theorem find_ofrz (k sz : Nat) (xs : List (List PV)) (j : Nat) : ∀ os : List (Nat × Ob), find (ofrz k sz xs os) j = if j = k then none else (find os j).map (Ob.frz k sz xs)
  | [] => by simp [ofrz, find]
  | (i, o) :: r => by
    have ih := find_ofrz k sz xs j r
    unfold ofrz
    by_cases h : i = k
    · subst h
      simp only [BEq.rfl, cond_true, ih, find_cons]
      by_cases h2 : j = i
      · simp [h2]
      · rw [if_neg h2, if_neg h2, if_neg (Ne.symm h2)]
    · have h' : (i == k) = false := by simpa using h
      simp only [h', cond_false, find_cons, ih]
      by_cases h2 : i = j
      · subst h2; simp [h]
      · rw [if_neg h2, if_neg h2]
theorem SR.freeze (hs : SR cx st a w fz β) {k sz : Nat} {T : TypeId} {xs : List (List PV)} (hlow : k < 1000000) (hf : find st.objs k = some (.row T sz xs)) :
    ∃ fz2, SR cx ⟨st.tmps.map (AV.frz k sz xs), ofrz k sz xs st.objs⟩ a w fz2 (bup β k none) := by
  have hβk : ∀ b, β k = some b → cx.w0.heap.size ≤ b := fun b hb => (hs.rel.bout k b hb).resolve_left (by rw [hs.low k hlow]; simp)
  refine ⟨fun b => fz b ∨ β k = some b, ?_⟩
  have hsub : ∀ b, fz b → fz b ∨ β k = some b := fun b hb => .inl hb
  -- one cell
  have hC : ∀ x v, RepC w fz β x v → RepC w (fun b => fz b ∨ β k = some b) (bup β k none) (x.frz k sz xs) v := by
    intro x v hv
    have keep : x.ref k = false → RepC w (fun b => fz b ∨ β k = some b) (bup β k none) x v := fun hr => hv.adv (Adv.refl _ _) hsub (fun j hj => bup_other _ _ _ (by intro e; subst e; rw [hr] at hj; cases hj))
    have row : ∀ z, x.ref k = true → (x = .own k sz xs.length ∧ z = xs ∨ ∃ off n, x = .win k sz off n ∧ off + n ≤ xs.length ∧ z = (xs.drop off).take n) → RepP w (fun b => fz b ∨ β k = some b) (.fro z) v := by
      intro z _ hx
      have he : elems st (.c x) = some z := by
        rcases hx with ⟨rfl, rfl⟩ | ⟨off, n, rfl, h1, rfl⟩
        · simp [elems, hf]
        · simp [elems, hf, h1]
      obtain ⟨sz', hL⟩ := hs.lies (z := .c x) hv he
      by_cases hz : z = []
      · subst hz
        obtain ⟨ad, cap, h1, _⟩ := hL.ex
        subst h1; exact .nil _ _
      · refine hL.fro hsub (fun b o u hu hb => ?_)
        rcases hx with ⟨rfl, rfl⟩ | ⟨off, n, rfl, h1, rfl⟩
        · rcases hv with ⟨_, _, rfl⟩ | ⟨b', cap, T', h2, rfl, _⟩
          · simp [Value.ownBlock] at hb
          · simp [Value.ownBlock] at hb; subst hb; exact .inr h2
        · rcases hv with ⟨h0, ad, cap, h2⟩ | ⟨b', cap, h2, rfl, _⟩
          · exact absurd (by subst h0; simp) hz
          · simp [Value.ownBlock] at hb; subst hb; exact .inr h2
    have other : ∀ y, (y = cond (x.ref k) .any x) → RepC w (fun b => fz b ∨ β k = some b) (bup β k none) y v := by
      intro y hy
      subst hy
      cases hr : x.ref k with
      | true => trivial
      | false => exact keep hr
    cases x with
    | own j s n =>
      dsimp only [CV.frz]
      cases hj : (j == k) with
      | false => exact keep hj
      | true =>
        rw [cond_true]
        cases hc : (s == sz && n == xs.length) with
        | false => trivial
        | true =>
          simp only [Bool.and_eq_true, beq_iff_eq] at hc hj
          obtain ⟨rfl, rfl⟩ := hc
          subst hj
          exact row xs (by simp [CV.ref]) (.inl ⟨rfl, rfl⟩)
    | win j s off n =>
      dsimp only [CV.frz]
      cases hj : (j == k) with
      | false => exact keep hj
      | true =>
        rw [cond_true]
        cases hc : (s == sz && decide (off + n ≤ xs.length)) with
        | false => trivial
        | true =>
          simp only [Bool.and_eq_true, beq_iff_eq, decide_eq_true_eq] at hc hj
          obtain ⟨rfl, h1⟩ := hc
          subst hj
          exact row _ (by simp [CV.ref]) (.inr ⟨off, n, rfl, h1, rfl⟩)
    | _ => exact other _ rfl
  have hC1 : ∀ x v, RepC1 w fz β x v → RepC1 w (fun b => fz b ∨ β k = some b) (bup β k none) (x.frz k sz xs) v := fun x v h => ⟨h.1, hC x v h.2⟩
  have hP : ∀ x v, RepP w fz x v → RepP w (fun b => fz b ∨ β k = some b) x v := fun x v h => h.adv (Adv.refl _ _) hsub
  have hst : Stp w fz β w (fun b => fz b ∨ β k = some b) (bup β k none) := .here (fun _ h => .inl h) (fun b _ hb => hb.imp id (fun h => ⟨k, h⟩)) (Stp.bupN w fz β k).own
  have hAV : ∀ x v, RepA w fz β x v → RepA w (fun b => fz b ∨ β k = some b) (bup β k none) (x.frz k sz xs) v := fun x v hx => by
    cases x with
    | c y => exact hC y v hx
    | agg cs => obtain ⟨vs, h1, h2⟩ := hx; exact ⟨vs, h1, h2.map _ fun y u hy => hC1 y u hy⟩
    | pag cs => obtain ⟨vs, h1, h2⟩ := hx; exact ⟨vs, h1, h2.mono fun y u _ hy => hP y u hy⟩
    | tup zs =>
      obtain ⟨vs, h1, h2⟩ := hx
      refine ⟨vs, h1, h2.map _ fun z u hz => ?_⟩
      cases z with
      | c y => exact hC y u hz
      | agg cs => obtain ⟨vs, h1, h2⟩ := hz; exact ⟨vs, h1, h2.map _ fun y u hy => hC1 y u hy⟩
      | pag cs => obtain ⟨vs, h1, h2⟩ := hz; exact ⟨vs, h1, h2.mono fun y u _ hy => hP y u hy⟩
  refine ⟨hs.d.stp hst, hs.low, ⟨hs.rel.os, hs.rel.tape, hs.rel.output, hs.rel.size, hs.rel.old, hs.rel.shp, fun b hb => .inl (hs.rel.fzin b hb), fun b hb => ?_, fun j b hj => ?_, fun j b hj => ?_, fun g cs hg => (hs.rel.glob g cs hg).glob_adv (Adv.refl _ _) hsub, fun j hj h0 => (bup_other _ _ _ (by omega)).trans (hs.rel.bhi j hj h0)⟩, ⟨fun j b hj => ?_, fun b hb => ?_, fun j j' b h1 h2 => ?_, fun b hb j hj => ?_, fun j o hj => ?_⟩, hs.t.map _ fun x v hx => ?_⟩
  · rcases hb with hb | hb
    · exact hs.rel.fzout b hb
    · exact .inr (hβk b hb)
  · have : j ≠ k := fun e => by subst e; rw [hs.low j hlow] at hj; cases hj
    rw [bup_other _ _ _ this]; exact hs.rel.bin j b hj
  · by_cases hjk : j = k
    · subst hjk; rw [bup_same] at hj; cases hj
    · rw [bup_other _ _ _ hjk] at hj; exact hs.rel.bout j b hj
  · by_cases hjk : j = k
    · subst hjk; rw [bup_same] at hj; cases hj
    · rw [bup_other _ _ _ hjk] at hj; exact hs.h.lt j b hj
  · rcases hb with hb | hb
    · exact hs.h.fzlt b hb
    · exact hs.h.lt _ _ hb
  · by_cases hjk : j = k
    · subst hjk; rw [bup_same] at h1; cases h1
    · by_cases hjk' : j' = k
      · subst hjk'; rw [bup_same] at h2; cases h2
      · rw [bup_other _ _ _ hjk] at h1; rw [bup_other _ _ _ hjk'] at h2; exact hs.h.inj _ _ _ h1 h2
  · by_cases hjk : j = k
    · subst hjk; rw [bup_same] at hj; cases hj
    · rw [bup_other _ _ _ hjk] at hj
      rcases hb with hb | hb
      · exact hs.h.apart b hb j hj
      · exact hjk (hs.h.inj _ _ _ hj hb)
  · rw [find_ofrz] at hj
    by_cases hjk : j = k
    · rw [if_pos hjk] at hj; cases hj
    · rw [if_neg hjk] at hj
      obtain ⟨o', ho, rfl⟩ := Option.map_eq_some_iff.1 hj
      have hO := hs.h.ob j o' ho
      have hb := bup_other β k none hjk
      cases o' with
      | cells T' cs => obtain ⟨b, vs, h1, h2, h3⟩ := hO; exact ⟨b, vs, hb.trans h1, h2, h3.map _ fun x v hx => hC1 x v hx⟩
      | pcells T' cs => obtain ⟨b, vs, h1, h2, h3⟩ := hO; exact ⟨b, vs, hb.trans h1, h2, h3.mono fun x v _ hx => hP x v hx⟩
      | row T' s ys =>
        rcases hO with ⟨h1, h2⟩ | ⟨b, vs, h1, h2, h3, h4, h5⟩
        · exact .inl ⟨hb.trans h1, h2⟩
        · exact .inr ⟨b, vs, hb.trans h1, h2, h3, h4, h5.mono fun x v _ hx => hP x v hx⟩
      | mapo es clock => obtain ⟨b, h1, h2⟩ := hO; exact ⟨b, hb.trans h1, h2⟩
      | tok F J => exact tok_stp hO hst
      | sav zs vs => exact All2.map (R := RepA w fz β) _ hO fun x v hx => hAV x v hx
  · exact hAV x v hx
  /- cases x with
    | c y => exact hC y v hx
    | agg cs => obtain ⟨vs, h1, h2⟩ := hx; exact ⟨vs, h1, h2.map _ fun y u hy => hC1 y u hy⟩
    | pag cs => obtain ⟨vs, h1, h2⟩ := hx; exact ⟨vs, h1, h2.mono fun y u _ hy => hP y u hy⟩
    | tup zs =>
      obtain ⟨vs, h1, h2⟩ := hx
      refine ⟨vs, h1, h2.map _ fun z u hz => ?_⟩
      cases z with
      | c y => exact hC y u hz
      | agg cs => obtain ⟨vs, h1, h2⟩ := hz; exact ⟨vs, h1, h2.map _ fun y u hy => hC1 y u hy⟩
      | pag cs => obtain ⟨vs, h1, h2⟩ := hz; exact ⟨vs, h1, h2.mono fun y u _ hy => hP y u hy⟩ -/
theorem Le.freeze {k sz : Nat} {T : TypeId} {xs : List (List PV)} (hlow : k < 1000000) (hf : find st.objs k = some (.row T sz xs)) : Le cx st ⟨st.tmps.map (AV.frz k sz xs), ofrz k sz xs st.objs⟩ := by
  intro a w h
  obtain ⟨fz, β, hs⟩ := h
  obtain ⟨fz2, h2⟩ := hs.freeze hlow hf
  exact ⟨fz2, _, h2⟩
theorem Le.trans {s1 s2 s3 : St} (h : Le cx s1 s2) (h' : Le cx s2 s3) : Le cx s1 s3 := fun a w hs => h' a w (h a w hs)
/-! ### Loops of few rounds -/
def UN (P : Program) (cx : Cx) (c : Code) (Q : Exit → St → Prop) : Nat → St → Prop
  | 0, _ => False
  | n + 1, s => AWp P cx c s (thn (fun s' => UN P cx c Q n s') Q)
theorem AWp.unroll (n : Nat) (h : UN P cx c Q n st) : AWp P cx (.loop c) st Q := by
  refine AWp.loop (fun m s => UN P cx c Q m s) n h (fun m s hm => ?_)
  cases m with
  | zero => exact hm.elim
  | succ m => exact hm.mono fun e s q => by cases e <;> first | exact q | exact ⟨m, s, Nat.lt_succ_self _, q, Le.refl⟩
/-- A function of no body, over values that are known. -/
theorem Val.ext {f : Nat} {xs : List Operand} {ats : Array TypeId} {vs : List Value} {v : Value} {z : AV} (ho : okOps xs = true) (hx : xs.map (fun x => exV (st.op cx x)) = vs.map some) (hz : ∀ w fz β, RepA w fz β z v) (hr : ∀ w, (callFunc f vs.toArray).run P w = .ok (.value v) w) :
    Val P cx true ⟨dst, .call { callee := .value (.func f), args := xs.toArray, argTypes := ats }, ty, pos, af, gd⟩ st z := fun a w fz β hs => by
  have he : xs.map a.eval = vs := by
    clear hr
    induction xs generalizing vs with
    | nil => cases vs with | nil => rfl | cons v vs => simp at hx
    | cons x xs ih =>
      cases vs with
      | nil => simp at hx
      | cons v vs =>
        simp only [List.map_cons, List.cons.injEq] at hx ⊢
        simp only [okOps, List.all_cons, Bool.and_eq_true] at ho
        exact ⟨hs.eq (exV_eq hx.1) ho.1, ih ho.2 hx.2⟩
  refine ⟨v, hz w fz β, fun w' _ => ?_⟩
  have h1 : (execOp a.eval ⟨dst, .call { callee := .value (.func f), args := xs.toArray, argTypes := ats }, ty, pos, af, gd⟩) = callFunc f (xs.map a.eval).toArray := by
    simp [execOp, resolve, Act.eval, Deferred.ofValue, invoke]
  rw [h1, he]; exact hr w'
end
end Go.Proofs.Vl
end
section
/- More rules: scopes; which operations write. -/
set_option linter.all false
namespace Go.Proofs.Vl
open Go Go.RowKit
section
variable {P : Program} {cx : Cx} {st : St} {Q : Exit → St → Prop} {c : Code}
/-- A label that no goto leads to. -/
def nog (Q : Exit → St → Prop) : Exit → St → Prop
  | .goto _, _ => False
  | .normal, s => Q .normal s
  | .exit i, s => Q (.exit i) s
  | .ret, s => Q .ret s
  | .panic p, s => Q (.panic p) s
  | .outgrown, s => Q .outgrown s
theorem AWp.scope (h : AWp P cx c st (nog Q)) : AWp P cx (.scope c) st Q := fun a w hs => by
  refine Vl.wpIn_scope (Go.wpIn_mono (h a w hs) ?_)
  rintro e a' w' ⟨s, q, r⟩
  cases e with
  | goto l => exact q.elim
  | _ => exact ⟨s, q, r⟩
theorem nog_n (h : Q .normal st) : nog Q .normal st := h
theorem nog_r (h : Q .ret st) : nog Q .ret st := h
theorem nog_e {i : Nat} (h : Q (.exit i) st) : nog Q (.exit i) st := h
def isWr : Op → Bool
  | .store .. | .entryStore .. | .mapUpdate .. | .insert .. => true
  | .call c => match c.callee with
    | .builtin .append | .builtin .copy | .builtin .delete | .builtin .clear => true
    | _ => false
  | _ => false
def wrs : Nat → List Oper → List Nat
  | _, [] => []
  | n, o :: r => cond (isWr o.op) (n :: wrs (n + 1) r) (wrs (n + 1) r)
theorem AWp.dla {id : Nat} {l : List Oper} {ds : List (Option Tmp)} (hm : P.follows .mixedOrders = true) (hs : l.all noSel = true) (hds : l.map (·.dst) = ds) (h : DL P cx ds (wrs 0 l) (enum 0 l) st (fun s => Q .normal s)) : AWp P cx (.region id l.toArray true) st Q :=
  AWp.dl _ hm hs hds h
theorem UN_succ {n : Nat} (h : AWp P cx c st (thn (fun s' => UN P cx c Q n s') Q)) : UN P cx c Q (n + 1) st := h
end
end Go.Proofs.Vl
namespace Go.Proofs.Vl
open Go Go.RowKit
section
variable {P : Program} {cx : Cx} {st st0 : St} {Q : Exit → St → Prop} {c : Code}
/-- A loop, from a state that says less. -/
theorem AWp.loopW (st0 : St) (I : Nat → St → Prop) (n : Nat) (hl : Le cx st st0) (h0 : I n st0)
    (hr : ∀ n s, I n s → AWp P cx c s (thn (fun s' => ∃ m s'', m < n ∧ I m s'' ∧ Le cx s' s'') Q)) : AWp P cx (.loop c) st Q := AWp.weak hl (AWp.loop I n h0 hr)
theorem round {s' : St} {I : Nat → St → Prop} {n : Nat} (m : Nat) (s'' : St) (hm : m < n) (hi : I m s'') (hl : Le cx s' s'') : ∃ m s'', m < n ∧ I m s'' ∧ Le cx s' s'' := ⟨m, s'', hm, hi, hl⟩
end
theorem find_none {k : Nat} {x : Ob} {q : Prop} (h : find [] k = some x) : q := by cases h
theorem find_keep {j k : Nat} {o x : Ob} {r r' : List (Nat × Ob)} (h : find r k = some x → find r' k = some x) (h' : find ((j, o) :: r) k = some x) : find ((j, o) :: r') k = some x := by
  simp only [find] at h' ⊢
  cases hjk : (j == k)
  · rw [hjk] at h'; exact h h'
  · rw [hjk] at h'; exact h'
theorem find_skip {j k : Nat} {o x : Ob} {r r' : List (Nat × Ob)} (hn : find r j = none) (h : find r k = some x → find r' k = some x) (h' : find r k = some x) : find ((j, o) :: r') k = some x := by
  simp only [find]
  cases hjk : (j == k)
  · exact h h'
  · rw [show j = k by simpa using hjk, h'] at hn; cases hn
theorem OpTo.weak {P : Program} {cx : Cx} {st st' : St} {K : St → Prop} {kp : Bool} {o : Oper} (hl : Le cx st st') (h : OpTo P cx kp o st' K) : OpTo P cx kp o st K := fun a w next Qx hs => h a w next Qx (hl a w hs)
theorem roundZ {cx : Cx} {s' s1 : St} {I : Nat → St → Prop} {n : Nat} (hl : Le cx s' s1) (h : ∃ m s'', m < n ∧ I m s'' ∧ Le cx s1 s'') : ∃ m s'', m < n ∧ I m s'' ∧ Le cx s' s'' := by
  obtain ⟨m, s'', h1, h2, h3⟩ := h
  exact ⟨m, s'', h1, h2, hl.trans h3⟩
/-- What follows a loop is walked once, whichever way it is left. -/
theorem AWp.cutB {P : Program} {cx : Cx} {x y : Code} {st : St} {id : Nat} {Q : Exit → St → Prop} (E : St → Prop) (h2 : ∀ s, E s → AWp P cx y s Q) (h1 : AWp P cx x st (inb id (thn (fun s => ∃ s', E s' ∧ Le cx s s') Q))) :
    AWp P cx x st (inb id (thn (fun s => AWp P cx y s Q) Q)) := by
  refine h1.mono fun e s h => ?_
  have H : ∀ s, (∃ s', E s' ∧ Le cx s s') → AWp P cx y s Q := fun s ⟨s', he, hl⟩ => AWp.weak hl (h2 s' he)
  cases e with
  | normal => exact H s h
  | ret => exact h
  | goto l => exact h
  | panic c => exact h
  | outgrown => exact h
  | exit i =>
    simp only [inb] at h ⊢
    split at h
    · rename_i hi; simp only [hi, if_true]; exact H s h
    · rename_i hi; simp only [hi, if_false]; exact h
theorem leave {cx : Cx} {E : St → Prop} {s : St} (s' : St) (he : E s') (hl : Le cx s s') : ∃ s', E s' ∧ Le cx s s' := ⟨s', he, hl⟩
/-- A slice that is told: its elements are given. -/
theorem OpTo.litR {P : Program} {cx : Cx} {st : St} {K : St → Prop} {kp : Bool} {E T ty : TypeId} {pos : String} {af : Array Edge} {gd : Option (Nat × Bool)} (rows : List (List PV)) {d len : Nat} {z : Value} {sz by_ : Nat} {parts : List (Nat × Operand)} {cs : List PV} (hu : P.underlying T = some (.slice E)) (hE : tyF P E = some (some z, sz, by_)) (hzs : z.cells.size = sz) (hs0 : 0 < sz) (hok : okV z = true) (hnt : z.oneCell' = true ∨ ∃ cs, z = .agg cs)
    (hb : len * sz ≤ 16777216) (ho : parts.all (fun p => okOp p.2) = true) (hf : fillA (fun i => some (i * sz, sz)) (zeros sz z len) (parts.map fun p => (p.1, pvs (st.op cx p.2))) = some cs) (hlow : d < 1000000) (hd : st.noref d = true) (hr : chunks sz len cs = rows)
    (kk : K (St.put ⟨st.tmps, upd st.objs d (.row E sz rows)⟩ (some d) (.c (.own d sz len)))) : OpTo P cx kp ⟨some d, .buildSlice T len parts.toArray, ty, pos, af, gd⟩ st K :=
  OpTo.lit hu hE hzs hs0 hok hnt hb ho hf hlow hd (by rw [hr]; exact kk)
abbrev vi (n : Int) : AV := .c (.p (.s (.int .i64 n)))
abbrev vu (n : Int) : AV := .c (.p (.s (.int .u64 n)))
abbrev vb (b : Bool) : AV := .c (.p (.s (.bool b)))
abbrev ti (n : Int) : TV := .c (.p (.s (.int .i64 n)))
abbrev tu (n : Int) : TV := .c (.p (.s (.int .u64 n)))
abbrev tb (b : Bool) : TV := .c (.p (.s (.bool b)))
abbrev A_ : AV := .c .any
def fus (l : List Int) : AV := .c (.p (.fro (l.map (pvI .u64))))
def fis (l : List Int) : AV := .c (.p (.fro (l.map (pvI .i64))))
theorem frz_fus {k sz xs l} : AV.frz k sz xs (fus l) = fus l := rfl
theorem frz_fis {k sz xs l} : AV.frz k sz xs (fis l) = fis l := rfl
theorem kill_fus {k l} : AV.kill k (fus l) = fus l := rfl
theorem kill_fis {k l} : AV.kill k (fis l) = fis l := rfl
theorem fmap_at {α : Type} (f : α → List PV) (l : List α) (j : Nat) (h : j < l.length) : (l.map f)[j]? = some (f l[j]) := by simp [h]
end Go.Proofs.Vl
end
section
/- Calls that are lent the caller's blocks, and functions that are values. -/
set_option linter.all false
namespace Go.Proofs.Vl
open Go Go.RowKit

/-! ### Names as the callee has them -/
def Cap.up : Cap → Cap
  | .key k => .key (k + 1000000)
  | .val x => .val x
  | .fz cs => .fz cs
def CV.up : CV → CV
  | .own k sz n => .own (k + 1000000) sz n
  | .win k sz off n => .win (k + 1000000) sz off n
  | .ptr k off => .ptr (k + 1000000) off
  | .rptr k sz i c => .rptr (k + 1000000) sz i c
  | .fn f caps => .fn f (caps.map Cap.up)
  | .mp k => .mp (k + 1000000)
  | .p x => .p x
  | .eptr cs => .eptr cs
  | .any => .any
def TV.up : TV → TV
  | .c x => .c x.up
  | .agg cs => .agg (cs.map CV.up)
  | .pag cs => .pag cs
def AV.up : AV → AV
  | .c x => .c x.up
  | .agg cs => .agg (cs.map CV.up)
  | .pag cs => .pag cs
  | .tup xs => .tup (xs.map TV.up)
def Ob.up : Ob → Ob
  | .cells T cs => .cells T (cs.map CV.up)
  | .pcells T cs => .pcells T cs
  | .row T sz xs => .row T sz xs
  | .mapo es clock => .mapo es clock
  | .tok F J => .tok F J
  | .sav xs vs => .sav (xs.map AV.up) vs
def lend : List (Nat × Ob) → List (Nat × Ob)
  | [] => []
  | (k, o) :: r => (k + 1000000, o.up) :: lend r
def βup (β : Nat → Option Nat) : Nat → Option Nat := fun k => if k < 1000000 then none else β (k - 1000000)
theorem βup_add (β : Nat → Option Nat) (k : Nat) : βup β (k + 1000000) = β k := by
  unfold βup; rw [if_neg (by omega), Nat.add_sub_cancel]
theorem βup_low (β : Nat → Option Nat) {k : Nat} (h : k < 1000000) : βup β k = none := by unfold βup; rw [if_pos h]
section
variable {w : World} {fz : Nat → Prop} {β : Nat → Option Nat}
theorem RepCap.up {x : Cap} {v : Value} (h : RepCap w fz β x v) : RepCap w fz (βup β) x.up v := by
  cases x with
  | key k => obtain ⟨b, h1, h2⟩ := h; exact ⟨b, (βup_add β k).trans h1, h2⟩
  | val x => exact h
  | fz cs => exact h
theorem RepC.up {x : CV} {v : Value} (h : RepC w fz β x v) : RepC w fz (βup β) x.up v := by
  cases x with
  | p x => exact h
  | own k sz n =>
    rcases h with ⟨h1, h2⟩ | ⟨b, cap, T, h1, h2⟩
    · exact .inl ⟨(βup_add β k).trans h1, h2⟩
    · exact .inr ⟨b, cap, T, (βup_add β k).trans h1, h2⟩
  | win k sz off n =>
    rcases h with h | ⟨b, cap, h1, h2⟩
    · exact .inl h
    · exact .inr ⟨b, cap, (βup_add β k).trans h1, h2⟩
  | ptr k off => obtain ⟨b, h1, h2⟩ := h; exact ⟨b, (βup_add β k).trans h1, h2⟩
  | rptr k sz i c => obtain ⟨b, h1, h2⟩ := h; exact ⟨b, (βup_add β k).trans h1, h2⟩
  | mp k => obtain ⟨b, h1, h2⟩ := h; exact ⟨b, (βup_add β k).trans h1, h2⟩
  | eptr cs => exact h
  | fn f caps => obtain ⟨cv, h1, h2⟩ := h; exact ⟨cv, h1, h2.map _ fun a b h => h.up⟩
  | any => trivial
theorem RepT.up {x : TV} {v : Value} (h : RepT w fz β x v) : RepT w fz (βup β) x.up v := by
  cases x with
  | c x => exact RepC.up h
  | agg cs => obtain ⟨vs, h1, h2⟩ := h; exact ⟨vs, h1, h2.map _ fun a b h => ⟨h.1, h.2.up⟩⟩
  | pag cs => exact h
theorem RepA.up {x : AV} {v : Value} (h : RepA w fz β x v) : RepA w fz (βup β) x.up v := by
  cases x with
  | c x => exact RepC.up h
  | agg cs => obtain ⟨vs, h1, h2⟩ := h; exact ⟨vs, h1, h2.map _ fun a b h => ⟨h.1, h.2.up⟩⟩
  | pag cs => exact h
  | tup xs => obtain ⟨vs, h1, h2⟩ := h; exact ⟨vs, h1, h2.map _ fun a b h => RepT.up h⟩
theorem RepO.up {k : Nat} {o : Ob} (h : RepO w fz β k o) : RepO w fz (βup β) (k + 1000000) o.up := by
  cases o with
  | cells T cs => obtain ⟨b, vs, h1, h2, h3⟩ := h; exact ⟨b, vs, (βup_add β k).trans h1, h2, h3.map _ fun a b h => ⟨h.1, h.2.up⟩⟩
  | pcells T cs => obtain ⟨b, vs, h1, h2, h3⟩ := h; exact ⟨b, vs, (βup_add β k).trans h1, h2, h3⟩
  | row T sz xs =>
    rcases h with ⟨h1, h2⟩ | ⟨b, vs, h1, h2⟩
    · exact .inl ⟨(βup_add β k).trans h1, h2⟩
    · exact .inr ⟨b, vs, (βup_add β k).trans h1, h2⟩
  | mapo es clock => obtain ⟨b, h1, h2⟩ := h; exact ⟨b, (βup_add β k).trans h1, h2⟩
  | tok F J =>
    obtain ⟨h1, X, h2, h3⟩ := h
    exact ⟨h1, X, fun k b hk => by unfold βup at hk; split at hk; cases hk; exact h2 _ b hk, h3⟩
  | sav xs vs => exact All2.map (R := RepA w fz β) _ h fun x v hx => hx.up
theorem find_lend : ∀ {os : List (Nat × Ob)} {k' : Nat} {o' : Ob}, find (lend os) k' = some o' → ∃ k o, k' = k + 1000000 ∧ o' = o.up ∧ find os k = some o
  | [], k', o', h => by cases h
  | (j, p) :: r, k', o', h => by
    rw [lend, find_cons] at h
    by_cases hj : j + 1000000 = k'
    · rw [if_pos hj] at h; cases h
      exact ⟨j, p, hj.symm, rfl, by rw [find_cons, if_pos rfl]⟩
    · rw [if_neg hj] at h
      obtain ⟨k, o, h1, h2, h3⟩ := find_lend h
      exact ⟨k, o, h1, h2, by rw [find_cons, if_neg (by omega)]; exact h3⟩
theorem H.lend {os : List (Nat × Ob)} (h : H w fz β os) : H w fz (βup β) (lend os) where
  lt := fun k b hk => by unfold βup at hk; split at hk; cases hk; exact h.lt _ b hk
  fzlt := h.fzlt
  inj := fun k k' b h1 h2 => by
    unfold βup at h1 h2
    split at h1; cases h1
    split at h2; cases h2
    have := h.inj _ _ _ h1 h2; omega
  apart := fun b hb k hk => by unfold βup at hk; split at hk; cases hk; exact h.apart b hb _ hk
  ob := fun k' o' hk => by
    obtain ⟨k, o, rfl, rfl, h1⟩ := find_lend hk
    exact (h.ob k o h1).up
end

/-! ### And back. im: the callee's own blocks that the caller takes over, under which names -/
def look : List (Nat × Nat) → Nat → Option Nat
  | [], _ => none
  | (a, b) :: r, k => cond (a == k) (some b) (look r k)
def lookB : List (Nat × Nat) → Nat → Option Nat
  | [], _ => none
  | (a, b) :: r, j => cond (b == j) (some a) (lookB r j)
def kdn (im : List (Nat × Nat)) (k : Nat) : Option Nat :=
  if 1000000 ≤ k then match lookB im (k - 1000000) with
    | some _ => none
    | none => some (k - 1000000)
  else look im k
theorem kdn_hi {im : List (Nat × Nat)} {k j : Nat} (hk : 1000000 ≤ k) (h : kdn im k = some j) : lookB im j = none ∧ k = j + 1000000 := by
  unfold kdn at h
  rw [if_pos hk] at h
  generalize hm : k - 1000000 = m at h
  cases hb : lookB im m with
  | some x => rw [hb] at h; cases h
  | none => rw [hb] at h; cases h; exact ⟨hb, by omega⟩
theorem kdn_lo {im : List (Nat × Nat)} {k : Nat} (hk : ¬ 1000000 ≤ k) : kdn im k = look im k := by
  unfold kdn; rw [if_neg hk]
attribute [local irreducible] kdn
def imOk : List (Nat × Nat) → Bool
  | [] => true
  | (a, b) :: r => decide (a < 1000000) && decide (b < 1000000) && (look r a).isNone && (lookB r b).isNone && imOk r
def capDn (im : List (Nat × Nat)) : List Cap → Option (List Cap)
  | [] => some []
  | .val x :: r => (capDn im r).map (Cap.val x :: ·)
  | .fz cs :: r => (capDn im r).map (Cap.fz cs :: ·)
  | .key k :: r => match kdn im k with
    | some j => (capDn im r).map (Cap.key j :: ·)
    | none => none
def CV.dn (im : List (Nat × Nat)) : CV → CV
  | .own k sz n => match kdn im k with | some j => .own j sz n | none => .any
  | .win k sz off n => match kdn im k with | some j => .win j sz off n | none => .any
  | .ptr k off => match kdn im k with | some j => .ptr j off | none => .any
  | .rptr k sz i c => match kdn im k with | some j => .rptr j sz i c | none => .any
  | .fn f caps => match capDn im caps with | some cs => .fn f cs | none => .any
  | .mp k => match kdn im k with | some j => .mp j | none => .any
  | .p x => .p x
  | .eptr cs => .eptr cs
  | .any => .any
def TV.dn (im : List (Nat × Nat)) : TV → TV
  | .c x => .c (x.dn im)
  | .agg cs => .agg (cs.map (CV.dn im))
  | .pag cs => .pag cs
def AV.dn (im : List (Nat × Nat)) : AV → AV
  | .c x => .c (x.dn im)
  | .agg cs => .agg (cs.map (CV.dn im))
  | .pag cs => .pag cs
  | .tup xs => .tup (xs.map (TV.dn im))
def Ob.dn (im : List (Nat × Nat)) : Ob → Ob
  | .cells T cs => .cells T (cs.map (CV.dn im))
  | .pcells T cs => .pcells T cs
  | .row T sz xs => .row T sz xs
  | .mapo es clock => .mapo es clock
  | .tok F J => .tok F J
  | .sav xs vs => .sav (xs.map (AV.dn im)) vs
def dnO (im : List (Nat × Nat)) : List (Nat × Ob) → List (Nat × Ob)
  | [] => []
  | (k, o) :: r => match kdn im k with | some j => (j, o.dn im) :: dnO im r | none => dnO im r
theorem look_B : ∀ {im : List (Nat × Nat)} {k j : Nat}, imOk im = true → look im k = some j → lookB im j = some k ∧ k < 1000000 ∧ j < 1000000
  | [], k, j, _, h => by cases h
  | (a, b) :: r, k, j, ho, h => by
    simp only [imOk, Bool.and_eq_true, decide_eq_true_eq, Option.isNone_iff_eq_none] at ho
    obtain ⟨⟨⟨⟨h1, h2⟩, h3⟩, h4⟩, h5⟩ := ho
    unfold look at h
    unfold lookB
    cases hk : (a == k) with
    | true =>
      rw [hk] at h; cases h
      have : a = k := by simpa using hk
      subst this
      simp [h1, h2]
    | false =>
      rw [hk] at h
      obtain ⟨h6, h7⟩ := look_B h5 h
      have hb : (b == j) = false := by
        have : b ≠ j := fun e => by subst e; rw [h4] at h6; cases h6
        simpa using this
      rw [hb]; exact ⟨h6, h7⟩
theorem B_look : ∀ {im : List (Nat × Nat)} {k j : Nat}, imOk im = true → lookB im j = some k → look im k = some j ∧ k < 1000000 ∧ j < 1000000
  | [], k, j, _, h => by cases h
  | (a, b) :: r, k, j, ho, h => by
    simp only [imOk, Bool.and_eq_true, decide_eq_true_eq, Option.isNone_iff_eq_none] at ho
    obtain ⟨⟨⟨⟨h1, h2⟩, h3⟩, h4⟩, h5⟩ := ho
    unfold lookB at h
    unfold look
    cases hk : (b == j) with
    | true =>
      rw [hk] at h; cases h
      have : b = j := by simpa using hk
      subst this
      simp [h1, h2]
    | false =>
      rw [hk] at h
      obtain ⟨h6, h7⟩ := B_look h5 h
      have hb : (a == k) = false := by
        have : a ≠ k := fun e => by subst e; rw [h3] at h6; cases h6
        simpa using this
      rw [hb]; exact ⟨h6, h7⟩
def βdn (β β' : Nat → Option Nat) (im : List (Nat × Nat)) : Nat → Option Nat := fun j => match lookB im j with | some k => β' k | none => β j
section
variable {w w' : World} {fz fz' : Nat → Prop} {β β' β2 : Nat → Option Nat} {im : List (Nat × Nat)}
theorem RepCap.dn (hβ : ∀ k j, kdn im k = some j → β2 j = β' k) : ∀ {caps : List Cap} {vs : List Value} {cs : List Cap}, All2 (RepCap w fz β') caps vs → capDn im caps = some cs → All2 (RepCap w fz β2) cs vs
  | _, _, cs, .nil, h => by cases h; exact .nil
  | _, _, cs, .cons (a := .val x) h1 h2, h => by
    simp only [capDn, Option.map_eq_some_iff] at h
    obtain ⟨r, h3, rfl⟩ := h
    exact .cons h1 (RepCap.dn hβ h2 h3)
  | _, _, cs, .cons (a := .fz x) h1 h2, h => by
    simp only [capDn, Option.map_eq_some_iff] at h
    obtain ⟨r, h3, rfl⟩ := h
    exact .cons h1 (RepCap.dn hβ h2 h3)
  | _, _, cs, .cons (a := .key k) h1 h2, h => by
    simp only [capDn] at h
    split at h
    · rename_i j hj
      simp only [Option.map_eq_some_iff] at h
      obtain ⟨r, h3, rfl⟩ := h
      obtain ⟨b, h4, h5⟩ := h1
      exact .cons ⟨b, (hβ _ _ hj).trans h4, h5⟩ (RepCap.dn hβ h2 h3)
    · cases h
theorem RepC.dn (hβ : ∀ k j, kdn im k = some j → β2 j = β' k) {x : CV} {v : Value} (h : RepC w fz β' x v) : RepC w fz β2 (x.dn im) v := by
  cases x with
  | p x => exact h
  | own k sz n =>
    cases hj : kdn im k with
    | none => simp only [CV.dn, hj]; trivial
    | some j =>
      simp only [CV.dn, hj]
      rcases h with ⟨h1, h2⟩ | ⟨b, cap, T, h1, h2⟩
      · exact .inl ⟨(hβ _ _ hj).trans h1, h2⟩
      · exact .inr ⟨b, cap, T, (hβ _ _ hj).trans h1, h2⟩
  | win k sz off n =>
    cases hj : kdn im k with
    | none => simp only [CV.dn, hj]; trivial
    | some j =>
      simp only [CV.dn, hj]
      rcases h with h | ⟨b, cap, h1, h2⟩
      · exact .inl h
      · exact .inr ⟨b, cap, (hβ _ _ hj).trans h1, h2⟩
  | ptr k off =>
    cases hj : kdn im k with
    | none => simp only [CV.dn, hj]; trivial
    | some j => simp only [CV.dn, hj]; obtain ⟨b, h1, h2⟩ := h; exact ⟨b, (hβ _ _ hj).trans h1, h2⟩
  | rptr k sz i c =>
    cases hj : kdn im k with
    | none => simp only [CV.dn, hj]; trivial
    | some j => simp only [CV.dn, hj]; obtain ⟨b, h1, h2⟩ := h; exact ⟨b, (hβ _ _ hj).trans h1, h2⟩
  | mp k =>
    cases hj : kdn im k with
    | none => simp only [CV.dn, hj]; trivial
    | some j => simp only [CV.dn, hj]; obtain ⟨b, h1, h2⟩ := h; exact ⟨b, (hβ _ _ hj).trans h1, h2⟩
  | eptr cs => exact h
  | fn f caps =>
    cases hc : capDn im caps with
    | none => simp only [CV.dn, hc]; trivial
    | some cs => simp only [CV.dn, hc]; obtain ⟨cv, h1, h2⟩ := h; exact ⟨cv, h1, RepCap.dn hβ h2 hc⟩
  | any => trivial
theorem RepT.dn (hβ : ∀ k j, kdn im k = some j → β2 j = β' k) {x : TV} {v : Value} (h : RepT w fz β' x v) : RepT w fz β2 (x.dn im) v := by
  cases x with
  | c x => exact RepC.dn hβ h
  | agg cs => obtain ⟨vs, h1, h2⟩ := h; exact ⟨vs, h1, h2.map _ fun a b h => ⟨h.1, h.2.dn hβ⟩⟩
  | pag cs => exact h
theorem RepA.dn (hβ : ∀ k j, kdn im k = some j → β2 j = β' k) {x : AV} {v : Value} (h : RepA w fz β' x v) : RepA w fz β2 (x.dn im) v := by
  cases x with
  | c x => exact RepC.dn hβ h
  | agg cs => obtain ⟨vs, h1, h2⟩ := h; exact ⟨vs, h1, h2.map _ fun a b h => ⟨h.1, h.2.dn hβ⟩⟩
  | pag cs => exact h
  | tup xs => obtain ⟨vs, h1, h2⟩ := h; exact ⟨vs, h1, h2.map _ fun a b h => RepT.dn hβ h⟩
theorem RepO.dn (hβ : ∀ k j, kdn im k = some j → β2 j = β' k) (hX : ∀ j b, β2 j = some b → ∃ k, β' k = some b) {k j : Nat} (hk : kdn im k = some j) {o : Ob} (h : RepO w fz β' k o) : RepO w fz β2 j (o.dn im) := by
  cases o with
  | cells T cs => obtain ⟨b, vs, h1, h2, h3⟩ := h; exact ⟨b, vs, (hβ _ _ hk).trans h1, h2, h3.map _ fun a b h => ⟨h.1, h.2.dn hβ⟩⟩
  | pcells T cs => obtain ⟨b, vs, h1, h2, h3⟩ := h; exact ⟨b, vs, (hβ _ _ hk).trans h1, h2, h3⟩
  | row T sz xs =>
    rcases h with ⟨h1, h2⟩ | ⟨b, vs, h1, h2⟩
    · exact .inl ⟨(hβ _ _ hk).trans h1, h2⟩
    · exact .inr ⟨b, vs, (hβ _ _ hk).trans h1, h2⟩
  | mapo es clock => obtain ⟨b, h1, h2⟩ := h; exact ⟨b, (hβ _ _ hk).trans h1, h2⟩
  | tok F J =>
    obtain ⟨h1, X, h2, h3⟩ := h
    exact ⟨h1, X, fun j b hj => by obtain ⟨k', hk'⟩ := hX j b hj; exact h2 k' b hk', h3⟩
  | sav xs vs => exact All2.map (R := RepA w fz β') _ h fun x v hx => hx.dn hβ
theorem kdn_inj (ho : imOk im = true) {k k' j : Nat} (h : kdn im k = some j) (h' : kdn im k' = some j) : k = k' := by
  have key : ∀ k, kdn im k = some j → (k < 1000000 ∧ lookB im j = some k) ∨ (1000000 ≤ k ∧ lookB im j = none ∧ k = j + 1000000) := fun k h => by
    by_cases hk : 1000000 ≤ k
    · obtain ⟨h1, h2⟩ := kdn_hi hk h; exact .inr ⟨hk, h1, h2⟩
    · rw [kdn_lo hk] at h; obtain ⟨h1, h2, _⟩ := look_B ho h; exact .inl ⟨h2, h1⟩
  rcases key k h with ⟨h1, h2⟩ | ⟨h1, h2, h3⟩ <;> rcases key k' h' with ⟨g1, g2⟩ | ⟨g1, g2, g3⟩
  · rw [h2] at g2; cases g2; rfl
  · rw [h2] at g2; cases g2
  · rw [h2] at g2; cases g2
  · omega
theorem find_dnO (ho : imOk im = true) : ∀ {os : List (Nat × Ob)} {j : Nat} {o : Ob}, find (dnO im os) j = some o → ∃ k o', kdn im k = some j ∧ o = o'.dn im ∧ find os k = some o'
  | [], j, o, h => by cases h
  | (k, p) :: r, j, o, h => by
    unfold dnO at h
    split at h
    · rename_i i hi
      rw [find_cons] at h
      by_cases hij : i = j
      · subst hij; rw [if_pos rfl] at h; cases h
        exact ⟨k, p, hi, rfl, by rw [find_cons, if_pos rfl]⟩
      · rw [if_neg hij] at h
        obtain ⟨k', o', h1, h2, h3⟩ := find_dnO ho h
        refine ⟨k', o', h1, h2, ?_⟩
        rw [find_cons, if_neg (fun e => by subst e; rw [hi] at h1; cases h1; exact hij rfl)]; exact h3
    · rename_i hi
      obtain ⟨k', o', h1, h2, h3⟩ := find_dnO ho h
      refine ⟨k', o', h1, h2, ?_⟩
      rw [find_cons, if_neg (fun e => by subst e; rw [hi] at h1; cases h1)]; exact h3
end
def norefT (st : St) (im : List (Nat × Nat)) : Bool := im.all fun p => st.tmps.all fun x => !x.ref p.2
section
variable {P : Program} {cx : Cx} {st : St} {a : Act} {w : World} {fz : Nat → Prop} {β : Nat → Option Nat}
variable {kp : Bool} {K : St → Prop} {dst : Option Tmp} {ty T T' E : TypeId} {pos : String} {af : Array Edge} {gd : Option (Nat × Bool)} {x y : Operand}
theorem lookB_mem : ∀ {im : List (Nat × Nat)} {j k : Nat}, lookB im j = some k → ∃ p ∈ im, p.2 = j
  | [], j, k, h => by cases h
  | (a, b) :: r, j, k, h => by
    unfold lookB at h
    cases hb : (b == j) with
    | true => exact ⟨(a, b), by simp, by simpa using hb⟩
    | false => rw [hb] at h; obtain ⟨p, h1, h2⟩ := lookB_mem h; exact ⟨p, by simp [h1], h2⟩
theorem SR.backR (h : SR cx st a w fz β) {im : List (Nat × Nat)} (ho : imOk im = true) (hno : norefT st im = true) {fz' : Nat → Prop} {β' : Nat → Option Nat} {w' : World} {G} {os' : List (Nat × Ob)}
    (hr : Rel (Cx.of w fz (βup β) G) w' fz' β') (hH : H w' fz' β' os') : SR cx ⟨st.tmps, dnO im os'⟩ a w' fz' (βdn β β' im) ∧ ∀ k j, kdn im k = some j → βdn β β' im j = β' k := by
  have hA : Adv fz w w' := .of (fun b hb => hr.old rfl b (h.h.fzlt b hb) (fun k hk => by
    have hk : βup β k = some b := hk
    unfold βup at hk; split at hk; cases hk; exact h.h.apart b hb _ hk)) hr.shp
  have hhi : ∀ k, β' (k + 1000000) = β k := fun k => by
    have e : βup β (k + 1000000) = β k := βup_add β k
    have hm : 1000000 ≤ k + 1000000 := Nat.le_add_left _ _
    generalize k + 1000000 = m at e hm
    cases hb : β k with
    | none => rw [hb] at e; exact hr.bhi m hm e
    | some b => rw [hb] at e; exact hr.bin m b e
  have hβ : ∀ k j, kdn im k = some j → βdn β β' im j = β' k := fun k j hk => by
    by_cases hl : 1000000 ≤ k
    · obtain ⟨h1, rfl⟩ := kdn_hi hl hk
      unfold βdn; rw [h1]; exact (hhi j).symm
    · rw [kdn_lo hl] at hk; obtain ⟨h1, _⟩ := look_B ho hk; unfold βdn; rw [h1]
  have case : ∀ {j : Nat} {b : Nat}, βdn β β' im j = some b → (∃ k, lookB im j = some k ∧ k < 1000000 ∧ j < 1000000 ∧ β' k = some b ∧ w.heap.size ≤ b) ∨ (lookB im j = none ∧ β j = some b) := fun {j b} hj => by
    unfold βdn at hj
    split at hj
    · rename_i k hk
      obtain ⟨_, h2, h3⟩ := B_look ho hk
      refine .inl ⟨k, hk, h2, h3, hj, ?_⟩
      rcases hr.bout k b hj with h1 | h1
      · have h1 : βup β k = some b := h1
        rw [βup_low _ h2] at h1; cases h1
      · exact h1
    · exact .inr ⟨by assumption, hj⟩
  have hsame : ∀ {j : Nat}, lookB im j = none → βdn β β' im j = β j := fun {j} hj => by unfold βdn; rw [hj]
  have hhigh : ∀ {j : Nat}, 1000000 ≤ j → lookB im j = none := fun {j} hj => by
    cases hl : lookB im j with
    | none => rfl
    | some k => have := (B_look ho hl).2.2; omega
  have hst : Stp w fz β w' fz' (βdn β β' im) := ⟨hr.os, hr.tape, hr.output, hr.size, fun b hb hn => hr.old rfl b hb (fun k hk => by
    have hk : βup β k = some b := hk
    unfold βup at hk; split at hk; cases hk; exact hn _ hk), hr.shp, fun b hb hf => (hr.fzout b hf).elim .inl (fun h => absurd h (by have : ¬ w.heap.size ≤ b := by omega
                                                                                                                                     exact this)), fun k b hb hk => by
    rcases case hk with ⟨k', _, _, _, h1, h2⟩ | ⟨_, h1⟩
    · omega
    · exact ⟨k, h1⟩, hr.fzin⟩
  have hXd : ∀ j b, βdn β β' im j = some b → ∃ k, β' k = some b := fun j b hj => by
    rcases case hj with ⟨k', _, _, _, h1, _⟩ | ⟨_, h1⟩
    · exact ⟨k', h1⟩
    · exact ⟨j + 1000000, (hhi j).trans h1⟩
  refine ⟨⟨h.d.stp hst, h.low, ⟨hr.os.trans h.rel.os, hr.tape.trans h.rel.tape, hr.output.trans h.rel.output, Nat.le_trans h.rel.size hr.size, fun hrr b hb hn => ?_, fun b s hs => hr.shp b s (h.rel.shp b s hs), fun b hb => hr.fzin b (h.rel.fzin b hb), fun b hb => ?_, fun k b hk => ?_, fun k b hk => ?_, fun g cs hg => (h.rel.glob g cs hg).glob_adv hA hr.fzin, fun k hk h0 => (hsame (hhigh hk)).trans (h.rel.bhi k hk h0)⟩, ⟨fun k b hk => ?_, hH.fzlt, fun k k' b h1 h2 => ?_, fun b hb k hk => ?_, fun j o hj => ?_⟩, h.t.mono fun x v hx hv => hv.adv hA hr.fzin fun k hk => hsame ?_⟩, hβ⟩
  · refine (hr.old rfl b (Nat.lt_of_lt_of_le hb h.rel.size) fun k hk => ?_).trans (h.rel.old hrr b hb hn)
    have hk : βup β k = some b := hk
    unfold βup at hk; split at hk; cases hk
    rcases h.rel.bout _ _ hk with h1 | h1
    · exact hn _ h1
    · omega
  · rcases hr.fzout b hb with h1 | h1
    · exact h.rel.fzout b h1
    · exact .inr (Nat.le_trans h.rel.size h1)
  · have hkm : 1000000 ≤ k := by
      rcases Nat.lt_or_ge k 1000000 with h1 | h1
      · rw [h.low k h1] at hk; cases hk
      · exact h1
    exact (hsame (hhigh hkm)).trans (h.rel.bin k b hk)
  · rcases case hk with ⟨k', _, _, _, h1, h2⟩ | ⟨_, h1⟩
    · exact .inr (Nat.le_trans h.rel.size h2)
    · exact h.rel.bout k b h1
  · rcases case hk with ⟨k', _, _, _, h1, h2⟩ | ⟨_, h1⟩
    · exact hH.lt _ _ h1
    · exact Nat.lt_of_lt_of_le (h.h.lt _ _ h1) hr.size
  · rcases case h1 with ⟨i, e1, _, _, e2, e3⟩ | ⟨e1, e2⟩ <;> rcases case h2 with ⟨i', g1, _, _, g2, g3⟩ | ⟨g1, g2⟩
    · have := hH.inj _ _ _ e2 g2; subst this
      have a1 := (B_look ho e1).1; have a2 := (B_look ho g1).1
      rw [a1] at a2; cases a2; rfl
    · have := h.h.lt _ _ g2; omega
    · have := h.h.lt _ _ e2; omega
    · exact h.h.inj _ _ _ e2 g2
  · rcases case hk with ⟨i, e1, _, _, e2, e3⟩ | ⟨e1, e2⟩
    · exact hH.apart b hb _ e2
    · rcases hr.fzout b hb with h1 | h1
      · exact h.h.apart b h1 _ e2
      · have h1 : w.heap.size ≤ b := h1
        have := h.h.lt _ _ e2; omega
  · obtain ⟨k, o', h1, rfl, h2⟩ := find_dnO ho hj
    exact (hH.ob k o' h2).dn hβ hXd h1
  · cases hl : lookB im k with
    | none => rfl
    | some i =>
      obtain ⟨p, hp, rfl⟩ := lookB_mem hl
      simp only [norefT, List.all_eq_true, Bool.not_eq_true'] at hno
      rw [hno p hp x hx] at hk; cases hk
/-- What a function's captured things are to it. -/
def Cap.av : Cap → AV
  | .key k => .c (.ptr (k + 1000000) 0)
  | .val x => .c (.p (.s x))
  | .fz cs => .c (.eptr cs)
def capOk : Cap → Bool
  | .key _ | .fz _ => true
  | .val x => x.oneCell'
theorem RepCap.av {c : Cap} {v : Value} (h : RepCap w fz β c v) (ho : capOk c = true) : RepA w fz (βup β) c.av v := by
  cases c with
  | key k => obtain ⟨b, h1, h2⟩ := h; exact ⟨b, (βup_add β k).trans h1, h2⟩
  | val x => cases h; exact RepP.s _ ho
  | fz cs => exact h
theorem SR.argsR (hs : SR cx st a w fz β) {xs : List Operand} (ho : okOps xs = true) : All2 (RepA w fz (βup β)) (xs.map fun x => (nilFro (st.op cx x)).up) (xs.map a.eval) :=
  all2_map_list xs fun x hx => ((hs.op x (List.all_eq_true.1 ho x hx)).nilFro).up
theorem OpTo.callR {f : Nat} {xs : List Operand} {args : List AV} {os0 : List (Nat × Ob)} {ats : Array TypeId} {Q : AV → List (Nat × Ob) → Prop} (im : List (Nat × Nat)) (hc : AC P cx.G f args os0 Q) (hos : lend st.objs = os0) (hf : isFn P f = true) (ho : okOps xs = true)
    (ha : xs.map (fun x => (nilFro (st.op cx x)).up) = args) (hi : imOk im = true) (hno : norefT st im = true) (hq : ∀ r os', Q r os' → K (St.put ⟨st.tmps, dnO im os'⟩ dst (r.dn im))) :
    OpTo P cx false ⟨dst, .call { callee := .value (.func f), args := xs.toArray, argTypes := ats }, ty, pos, af, gd⟩ st K := by
  intro a w next Qx ⟨fz, β, hs⟩ hn
  subst ha hos
  have hcall := hc w fz (βup β) (xs.map a.eval) (fun k hk => βup_low _ hk) hs.h.lend hs.rel.glob (hs.argsR ho)
  unfold wpv
  have hrun : (execOp a.eval ⟨dst, .call { callee := .value (.func f), args := xs.toArray, argTypes := ats }, ty, pos, af, gd⟩).run P w = .ok (.enter f (xs.map a.eval).toArray) w := by
    simp [execOp, resolve, Act.eval, Deferred.ofValue, invoke, run_callFunc hf]
  rw [hrun, upv_enter]
  refine hcall.mono fun e w' ⟨v, r, os', fz', β', h1, h2, h3, h4, h5⟩ => ?_
  subst h1
  obtain ⟨h6, h7⟩ := hs.backR hi hno h3 h4
  exact hn _ _ _ (hq r os' h2) ⟨fz', _, h6.put (h5.dn h7) dst⟩ (fun h => by cases h)
theorem OpTo.callF {f : Nat} {g : Operand} {caps : List Cap} {xs : List Operand} {args : List AV} {os0 : List (Nat × Ob)} {ats : Array TypeId} {Q : AV → List (Nat × Ob) → Prop} (im : List (Nat × Nat)) (hc : AC P cx.G f args os0 Q) (hg : st.op cx g = .c (.fn f caps)) (hgo : okOp g = true) (hcap : caps.all capOk = true) (hos : lend st.objs = os0) (hf : isFn P f = true) (ho : okOps xs = true)
    (ha : xs.map (fun x => (nilFro (st.op cx x)).up) ++ caps.map Cap.av = args) (hi : imOk im = true) (hno : norefT st im = true) (hq : ∀ r os', Q r os' → K (St.put ⟨st.tmps, dnO im os'⟩ dst (r.dn im))) :
    OpTo P cx false ⟨dst, .call { callee := .value g, args := xs.toArray, argTypes := ats }, ty, pos, af, gd⟩ st K := by
  intro a w next Qx ⟨fz, β, hs⟩ hn
  subst ha hos
  have hG := hs.op g hgo
  rw [hg] at hG
  obtain ⟨cv, hgv, hcv⟩ := hG
  have hcv2 : All2 (RepA w fz (βup β)) (caps.map Cap.av) cv := by
    have : All2 (fun c v => RepCap w fz β c v ∧ capOk c = true) caps cv := hcv.mono fun c v hc h => ⟨h, List.all_eq_true.1 hcap c hc⟩
    exact this.map _ fun c v h => h.1.av h.2
  have hcall := hc w fz (βup β) (xs.map a.eval ++ cv) (fun k hk => βup_low _ hk) hs.h.lend hs.rel.glob ((hs.argsR ho).append hcv2)
  unfold wpv
  have hrun : (execOp a.eval ⟨dst, .call { callee := .value g, args := xs.toArray, argTypes := ats }, ty, pos, af, gd⟩).run P w = .ok (.enter f (xs.map a.eval ++ cv).toArray) w := by
    simp [execOp, resolve, hgv, Deferred.ofValue, invoke, run_callFunc hf]
  rw [hrun, upv_enter]
  refine hcall.mono fun e w' ⟨v, r, os', fz', β', h1, h2, h3, h4, h5⟩ => ?_
  subst h1
  obtain ⟨h6, h7⟩ := hs.backR hi hno h3 h4
  exact hn _ _ _ (hq r os' h2) ⟨fz', _, h6.put (h5.dn h7) dst⟩ (fun h => by cases h)
/-- A function that is made a value. -/
def capOf : AV → Option Cap
  | .c (.ptr k 0) => some (.key k)
  | .c (.p (.s v)) => some (.val v)
  | .c (.eptr cs) => some (.fz cs)
  | _ => none
theorem RepA.cap {z : AV} {v : Value} {c : Cap} (h : RepA w fz β z v) (hc : capOf z = some c) : RepCap w fz β c v := by
  unfold capOf at hc
  split at hc
  · cases hc; obtain ⟨b, h1, h2⟩ := h; exact ⟨b, h1, h2⟩
  · cases hc; exact RepA.eq h
  · cases hc; exact h
  · cases hc
def capsOf : List AV → Option (List Cap)
  | [] => some []
  | z :: r => match capOf z, capsOf r with
    | some c, some cs => some (c :: cs)
    | _, _ => none
theorem SR.caps (hs : SR cx st a w fz β) : ∀ {xs : List Operand} {cs : List Cap}, okOps xs = true → capsOf (xs.map fun x => st.op cx x) = some cs → All2 (RepCap w fz β) cs (xs.map a.eval)
  | [], cs, _, h => by cases h; exact .nil
  | x :: xs, cs, ho, h => by
    simp only [okOps, List.all_cons, Bool.and_eq_true] at ho
    simp only [List.map_cons, capsOf] at h
    split at h
    · rename_i c cs' h1 h2
      cases h
      exact .cons ((hs.op x ho.1).cap h1) (hs.caps (xs := xs) ho.2 h2)
    · cases h
theorem Val.fn {f : Nat} {xs : List Operand} {cs : List Cap} (ho : okOps xs = true) (hc : capsOf (xs.map fun x => st.op cx x) = some cs) : Val P cx true ⟨dst, .makeFunc (.func f) #[] xs.toArray, ty, pos, af, gd⟩ st (.c (.fn f cs)) := fun a w fz β hs => by
  have := hs.caps ho hc
  exact ⟨.func (.func f) #[] (xs.map a.eval).toArray, ⟨_, rfl, this⟩, fun w' _ => by simp [execOp, Instr.makeFunc]⟩
end
end Go.Proofs.Vl
end
section
/- More operations: functions that are values and hold nothing, strings, arrays that are values. -/
set_option linter.all false
namespace Go.Proofs.Vl
open Go Go.RowKit
section
variable {P : Program} {cx : Cx} {st : St} {a : Act} {w : World} {fz : Nat → Prop} {β : Nat → Option Nat}
variable {kp : Bool} {K : St → Prop} {dst : Option Tmp} {ty T T' E : TypeId} {pos : String} {af : Array Edge} {gd : Option (Nat × Bool)} {x y : Operand}
/-- A function value that holds nothing of the call's own, called: like a call by name. -/
theorem OpTo.callV {f : Nat} {g : Operand} {xs : List Operand} {args : List AV} {ats : Array TypeId} {Q : AV → List (Nat × Ob) → Prop} (hc : AC P cx.G f args [] Q) (hg : st.op cx g = .c (.fn f [])) (hgo : okOp g = true) (hf : isFn P f = true) (ho : okOps xs = true) (ha : xs.map (fun x => Vl.frz st (st.op cx x)) = args) (hk : args.all AV.keyless = true)
    (hq : ∀ r os', Q r os' → ∃ s', Imp false st os' dst r s' ∧ K s') : OpTo P cx kp ⟨dst, .call { callee := .value g, args := xs.toArray, argTypes := ats }, ty, pos, af, gd⟩ st K := by
  intro a w next Qx ⟨fz, β, hs⟩ hn
  subst ha
  have hG := hs.op g hgo
  rw [hg] at hG
  obtain ⟨cv, hgv, hcv⟩ := hG
  cases hcv
  have hA : All2 (RepA w (fzAll fz β) (fun _ => none)) (xs.map (fun x => Vl.frz st (st.op cx x))) (xs.map a.eval) :=
    all2_map_list xs fun x hx => hs.frz (hs.op x (List.all_eq_true.1 ho x hx)) (by have := List.all_eq_true.1 hk _ (List.mem_map_of_mem (f := fun x => Vl.frz st (st.op cx x)) hx); exact this)
  have hlt : ∀ b, fzAll fz β b → b < w.heap.size := fun b hb => by rcases hb with h | ⟨k, h⟩; exact hs.h.fzlt b h; exact hs.h.lt k b h
  have hcall := hc w (fzAll fz β) (fun _ => none) (xs.map a.eval) (fun _ _ => rfl) (H.none hlt) hs.glob hA
  unfold wpv
  have hrun : (execOp a.eval ⟨dst, .call { callee := .value g, args := xs.toArray, argTypes := ats }, ty, pos, af, gd⟩).run P w = .ok (.enter f (xs.map a.eval).toArray) w := by
    simp [execOp, resolve, hgv, Deferred.ofValue, invoke, run_callFunc hf]
  rw [hrun, upv_enter]
  refine hcall.mono fun e w' ⟨v, r, os', fz', β', h1, h2, h3, h4, h5⟩ => ?_
  subst h1
  obtain ⟨s', h6, h7⟩ := hq r os' h2
  obtain ⟨fz2, β2, h8⟩ := hs.back (m := false) (fun b hb => .inl hb) (fun h => by cases h) h3 h4 h5 h6
  exact hn _ _ _ h7 ⟨fz2, β2, h8⟩ (fun _ => ⟨h3.size, fun b hb => h3.old rfl b hb (fun k => by simp)⟩)
/-! ### Strings -/
theorem Val.idxS {t : TypeId} {s : ByteArray} {k : IntKind} {i : Int} (hu : P.underlying t = some .string) (hx : st.op cx x = .c (.p (.s (.string s)))) (hy : st.op cx y = .c (.p (.s (.int k i)))) (h1 : okOp x = true) (h2 : okOp y = true) (h0 : 0 ≤ i) (hl : i.toNat < s.size) :
    Val P cx true ⟨dst, .index t x y, ty, pos, af, gd⟩ st (.c (.p (.s (.int .u8 (s[i.toNat]'hl).toNat)))) := fun a w fz β hs => by
  have e1 := hs.eq hx h1
  have e2 := hs.eq hy h2
  refine ⟨_, RepP.s _ rfl, fun w' hw => ?_⟩
  have := run_index_string (P := P) w' t s k i hu
  rw [dif_pos (by omega)] at this
  simp [execOp, e1, e2, this]
def strOp (op : BinOp) (a b : ByteArray) : Option Value := match op with
  | .eql => some (.bool (a.toList == b.toList))
  | .neq => some (.bool !(a.toList == b.toList))
  | _ => none
theorem Val.strB {op : BinOp} {tx t2 : TypeId} {u v : ByteArray} {z : Value} (hz : strOp op u v = some z) (hx : st.op cx x = .c (.p (.s (.string u)))) (hy : st.op cx y = .c (.p (.s (.string v)))) (h1 : okOp x = true) (h2 : okOp y = true) :
    Val P cx true ⟨dst, .binOp op tx x y t2, ty, pos, af, gd⟩ st (AV.ofV z) := by
  have hb : ∃ b, z = .bool b := by cases op <;> simp [strOp] at hz <;> exact ⟨_, hz.symm⟩
  obtain ⟨b, rfl⟩ := hb
  refine Val.bin hx hy h1 h2 rfl (fun w => ?_) (fun w => ?_)
  · cases op <;> simp [strOp] at hz <;> simp [binOp, Op.stringOp, hz]
  · unfold eqGuard; split <;> simp
theorem Val.strAdd {tx t2 : TypeId} {u v : ByteArray} (hx : st.op cx x = .c (.p (.s (.string u)))) (hy : st.op cx y = .c (.p (.s (.string v)))) (h1 : okOp x = true) (h2 : okOp y = true) (hl : u.size + v.size ≤ 9223372036854775807) :
    Val P cx true ⟨dst, .binOp .add tx x y t2, ty, pos, af, gd⟩ st (.c (.p (.s (.string (u ++ v))))) := by
  refine Val.bin (z := .string (u ++ v)) hx hy h1 h2 rfl (fun w => ?_) (fun w => ?_)
  · have : ¬ ((u.size + v.size : Nat) : Int) > IntKind.i64.max := by
      rw [show IntKind.i64.max = 9223372036854775807 from rfl]; omega
    simp only [binOp, Op.stringOp]
    rw [if_neg this]; simp
  · unfold eqGuard; simp
/-! ### Arrays that are values -/
theorem run_part1 (hT : tyI P T = some none) {vs : List Value} {off : Nat} {v : Value} (hv : vs[off]? = some v) (w : World) : (part T vs.toArray off).run P w = .ok v w := by
  unfold tyI at hT
  cases hu : P.underlying T with
  | none => simp [hu] at hT
  | some D => cases hi : P.info? T with
    | none => cases D <;> simp [hu, hi] at hT
    | some i => cases D <;> simp [hu, hi] at hT <;> simp [part, isAgg, run_underlying hu, hv]
theorem run_partN {n : Nat} (hT : tyI P T = some (some n)) {vs : List Value} {off : Nat} (w : World) : (part T vs.toArray off).run P w = .ok (.agg ((vs.drop off).take n).toArray) w := by
  unfold tyI at hT
  cases hu : P.underlying T with
  | none => simp [hu] at hT
  | some D => cases hi : P.info? T with
    | none => cases D <;> simp [hu, hi] at hT
    | some i =>
      have e : ∀ m, vs.toArray.extract off (off + m) = ((vs.drop off).take m).toArray := fun m => by simp [List.extract_toArray, List.extract, Nat.add_sub_cancel_left]
      cases D <;> simp [hu, hi] at hT <;> subst hT <;> simp [part, isAgg, run_underlying hu, sizeOf, typeInfo, hi, e]
theorem Val.idxA {S : TypeId} {L n : Nat} {k : IntKind} {i : Int} {cs : List CV} (hu : P.underlying S = some (.array L E)) (hT : tyI P E = some (some n)) (hx : st.op cx x = .agg cs) (hy : st.op cx y = .c (.p (.s (.int k i)))) (h1 : okOp x = true) (h2 : okOp y = true) (h0 : 0 ≤ i) (hl : i < L) :
    Val P cx true ⟨dst, .index S x y, ty, pos, af, gd⟩ st (.agg ((cs.drop (i.toNat * n)).take n)) := fun a w fz β hs => by
  have hX := hs.op x h1
  rw [hx] at hX
  obtain ⟨vs, e1, hr⟩ := hX
  have e2 := hs.eq hy h2
  refine ⟨_, ⟨_, rfl, (hr.drop _).take _⟩, fun w' hw => ?_⟩
  have hsz : P.info? E = none ∨ ∃ i, P.info? E = some i ∧ i.size = n := by
    unfold tyI at hT
    cases hi : P.info? E with
    | none => exact .inl rfl
    | some i => cases hE : P.underlying E with
      | none => simp [hE] at hT
      | some D => cases D <;> simp [hE, hi] at hT <;> exact .inr ⟨i, rfl, hT⟩
  rcases hsz with h | ⟨ti, h, rfl⟩
  · exfalso; unfold tyI at hT; cases hE : P.underlying E with
    | none => simp [hE] at hT
    | some D => cases D <;> simp [hE, h] at hT
  · have hp := run_partN (P := P) hT (vs := vs) (off := i.toNat * ti.size) w'
    simp [execOp, e1, e2, Instr.index, asIntOf, run_underlying hu, h0, hl, sizeOf, typeInfo, h, hp]
theorem Val.idxP {S : TypeId} {L : Nat} {k : IntKind} {i : Int} {cs : List PV} {z : PV} (hu : P.underlying S = some (.array L E)) (hT : tyI P E = some none) (hsz : (P.info? E).map (·.size) = some 1) (hx : st.op cx x = .pag cs) (hy : st.op cx y = .c (.p (.s (.int k i)))) (h1 : okOp x = true) (h2 : okOp y = true) (h0 : 0 ≤ i) (hl : i < L) (hz : cs[i.toNat]? = some z) :
    Val P cx true ⟨dst, .index S x y, ty, pos, af, gd⟩ st (.c (.p z)) := fun a w fz β hs => by
  have hX := hs.op x h1
  rw [hx] at hX
  obtain ⟨vs, e1, hr⟩ := hX
  have e2 := hs.eq hy h2
  obtain ⟨v, hv, hzv⟩ := hr.get hz
  refine ⟨v, hzv, fun w' hw => ?_⟩
  have hp := run_part1 (P := P) hT (vs := vs) (off := i.toNat) hv w'
  obtain ⟨ti, h3, h4⟩ := Option.map_eq_some_iff.1 hsz
  simp [execOp, e1, e2, Instr.index, asIntOf, run_underlying hu, h0, hl, sizeOf, typeInfo, h3, h4, hp]
/-! ### Arrays that are told -/
def plA (P : Program) (T : TypeId) : Option (Nat × List Value) :=
  match P.underlying T, tyZero P T with
  | some (.array _ e), some (.agg zc) => (P.info? e).map fun i => (i.size, zc.toList)
  | _, _ => none
theorem run_builtA {sz : Nat} {zc : List Value} (h : plA P T = some (sz, zc)) {parts : Array (Nat × Value)} {vs : List Value} (hf : Instr.fill (fun i => some (i * sz, sz)) zc.toArray parts.toList = some vs.toArray) : (Instr.build T parts).run P w = .ok (.agg vs.toArray) w := by
  refine run_build w T parts _ ?_
  unfold plA at h
  split at h
  · rename_i L e zc' hu hz
    obtain ⟨ie, hp, he⟩ := Option.map_eq_some_iff.1 h
    cases he
    unfold tyZero at hz
    unfold Program.built
    cases hi : P.info? T with
    | none => simp [hi] at hz
    | some i =>
      have hz' : i.zero = some (.agg zc') := by simpa [hi] using hz
      simp only [hu, hz', hp]
      simpa [Value.cells] using hf
  · cases h
theorem Val.buildAP {parts : List (Nat × Operand)} {sz : Nat} {zc : List Value} {cs : List PV} (hp : plA P T = some (sz, zc)) (hz : zc.all (·.oneCell') = true) (ho : parts.all (fun p => okOp p.2) = true)
    (hf : fillA (fun i => some (i * sz, sz)) (zc.map .s) (parts.map fun p => (p.1, pvs (st.op cx p.2))) = some cs) : Val P cx true ⟨dst, .build T parts.toArray, ty, pos, af, gd⟩ st (.pag cs) := fun a w fz β hs => by
  obtain ⟨vcs, h1, h2⟩ := fill_rep _ _ (zc.map .s) cs zc (all2_s (w := w) (fz := fz) zc fun u hu => List.all_eq_true.1 hz u hu) (hs.parts parts ho) hf
  refine ⟨.agg vcs.toArray, ⟨vcs, rfl, h2⟩, fun w' _ => ?_⟩
  have := run_builtA (P := P) (w := w') (T := T) hp (parts := (parts.map fun p => (p.1, a.eval p.2)).toArray) (vs := vcs) (by simpa using h1)
  simp only [execOp, List.map_toArray, Sem.run_bind]
  rw [this]; rfl
theorem Val.buildAC {parts : List (Nat × Operand)} {sz : Nat} {zc : List Value} {cs : List CV} (hp : plA P T = some (sz, zc)) (hz : zc.all (·.oneCell') = true) (ho : parts.all (fun p => okOp p.2) = true)
    (hf : fillA (fun i => some (i * sz, sz)) (zc.map fun v => .p (.s v)) (parts.map fun p => (p.1, cvs (st.op cx p.2))) = some cs) : Val P cx true ⟨dst, .build T parts.toArray, ty, pos, af, gd⟩ st (.agg cs) := fun a w fz β hs => by
  have h0 : All2 (RepC1 w fz β) (zc.map fun v => CV.p (.s v)) zc := by
    have := all2_map_p (β := β) (all2_s (w := w) (fz := fz) zc fun u hu => List.all_eq_true.1 hz u hu)
    rwa [List.map_map] at this
  obtain ⟨vcs, h1, h2⟩ := fill_rep _ _ _ cs zc h0 (hs.partsC parts ho) hf
  refine ⟨.agg vcs.toArray, ⟨vcs, rfl, h2⟩, fun w' _ => ?_⟩
  have := run_builtA (P := P) (w := w') (T := T) hp (parts := (parts.map fun p => (p.1, a.eval p.2)).toArray) (vs := vcs) (by simpa using h1)
  simp only [execOp, List.map_toArray, Sem.run_bind]
  rw [this]; rfl
/-! ### The least of some -/
theorem Val.minL {ats : Array TypeId} {xs : List Operand} {kd : IntKind} {u : Int} {us : List Int} (ho : okOps xs = true) (hx : xs.map (fun x => st.op cx x) = (u :: us).map fun n => .c (.p (.s (.int kd n)))) :
    Val P cx true ⟨dst, .call { callee := .builtin .min, args := xs.toArray, argTypes := ats }, ty, pos, af, gd⟩ st (.c (.p (.s (.int kd (us.foldl (fun a b => if b < a then b else a) u))))) := fun a w fz β hs => by
  have he : xs.map a.eval = (u :: us).map fun n => Value.int kd n := by
    have : ∀ (xs : List Operand) (ns : List Int), okOps xs = true → xs.map (fun x => st.op cx x) = ns.map (fun n => .c (.p (.s (.int kd n)))) → xs.map a.eval = ns.map fun n => Value.int kd n := by
      intro xs
      induction xs with
      | nil => intro ns _ h; cases ns with | nil => rfl | cons _ _ => cases h
      | cons x xs ih =>
        intro ns ho h
        cases ns with
        | nil => cases h
        | cons n ns =>
          simp only [List.map_cons, List.cons.injEq] at h
          simp only [okOps, List.all_cons, Bool.and_eq_true] at ho
          simp only [List.map_cons, hs.eq h.1 ho.1, ih ns ho.2 h.2]
    exact this xs _ ho hx
  refine ⟨_, RepP.s _ rfl, fun w' hw => ?_⟩
  have hrun : ∀ (us : List Int) (u : Int), ((us.map fun n => Value.int kd n).foldlM (fun a b => Builtin.min2 a b) (Value.int kd u)).run P w' = .ok (.int kd (us.foldl (fun a b => if b < a then b else a) u)) w' := by
    intro us
    induction us with
    | nil => intro u; simp
    | cons n us ih =>
      intro u
      have h2 : (Builtin.min2 (.int kd u) (.int kd n)).run P w' = .ok (.int kd (if n < u then n else u)) w' := by simp [Builtin.min2]
      simp only [List.map_cons, List.foldlM_cons, Sem.run_bind, h2, Result.andThen, List.foldl_cons, ih]
  have hm : (Builtin.min_ ats ty (xs.map a.eval).toArray).run P w' = .ok (.int kd (us.foldl (fun a b => if b < a then b else a) u)) w' := by
    rw [he]
    exact hrun us u
  simp [execOp, resolve, invoke, builtin, hm]
end
end Go.Proofs.Vl
end
section
/- More: equality of truths. -/
set_option linter.all false
namespace Go.Proofs.Vl
open Go Go.RowKit
section
variable {P : Program} {cx : Cx} {st : St} {a : Act} {w : World} {fz : Nat → Prop} {β : Nat → Option Nat}
variable {kp : Bool} {K : St → Prop} {dst : Option Tmp} {ty T T' E : TypeId} {pos : String} {af : Array Edge} {gd : Option (Nat × Bool)} {x y : Operand}
def boolOp (op : BinOp) (a b : Bool) : Option Bool := match op with
  | .eql => some (a == b)
  | .neq => some (!(a == b))
  | _ => none
theorem Val.boolB {op : BinOp} {tx t2 : TypeId} {u v z : Bool} (hu : P.underlying tx = some .bool) (hz : boolOp op u v = some z) (hx : st.op cx x = .c (.p (.s (.bool u)))) (hy : st.op cx y = .c (.p (.s (.bool v)))) (h1 : okOp x = true) (h2 : okOp y = true) :
    Val P cx true ⟨dst, .binOp op tx x y t2, ty, pos, af, gd⟩ st (.c (.p (.s (.bool z)))) := by
  refine Val.bin (z := .bool z) hx hy h1 h2 rfl (fun w => ?_) (fun w => ?_)
  · cases op <;> simp [boolOp] at hz <;> simp [binOp, run_equal_bool w tx u v hu, hz]
  · unfold eqGuard; split <;> simp
end
end Go.Proofs.Vl
end
section
/- More: maps of the call's own; states told by what changes; numbers that stay in bounds; rows told by a list. -/
set_option linter.all false
namespace Go.Proofs.Vl
open Go Go.RowKit
section
variable {P : Program} {cx : Cx} {st : St} {a : Act} {w : World} {fz : Nat → Prop} {β : Nat → Option Nat} {Q : Exit → St → Prop} {c : Code}
variable {kp : Bool} {K : St → Prop} {dst : Option Tmp} {ty T T' E : TypeId} {pos : String} {af : Array Edge} {gd : Option (Nat × Bool)} {x y : Operand} {k : Nat}
/-! ### Loops told by what changes -/
def sets : List AV → List (Nat × AV) → List AV
  | l, [] => l
  | l, (i, x) :: r => sets (l.set i x) r
theorem AWp.loopI {α : Type} (W : α → List (Nat × AV)) (O : α → List (Nat × Ob)) (μ : α → Nat) (I : α → Prop) (x0 : α) (h0 : I x0) (hl : Le cx st ⟨sets st.tmps (W x0), O x0⟩)
    (hr : ∀ x, I x → AWp P cx c ⟨sets st.tmps (W x), O x⟩ (thn (fun s' => ∃ x', μ x' < μ x ∧ I x' ∧ Le cx s' ⟨sets st.tmps (W x'), O x'⟩) Q)) : AWp P cx (.loop c) st Q := by
  refine AWp.loopW _ (fun n s => ∃ x, I x ∧ μ x = n ∧ s = ⟨sets st.tmps (W x), O x⟩) (μ x0) hl ⟨x0, h0, rfl, rfl⟩ ?_
  rintro n s ⟨x, hi, rfl, rfl⟩
  refine (hr x hi).mono ?_
  intro e s' h
  cases e with
  | normal => obtain ⟨x', h1, h2, h3⟩ := h; exact ⟨_, _, h1, ⟨x', h2, rfl, rfl⟩, h3⟩
  | exit _ => exact h
  | goto _ => exact h
  | ret => exact h
  | panic _ => exact h
  | outgrown => exact h
theorem AWp.cutI {α : Type} {d : Code} {id : Nat} (W : α → List (Nat × AV)) (O : α → List (Nat × Ob)) (I : α → Prop)
    (h1 : AWp P cx c st (inb id (thn (fun s => ∃ x, I x ∧ Le cx s ⟨sets st.tmps (W x), O x⟩) Q))) (h2 : ∀ x, I x → AWp P cx d ⟨sets st.tmps (W x), O x⟩ Q) : AWp P cx c st (inb id (thn (fun s => AWp P cx d s Q) Q)) := by
  refine AWp.cutB (fun s => ∃ x, I x ∧ s = ⟨sets st.tmps (W x), O x⟩) (by rintro s ⟨x, hi, rfl⟩; exact h2 x hi) (h1.mono ?_)
  intro e s h
  have key : ∀ s, (∃ x, I x ∧ Le cx s ⟨sets st.tmps (W x), O x⟩) → ∃ s', (∃ x, I x ∧ s' = ⟨sets st.tmps (W x), O x⟩) ∧ Le cx s s' := fun s ⟨x, hi, hl⟩ => ⟨_, ⟨x, hi, rfl⟩, hl⟩
  cases e with
  | normal => exact key _ h
  | exit i => simp only [inb] at h ⊢; split at h <;> rename_i hh <;> simp only [hh, if_true, if_false] <;> first | exact key _ h | exact h
  | goto _ => exact h
  | ret => exact h
  | panic _ => exact h
  | outgrown => exact h
/-- What follows a statement, once for all its ways out. -/
theorem AWp.cutN {α : Type} {d : Code} (W : α → List (Nat × AV)) (O : α → List (Nat × Ob)) (I : α → Prop)
    (h1 : AWp P cx c st (thn (fun s => ∃ x, I x ∧ Le cx s ⟨sets st.tmps (W x), O x⟩) Q)) (h2 : ∀ x, I x → AWp P cx d ⟨sets st.tmps (W x), O x⟩ Q) : AWp P cx c st (thn (fun s => AWp P cx d s Q) Q) := by
  refine h1.mono ?_
  intro e s h
  cases e with
  | normal => obtain ⟨x, hi, hl⟩ := h; exact AWp.weak hl (h2 x hi)
  | exit i => exact h
  | goto _ => exact h
  | ret => exact h
  | panic _ => exact h
  | outgrown => exact h
theorem leaveZ {α : Type} {s s1 : St} {F : α → St} {I : α → Prop} (hl : Le cx s s1) (h : ∃ x, I x ∧ Le cx s1 (F x)) : ∃ x, I x ∧ Le cx s (F x) :=
  let ⟨x, h1, h2⟩ := h; ⟨x, h1, hl.trans h2⟩
theorem leaveZ3 {α : Type} {s s1 : St} {F : α → St} {I J : α → Prop} (hl : Le cx s s1) (h : ∃ x, I x ∧ J x ∧ Le cx s1 (F x)) : ∃ x, I x ∧ J x ∧ Le cx s (F x) :=
  let ⟨x, h1, h2, h3⟩ := h; ⟨x, h1, h2, hl.trans h3⟩
/-- What is to hold behind, under a name. -/
structure Hid (Q Q' : Exit → St → Prop) : Prop where
  out : ∀ e s, Q e s → Q' e s
theorem AWp.hide (h : ∀ Q', Hid Q Q' → AWp P cx c st Q') : AWp P cx c st Q := h Q ⟨fun _ _ h => h⟩
theorem unhide {Q Q' : Exit → St → Prop} {e : Exit} {s : St} (h : Hid Q Q') (hq : Q e s) : Q' e s := h.out e s hq
/-! ### Maps -/
theorem SR.wrM (h : SR cx st a w fz β) {b : Nat} (hk : β k = some b) {es0 : Array MapEntry} {c0 : Nat} (hb : w.heap[b]? = some (.map es0 c0)) (es : List MapEntry) (cl : Nat) :
    SR cx ⟨st.tmps, upd st.objs k (.mapo es cl)⟩ a { w with heap := w.heap.setIfInBounds b (.map es.toArray cl) } fz β := by
  obtain ⟨hw, ho⟩ := MapKept.heap_set (o' := .map es.toArray cl) hb
  have hA : Adv fz w { w with heap := w.heap.setIfInBounds b (.map es.toArray cl) } := .of (fun j hj => ho j (fun e => h.h.apart j hj k (e ▸ hk))) (fun j s hs => by
    by_cases hj : j = b
    · subst hj; simp [World.shape?, hb] at hs
    · exact (shape_eq (ho j hj)).trans hs)
  have hsz : (w.heap.setIfInBounds b (.map es.toArray cl)).size = w.heap.size := by simp
  have hst : Stp w fz β { w with heap := w.heap.setIfInBounds b (.map es.toArray cl) } fz β := ⟨rfl, rfl, rfl, by show _ ≤ (w.heap.setIfInBounds b _).size; rw [hsz]; exact Nat.le_refl _, fun j _ hn => ho j (fun e => hn k (e ▸ hk)), hA.shp, fun b _ h => .inl h, fun k b _ h => ⟨k, h⟩, fun _ h => h⟩
  refine ⟨h.d.stp hst, h.low, ⟨h.rel.os, h.rel.tape, h.rel.output, by show _ ≤ (w.heap.setIfInBounds b _).size; rw [hsz]; exact h.rel.size, ?_, fun b s hs => hA.shp b s (h.rel.shp b s hs), h.rel.fzin, h.rel.fzout, h.rel.bin, h.rel.bout, fun g cs hg => (h.rel.glob g cs hg).glob_adv hA (fun _ h => h), h.rel.bhi⟩, ⟨?_, ?_, h.h.inj, h.h.apart, ?_⟩, ?_⟩
  · intro hrr j hj hn
    refine (ho j ?_).trans (h.rel.old hrr j hj hn)
    intro e; subst e
    rcases h.rel.bout k j hk with h1 | h1
    · exact hn k h1
    · omega
  · intro k b hk; show b < (w.heap.setIfInBounds _ _).size; rw [hsz]; exact h.h.lt k b hk
  · intro b hb; show b < (w.heap.setIfInBounds _ _).size; rw [hsz]; exact h.h.fzlt b hb
  · intro k' o' hk'
    rw [find_upd] at hk'
    by_cases he : k = k'
    · subst he; rw [if_pos rfl] at hk'; cases hk'; exact ⟨b, hk, hw⟩
    · rw [if_neg he] at hk'
      exact (h.h.ob k' o' hk').adv hA (fun _ h => h) rfl (fun j hj => ho j (fun e => he (h.h.inj _ _ _ hk (e ▸ hj)))) (fun _ _ => rfl) hst
  · exact h.t.mono fun x v hx hv => hv.adv hA (fun _ h => h) (fun _ _ => rfl)
theorem OpTo.makeMap {d : Nat} (hlow : d < 1000000) (hd : st.noref d = true) (kk : K (St.put ⟨st.tmps, upd st.objs d (.mapo [] 0)⟩ (some d) (.c (.mp d)))) :
    OpTo P cx kp ⟨some d, .makeMap T none, ty, pos, af, gd⟩ st K := by
  refine OpTo.made2 (ob := .mapo [] 0) (z := .c (.mp d)) rfl hlow hd rfl (fun a w fz β hs => ⟨.map (some w.heap.size), .map #[] 0, w.alloc (.map #[] 0), ?_, ⟨rfl, rfl, rfl⟩, rfl, fun β' h1 h2 => ⟨⟨w.heap.size, h1, heap_alloc_new w _⟩, ⟨w.heap.size, h1, rfl⟩⟩⟩) kk
  simp [execOp, run_makeMap]
/-- Keys that are whole numbers or strings. -/
def keyOk : TypeDesc → Value → Bool
  | .int _, .int _ _ => true
  | .string, .string _ => true
  | _, _ => false
theorem run_check {kt : TypeId} {D : TypeDesc} {key : Value} (hd : P.underlying kt = some D) (hk : keyOk D key = true) (e : Bool) (w : World) : (Instr.checkKey e 10000 kt key).run P w = .ok () w := by
  show (Instr.checkKey e (Nat.succ 9999) kt key).run P w = .ok () w
  generalize (9999 : Nat) = n
  cases D <;> cases key <;> simp [keyOk] at hk <;> simp [Instr.checkKey, run_underlying hd]
theorem run_find {kt : TypeId} {D : TypeDesc} {key : Value} (hd : P.underlying kt = some D) {es : List MapEntry} {r : Option (Nat × Value)} (hf : Instr.findNow D key es 0 = some r) (w : World) : (Instr.findKey kt key es).run P w = .ok r w := by
  simp [Instr.findKey, run_underlying hd, hf]
def mapI (P : Program) (T : TypeId) : Option (TypeId × TypeDesc × Value) := match P.underlying T with
  | some (.map kt e) => match P.underlying kt, tyZero P e with
    | some D, some z => some (kt, D, z)
    | _, _ => none
  | _ => none
theorem mapI_spec {kt : TypeId} {D : TypeDesc} {z : Value} (h : mapI P T = some (kt, D, z)) : ∃ e, P.underlying T = some (.map kt e) ∧ P.underlying kt = some D ∧ tyZero P e = some z := by
  unfold mapI at h
  split at h
  · rename_i kt' e hu
    split at h
    · rename_i D' z' h1 h2
      simp only [Option.some.injEq, Prod.mk.injEq] at h
      obtain ⟨rfl, rfl, rfl⟩ := h
      exact ⟨e, hu, h1, h2⟩
    · cases h
  · cases h
def foundV (z : Value) : Option (Nat × Value) → Value
  | some (_, v) => v
  | none => z
theorem Val.lookup {kt : TypeId} {D : TypeDesc} {z key : Value} {es : List MapEntry} {cl : Nat} {r : Option (Nat × Value)} (hT : mapI P T = some (kt, D, z)) (h1 : okOp x = true) (h2 : okOp y = true) (hx : st.op cx x = .c (.mp k)) (hf : find st.objs k = some (.mapo es cl))
    (hy : st.op cx y = .c (.p (.s key))) (hk : keyOk D key = true) (hr : Instr.findNow D key es 0 = some r) (ho : (foundV z r).oneCell' = true) :
    Val P cx false ⟨dst, .lookup T x y false, ty, pos, af, gd⟩ st (.c (.p (.s (foundV z r)))) := fun a w fz β hs => by
  obtain ⟨e, hu, hd, hz⟩ := mapI_spec hT
  have hX := hs.op x h1
  rw [hx] at hX
  obtain ⟨b, e1, e2⟩ := hX
  have e3 := hs.eq hy h2
  obtain ⟨b', g1, g2⟩ := hs.h.ob k _ hf
  rw [e1] at g1; cases g1
  refine ⟨foundV z r, RepP.s _ ho, fun w' hw => ?_⟩
  have hO := hw.resolve_left (by simp)
  have hb : w'.heap[b]? = some (.map es.toArray cl) := (hO.2 b (hs.h.lt _ _ e1)).trans g2
  have hzv : (zeroValue e).run P w' = .ok z w' := by
    unfold tyZero at hz
    cases hi : P.info? e with
    | none => simp [hi] at hz
    | some i => simp only [hi, Option.bind_some] at hz; simp [zeroValue, typeInfo, hi, hz]
  have h4 : (Instr.lookup T (.map (some b)) key false).run P w' = .ok (foundV z r) w' := by
    cases r with
    | none => simp [Instr.lookup, run_underlying hu, MapKept.run_getObj_map hb, run_check hd hk, run_find hd hr, hzv, foundV]
    | some p => obtain ⟨i, v⟩ := p; simp [Instr.lookup, run_underlying hu, MapKept.run_getObj_map hb, run_check hd hk, run_find hd hr, foundV]
  simp [execOp, e2, e3, h4]
/-- An entry put in, or its value changed. -/
def putE (es : List MapEntry) (cl : Nat) (key v : Value) : Option (Nat × Value) → List MapEntry × Nat
  | some (i, _) => (es.modify i (fun e => { e with key := key, val := v }), cl)
  | none => (es ++ [⟨key, v, cl⟩], cl + 1)
theorem sameBits_self {D : TypeDesc} {a b : Value} (hk : keyOk D a = true) (h : Instr.sameNow D a b = some true) : Instr.sameBits 10000 b a = true := by
  cases D <;> cases a <;> simp [keyOk] at hk <;> cases b <;> simp [Instr.sameNow] at h <;> simp_all [Instr.sameBits, MapKept.bytes_beq]
theorem findNow_some {D : TypeDesc} {key : Value} : ∀ {es : List MapEntry} {n i : Nat} {v : Value}, Instr.findNow D key es n = some (some (i, v)) → ∃ e, n ≤ i ∧ es[i - n]? = some e ∧ Instr.sameNow D key e.key = some true ∧ v = e.val
  | [], n, i, v, h => by simp [Instr.findNow] at h
  | e :: es, n, i, v, h => by
    unfold Instr.findNow at h
    split at h
    · rename_i hs
      simp only [Option.some.injEq, Prod.mk.injEq] at h
      obtain ⟨rfl, rfl⟩ := h
      exact ⟨e, Nat.le_refl _, by simp, hs, rfl⟩
    · obtain ⟨e', h1, h2, h3, h4⟩ := findNow_some h
      exact ⟨e', by omega, by rw [show i - n = (i - (n + 1)) + 1 by omega]; simpa using h2, h3, h4⟩
    · cases h
theorem OpTo.mapUpd {z : Operand} {kt : TypeId} {D : TypeDesc} {zv key v : Value} {es : List MapEntry} {cl : Nat} {r : Option (Nat × Value)} (hT : mapI P T = some (kt, D, zv)) (h1 : okOp x = true) (h2 : okOp y = true) (h3 : okOp z = true) (hx : st.op cx x = .c (.mp k)) (hf : find st.objs k = some (.mapo es cl))
    (hy : st.op cx y = .c (.p (.s key))) (hz : st.op cx z = .c (.p (.s v))) (hk : keyOk D key = true) (hr : Instr.findNow D key es 0 = some r) {q : List MapEntry × Nat} (hq : putE es cl key v r = q)
    (kk : K ⟨st.tmps, upd st.objs k (.mapo q.1 q.2)⟩) :
    OpTo P cx false ⟨none, .mapUpdate T x y z, ty, pos, af, gd⟩ st K := by
  subst hq
  intro a w next Qx ⟨fz, β, hs⟩ hn
  obtain ⟨e, hu, hd, hzz⟩ := mapI_spec hT
  have hX := hs.op x h1
  rw [hx] at hX
  obtain ⟨b, e1, e2⟩ := hX
  have e3 := hs.eq hy h2
  have e4 := hs.eq hz h3
  obtain ⟨b', g1, hb⟩ := hs.h.ob k _ hf
  rw [e1] at g1; cases g1
  have h5 : (Instr.mapUpdate T (.map (some b)) key v).run P w = .ok () { w with heap := w.heap.setIfInBounds b (.map (putE es cl key v r).1.toArray (putE es cl key v r).2) } := by
    cases r with
    | none => simp [Instr.mapUpdate, run_underlying hu, MapKept.run_getObj_map hb, run_check hd hk, run_find hd hr, MapKept.run_setObj_map _ hb, putE]
    | some p =>
      obtain ⟨i, v0⟩ := p
      obtain ⟨e0, g1, g2, g3, g4⟩ := findNow_some hr
      simp only [Nat.sub_zero] at g2
      have g5 := sameBits_self hk g3
      simp [Instr.mapUpdate, run_underlying hu, MapKept.run_getObj_map hb, run_check hd hk, run_find hd hr, MapKept.run_setObj_map _ hb, putE, g2, Instr.keyThatStays, g5]
  unfold wpv
  have h6 : (execOp a.eval ⟨none, .mapUpdate T x y z, ty, pos, af, gd⟩).run P w = .ok .skip { w with heap := w.heap.setIfInBounds b (.map (putE es cl key v r).1.toArray (putE es cl key v r).2) } := by
    simp [execOp, e2, e3, e4, h5]
  rw [h6, upv_skip]
  exact hn _ _ _ kk ⟨fz, β, hs.wrM e1 hb _ _⟩ (fun h => by cases h)
theorem findNow_none {D : TypeDesc} {key : Value} : ∀ {es : List MapEntry} {n : Nat}, (∀ e ∈ es, Instr.sameNow D key e.key = some false) → Instr.findNow D key es n = some none
  | [], n, h => rfl
  | e :: es, n, h => by unfold Instr.findNow; rw [h e List.mem_cons_self]; exact findNow_none fun e' he => h e' (List.mem_cons_of_mem _ he)
theorem findNow_at {D : TypeDesc} {key : Value} : ∀ {es : List MapEntry} {n i : Nat} {e : MapEntry}, es[i]? = some e → Instr.sameNow D key e.key = some true → (∀ j e', j < i → es[j]? = some e' → Instr.sameNow D key e'.key = some false) → Instr.findNow D key es n = some (some (n + i, e.val))
  | [], n, i, e, h, _, _ => by simp at h
  | e0 :: es, n, 0, e, h, hs, _ => by
    simp at h; subst h
    unfold Instr.findNow; rw [hs]; rfl
  | e0 :: es, n, i + 1, e, h, hs, hl => by
    unfold Instr.findNow
    rw [hl 0 e0 (by omega) rfl]
    have := findNow_at (n := n + 1) (by simpa using h) hs (fun j e' hj he => hl (j + 1) e' (by omega) (by simpa using he))
    rw [show n + (i + 1) = n + 1 + i by omega]; exact this
/-! ### Numbers that stay in bounds -/
theorem wrap_id {n : Int} (h1 : -9223372036854775808 ≤ n) (h2 : n ≤ 9223372036854775807) : IntKind.i64.wrap n = n := by rw [IntKind.wrap_i64]; omega
theorem wrap_idu {n : Int} (h1 : 0 ≤ n) (h2 : n ≤ 18446744073709551615) : IntKind.u64.wrap n = n := by simp [IntKind.wrap, IntKind.bits, IntKind.signed]; omega
section
variable {tx t2 : TypeId} {u v : Int}
theorem Val.addI (hx : st.op cx x = .c (.p (.s (.int .i64 u)))) (hy : st.op cx y = .c (.p (.s (.int .i64 v)))) (h1 : okOp x = true) (h2 : okOp y = true) (hb : -9223372036854775808 ≤ u + v ∧ u + v ≤ 9223372036854775807) :
    Val P cx true ⟨dst, .binOp .add tx x y t2, ty, pos, af, gd⟩ st (.c (.p (.s (.int .i64 (u + v))))) := by
  have := Val.int2 (P := P) (dst := dst) (ty := ty) (pos := pos) (af := af) (gd := gd) (tx := tx) (t2 := t2) (op := .add) rfl hx hy h1 h2
  simp only [iop, wrap_id hb.1 hb.2] at this; exact this
theorem Val.subI (hx : st.op cx x = .c (.p (.s (.int .i64 u)))) (hy : st.op cx y = .c (.p (.s (.int .i64 v)))) (h1 : okOp x = true) (h2 : okOp y = true) (hb : -9223372036854775808 ≤ u - v ∧ u - v ≤ 9223372036854775807) :
    Val P cx true ⟨dst, .binOp .sub tx x y t2, ty, pos, af, gd⟩ st (.c (.p (.s (.int .i64 (u - v))))) := by
  have := Val.int2 (P := P) (dst := dst) (ty := ty) (pos := pos) (af := af) (gd := gd) (tx := tx) (t2 := t2) (op := .sub) rfl hx hy h1 h2
  simp only [iop, wrap_id hb.1 hb.2] at this; exact this
theorem Val.mulI (hx : st.op cx x = .c (.p (.s (.int .i64 u)))) (hy : st.op cx y = .c (.p (.s (.int .i64 v)))) (h1 : okOp x = true) (h2 : okOp y = true) (hb : -9223372036854775808 ≤ u * v ∧ u * v ≤ 9223372036854775807) :
    Val P cx true ⟨dst, .binOp .mul tx x y t2, ty, pos, af, gd⟩ st (.c (.p (.s (.int .i64 (u * v))))) := by
  have := Val.int2 (P := P) (dst := dst) (ty := ty) (pos := pos) (af := af) (gd := gd) (tx := tx) (t2 := t2) (op := .mul) rfl hx hy h1 h2
  simp only [iop, wrap_id hb.1 hb.2] at this; exact this
theorem Val.addU (hx : st.op cx x = .c (.p (.s (.int .u64 u)))) (hy : st.op cx y = .c (.p (.s (.int .u64 v)))) (h1 : okOp x = true) (h2 : okOp y = true) (hb : 0 ≤ u + v ∧ u + v ≤ 18446744073709551615) :
    Val P cx true ⟨dst, .binOp .add tx x y t2, ty, pos, af, gd⟩ st (.c (.p (.s (.int .u64 (u + v))))) := by
  have := Val.int2 (P := P) (dst := dst) (ty := ty) (pos := pos) (af := af) (gd := gd) (tx := tx) (t2 := t2) (op := .add) rfl hx hy h1 h2
  simp only [iop, wrap_idu hb.1 hb.2] at this; exact this
theorem Val.subU (hx : st.op cx x = .c (.p (.s (.int .u64 u)))) (hy : st.op cx y = .c (.p (.s (.int .u64 v)))) (h1 : okOp x = true) (h2 : okOp y = true) (hb : 0 ≤ u - v ∧ u - v ≤ 18446744073709551615) :
    Val P cx true ⟨dst, .binOp .sub tx x y t2, ty, pos, af, gd⟩ st (.c (.p (.s (.int .u64 (u - v))))) := by
  have := Val.int2 (P := P) (dst := dst) (ty := ty) (pos := pos) (af := af) (gd := gd) (tx := tx) (t2 := t2) (op := .sub) rfl hx hy h1 h2
  simp only [iop, wrap_idu hb.1 hb.2] at this; exact this
theorem Val.mulU (hx : st.op cx x = .c (.p (.s (.int .u64 u)))) (hy : st.op cx y = .c (.p (.s (.int .u64 v)))) (h1 : okOp x = true) (h2 : okOp y = true) (hb : 0 ≤ u * v ∧ u * v ≤ 18446744073709551615) :
    Val P cx true ⟨dst, .binOp .mul tx x y t2, ty, pos, af, gd⟩ st (.c (.p (.s (.int .u64 (u * v))))) := by
  have := Val.int2 (P := P) (dst := dst) (ty := ty) (pos := pos) (af := af) (gd := gd) (tx := tx) (t2 := t2) (op := .mul) rfl hx hy h1 h2
  simp only [iop, wrap_idu hb.1 hb.2] at this; exact this
end
section
variable {tx t2 : TypeId} {u v : Int}
theorem Val.remK {kd : IntKind} (hx : st.op cx x = .c (.p (.s (.int kd u)))) (hy : st.op cx y = .c (.p (.s (.int kd v)))) (h1 : okOp x = true) (h2 : okOp y = true) (hb : 0 ≤ u ∧ 0 < v) :
    Val P cx true ⟨dst, .binOp .rem tx x y t2, ty, pos, af, gd⟩ st (.c (.p (.s (.int kd (u % v))))) := by
  have := Val.rem (P := P) (dst := dst) (ty := ty) (pos := pos) (af := af) (gd := gd) (tx := tx) (t2 := t2) hx hy h1 h2 (by omega)
  rw [Int.tmod_eq_emod_of_nonneg hb.1] at this; exact this
theorem Val.quoI (hx : st.op cx x = .c (.p (.s (.int .i64 u)))) (hy : st.op cx y = .c (.p (.s (.int .i64 v)))) (h1 : okOp x = true) (h2 : okOp y = true) (hb : (0 ≤ u ∧ u ≤ 9223372036854775807) ∧ 0 < v) :
    Val P cx true ⟨dst, .binOp .quo tx x y t2, ty, pos, af, gd⟩ st (.c (.p (.s (.int .i64 (u / v))))) := by
  have := Val.quo (P := P) (dst := dst) (ty := ty) (pos := pos) (af := af) (gd := gd) (tx := tx) (t2 := t2) hx hy h1 h2 (by omega)
  have h3 : u / v ≤ u := Int.ediv_le_self _ hb.1.1
  have h4 : 0 ≤ u / v := Int.ediv_nonneg hb.1.1 (by omega)
  rw [Int.tdiv_eq_ediv_of_nonneg hb.1.1, wrap_id (by omega) (by omega)] at this; exact this
theorem Val.quoU (hx : st.op cx x = .c (.p (.s (.int .u64 u)))) (hy : st.op cx y = .c (.p (.s (.int .u64 v)))) (h1 : okOp x = true) (h2 : okOp y = true) (hb : (0 ≤ u ∧ u ≤ 18446744073709551615) ∧ 0 < v) :
    Val P cx true ⟨dst, .binOp .quo tx x y t2, ty, pos, af, gd⟩ st (.c (.p (.s (.int .u64 (u / v))))) := by
  have := Val.quo (P := P) (dst := dst) (ty := ty) (pos := pos) (af := af) (gd := gd) (tx := tx) (t2 := t2) hx hy h1 h2 (by omega)
  have h3 : u / v ≤ u := Int.ediv_le_self _ hb.1.1
  have h4 : 0 ≤ u / v := Int.ediv_nonneg hb.1.1 (by omega)
  rw [Int.tdiv_eq_ediv_of_nonneg hb.1.1, wrap_idu (by omega) (by omega)] at this; exact this
end
section
variable {sr ds : TypeId} {kj : IntKind} {u : Int}
theorem Val.convB (hx : st.op cx x = .c (.p (.s (.int kj u)))) (h1 : okOp x = true) (hs : hasTy P sr = true) (hd : tyK P ds = some .u8) (hb : 0 ≤ u ∧ u ≤ 255) : Val P cx true ⟨dst, .convert sr ds x, ty, pos, af, gd⟩ st (.c (.p (.s (.int .u8 u)))) := by
  unfold hasTy at hs; unfold tyK at hd
  obtain ⟨D, hD⟩ := Option.isSome_iff_exists.1 hs
  cases hu : P.underlying ds with
  | none => simp [hu] at hd
  | some D' =>
    cases D' <;> simp [hu] at hd
    subst hd
    have := Val.convI (P := P) (dst := dst) (ty := ty) (pos := pos) (af := af) (gd := gd) hx h1 hD hu
    rw [show IntKind.u8.wrap u = u by simp [IntKind.wrap, IntKind.bits, IntKind.signed]; omega] at this; exact this
theorem Val.convU (hx : st.op cx x = .c (.p (.s (.int kj u)))) (h1 : okOp x = true) (hs : hasTy P sr = true) (hd : tyK P ds = some .u64) (hb : 0 ≤ u ∧ u ≤ 18446744073709551615) : Val P cx true ⟨dst, .convert sr ds x, ty, pos, af, gd⟩ st (.c (.p (.s (.int .u64 u)))) := by
  unfold hasTy at hs; unfold tyK at hd
  obtain ⟨D, hD⟩ := Option.isSome_iff_exists.1 hs
  cases hu : P.underlying ds with
  | none => simp [hu] at hd
  | some D' =>
    cases D' <;> simp [hu] at hd
    subst hd
    have := Val.convI (P := P) (dst := dst) (ty := ty) (pos := pos) (af := af) (gd := gd) hx h1 hD hu
    rw [wrap_idu hb.1 hb.2] at this; exact this
theorem Val.convS (hx : st.op cx x = .c (.p (.s (.int kj u)))) (h1 : okOp x = true) (hs : hasTy P sr = true) (hd : tyK P ds = some .i64) (hb : -9223372036854775808 ≤ u ∧ u ≤ 9223372036854775807) : Val P cx true ⟨dst, .convert sr ds x, ty, pos, af, gd⟩ st (.c (.p (.s (.int .i64 u)))) := by
  unfold hasTy at hs; unfold tyK at hd
  obtain ⟨D, hD⟩ := Option.isSome_iff_exists.1 hs
  cases hu : P.underlying ds with
  | none => simp [hu] at hd
  | some D' =>
    cases D' <;> simp [hu] at hd
    subst hd
    have := Val.convI (P := P) (dst := dst) (ty := ty) (pos := pos) (af := af) (gd := gd) hx h1 hD hu
    rw [wrap_id hb.1 hb.2] at this; exact this
end
/-! ### Rows told by a list -/
/-- A slice's elements: their size. -/
def slI (P : Program) (S : TypeId) : Option Nat := match P.underlying S with
  | some (.slice e) => (P.info? e).map (·.size)
  | _ => none
theorem slI_spec {S : TypeId} {sz : Nat} (h : slI P S = some sz) : ∃ e, P.underlying S = some (.slice e) ∧ (P.info? e).map (·.size) = some sz := by
  unfold slI at h
  split at h
  · rename_i e hu; exact ⟨e, hu, h⟩
  · cases h
theorem nat_at {kd : IntKind} {j : Nat} : (Value.int kd (j : Int)) = .int kd (j : Int) := rfl
theorem Val.ixN {S : TypeId} {sz j : Nat} {kd : IntKind} {α : Type} {f : α → List PV} {l : List α} (hs : slI P S = some sz) (h1 : okOp x = true) (h2 : okOp y = true) (hx : st.op cx x = .c (.p (.fro (l.map f))))
    (hi : st.op cx y = .c (.p (.s (.int kd (j : Int))))) (hj : j < l.length) (hf : ∀ a, (f a).length = sz) : Val P cx true ⟨dst, .indexAddr S x y, ty, pos, af, gd⟩ st (.c (.eptr (f l[j]))) := by
  obtain ⟨e, hu, hz⟩ := slI_spec hs
  exact Val.ixF (i := (j : Int)) hu hz h1 h2 hx hi (by omega) (by simpa using fmap_at f l j hj) (hf _)
/-- The same, at a number. -/
theorem Val.ixZ {S : TypeId} {sz : Nat} {kd : IntKind} {i : Int} {α : Type} {f : α → List PV} {l : List α} (j : Nat) (hs : slI P S = some sz) (h1 : okOp x = true) (h2 : okOp y = true) (hx : st.op cx x = .c (.p (.fro (l.map f))))
    (hi : st.op cx y = .c (.p (.s (.int kd i)))) (he : i = (j : Int)) (hj : j < l.length) (hf : ∀ a, (f a).length = sz) : Val P cx true ⟨dst, .indexAddr S x y, ty, pos, af, gd⟩ st (.c (.eptr (f l[j]))) := by
  subst he; exact Val.ixN hs h1 h2 hx hi hj hf
/-- An own row's element: where it lies. -/
theorem Val.ixON {S : TypeId} {sz j n : Nat} {kd : IntKind} (hs : slI P S = some sz) (h1 : okOp x = true) (h2 : okOp y = true) (hx : st.op cx x = .c (.own k sz n))
    (hi : st.op cx y = .c (.p (.s (.int kd (j : Int))))) (hj : j < n) : Val P cx true ⟨dst, .indexAddr S x y, ty, pos, af, gd⟩ st (.c (.rptr k sz j 0)) := by
  obtain ⟨e, hu, hz⟩ := slI_spec hs
  exact Val.ixO (i := (j : Int)) hu hz h1 h2 hx hi (by omega) (by omega)
theorem Val.ixOZ {S : TypeId} {sz n : Nat} {kd : IntKind} {i : Int} (j : Nat) (hs : slI P S = some sz) (h1 : okOp x = true) (h2 : okOp y = true) (hx : st.op cx x = .c (.own k sz n))
    (hi : st.op cx y = .c (.p (.s (.int kd i)))) (he : i = (j : Int)) (hj : j < n) : Val P cx true ⟨dst, .indexAddr S x y, ty, pos, af, gd⟩ st (.c (.rptr k sz j 0)) := by
  subst he; exact Val.ixON hs h1 h2 hx hi hj
/-- A cell of an own row's element. -/
theorem Val.ldR {sz j c : Nat} {α : Type} {f : α → List PV} {l : List α} (z : PV) (hT : tyI P T = some none) (h1 : okOp x = true) (hx : st.op cx x = .c (.rptr k sz j c)) (hf : find st.objs k = some (.row T' sz (l.map f))) (hj : j < l.length) (hz : (f l[j])[c]? = some z) :
    Val P cx false ⟨dst, .load T x, ty, pos, af, gd⟩ st (.c (.p z)) :=
  Val.ld1 (cs := (f l[j]).drop c) hT h1 (by rw [hx]; simp [placeP, hf, hj]) (by simpa using hz)
/-- A whole element of an own row. -/
theorem Val.ldRN {sz j n : Nat} {α : Type} {f : α → List PV} {l : List α} (hT : tyI P T = some (some n)) (h1 : okOp x = true) (hx : st.op cx x = .c (.rptr k sz j 0)) (hf : find st.objs k = some (.row T' sz (l.map f))) (hj : j < l.length) (hn : ∀ a, (f a).length = n) :
    Val P cx false ⟨dst, .load T x, ty, pos, af, gd⟩ st (.pag (f l[j])) :=
  Val.ldF hT h1 (by rw [hx]; simp [placeP, hf, hj]) (hn _)
/-- Into a cell, or all, of an own row's element. -/
theorem OpTo.stRN {sz j c : Nat} {α : Type} {f : α → List PV} {l : List α} {ys : List PV} (b : α) (hx : st.op cx x = .c (.rptr k sz j c)) (h1 : okOp x = true) (hf : find st.objs k = some (.row T' sz (l.map f))) (hj : j < l.length) (hy : pvs (st.op cx y) = some ys) (h2 : okOp y = true)
    (hT : (P.info? T).map (·.size) = some ys.length) (hl : c + ys.length ≤ sz) (hb : splice (f l[j]) c ys = f b)
    (kk : K ⟨st.tmps, upd st.objs k (.row T' sz ((l.set j b).map f))⟩) : OpTo P cx false ⟨none, .store T x y, ty, pos, af, gd⟩ st K := by
  refine OpTo.stR (cs := f l[j]) hx h1 hf (by simp [hj]) hy h2 hT hl ?_
  rw [hb, ← List.map_set]; exact kk
theorem map_len {α : Type} {f : α → List PV} {sz : Nat} (hf : ∀ a, (f a).length = sz) (l : List α) : ∀ cs ∈ l.map f, cs.length = sz := by
  intro cs h; obtain ⟨a, _, rfl⟩ := List.mem_map.1 h; exact hf a
/-- Onto an own row. -/
theorem OpTo.appN {t : TypeId} {s : Operand} {z : Value} {sz by_ : Nat} {α : Type} {f : α → List PV} {l m : List α} (hu : P.underlying t = some (.slice E)) (hE : tyF P E = some (some z, sz, by_)) (hzs : z.cells.size = sz) (hs0 : 0 < sz)
    (h1 : okOp s = true) (h2 : okOp x = true) (hlow : k < 1000000)
    (hs : st.op cx s = .c (.own k sz l.length)) (hf : find st.objs k = some (.row E sz (l.map f)))
    (hx : elems st (st.op cx x) = some (m.map f)) (hfl : ∀ a, (f a).length = sz) (hb : (l.length + m.length) * by_ ≤ 140737488355328) (hm : l.length + m.length ≤ 9223372036854775807)
    (kk : K (St.put ⟨(st.kill k).tmps, upd (st.kill k).objs k (.row E sz ((l ++ m).map f))⟩ dst (.c (.own k sz (l ++ m).length)))) :
    OpTo P cx false ⟨dst, .call { callee := .builtin .append, args := #[s, x], argTypes := #[t, t] }, ty, pos, af, gd⟩ st K := by
  refine OpTo.app (xs := l.map f) (ys := m.map f) hu hE hzs hs0 h1 h2 hlow (.inl ⟨by rw [hs]; simp, hf⟩) hx (map_len hfl m) (by simpa using hb) (by simp [maxLen]; omega) ?_
  simp only [← List.map_append, List.length_map]
  rw [List.length_append] at kk; exact kk
/-- A cut of a row that is only read. -/
theorem Val.cutN {sz a b : Nat} {α : Type} {f : α → List PV} {l : List α} {lo hi : Option Operand} (hs : slI P T = some sz) (ho : okOp x = true) (hx : st.op cx x = .c (.p (.fro (l.map f))))
    (hl : Bnd cx st lo 0 a) (hh : Bnd cx st hi l.length b) (hab : a ≤ b) (hbn : b ≤ l.length) (hf : ∀ a, (f a).length = sz) : Val P cx true ⟨dst, .slice T x lo hi none, ty, pos, af, gd⟩ st (.c (.p (.fro (((l.take b).drop a).map f)))) := by
  obtain ⟨e, hu, hz⟩ := slI_spec hs
  have := Val.cutF (P := P) (dst := dst) (ty := ty) (pos := pos) (af := af) (gd := gd) (xs := l.map f) hu hz ho hx hl (by simpa using hh) hab (by simpa using hbn) (map_len hf l)
  rw [List.map_drop, List.map_take]; exact this
theorem flat_pvI {k : IntKind} (l : List Int) : (l.map (pvI k)).flatten = l.map (fun n => PV.s (.int k n)) := by
  induction l with
  | nil => rfl
  | cons a l ih => rw [List.map_cons, List.flatten_cons, ih]; rfl
theorem all2_ints {w : World} {fz : Nat → Prop} {k : IntKind} : ∀ {l : List Int} {vs : List Value}, All2 (RepP w fz) (l.map fun n => PV.s (.int k n)) vs → vs = l.map (Value.int k)
  | [], _, .nil => rfl
  | a :: l, _, .cons h t => by rw [RepP.eq h, all2_ints t]; rfl
/-- Bytes as a text. -/
def bsOf (l : List Int) : ByteArray := l.foldl (fun r n => r.push (UInt8.ofNat n.toNat)) ByteArray.empty
def bsI (P : Program) (sr ds : TypeId) : Bool := match P.underlying sr, P.underlying ds with
  | some (.slice e), some .string => match P.underlying e with
    | some (.int .u8) => true
    | _ => false
  | _, _ => false
theorem Val.convBS {sr ds : TypeId} {l : List Int} (hs : bsI P sr ds = true) (ho : okOp x = true) (hx : elems st (st.op cx x) = some (l.map (pvI .u8))) (h0 : l ≠ []) : Val P cx false ⟨dst, .convert sr ds x, ty, pos, af, gd⟩ st (.c (.p (.s (.string (bsOf l))))) := fun a w fz β hr => by
  unfold bsI at hs
  split at hs
  · rename_i e hu hd
    split at hs
    · rename_i he
      obtain ⟨sz, ad, c, h1, h2, h3⟩ := hr.lies (hr.op x ho) hx
      obtain ⟨b, o, rfl, h4, news, h5, h6⟩ := h3.resolve_left (by simp [h0])
      have hn : news = l.map (Value.int .u8) := all2_ints (by rw [flat_pvI] at h5; exact h5)
      refine ⟨.string (bsOf l), RepP.s _ rfl, fun w' hw => ?_⟩
      have hO := hw.resolve_left (by simp)
      have hl : (loadCells ⟨b, o, none⟩ (l.map (pvI .u8)).length).run P w' = .ok (l.map (Value.int .u8)).toArray w' := by
        have := run_loadCells_list (P := P) w' ⟨b, o, none⟩ news (fun j v h => by rw [Addr.add_lit]; exact hO.cell (h6 j v h))
        rw [hn] at this; simpa using this
      have := run_bytesToString (P := P) w' ⟨b, o, none⟩ (l.map (pvI .u8)).length c l hl
      simp [execOp, h1, run_convert_bytes_string w' sr ds e _ _ _ hu he hd]
      rw [List.length_map] at this
      rw [this]; rfl
    · cases hs
  · cases hs
/-- A slice's type: its elements' type, zero value, size, bytes. -/
def litI (P : Program) (S : TypeId) : Option (TypeId × Value × Nat × Nat) := match P.underlying S with
  | some (.slice e) => match P.info? e with
    | some i => i.zero.map fun z => (e, z, i.size, i.bytes)
    | none => none
  | _ => none
theorem litI_spec {S : TypeId} {z : Value} {sz by_ : Nat} (h : litI P S = some (E, z, sz, by_)) : P.underlying S = some (.slice E) ∧ tyF P E = some (some z, sz, by_) := by
  unfold litI at h
  split at h
  · rename_i e hu
    split at h
    · rename_i i hi
      obtain ⟨z', hz, he⟩ := Option.map_eq_some_iff.1 h
      simp only [Prod.mk.injEq] at he
      obtain ⟨rfl, rfl, rfl, rfl⟩ := he
      exact ⟨hu, by simp [tyF, hi, hz]⟩
    · cases h
  · cases h
theorem OpTo.litN {α : Type} (f : α → List PV) (l : List α) {d len : Nat} {z : Value} {sz by_ : Nat} {parts : List (Nat × Operand)} {cs : List PV} (hT : litI P T = some (E, z, sz, by_)) (hzs : z.cells.size = sz) (hs0 : 0 < sz) (hok : okV z = true) (hnt : z.oneCell' = true ∨ ∃ cs, z = .agg cs) (hb : len * sz ≤ 16777216)
    (ho : parts.all (fun p => okOp p.2) = true) (hf : fillA (fun i => some (i * sz, sz)) (zeros sz z len) (parts.map fun p => (p.1, pvs (st.op cx p.2))) = some cs) (hlow : d < 1000000) (hd : st.noref d = true) (hr : chunks sz len cs = l.map f) (hl : len = l.length)
    (kk : K (St.put ⟨st.tmps, upd st.objs d (.row E sz (l.map f))⟩ (some d) (.c (.own d sz l.length)))) : OpTo P cx kp ⟨some d, .buildSlice T len parts.toArray, ty, pos, af, gd⟩ st K := by
  obtain ⟨hu, hE⟩ := litI_spec hT
  subst hl
  exact OpTo.litR (l.map f) hu hE hzs hs0 hok hnt hb ho hf hlow hd hr kk
theorem OpTo.appM {α : Type} (f : α → List PV) (l m : List α) {t : TypeId} {s : Operand} {z : Value} {sz by_ : Nat} (hT : litI P t = some (E, z, sz, by_)) (hzs : z.cells.size = sz) (hs0 : 0 < sz)
    (h1 : okOp s = true) (h2 : okOp x = true) (hlow : k < 1000000) (hs : st.op cx s = .c (.own k sz l.length)) (hf : find st.objs k = some (.row E sz (l.map f)))
    (hx : elems st (st.op cx x) = some (m.map f)) (hfl : ∀ a, (f a).length = sz) (hb : (l.length + m.length) * by_ ≤ 140737488355328) (hm : l.length + m.length ≤ 9223372036854775807)
    (kk : K (St.put ⟨(st.kill k).tmps, upd (st.kill k).objs k (.row E sz ((l ++ m).map f))⟩ dst (.c (.own k sz (l ++ m).length)))) :
    OpTo P cx false ⟨dst, .call { callee := .builtin .append, args := #[s, x], argTypes := #[t, t] }, ty, pos, af, gd⟩ st K := by
  obtain ⟨hu, hE⟩ := litI_spec hT
  exact OpTo.appN hu hE hzs hs0 h1 h2 hlow hs hf hx hfl hb hm kk
theorem OpTo.makeN {α : Type} (f : α → List PV) (b : α) {d : Nat} {z : Value} {sz by_ : Nat} {kl kc : IntKind} (n : Nat) {l c : Int} (hT : litI P T = some (E, z, sz, by_)) (hzs : z.cells.size = sz) (hs0 : 0 < sz) (hok : okV z = true) (hnt : z.oneCell' = true ∨ ∃ cs, z = .agg cs)
    (hx : st.op cx x = .c (.p (.s (.int kl l)))) (hy : st.op cx y = .c (.p (.s (.int kc c)))) (h1 : okOp x = true) (h2 : okOp y = true) (hn : l = (n : Int)) (hlc : l ≤ c) (hb : (by_ : Int) * c ≤ 281474976710656) (hm : c ≤ 9223372036854775807) (hlow : d < 1000000) (hd : st.noref d = true)
    (hz : z.cells.toList.map PV.s = f b)
    (kk : K (St.put ⟨st.tmps, upd st.objs d (.row E sz ((List.replicate n b).map f))⟩ (some d) (.c (.own d sz n)))) : OpTo P cx kp ⟨some d, .makeSlice T x y, ty, pos, af, gd⟩ st K := by
  obtain ⟨hu, hE⟩ := litI_spec hT
  subst hn
  refine OpTo.make hu hE hzs hs0 hok hnt hx hy h1 h2 (by omega) hlc hb hm hlow hd ?_
  rw [Int.toNat_natCast, hz, ← List.map_replicate]; exact kk
/-- Quick operations that can't leave their bounds. -/
def slowOp : Op → Bool
  | .binOp .add .. | .binOp .sub .. | .binOp .mul .. | .binOp .quo .. | .binOp .rem .. | .convert .. => true
  | _ => false
def ev2 (P : Program) (cx : Cx) (st : St) (o : Op) : Option AV := cond (slowOp o) none (ev P cx st o)
theorem Val.ev2 {o : Oper} {x : AV} (h : ev2 P cx st o.op = some x) : Val P cx false o st x := by
  unfold Vl.ev2 at h
  cases hs : slowOp o.op with
  | true => rw [hs] at h; cases h
  | false => rw [hs] at h; exact Val.ev h
/-- Calls, the arguments looked at first. -/
theorem OpTo.callO {f : Nat} {xs : List Operand} {args : List AV} {ats : Array TypeId} {Q : AV → List (Nat × Ob) → Prop} (hf : isFn P f = true) (ho : okOps xs = true)
    (ha : xs.map (fun x => Vl.frz st (st.op cx x)) = args) (hk : args.all AV.keyless = true) (hc : AC P cx.G f args [] Q) (hq : ∀ r os', Q r os' → ∃ s', Imp false st os' dst r s' ∧ K s') :
    OpTo P cx kp ⟨dst, .call { callee := .value (.func f), args := xs.toArray, argTypes := ats }, ty, pos, af, gd⟩ st K := OpTo.call hc hf ho ha hk hq
theorem OpTo.callAO {f : Nat} {xs : List Operand} {args : List AV} {ats : Array TypeId} {Q : AV → List (Nat × Ob) → Prop} (hf : isFn P f = true) (ho : okOps xs = true)
    (ha : xs.map (fun x => Vl.nilFro (st.op cx x)) = args) (hk : args.all AV.keyless = true) (hc : AC P cx.G f args [] Q) (hq : ∀ r os', Q r os' → ∃ s', Imp true st os' dst r s' ∧ K s') :
    OpTo P cx kp ⟨dst, .call { callee := .value (.func f), args := xs.toArray, argTypes := ats }, ty, pos, af, gd⟩ st K := OpTo.callA hc hf ho ha hk hq
theorem OpTo.callRO {f : Nat} {xs : List Operand} {args : List AV} {os0 : List (Nat × Ob)} {ats : Array TypeId} {Q : AV → List (Nat × Ob) → Prop} (im : List (Nat × Nat)) (hos : lend st.objs = os0) (hf : isFn P f = true) (ho : okOps xs = true)
    (ha : xs.map (fun x => (nilFro (st.op cx x)).up) = args) (hi : imOk im = true) (hno : norefT st im = true) (hc : AC P cx.G f args os0 Q) (hq : ∀ r os', Q r os' → K (St.put ⟨st.tmps, dnO im os'⟩ dst (r.dn im))) :
    OpTo P cx false ⟨dst, .call { callee := .value (.func f), args := xs.toArray, argTypes := ats }, ty, pos, af, gd⟩ st K := OpTo.callR im hc hos hf ho ha hi hno hq
end
theorem set_front {α : Type} (s b : List α) (j : Nat) (hs : j < s.length) (hb : j < b.length) : (s.take j ++ b.drop j).set j s[j] = s.take (j + 1) ++ b.drop (j + 1) := by
  have hl : (s.take j).length = j := by simp; omega
  rw [List.set_append_right _ _ (by omega), hl, Nat.sub_self, List.drop_eq_getElem_cons hb, List.set_cons_zero, List.take_succ_eq_append_getElem hs, List.append_assoc]
  rfl
theorem get_front {α : Type} (s b : List α) (j : Nat) (hs : j ≤ s.length) (hb : j < b.length) : (s.take j ++ b.drop j)[j]'(by simp; omega) = b[j] := by
  have hl : (s.take j).length = j := by simp; omega
  rw [List.getElem_append_right (by omega)]
  simp [hl]
theorem at_nat {α : Type} (l : List α) (j : Nat) (h : j < l.length) : l.drop j = l[j] :: l.drop (j + 1) := List.drop_eq_getElem_cons h
end Go.Proofs.Vl
end
section
/- More: keys of maps, texts' bytes, cuts of texts. -/
set_option linter.all false
namespace Go.Proofs.Vl
open Go Go.RowKit
section
variable {P : Program} {cx : Cx} {st : St} {a : Act} {w : World} {fz : Nat → Prop} {β : Nat → Option Nat} {Q : Exit → St → Prop} {c : Code}
variable {kp : Bool} {K : St → Prop} {dst : Option Tmp} {ty T T' E : TypeId} {pos : String} {af : Array Edge} {gd : Option (Nat × Bool)} {x y : Operand} {k : Nat}
/-! ### Keys -/
theorem fn_keys {κ : Type} [DecidableEq κ] {D : TypeDesc} (g : κ → Value) (hs : ∀ a b, Instr.sameNow D (g a) (g b) = some (decide (a = b))) (x : κ) :
    ∀ (es : List MapEntry) (ks : List κ) (n : Nat), es.map (·.key) = ks.map g → (x ∉ ks → Instr.findNow D (g x) es n = some none) ∧ (x ∈ ks → ∃ i e, e ∈ es ∧ i < es.length ∧ Instr.findNow D (g x) es n = some (some (n + i, e.val)))
  | [], [], n, _ => ⟨fun _ => rfl, fun h => by cases h⟩
  | [], _ :: _, n, h => by simp at h
  | _ :: _, [], n, h => by simp at h
  | e :: es, k :: ks, n, h => by
    simp only [List.map_cons, List.cons.injEq] at h
    obtain ⟨h1, h2⟩ := h
    have ih := fn_keys g hs x es ks (n + 1) h2
    have e1 : Instr.sameNow D (g x) e.key = some (decide (x = k)) := by rw [h1]; exact hs _ _
    by_cases hx : x = k
    · subst hx
      refine ⟨fun h => absurd List.mem_cons_self h, fun _ => ⟨0, e, List.mem_cons_self, by simp, ?_⟩⟩
      unfold Instr.findNow; rw [e1]; simp
    · have e2 : Instr.findNow D (g x) (e :: es) n = Instr.findNow D (g x) es (n + 1) := by
        conv => lhs; unfold Instr.findNow
        rw [e1]; simp [hx]
      rw [e2]
      refine ⟨fun h => ih.1 fun h3 => h (List.mem_cons_of_mem _ h3), fun h => ?_⟩
      obtain ⟨i, e', h3, h4, h5⟩ := ih.2 ((List.mem_cons.1 h).resolve_left hx)
      exact ⟨i + 1, e', List.mem_cons_of_mem _ h3, by simp; omega, by rw [h5, show n + 1 + i = n + (i + 1) by omega]⟩
theorem same_int {q : IntKind} (a b : Int) : Instr.sameNow (.int q) (.int q a) (.int q b) = some (decide (a = b)) := by
  show (if q = q then some (a == b) else none) = _
  rw [if_pos rfl]; rfl
theorem same_str (a b : ByteArray) : Instr.sameNow .string (.string a) (.string b) = some (decide (a = b)) := by
  show some (a == b) = _
  congr 1
  rw [Bool.eq_iff_iff, MapKept.bytes_beq]; simp
theorem fn_push {D : TypeDesc} {key : Value} (hs : Instr.sameNow D key key = some true) (v : Value) (b : Nat) : ∀ {es : List MapEntry} {n : Nat}, Instr.findNow D key es n = some none → Instr.findNow D key (es ++ [⟨key, v, b⟩]) n = some (some (n + es.length, v))
  | [], n, _ => by simp [Instr.findNow, hs]
  | e :: es, n, h => by
    unfold Instr.findNow at h
    rw [List.cons_append]
    unfold Instr.findNow
    split at h
    · cases h
    · rename_i hf
      have := fn_push hs v b h
      first | rw [hf] | skip
      simp only [this, List.length_cons]
      congr 3; omega
    · cases h
theorem fn_mod {D : TypeDesc} {key : Value} (hs : Instr.sameNow D key key = some true) (v v0 : Value) : ∀ {es : List MapEntry} {n i : Nat}, Instr.findNow D key es n = some (some (n + i, v0)) → Instr.findNow D key (es.modify i (fun e => { e with key := key, val := v })) n = some (some (n + i, v))
  | [], n, i, h => by simp [Instr.findNow] at h
  | e :: es, n, i, h => by
    unfold Instr.findNow at h
    split at h
    · rename_i hf
      simp only [Option.some.injEq, Prod.mk.injEq] at h
      have hi : i = 0 := by omega
      subst hi
      show Instr.findNow D key ({ e with key := key, val := v } :: es) n = _
      unfold Instr.findNow
      simp [hs]
    · rename_i hf
      cases i with
      | zero => obtain ⟨e', h1, _⟩ := findNow_some h; omega
      | succ i =>
        show Instr.findNow D key (e :: es.modify i _) n = _
        unfold Instr.findNow
        rw [hf]
        have := fn_mod hs v v0 (n := n + 1) (i := i) (by rw [show n + 1 + i = n + (i + 1) by omega]; exact h)
        rw [show n + (i + 1) = n + 1 + i by omega]; exact this
    · cases h
/-! ### Texts -/
def bys (s : ByteArray) : List Int := s.data.toList.map fun c => (c.toNat : Int)
theorem bys_len (s : ByteArray) : (bys s).length = s.size := by simp [bys]
theorem bys_rng (s : ByteArray) : ∀ c ∈ bys s, 0 ≤ c ∧ c < 256 := by
  intro c h
  obtain ⟨b, _, rfl⟩ := List.mem_map.1 h
  have := b.toNat_lt
  exact ⟨by omega, by omega⟩
theorem bys_inj {s t : ByteArray} (h : bys s = bys t) : s = t := by
  apply ByteArray.ext; apply Array.ext'
  have hf : Function.Injective (fun c : UInt8 => ((c.toNat : Nat) : Int)) := fun a b h => UInt8.toNat_inj.1 (Int.ofNat_inj.1 h)
  exact (List.map_inj_right (fun a b h => hf h)).1 h
def strI (P : Program) (T : TypeId) : Bool := match P.underlying T with
  | some .string => true
  | _ => false
theorem strI_spec (h : strI P T = true) : P.underlying T = some .string := by
  unfold strI at h; split at h
  · rename_i hu; exact hu
  · cases h
theorem Val.idxN {s : ByteArray} {kd : IntKind} {j : Nat} (hu : strI P T = true) (hx : st.op cx x = .c (.p (.s (.string s)))) (hy : st.op cx y = .c (.p (.s (.int kd (j : Int))))) (h1 : okOp x = true) (h2 : okOp y = true) (hl : j < (bys s).length) :
    Val P cx true ⟨dst, .index T x y, ty, pos, af, gd⟩ st (.c (.p (.s (.int .u8 (bys s)[j])))) := by
  have hl' : j < s.size := by rw [← bys_len]; exact hl
  have := Val.idxS (P := P) (dst := dst) (ty := ty) (pos := pos) (af := af) (gd := gd) (i := (j : Int)) (strI_spec hu) hx hy h1 h2 (by omega) (by simpa using hl')
  have e : ((s[((j : Int)).toNat]'(by simpa using hl')).toNat : Int) = (bys s)[j] := by simp [bys]; rfl
  rw [e] at this; exact this
theorem Val.idxZ {s : ByteArray} {kd : IntKind} {i : Int} (j : Nat) (hu : strI P T = true) (hx : st.op cx x = .c (.p (.s (.string s)))) (hy : st.op cx y = .c (.p (.s (.int kd i)))) (h1 : okOp x = true) (h2 : okOp y = true) (hi : i = (j : Int)) (hl : j < (bys s).length) :
    Val P cx true ⟨dst, .index T x y, ty, pos, af, gd⟩ st (.c (.p (.s (.int .u8 (bys s)[j])))) := by
  subst hi; exact Val.idxN hu hx hy h1 h2 hl
/-- A cut of a text. -/
theorem Val.cutS {s : ByteArray} {lo hi : Option Operand} {l h : Nat} (hu : strI P T = true) (ho : okOp x = true) (hx : st.op cx x = .c (.p (.s (.string s)))) (hl : Bnd cx st lo 0 l) (hh : Bnd cx st hi s.size h) (hlh : l ≤ h) (hhn : h ≤ s.size) :
    Val P cx true ⟨dst, .slice T x lo hi none, ty, pos, af, gd⟩ st (.c (.p (.s (.string (s.extract l h))))) := fun a w fz β hs => by
  have e := hs.eq hx ho
  have h1 := hs.bnd hl
  have h2 := hs.bnd hh
  refine ⟨.string (s.extract l h), RepP.s _ rfl, fun w' _ => ?_⟩
  have hb : ∀ (k : IntKind) (v : Int) (y : Nat) (code : BoundsCode), 0 ≤ v → v.toNat ≤ y → (Instr.sliceBound (.int k v) y code).run P w' = .ok v.toNat w' := fun k v y code h0 hy => by
    have : 0 ≤ v ∧ v ≤ (y : Int) := ⟨h0, by omega⟩
    simp [Instr.sliceBound, asIntOf, this]
  have hbs : (Instr.sliceBounds false s.size s.size (lo.map a.eval) (hi.map a.eval) none).run P w' = .ok (l, h, s.size) w' := by
    rcases h1 with ⟨h1, rfl⟩ | ⟨k1, v1, h1, g1, rfl⟩ <;> rcases h2 with ⟨h2, rfl⟩ | ⟨k2, v2, h2, g2, rfl⟩ <;> rw [h1, h2]
    · simp [Instr.sliceBounds]
    · simp [Instr.sliceBounds, hb k2 v2 _ _ g2 hhn]
    · simp [Instr.sliceBounds, hb k1 v1 _ _ g1 hlh]
    · simp [Instr.sliceBounds, hb k2 v2 _ _ g2 hhn, hb k1 v1 _ _ g1 hlh]
  simp [execOp, e, Instr.sliceAt, Instr.slice, run_underlying (strI_spec hu), hbs]
theorem bys_extract (s : ByteArray) (l h : Nat) : bys (s.extract l h) = ((bys s).take h).drop l := by
  simp [bys, List.map_drop, List.map_take, ByteArray.data_extract, Array.toList_extract, List.extract_eq_drop_take, List.take_drop]
  by_cases hlh : l ≤ h
  · rw [show l + (h - l) = h by omega]
  · rw [List.drop_of_length_le (by simp; omega), List.drop_of_length_le (by simp; omega)]
theorem str_beq (s t : ByteArray) : (s.toList == t.toList) = (bys s == bys t) := by
  rw [Bool.eq_iff_iff, beq_iff_eq, beq_iff_eq, ByteArray.toList_eq, ByteArray.toList_eq]
  constructor
  · intro h; simp only [bys, h]
  · intro h; rw [bys_inj h]
theorem str_beq' (s t : ByteArray) : (s.toList == t.toList) = decide (s = t) := by
  rw [str_beq, Bool.eq_iff_iff, beq_iff_eq, decide_eq_true_eq]
  exact ⟨bys_inj, fun h => by rw [h]⟩
/-! ### Maps: both ways -/
theorem Val.lookN {kt : TypeId} {D : TypeDesc} {z key : Value} {es : List MapEntry} {cl : Nat} (hT : mapI P T = some (kt, D, z)) (h1 : okOp x = true) (h2 : okOp y = true) (hx : st.op cx x = .c (.mp k)) (hf : find st.objs k = some (.mapo es cl))
    (hy : st.op cx y = .c (.p (.s key))) (hk : keyOk D key = true) (ho : z.oneCell' = true) (hr : Instr.findNow D key es 0 = some none) :
    Val P cx false ⟨dst, .lookup T x y false, ty, pos, af, gd⟩ st (.c (.p (.s z))) := Val.lookup (r := none) hT h1 h2 hx hf hy hk hr ho
theorem Val.lookS {kt : TypeId} {D : TypeDesc} {z key v : Value} {i : Nat} {es : List MapEntry} {cl : Nat} (hT : mapI P T = some (kt, D, z)) (h1 : okOp x = true) (h2 : okOp y = true) (hx : st.op cx x = .c (.mp k)) (hf : find st.objs k = some (.mapo es cl))
    (hy : st.op cx y = .c (.p (.s key))) (hk : keyOk D key = true) (hr : Instr.findNow D key es 0 = some (some (i, v))) (ho : v.oneCell' = true) :
    Val P cx false ⟨dst, .lookup T x y false, ty, pos, af, gd⟩ st (.c (.p (.s v))) := Val.lookup (r := some (i, v)) hT h1 h2 hx hf hy hk hr ho
theorem OpTo.updN {z : Operand} {kt : TypeId} {D : TypeDesc} {zv key v : Value} {es : List MapEntry} {cl : Nat} (hT : mapI P T = some (kt, D, zv)) (h1 : okOp x = true) (h2 : okOp y = true) (h3 : okOp z = true) (hx : st.op cx x = .c (.mp k)) (hf : find st.objs k = some (.mapo es cl))
    (hy : st.op cx y = .c (.p (.s key))) (hz : st.op cx z = .c (.p (.s v))) (hk : keyOk D key = true) (hr : Instr.findNow D key es 0 = some none)
    (kk : K ⟨st.tmps, upd st.objs k (.mapo (es ++ [⟨key, v, cl⟩]) (cl + 1))⟩) :
    OpTo P cx false ⟨none, .mapUpdate T x y z, ty, pos, af, gd⟩ st K := OpTo.mapUpd hT h1 h2 h3 hx hf hy hz hk hr rfl kk
theorem OpTo.updS {z : Operand} {kt : TypeId} {D : TypeDesc} {zv key v v0 : Value} {i : Nat} {es : List MapEntry} {cl : Nat} (hT : mapI P T = some (kt, D, zv)) (h1 : okOp x = true) (h2 : okOp y = true) (h3 : okOp z = true) (hx : st.op cx x = .c (.mp k)) (hf : find st.objs k = some (.mapo es cl))
    (hy : st.op cx y = .c (.p (.s key))) (hz : st.op cx z = .c (.p (.s v))) (hk : keyOk D key = true) (hr : Instr.findNow D key es 0 = some (some (i, v0)))
    (kk : K ⟨st.tmps, upd st.objs k (.mapo (es.modify i (fun e => { e with key := key, val := v })) cl)⟩) :
    OpTo P cx false ⟨none, .mapUpdate T x y z, ty, pos, af, gd⟩ st K := OpTo.mapUpd hT h1 h2 h3 hx hf hy hz hk hr rfl kk
theorem self_str (a : ByteArray) : Instr.sameNow .string (.string a) (.string a) = some true := by rw [same_str]; simp
theorem self_int {q : IntKind} (a : Int) : Instr.sameNow (.int q) (.int q a) (.int q a) = some true := by rw [same_int]; simp
/-! ### What kind of operation comes next -/
variable {ds : List (Option Tmp)} {wr : List Nat} {r : List (Nat × Oper)} {i : Nat} {gd : Option (Nat × Bool)}
theorem isAdd {a : TypeId} {b c : Operand} {d : TypeId} (h : OpTo P cx kp ⟨dst, .binOp .add a b c d, ty, pos, af, gd⟩ st K) : OpTo P cx kp ⟨dst, .binOp .add a b c d, ty, pos, af, gd⟩ st K := h
theorem isAddD {a : TypeId} {b c : Operand} {d : TypeId} (h : DL P cx ds wr ((i, ⟨dst, .binOp .add a b c d, ty, pos, af, gd⟩) :: r) st K) : DL P cx ds wr ((i, ⟨dst, .binOp .add a b c d, ty, pos, af, gd⟩) :: r) st K := h
theorem isSub {a : TypeId} {b c : Operand} {d : TypeId} (h : OpTo P cx kp ⟨dst, .binOp .sub a b c d, ty, pos, af, gd⟩ st K) : OpTo P cx kp ⟨dst, .binOp .sub a b c d, ty, pos, af, gd⟩ st K := h
theorem isSubD {a : TypeId} {b c : Operand} {d : TypeId} (h : DL P cx ds wr ((i, ⟨dst, .binOp .sub a b c d, ty, pos, af, gd⟩) :: r) st K) : DL P cx ds wr ((i, ⟨dst, .binOp .sub a b c d, ty, pos, af, gd⟩) :: r) st K := h
theorem isMul {a : TypeId} {b c : Operand} {d : TypeId} (h : OpTo P cx kp ⟨dst, .binOp .mul a b c d, ty, pos, af, gd⟩ st K) : OpTo P cx kp ⟨dst, .binOp .mul a b c d, ty, pos, af, gd⟩ st K := h
theorem isMulD {a : TypeId} {b c : Operand} {d : TypeId} (h : DL P cx ds wr ((i, ⟨dst, .binOp .mul a b c d, ty, pos, af, gd⟩) :: r) st K) : DL P cx ds wr ((i, ⟨dst, .binOp .mul a b c d, ty, pos, af, gd⟩) :: r) st K := h
theorem isQuo {a : TypeId} {b c : Operand} {d : TypeId} (h : OpTo P cx kp ⟨dst, .binOp .quo a b c d, ty, pos, af, gd⟩ st K) : OpTo P cx kp ⟨dst, .binOp .quo a b c d, ty, pos, af, gd⟩ st K := h
theorem isQuoD {a : TypeId} {b c : Operand} {d : TypeId} (h : DL P cx ds wr ((i, ⟨dst, .binOp .quo a b c d, ty, pos, af, gd⟩) :: r) st K) : DL P cx ds wr ((i, ⟨dst, .binOp .quo a b c d, ty, pos, af, gd⟩) :: r) st K := h
theorem isRem {a : TypeId} {b c : Operand} {d : TypeId} (h : OpTo P cx kp ⟨dst, .binOp .rem a b c d, ty, pos, af, gd⟩ st K) : OpTo P cx kp ⟨dst, .binOp .rem a b c d, ty, pos, af, gd⟩ st K := h
theorem isRemD {a : TypeId} {b c : Operand} {d : TypeId} (h : DL P cx ds wr ((i, ⟨dst, .binOp .rem a b c d, ty, pos, af, gd⟩) :: r) st K) : DL P cx ds wr ((i, ⟨dst, .binOp .rem a b c d, ty, pos, af, gd⟩) :: r) st K := h
theorem isBin {o : BinOp} {a : TypeId} {b c : Operand} {d : TypeId} (h : OpTo P cx kp ⟨dst, .binOp o a b c d, ty, pos, af, gd⟩ st K) : OpTo P cx kp ⟨dst, .binOp o a b c d, ty, pos, af, gd⟩ st K := h
theorem isBinD {o : BinOp} {a : TypeId} {b c : Operand} {d : TypeId} (h : DL P cx ds wr ((i, ⟨dst, .binOp o a b c d, ty, pos, af, gd⟩) :: r) st K) : DL P cx ds wr ((i, ⟨dst, .binOp o a b c d, ty, pos, af, gd⟩) :: r) st K := h
theorem isConv {a b : TypeId} {c : Operand} (h : OpTo P cx kp ⟨dst, .convert a b c, ty, pos, af, gd⟩ st K) : OpTo P cx kp ⟨dst, .convert a b c, ty, pos, af, gd⟩ st K := h
theorem isConvD {a b : TypeId} {c : Operand} (h : DL P cx ds wr ((i, ⟨dst, .convert a b c, ty, pos, af, gd⟩) :: r) st K) : DL P cx ds wr ((i, ⟨dst, .convert a b c, ty, pos, af, gd⟩) :: r) st K := h
theorem isIxA {a : TypeId} {b c : Operand} (h : OpTo P cx kp ⟨dst, .indexAddr a b c, ty, pos, af, gd⟩ st K) : OpTo P cx kp ⟨dst, .indexAddr a b c, ty, pos, af, gd⟩ st K := h
theorem isIxAD {a : TypeId} {b c : Operand} (h : DL P cx ds wr ((i, ⟨dst, .indexAddr a b c, ty, pos, af, gd⟩) :: r) st K) : DL P cx ds wr ((i, ⟨dst, .indexAddr a b c, ty, pos, af, gd⟩) :: r) st K := h
theorem isIx {a : TypeId} {b c : Operand} (h : OpTo P cx kp ⟨dst, .index a b c, ty, pos, af, gd⟩ st K) : OpTo P cx kp ⟨dst, .index a b c, ty, pos, af, gd⟩ st K := h
theorem isIxD {a : TypeId} {b c : Operand} (h : DL P cx ds wr ((i, ⟨dst, .index a b c, ty, pos, af, gd⟩) :: r) st K) : DL P cx ds wr ((i, ⟨dst, .index a b c, ty, pos, af, gd⟩) :: r) st K := h
theorem isLoad {a : TypeId} {b : Operand} (h : OpTo P cx kp ⟨dst, .load a b, ty, pos, af, gd⟩ st K) : OpTo P cx kp ⟨dst, .load a b, ty, pos, af, gd⟩ st K := h
theorem isLoadD {a : TypeId} {b : Operand} (h : DL P cx ds wr ((i, ⟨dst, .load a b, ty, pos, af, gd⟩) :: r) st K) : DL P cx ds wr ((i, ⟨dst, .load a b, ty, pos, af, gd⟩) :: r) st K := h
theorem isStore {a : TypeId} {b c : Operand} (h : OpTo P cx kp ⟨dst, .store a b c, ty, pos, af, gd⟩ st K) : OpTo P cx kp ⟨dst, .store a b c, ty, pos, af, gd⟩ st K := h
theorem isStoreD {a : TypeId} {b c : Operand} (h : DL P cx ds wr ((i, ⟨dst, .store a b c, ty, pos, af, gd⟩) :: r) st K) : DL P cx ds wr ((i, ⟨dst, .store a b c, ty, pos, af, gd⟩) :: r) st K := h
theorem isAlloc {a : TypeId} (h : OpTo P cx kp ⟨dst, .alloc a, ty, pos, af, gd⟩ st K) : OpTo P cx kp ⟨dst, .alloc a, ty, pos, af, gd⟩ st K := h
theorem isAllocD {a : TypeId} (h : DL P cx ds wr ((i, ⟨dst, .alloc a, ty, pos, af, gd⟩) :: r) st K) : DL P cx ds wr ((i, ⟨dst, .alloc a, ty, pos, af, gd⟩) :: r) st K := h
theorem isBox {a : TypeId} {b : Operand} (h : OpTo P cx kp ⟨dst, .box a b, ty, pos, af, gd⟩ st K) : OpTo P cx kp ⟨dst, .box a b, ty, pos, af, gd⟩ st K := h
theorem isBoxD {a : TypeId} {b : Operand} (h : DL P cx ds wr ((i, ⟨dst, .box a b, ty, pos, af, gd⟩) :: r) st K) : DL P cx ds wr ((i, ⟨dst, .box a b, ty, pos, af, gd⟩) :: r) st K := h
theorem isBuild {a : TypeId} {b : Array (Nat × Operand)} (h : OpTo P cx kp ⟨dst, .build a b, ty, pos, af, gd⟩ st K) : OpTo P cx kp ⟨dst, .build a b, ty, pos, af, gd⟩ st K := h
theorem isBuildD {a : TypeId} {b : Array (Nat × Operand)} (h : DL P cx ds wr ((i, ⟨dst, .build a b, ty, pos, af, gd⟩) :: r) st K) : DL P cx ds wr ((i, ⟨dst, .build a b, ty, pos, af, gd⟩) :: r) st K := h
theorem isMkFn {a : Fn} {b c : Array Operand} (h : OpTo P cx kp ⟨dst, .makeFunc a b c, ty, pos, af, gd⟩ st K) : OpTo P cx kp ⟨dst, .makeFunc a b c, ty, pos, af, gd⟩ st K := h
theorem isMkFnD {a : Fn} {b c : Array Operand} (h : DL P cx ds wr ((i, ⟨dst, .makeFunc a b c, ty, pos, af, gd⟩) :: r) st K) : DL P cx ds wr ((i, ⟨dst, .makeFunc a b c, ty, pos, af, gd⟩) :: r) st K := h
theorem isMkMap {a : TypeId} {b : Option Operand} (h : OpTo P cx kp ⟨dst, .makeMap a b, ty, pos, af, gd⟩ st K) : OpTo P cx kp ⟨dst, .makeMap a b, ty, pos, af, gd⟩ st K := h
theorem isMkMapD {a : TypeId} {b : Option Operand} (h : DL P cx ds wr ((i, ⟨dst, .makeMap a b, ty, pos, af, gd⟩) :: r) st K) : DL P cx ds wr ((i, ⟨dst, .makeMap a b, ty, pos, af, gd⟩) :: r) st K := h
theorem noG {o : Op} (h : DL P cx ds wr ((i, ⟨dst, o, ty, pos, af, none⟩) :: r) st K) : DL P cx ds wr ((i, ⟨dst, o, ty, pos, af, none⟩) :: r) st K := h
end
end Go.Proofs.Vl
end
section
/- What an argument's reading says, of structs and arrays; elements of arrays. -/
set_option linter.all false
namespace Go.Proofs.Vl
open Go Go.RowKit Go.ChangeShapes Go.WideShapes
section
variable {P : Program} {T e : TypeId} {α β : Type} {f : α → List PV} {ok : α → Prop}
theorem Opens.iso {f' : β → List PV} {ok' : β → Prop} (h : Opens P T f ok) (g : α → β) (hf : ∀ a, ok a → f' (g a) = f a) (hok : ∀ a, ok a → ok' (g a)) : Opens P T f' ok' := by
  intro H enc w base spare held fuel cs x hx
  obtain ⟨a, h1, h2⟩ := h hx
  exact ⟨g a, by rw [hf a h2]; exact h1, hok a h2⟩
/-- Of fields, one behind another. -/
def OpensFs (P : Program) (fs : List (TypeId × Nat)) {α : Type} (f : α → List PV) (ok : α → Prop) : Prop :=
  ∀ {H : Type} {enc : TypeId × Value → H} {w : World} {base : Nat} {spare : Nat → Bool} {held : Bool} {cs : List Value}, cs.length = (fs.map (·.2)).sum →
    (∀ (i : Nat) (t : TypeId) (sz : Nat), fs[i]? = some (t, sz) → ∃ fuel x, DataW.trod enc P w base spare held fuel t ((cs.drop ((fs.take i).map (·.2)).sum).take sz) = some x) → ∃ a, All2 (RepP w (Elder w)) (f a) cs ∧ ok a
theorem OpensFs.nil : OpensFs P [] (fun _ : Unit => []) (fun _ => True) := by
  intro H enc w base spare held cs hl _
  cases cs with
  | nil => exact ⟨(), .nil, trivial⟩
  | cons a l => simp at hl
theorem OpensFs.cons {t : TypeId} {sz : Nat} {r : List (TypeId × Nat)} {f2 : β → List PV} {ok2 : β → Prop} (h1 : Opens P t f ok) (h2 : OpensFs P r f2 ok2) : OpensFs P ((t, sz) :: r) (fun p : α × β => f p.1 ++ f2 p.2) (fun p => ok p.1 ∧ ok2 p.2) := by
  intro H enc w base spare held cs hl h
  obtain ⟨fuel, x, hx⟩ := h 0 t sz rfl
  simp only [List.take_zero, List.map_nil, List.sum_nil, List.drop_zero] at hx
  obtain ⟨a, g1, g2⟩ := h1 hx
  obtain ⟨b, g3, g4⟩ := h2 (cs := cs.drop sz) (w := w) (enc := enc) (base := base) (spare := spare) (held := held) (by simp at hl ⊢; omega) (fun i t' sz' hi => by
    obtain ⟨fuel, x, hx⟩ := h (i + 1) t' sz' (by simpa using hi)
    refine ⟨fuel, x, ?_⟩
    simp only [List.take_succ_cons, List.map_cons, List.sum_cons] at hx
    rw [List.drop_drop]; exact hx)
  refine ⟨(a, b), ?_, g2, g4⟩
  have := g1.append g3
  rwa [List.take_append_drop] at this
def fieldsOk (P : Program) : List Field → Nat → List (TypeId × Nat) → Bool
  | [], _, [] => true
  | f :: fs, off, (t, sz) :: r => f.offset == off && f.type == t && P.cellsOf t == sz && fieldsOk P fs (off + sz) r
  | _, _, _ => false
theorem fieldsOk_at {P : Program} : ∀ {fs : List Field} {off : Nat} {l : List (TypeId × Nat)}, fieldsOk P fs off l = true → ∀ (i : Nat) (t : TypeId) (sz : Nat), l[i]? = some (t, sz) → ∃ f, fs[i]? = some f ∧ f.offset = off + ((l.take i).map (·.2)).sum ∧ f.type = t ∧ P.cellsOf t = sz
  | [], _, [], _, i, t, sz, h => by simp at h
  | f :: fs, off, (t, sz) :: r, hk, i, t', sz', h => by
    simp only [fieldsOk, Bool.and_eq_true, beq_iff_eq] at hk
    obtain ⟨⟨⟨h1, h2⟩, h3⟩, h4⟩ := hk
    cases i with
    | zero => simp at h; obtain ⟨rfl, rfl⟩ := h; exact ⟨f, rfl, by simp [h1], h2, h3⟩
    | succ i =>
      obtain ⟨f', g1, g2, g3⟩ := fieldsOk_at h4 i t' sz' (by simpa using h)
      exact ⟨f', by simpa using g1, by rw [g2]; simp [Nat.add_assoc], g3⟩
  | [], _, _ :: _, hk, _, _, _, _ => by simp [fieldsOk] at hk
  | _ :: _, _, [], hk, _, _, _, h => by simp at h
theorem Opens.struct {fs : Array Field} {l : List (TypeId × Nat)} (ht : P.underlying T = some (.struct fs)) (hfs : fieldsOk P fs.toList 0 l = true) (hc : P.cellsOf T = (l.map (·.2)).sum) (h : OpensFs P l f ok) : Opens P T f ok := by
  intro H enc w base spare held fuel cs x hx
  obtain ⟨xs, n, _, _, hl, hlen, hf⟩ := DataW.trod_struct ht hx
  refine h (enc := enc) (w := w) (base := base) (spare := spare) (held := held) (by rw [hl, hc]) (fun i t sz hi => ?_)
  obtain ⟨fd, g1, g2, g3, g4⟩ := fieldsOk_at hfs i t sz hi
  have g5 : fs[i]? = some fd := by simpa using g1
  have hlt : i < xs.length := by rw [hlen]; exact (Array.getElem?_eq_some_iff.1 g5).1
  have := hf i fd g5
  rw [g3, g2, g4, Nat.zero_add, List.getElem?_eq_getElem hlt] at this
  exact ⟨n, _, this⟩
theorem all2_chunks {R : PV → Value → Prop} {sz : Nat} : ∀ (n : Nat) (cs : List Value), cs.length = n * sz → (∀ i, i < n → ∃ a, All2 R (f a) ((cs.drop (i * sz)).take sz) ∧ ok a) → ∃ l : List α, l.length = n ∧ (∀ x ∈ l, ok x) ∧ All2 R (l.map f).flatten cs
  | 0, cs, hl, _ => by
    have : cs = [] := List.eq_nil_of_length_eq_zero (by omega)
    subst this
    exact ⟨[], rfl, by simp, .nil⟩
  | n + 1, cs, hl, h => by
    obtain ⟨a, h1, h2⟩ := h 0 (by omega)
    simp only [Nat.zero_mul, List.drop_zero] at h1
    obtain ⟨l, h3, h4, h5⟩ := all2_chunks (R := R) (sz := sz) n (cs.drop sz) (by rw [List.length_drop, hl, Nat.succ_mul]; omega) (fun i hi => by
      obtain ⟨b, g1, g2⟩ := h (i + 1) (by omega)
      refine ⟨b, ?_, g2⟩
      rw [List.drop_drop]
      rwa [Nat.succ_mul, Nat.add_comm] at g1)
    refine ⟨a :: l, by simp [h3], fun x hx => ?_, ?_⟩
    · rcases List.mem_cons.1 hx with rfl | hx
      · exact h2
      · exact h4 x hx
    · have := h1.append h5
      rwa [List.take_append_drop] at this
theorem Opens.array {n sz : Nat} (ht : P.underlying T = some (.array n e)) (hsz : P.cellsOf e = sz) (hc : P.cellsOf T = n * sz) (he : Opens P e f ok) : Opens P T (fun l : List α => (l.map f).flatten) (fun l => l.length = n ∧ ∀ x ∈ l, ok x) := by
  intro H enc w base spare held fuel cs x hx
  obtain ⟨xs, m, _, _, hl, hlen, hf⟩ := DataW.trod_array ht hx
  obtain ⟨l, h1, h2, h3⟩ := all2_chunks (f := f) (ok := ok) (R := RepP w (Elder w)) (sz := sz) n cs (by rw [hl, hc]) (fun i hi => by
    have := hf i hi
    rw [List.getElem?_eq_getElem (by omega), hsz] at this
    obtain ⟨a, g1, g2⟩ := he this
    exact ⟨a, g1, g2⟩)
  exact ⟨l, h3, h1, h2⟩
theorem okWide_agg {w : World} {r : Reach} {base : Nat} {v : Value} (ht : (match P.underlying T with | some (.struct _) | some (.array _ _) => true | _ => false) = true) (h : Value.okWide P w r base T v) : ∃ cs, v = .agg cs := by
  unfold Value.okWide at h
  split at ht
  · rename_i hu; rw [hu] at h; obtain ⟨cs, h1, _⟩ := h; exact ⟨cs, h1⟩
  · rename_i hu; rw [hu] at h; obtain ⟨cs, h1, _⟩ := h; exact ⟨cs, h1⟩
  · cases ht
end
section
variable {P : Program} {cx : Cx} {st : St}
variable {kp : Bool} {K : St → Prop} {dst : Option Tmp} {ty T T' E : TypeId} {pos : String} {af : Array Edge} {gd : Option (Nat × Bool)} {x y : Operand} {k : Nat}
def arrI (P : Program) (S : TypeId) : Option (Nat × Nat) := match P.underlying S with
  | some (.array L e) => (P.info? e).map fun i => (L, i.size)
  | _ => none
theorem Val.ixR {S : TypeId} {L sz j : Nat} {kd : IntKind} (hs : arrI P S = some (L, sz)) (h1 : okOp x = true) (h2 : okOp y = true) (hA : isAddr (st.op cx x) = true)
    (hi : st.op cx y = .c (.p (.s (.int kd (j : Int))))) (hj : j < L) : Val P cx true ⟨dst, .indexAddr S x y, ty, pos, af, gd⟩ st (addOff (st.op cx x) (j * sz)) := by
  unfold arrI at hs
  split at hs
  · rename_i L' e hu
    cases hz : P.info? e with
    | none => simp [hz] at hs
    | some i =>
      simp only [hz, Option.map_some, Option.some.injEq, Prod.mk.injEq] at hs
      obtain ⟨rfl, rfl⟩ := hs
      have := Val.ixA (P := P) (dst := dst) (ty := ty) (pos := pos) (af := af) (gd := gd) (sz := i.size) hu (by simp [hz]) h1 h2 hA hi (by omega) (by omega)
      rwa [Int.toNat_natCast] at this
  · cases hs
theorem Val.ixL {S : TypeId} {L sz : Nat} {kd : IntKind} {i : Int} (hs : arrI P S = some (L, sz)) (h1 : okOp x = true) (h2 : okOp y = true) (hA : isAddr (st.op cx x) = true)
    (hi : st.op cx y = .c (.p (.s (.int kd i)))) (hj : 0 ≤ i ∧ i < L) : Val P cx true ⟨dst, .indexAddr S x y, ty, pos, af, gd⟩ st (addOff (st.op cx x) (i.toNat * sz)) := by
  refine Val.ixR (kd := kd) hs h1 h2 hA ?_ (by omega)
  rw [hi, Int.toNat_of_nonneg hj.1]
theorem Val.ixNL {S : TypeId} {sz : Nat} {kd : IntKind} {i : Int} {α : Type} {f : α → List PV} {l : List α} (hs : slI P S = some sz) (h1 : okOp x = true) (h2 : okOp y = true) (hx : st.op cx x = .c (.p (.fro (l.map f))))
    (hi : st.op cx y = .c (.p (.s (.int kd i)))) (h0 : 0 ≤ i) (hj : i.toNat < l.length) (hf : ∀ a, (f a).length = sz) : Val P cx true ⟨dst, .indexAddr S x y, ty, pos, af, gd⟩ st (.c (.eptr (f l[i.toNat]))) := by
  refine Val.ixN (kd := kd) hs h1 h2 hx ?_ hj hf
  rw [hi, Int.toNat_of_nonneg h0]
theorem Val.ixONL {S : TypeId} {sz n : Nat} {kd : IntKind} {i : Int} (hs : slI P S = some sz) (h1 : okOp x = true) (h2 : okOp y = true) (hx : st.op cx x = .c (.own k sz n))
    (hi : st.op cx y = .c (.p (.s (.int kd i)))) (h0 : 0 ≤ i) (hj : i.toNat < n) : Val P cx true ⟨dst, .indexAddr S x y, ty, pos, af, gd⟩ st (.c (.rptr k sz i.toNat 0)) := by
  refine Val.ixON (kd := kd) hs h1 h2 hx ?_ hj
  rw [hi, Int.toNat_of_nonneg h0]
end
end Go.Proofs.Vl
end
