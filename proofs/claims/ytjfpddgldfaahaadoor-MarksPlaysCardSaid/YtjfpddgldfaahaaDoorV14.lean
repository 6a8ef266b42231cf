/- What an argument's reading as data says of the values that lie there; contracts from calls and back. -/
import Derived.Test.YtjfpddgldfaahaaDoorV13
import Derived.Deep.Slices
import Derived.Deep.Fields
import Derived.OpenShut
import Derived.ChangeSame
set_option linter.all false
namespace Go.Proofs.Vl
open Go Go.RowKit Go.Deep Go.ChangeShapes Go.WideShapes
def Elder (w : World) : Nat → Prop := fun b => b < w.heap.size
/-- Whatever reads as data of type T lies there as the cells that f tells. -/
def Opens (P : Program) (T : TypeId) {α : Type} (f : α → List PV) (ok : α → Prop) : Prop :=
  ∀ {H : Type} {enc : TypeId × Value → H} {w : World} {base : Nat} {spare : Nat → Bool} {held : Bool} {fuel : Nat} {cs : List Value} {x : DataW H × List MemPlace},
    DataW.trod enc P w base spare held fuel T cs = some x → ∃ a, All2 (RepP w (Elder w)) (f a) cs ∧ ok a
def pvI (k : IntKind) (n : Int) : List PV := [.s (.int k n)]
section
variable {P : Program} {T e : TypeId} {α : Type} {f : α → List PV} {ok : α → Prop}
theorem Opens.int {k : IntKind} (ht : P.underlying T = some (.int k)) : Opens P T (pvI k) (fun x => (Lit.int k x).wf = true) := fun h => by
  obtain ⟨n, rfl, _, hw⟩ := DataW.trod_int ht h
  exact ⟨n, .cons (.s _ rfl) .nil, hw⟩
theorem Opens.bool (ht : P.underlying T = some .bool) : Opens P T (fun b => [PV.s (.bool b)]) (fun _ => True) := fun h => by
  obtain ⟨n, rfl, _⟩ := DataW.trod_bool ht h
  exact ⟨n, .cons (.s _ rfl) .nil, trivial⟩
theorem Opens.string (ht : P.underlying T = some .string) : Opens P T (fun s => [PV.s (.string s)]) (fun x => x.size ≤ maxLen) := fun h => by
  obtain ⟨n, rfl, _, hw⟩ := DataW.trod_string ht h
  exact ⟨n, .cons (.s _ rfl) .nil, hw⟩
theorem Opens.slice {sz : Nat} (ht : P.underlying T = some (.slice e)) (hsz : P.cellsOf e = sz) (hf : ∀ a, (f a).length = sz) (hs0 : 0 < sz) (he : Opens P e f ok) : Opens P T (fun xs : List α => [PV.fro (xs.map f)]) (fun xs => xs.length ≤ maxLen ∧ ∀ x ∈ xs, ok x) := by
  intro H enc w base spare held fuel cs x h
  rcases open_slice ht h with ⟨rfl, _⟩ | ⟨a, len, cap, m, n, D, Pl, rfl, _, hl, hm, hmm, _, hi⟩
  · exact ⟨[], .cons (.nil _ _) .nil, by simp, by simp⟩
  · have hlm : len ≤ m := by rw [hmm]; split <;> omega
    have hel : ∀ i, i < len → ∃ a', (∃ cs' : List Value, All2 (RepP w (Elder w)) (f a') cs' ∧ ∀ (j : Nat) u, cs'[j]? = some u → w.cell? (a.add (i * sz + j)) = some u) ∧ ok a' := by
      intro i hil
      obtain ⟨cs', hc, ht'⟩ := hi i (by omega)
      obtain ⟨a', hk, ho⟩ := he ht'
      obtain ⟨_, hcl, hat⟩ := World.cells?_some hc
      refine ⟨a', ⟨cs', hk, fun j u hu => ?_⟩, ho⟩
      have hj : j < P.cellsOf e := by rw [← hcl]; exact (List.getElem?_eq_some_iff.1 hu).1
      have := hat j hj
      rw [Go.Deep.add_add, hsz] at this
      rw [this, hu]
    rcases Nat.eq_zero_or_pos len with h0 | h0
    · subst h0
      exact ⟨[], .cons (.nil _ _) .nil, by simp, by simp⟩
    · obtain ⟨a0, _⟩ := hel 0 h0
      obtain ⟨g, hg⟩ : ∃ g : Nat → α, ∀ i, i < len → (∃ cs' : List Value, All2 (RepP w (Elder w)) (f (g i)) cs' ∧ ∀ (j : Nat) u, cs'[j]? = some u → w.cell? (a.add (i * sz + j)) = some u) ∧ ok (g i) := by
        refine ⟨fun i => if h : i < len then (hel i h).choose else a0, fun i h => ?_⟩
        simp only [dif_pos h]
        exact (hel i h).choose_spec
      have hspot : a.spot = none := by
        obtain ⟨⟨cs', h1, h2⟩, _⟩ := hg 0 h0
        have h3 := h1.len; rw [hf] at h3
        have h4 := h2 0 _ (List.getElem?_eq_getElem (by omega))
        have h5 : a.add (0 * sz + 0) = a := by simp [Addr.add]
        rw [h5] at h4
        unfold World.cell? at h4
        split at h4
        · split at h4
          · cases h4
          · rename_i hh; simpa using hh
        · cases h4
      obtain ⟨b, o, sp⟩ := a
      simp only at hspot
      subst hspot
      have hget : ∀ (j : Nat) cs', ((List.range len).map g |>.map f)[j]? = some cs' → j < len ∧ cs' = f (g j) := fun j cs' hj => by
        rw [List.map_map, List.getElem?_map] at hj
        obtain ⟨i, hi', rfl⟩ := Option.map_eq_some_iff.1 hj
        obtain ⟨hlt, rfl⟩ := List.getElem?_eq_some_iff.1 hi'
        simp only [List.length_range] at hlt
        exact ⟨hlt, by simp⟩
      have hcell : ∀ (j : Nat) cs' (c : Nat) z, ((List.range len).map g |>.map f)[j]? = some cs' → cs'[c]? = some z → ∃ u, w.cell? ⟨b, o + (j * sz + c), none⟩ = some u ∧ RepP w (Elder w) z u := fun j cs' c z hj hc => by
        obtain ⟨hlt, rfl⟩ := hget j cs' hj
        obtain ⟨⟨cs2, h1, h2⟩, _⟩ := hg j hlt
        obtain ⟨u, h3, h4⟩ := h1.get hc
        have h5 := h2 c u h3
        rw [Addr.add_lit] at h5
        exact ⟨u, h5, h4⟩
      refine ⟨(List.range len).map g, .cons ?_ .nil, by simp; omega, fun x hx => ?_⟩
      · have hlen : ((List.range len).map g |>.map f).length = len := by simp
        have := RepP.fro (w := w) (fz := Elder w) ((List.range len).map g |>.map f) b o cap sz (fun j c => (w.cell? ⟨b, o + (j * sz + c), none⟩).getD undef) (fun _ => ?_) (by rw [hlen]; exact hl) (fun j cs' hj => by obtain ⟨_, rfl⟩ := hget j cs' hj; exact hf _)
          (fun j cs' c z hj hc => by obtain ⟨u, h1, _⟩ := hcell j cs' c z hj hc; simp [h1]) (fun j cs' c z hj hc => by obtain ⟨u, h1, h2⟩ := hcell j cs' c z hj hc; simpa [h1] using h2)
        · rw [hlen] at this; exact this
        · obtain ⟨⟨cs', h1, h2⟩, _⟩ := hg 0 h0
          have h3 := h1.len; rw [hf] at h3
          have h4 := h2 0 _ (List.getElem?_eq_getElem (by omega))
          have h5 := World.block_lt_of_cell? w _ h4
          simpa [Addr.add_lit, Elder] using h5
      · obtain ⟨i, hi', rfl⟩ := List.mem_map.1 hx
        exact (hg i (List.mem_range.1 hi')).2
end

/-! ### Contracts from calls, and back -/
section
variable {P : Program} {G : Nat → Option (List PV)} {f : Nat}
theorem AC.ofCalls {vs : List Value} {v : Value} {r : AV} (hr : ∀ w fz β, RepA w fz β r v) (h : ∀ w, Calls P f vs.toArray w fun e w' => e = .returned v ∧ Below w.heap.size w w') : AC P G f (vs.map fun v => .c (.p (.s v))) [] (fun r' _ => r' = r) := by
  intro w fz β us hβ hH hG hA
  have hus : us = vs := by
    clear h
    induction vs generalizing us with
    | nil => cases hA; rfl
    | cons v vs ih => cases hA with | cons h1 h2 => rw [RepA.eq h1, ih _ h2]
  subst hus
  refine (h w).mono fun e w' ⟨he, hb⟩ => ⟨v, r, [], fz, β, he, rfl, ?_, ?_, hr _ _ _⟩
  · exact ⟨hb.os, hb.tape, hb.output, hb.size, fun _ b hlt _ => hb.block b hlt, fun b s hs => (shape_eq (hb.block b (shape_lt hs))).trans hs, fun _ h => h, fun _ h => .inl h, fun _ _ h => h, fun _ _ h => .inl h, fun g cs hg => (hG g cs hg).glob_adv (.of (fun b hb' => hb.block b (hH.fzlt b hb')) (fun b s hs => (shape_eq (hb.block b (shape_lt hs))).trans hs)) (fun _ h => h), fun _ _ h => h⟩
  · exact ⟨fun k b hk => Nat.lt_of_lt_of_le (hH.lt k b hk) hb.size, fun b hb' => Nat.lt_of_lt_of_le (hH.fzlt b hb') hb.size, hH.inj, hH.apart, fun k o hk => by cases hk⟩
/-- At the top: called over arguments that are only read. -/
theorem AC.top {args : List AV} {w : World} {vs : List Value} {v : Value} (h : AC P (fun _ => none) f args [] (fun r _ => r = .c (.p (.s v)))) (hA : All2 (RepA w (Elder w) (fun _ => none)) args vs) :
    Calls P f vs.toArray w fun e w' => e = .returned v ∧ Below w.heap.size w w' := by
  refine (h w (Elder w) (fun _ => none) vs (fun _ _ => rfl) (H.none fun b hb => hb) (fun g cs hg => by cases hg) hA).mono ?_
  rintro e w' ⟨v', r, os', fz', β', he, rfl, hR, hH, hv⟩
  have := RepA.eq hv; subst this
  exact ⟨he, ⟨hR.os, hR.tape, hR.output, hR.size, fun b hb => hR.old rfl b hb (fun k => by simp)⟩⟩
end

/-! ### At the heads of loops -/
section
variable {P : Program} {cx : Cx} {st : St} {a : Act} {w : World} {fz : Nat → Prop} {β : Nat → Option Nat} {Q : Exit → St → Prop} {c : Code}
theorem Le.forget {tm : List AV} {os : List (Nat × Ob)} (ht : All2 (fun x y => y = AV.c .any ∨ y = x) st.tmps tm) (ho : ∀ k o, find os k = some o → find st.objs k = some o) : Le cx st ⟨tm, os⟩ := by
  intro a w h
  obtain ⟨fz, β, hs⟩ := h
  refine ⟨fz, β, hs.d, hs.low, hs.rel, ⟨hs.h.lt, hs.h.fzlt, hs.h.inj, hs.h.apart, fun k o hk => hs.h.ob k o (ho k o hk)⟩, ?_⟩
  have h2 := hs.t
  obtain ⟨tmps, objs⟩ := st
  dsimp only at ht h2 ⊢
  generalize a.tmps.toList = vs at h2
  clear hs ho
  induction ht generalizing vs with
  | nil => exact h2
  | cons h1 _ ih =>
    cases h2 with
    | cons h3 h4 =>
      refine .cons ?_ (ih _ h4)
      rcases h1 with rfl | rfl
      · exact RepA.any _
      · exact h3
theorem SR.nilrow (hs : SR cx st a w fz β) {d sz : Nat} {T : TypeId} (hlow : d < 1000000) (hn : st.noref d = true) : SR cx ⟨st.tmps, upd st.objs d (.row T sz [])⟩ a w fz (bup β d none) := by
  refine ⟨hs.d.stp (Stp.bupN _ _ _ _), hs.low, ⟨hs.rel.os, hs.rel.tape, hs.rel.output, hs.rel.size, hs.rel.old, hs.rel.shp, hs.rel.fzin, hs.rel.fzout, ?_, ?_, hs.rel.glob, fun k hk h0 => (bup_other _ _ _ (by omega)).trans (hs.rel.bhi k hk h0)⟩, ⟨?_, hs.h.fzlt, ?_, ?_, ?_⟩, ?_⟩
  · intro j b hj
    have : j ≠ d := fun e => by subst e; rw [hs.low j hlow] at hj; cases hj
    rw [bup_other _ _ _ this]; exact hs.rel.bin j b hj
  · intro j b hj
    by_cases hjk : j = d
    · subst hjk; rw [bup_same] at hj; cases hj
    · rw [bup_other _ _ _ hjk] at hj; exact hs.rel.bout j b hj
  · intro j b hj
    by_cases hjk : j = d
    · subst hjk; rw [bup_same] at hj; cases hj
    · rw [bup_other _ _ _ hjk] at hj; exact hs.h.lt j b hj
  · intro j j' b h3 h4
    by_cases hjk : j = d
    · subst hjk; rw [bup_same] at h3; cases h3
    · by_cases hjk' : j' = d
      · subst hjk'; rw [bup_same] at h4; cases h4
      · rw [bup_other _ _ _ hjk] at h3; rw [bup_other _ _ _ hjk'] at h4; exact hs.h.inj _ _ _ h3 h4
  · intro b hb' j hj
    by_cases hjk : j = d
    · subst hjk; rw [bup_same] at hj; cases hj
    · rw [bup_other _ _ _ hjk] at hj; exact hs.h.apart b hb' j hj
  · intro j o hj
    rw [find_upd] at hj
    by_cases hjk : d = j
    · subst hjk; rw [if_pos rfl] at hj; cases hj; exact .inl ⟨bup_same _ _ _, rfl⟩
    · rw [if_neg hjk] at hj
      refine (hs.h.ob j o hj).adv (Adv.refl _ _) (fun _ h => h) (bup_other _ _ _ (Ne.symm hjk)) (fun _ _ => rfl) (fun m hm' => bup_other _ _ _ ?_) (Stp.bupN _ _ _ _)
      intro e; subst e; rw [St.noref_o hn hj (Ne.symm hjk)] at hm'; cases hm'
  · refine hs.t.mono fun u v hu' hv' => hv'.adv (Adv.refl _ _) (fun _ h => h) (fun m hm' => bup_other _ _ _ ?_)
    intro e; subst e; rw [St.noref_t hn hu'] at hm'; cases hm'
/-- A slice that is nil becomes a row of the call's own, of no elements. -/
theorem AWp.seed (t d sz : Nat) (T : TypeId) (ht : st.tmps[t]? = some (.c (.p (.s (.slice none 0 0))))) (hlow : d < 1000000) (hn : st.noref d = true) (h : AWp P cx c ⟨st.tmps.set t (.c (.own d sz 0)), upd st.objs d (.row T sz [])⟩ Q) : AWp P cx c st Q := fun a w ⟨fz, β, hs⟩ => by
  refine h a w ⟨fz, bup β d none, ?_⟩
  have h1 := hs.nilrow (T := T) (sz := sz) hlow hn
  refine ⟨h1.d, h1.low, h1.rel, h1.h, ?_⟩
  obtain ⟨v, h2, h3⟩ := hs.t.get ht
  have := RepA.eq h3; subst this
  have h4 : RepA w fz (bup β d none) (.c (.own d sz 0)) (.slice none 0 0) := .inl ⟨bup_same _ _ _, rfl, rfl⟩
  have h5 := h1.t.set h4 t
  have h6 : a.tmps.toList.set t (.slice none 0 0) = a.tmps.toList := by
    apply List.ext_getElem?
    intro i
    rw [List.getElem?_set]
    split
    · rename_i hi; subst hi
      split
      · exact h2.symm
      · rename_i hlt; rw [List.getElem?_eq_none (by omega)]
    · rfl
  rw [h6] at h5
  exact h5
end
end Go.Proofs.Vl
