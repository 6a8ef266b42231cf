/- Statements whose order Go leaves open, over the list of what is still to come. -/
import Derived.Test.YtjfpddgldfaahaaDoorV10
set_option linter.all false
namespace Go.Proofs.Vl
open Go Go.RowKit
def looksD (ds : List (Option Tmp)) (o : Oper) : List Tmp :=
  (o.op.operands.toList.filterMap fun | .tmp t => some t | _ => none) ++
  (match o.guard with
   | some (g, _) => (match ds[g]? with | some (some t) => [t] | _ => [])
   | none => [])
def apartD (ds : List (Option Tmp)) (x y : Oper) : Bool :=
  (match x.dst with
   | some d => !(looksD ds y).contains d && y.dst != some d
   | none => true) &&
  (match y.dst with
   | some d => !(looksD ds x).contains d
   | none => true)
def todo (rem : List (Nat × Oper)) (i : Nat) : Bool := rem.any (fun p => p.1 == i)
def readyR (ds : List (Option Tmp)) (rem : List (Nat × Oper)) (o : Oper) : Bool := o.after.all fun e => !Region.binds .any e || (!todo rem e.on && decide (e.on < ds.length))
def freeR (ds : List (Option Tmp)) (wr : List Nat) (pu : Bool) (rem : List (Nat × Oper)) (i : Nat) (oi : Oper) : Bool :=
  rem.all fun p => p.1 == i || p.2.after.any (fun e => Region.binds .any e && e.on == i) || (apartD ds oi p.2 && (pu || !wr.contains p.1))
def onlyR (ds : List (Option Tmp)) (rem : List (Nat × Oper)) (i : Nat) : Bool := rem.all fun p => p.1 == i || p.2.after.any (fun e => Region.binds .any e && todo rem e.on)
def noSel (o : Oper) : Bool := match o.op with | .select .. => false | _ => true
/-- All that is left, whatever order it comes up in: K holds at the end. -/
structure Rest (ops : Array Oper) (ds : List (Option Tmp)) (rem : List (Nat × Oper)) (listed : Array Bool) : Prop where
  sel : Region.noSelect ops = true
  ds : ops.toList.map (·.dst) = ds
  mem : ∀ p ∈ rem, ops[p.1]? = some p.2
  size : listed.size = ops.size
  l : ∀ i, i < ops.size → listed.getD i true = !todo rem i
def DL (P : Program) (cx : Cx) (ds : List (Option Tmp)) (wr : List Nat) (rem : List (Nat × Oper)) (st : St) (K : St → Prop) : Prop :=
  ∀ ops listed, Rest ops ds rem listed → DR P cx ops wr rem.length listed st K
section
variable {P : Program} {cx : Cx} {st : St} {Q : Exit → St → Prop} {K : St → Prop} {ops : Array Oper} {wr : List Nat} {n : Nat} {listed : Array Bool} {ds : List (Option Tmp)} {rem : List (Nat × Oper)}
theorem Rest.looks (h : Rest ops ds rem listed) (o : Oper) : o.looksAt ops = looksD ds o := by
  unfold Oper.looksAt looksD
  congr 1
  cases hg : o.guard with
  | none => rfl
  | some g =>
    obtain ⟨g, b⟩ := g
    dsimp only
    rw [← h.ds, List.getElem?_map, Array.getElem?_toList]
    cases ho : ops[g]? with
    | none => rfl
    | some o' => cases hd : o'.dst <;> simp [hd]
theorem Rest.apart (h : Rest ops ds rem listed) (x y : Oper) : x.apart ops y = apartD ds x y := by
  unfold Oper.apart apartD
  rw [h.looks x, h.looks y]; rfl
theorem Rest.unl (h : Rest ops ds rem listed) {j : Nat} {oj : Oper} (hj : ops[j]? = some oj) (hun : listed.getD j true = false) : (j, oj) ∈ rem := by
  have hlt : j < ops.size := (Array.getElem?_eq_some_iff.1 hj).1
  rw [h.l j hlt] at hun
  simp only [Bool.not_eq_false', todo, List.any_eq_true, beq_iff_eq] at hun
  obtain ⟨p, hp, rfl⟩ := hun
  have := h.mem p hp
  rw [hj] at this; cases this; exact hp
theorem Rest.todo (h : Rest ops ds rem listed) {i : Nat} {o : Oper} (hm : (i, o) ∈ rem) : listed.getD i true = false := by
  rw [h.l i (Array.getElem?_eq_some_iff.1 (h.mem _ hm)).1]
  simp only [Bool.not_eq_false', Vl.todo, List.any_eq_true, beq_iff_eq]
  exact ⟨_, hm, rfl⟩
theorem Rest.ready (h : Rest ops ds rem listed) {i : Nat} {o : Oper} (hm : (i, o) ∈ rem) (hr : readyR ds rem o = true) : i ∈ Region.ready .any ops listed := by
  have hi := h.mem _ hm
  refine mem_ready.2 ⟨h.todo hm, o, hi, fun e he hb => ?_⟩
  have := Array.all_eq_true_iff_forall_mem.1 hr e he
  rw [hb] at this
  simp only [Bool.not_true, Bool.false_or, Bool.and_eq_true, decide_eq_true_eq] at this
  have hlt : e.on < ops.size := by have := this.2; rw [← h.ds] at this; simpa using this
  have h1 := h.l e.on hlt
  rw [this.1] at h1
  rw [Array.getD_eq_getD_getElem?] at h1 ⊢
  rw [Array.getElem?_eq_getElem (by rw [h.size]; exact hlt)] at h1 ⊢
  simpa using h1
theorem Rest.only (h : Rest ops ds rem listed) {i : Nat} (ho : onlyR ds rem i = true) : ∀ j ∈ Region.ready .any ops listed, j = i := by
  intro j hj
  obtain ⟨h1, o, h2, h3⟩ := mem_ready.1 hj
  have := List.all_eq_true.1 ho _ (h.unl h2 h1)
  simp only [Bool.or_eq_true, beq_iff_eq] at this
  rcases this with h4 | h4
  · exact h4
  · obtain ⟨e, he, h5⟩ := Array.any_eq_true'.1 h4
    simp only [Bool.and_eq_true] at h5
    have h6 := h3 e he h5.1
    obtain ⟨p, hp, h7⟩ := List.any_eq_true.1 h5.2
    simp only [beq_iff_eq] at h7
    have h8 := h.todo (i := p.1) (o := p.2) hp
    rw [h7] at h8
    rw [Array.getD_eq_getD_getElem?] at h6 h8
    cases hx : listed[e.on]? <;> simp [hx] at h6 h8
    rw [h6] at h8; cases h8
theorem todo_erase {rem : List (Nat × Oper)} {k i : Nat} {o : Oper} (hk : rem[k]? = some (i, o)) (hnd : (rem.map (·.1)).Nodup) (j : Nat) : Vl.todo (rem.eraseIdx k) j = (if j = i then false else Vl.todo rem j) := by
  induction rem generalizing k with
  | nil => simp at hk
  | cons p r ih =>
    simp only [List.map_cons, List.nodup_cons] at hnd
    cases k with
    | zero =>
      simp at hk; subst hk
      simp only [List.eraseIdx_cons_zero, Vl.todo, List.any_cons]
      by_cases hj : j = i
      · subst hj
        rw [if_pos rfl, List.any_eq_false]
        intro q hq
        simp only [beq_iff_eq]
        intro e; exact hnd.1 (List.mem_map.2 ⟨q, hq, e⟩)
      · rw [if_neg hj]
        have : (i == j) = false := by simpa using Ne.symm hj
        simp [this]
    | succ k =>
      simp only [List.getElem?_cons_succ] at hk
      simp only [List.eraseIdx_cons_succ, Vl.todo, List.any_cons]
      have := ih hk hnd.2
      unfold Vl.todo at this
      rw [this]
      by_cases hj : j = i
      · subst hj
        rw [if_pos rfl, if_pos rfl]
        have : p.1 ≠ j := fun e => hnd.1 (e ▸ List.mem_map.2 ⟨_, List.mem_of_getElem? hk, rfl⟩)
        have : (p.1 == j) = false := by simpa using this
        simp [this]
      · rw [if_neg hj, if_neg hj]
theorem Rest.next (h : Rest ops ds rem listed) {k i : Nat} {o : Oper} (hk : rem[k]? = some (i, o)) (hnd : (rem.map (·.1)).Nodup) : Rest ops ds (rem.eraseIdx k) (listed.setIfInBounds i true) := by
  refine ⟨h.sel, h.ds, fun p hp => h.mem p (List.mem_of_mem_eraseIdx hp), by simp [h.size], fun j hj => ?_⟩
  rw [todo_erase hk hnd]
  by_cases hji : j = i
  · subst hji
    rw [if_pos rfl, Array.getD_eq_getD_getElem?]
    simp [h.size, hj]
  · rw [if_neg hji, getD_set_ne true (Ne.symm hji)]; exact h.l j hj
/-- Numbers all unlike. -/
def nd (rem : List (Nat × Oper)) : Bool := match rem with
  | [] => true
  | p :: r => !todo r p.1 && nd r
theorem nd_nodup : ∀ {rem : List (Nat × Oper)}, nd rem = true → (rem.map (·.1)).Nodup
  | [], _ => by simp
  | p :: r, h => by
    simp only [nd, Bool.and_eq_true, Bool.not_eq_true'] at h
    rw [List.map_cons, List.nodup_cons]
    refine ⟨fun hm => ?_, nd_nodup h.2⟩
    obtain ⟨q, hq, e⟩ := List.mem_map.1 hm
    have := List.any_eq_false.1 h.1 q hq
    simp [e] at this
theorem DR.oneR {i : Nat} {o : Oper} (hr : ∀ j ∈ Region.ready .any ops listed, j = i) (hne : i ∈ Region.ready .any ops listed) (ho : ops[i]? = some o) (hw : ∀ a w, StRep cx st a w → Region.wanted o (yielded ops a.tmps) = true) (h : OpTo P cx (!wr.contains i) o st (fun s => DR P cx ops wr n (listed.setIfInBounds i true) s K)) : DR P cx ops wr (n + 1) listed st K := fun a w hs => by
  refine ⟨fun h0 => (by rw [h0] at hne; cases hne), fun j hj => ?_⟩
  obtain rfl := hr j hj
  unfold wpOpV
  simp only [ho]
  rw [if_pos (hw a w hs)]
  exact (h a w _ _ hs fun st' a' w' h1 h2 h3 => ⟨h3, h1 a' w' h2⟩)
theorem OpTo.mono {kp : Bool} {o : Oper} {K K' : St → Prop} (h : OpTo P cx kp o st K) (hk : ∀ s, K s → K' s) : OpTo P cx kp o st K' :=
  fun a w next Qx hs hn => h a w next Qx hs fun st' a' w' h1 h2 h3 => hn st' a' w' (hk _ h1) h2 h3
theorem Rest.yl (h : Rest ops ds rem listed) {a : Act} {w : World} {fz β} (hs : SR cx st a w fz β) {j d : Nat} {b : Bool} (hd : ds[j]? = some (some d)) (hb : st.tmps[d]? = some (.c (.p (.s (.bool b))))) : yielded ops a.tmps j = some b := by
  obtain ⟨v, h5, h6⟩ := hs.t.get hb
  have := RepA.eq h6; subst this
  unfold yielded
  have h0 : (ops[j]?).bind (·.dst) = some d := by
    rw [← h.ds] at hd
    simp only [List.getElem?_map, Array.getElem?_toList] at hd
    cases ho : ops[j]? with
    | none => simp [ho] at hd
    | some x => simpa [ho] using hd
  rw [h0, Option.bind_some, show a.tmps[d]? = some (.bool b) by simpa using h5]
theorem DL.done (h : K st) : DL P cx ds wr [] st K := fun ops listed hR => by
  refine DR.done ?_ h
  cases hr : Region.ready .any ops listed with
  | nil => rfl
  | cons j r =>
    obtain ⟨h1, o, h2, _⟩ := mem_ready.1 (by rw [hr]; exact List.mem_cons_self : j ∈ Region.ready .any ops listed)
    exact absurd (hR.unl h2 h1) (by simp)
theorem len_erase {rem : List (Nat × Oper)} {k : Nat} {x} (hk : rem[k]? = some x) : rem.length = (rem.eraseIdx k).length + 1 := by
  have hlt := (List.getElem?_eq_some_iff.1 hk).1
  rw [List.length_eraseIdx, if_pos hlt]; omega
/-- Number k of what is left is taken first. -/
theorem DL.take {pu : Bool} {x : AV} (k : Nat) {i : Nat} {o : Oper} (hk : rem[k]? = some (i, o)) (hc : (nd rem && readyR ds rem o && freeR ds wr pu rem i o) = true) (hg : o.guard = none) (hy : Val P cx pu o st x)
    (h : DL P cx ds wr (rem.eraseIdx k) (st.put o.dst x) K) : DL P cx ds wr rem st K := fun ops listed hR => by
  simp only [Bool.and_eq_true] at hc
  rw [len_erase hk]
  have hm := List.mem_of_getElem? hk
  intro a w hst
  obtain ⟨fz, β, hsr⟩ := hst
  obtain ⟨v, h1, h2⟩ := hy a w fz β hsr
  refine wpAnyO_first (pu := pu) (hR.mem _ hm) (Region.noSelect_spec hR.sel) (fun c a w hp => by obtain ⟨hp, _⟩ := hp; cases hp) _ listed a w ?_ (hR.ready hm hc.1.2) (.inl ⟨by simp [Region.wanted, hg], fun w' hw' => h2 w' hw'⟩) (h _ _ (hR.next hk (nd_nodup hc.1.1)) _ _ ⟨fz, β, hsr.put h1 o.dst⟩)
  intro j oj hj hne hun hno
  have := List.all_eq_true.1 hc.2 _ (hR.unl hj hun)
  simp only [Bool.or_eq_true, Bool.and_eq_true, beq_iff_eq] at this
  rcases this with (h3 | h3) | h3
  · exact absurd h3 hne
  · obtain ⟨e, he, h4⟩ := Array.any_eq_true'.1 h3
    simp only [Bool.and_eq_true, beq_iff_eq] at h4
    exact absurd h4.2 (hno e he h4.1)
  · rw [hR.apart]; exact h3
theorem DL.takeG {pu : Bool} {x : AV} (k : Nat) {i j d : Nat} {b b' : Bool} {o : Oper} (hk : rem[k]? = some (i, o)) (hc : (nd rem && readyR ds rem o && freeR ds wr pu rem i o) = true) (hg : o.guard = some (j, b)) (hd : ds[j]? = some (some d)) (hb : st.tmps[d]? = some (.c (.p (.s (.bool b'))))) (he : b' = b) (hy : Val P cx pu o st x)
    (h : DL P cx ds wr (rem.eraseIdx k) (st.put o.dst x) K) : DL P cx ds wr rem st K := fun ops listed hR => by
  subst he
  simp only [Bool.and_eq_true] at hc
  rw [len_erase hk]
  have hm := List.mem_of_getElem? hk
  intro a w hst
  obtain ⟨fz, β, hsr⟩ := hst
  obtain ⟨v, h1, h2⟩ := hy a w fz β hsr
  refine wpAnyO_first (pu := pu) (hR.mem _ hm) (Region.noSelect_spec hR.sel) (fun c a w hp => by obtain ⟨hp, _⟩ := hp; cases hp) _ listed a w ?_ (hR.ready hm hc.1.2) (.inl ⟨by simp [Region.wanted, hg, hR.yl hsr hd hb], fun w' hw' => h2 w' hw'⟩) (h _ _ (hR.next hk (nd_nodup hc.1.1)) _ _ ⟨fz, β, hsr.put h1 o.dst⟩)
  intro j oj hj hne hun hno
  have := List.all_eq_true.1 hc.2 _ (hR.unl hj hun)
  simp only [Bool.or_eq_true, Bool.and_eq_true, beq_iff_eq] at this
  rcases this with (h3 | h3) | h3
  · exact absurd h3 hne
  · obtain ⟨e, he, h4⟩ := Array.any_eq_true'.1 h3
    simp only [Bool.and_eq_true, beq_iff_eq] at h4
    exact absurd h4.2 (hno e he h4.1)
  · rw [hR.apart]; exact h3
theorem DL.takeN (k : Nat) {i j d : Nat} {b b' : Bool} {o : Oper} (hk : rem[k]? = some (i, o)) (hc : (nd rem && readyR ds rem o && freeR ds wr true rem i o) = true) (hg : o.guard = some (j, b)) (hd : ds[j]? = some (some d)) (hb : st.tmps[d]? = some (.c (.p (.s (.bool b'))))) (hne' : (b' == b) = false)
    (h : DL P cx ds wr (rem.eraseIdx k) (st.put o.dst (.tup [])) K) : DL P cx ds wr rem st K := fun ops listed hR => by
  simp only [Bool.and_eq_true] at hc
  rw [len_erase hk]
  have hm := List.mem_of_getElem? hk
  intro a w hst
  obtain ⟨fz, β, hsr⟩ := hst
  have hne2 : b' ≠ b := by simpa using hne'
  refine wpAnyO_first (pu := true) (hR.mem _ hm) (Region.noSelect_spec hR.sel) (fun c a w hp => by obtain ⟨hp, _⟩ := hp; cases hp) _ listed a w ?_ (hR.ready hm hc.1.2) (.inr ⟨by simp [Region.wanted, hg, hR.yl hsr hd hb, hne2], rfl⟩) (h _ _ (hR.next hk (nd_nodup hc.1.1)) _ _ ⟨fz, β, hsr.put RepA.undef o.dst⟩)
  intro j oj hj hne hun hno
  have := List.all_eq_true.1 hc.2 _ (hR.unl hj hun)
  simp only [Bool.or_eq_true, Bool.and_eq_true, beq_iff_eq] at this
  rcases this with (h3 | h3) | h3
  · exact absurd h3 hne
  · obtain ⟨e, he, h4⟩ := Array.any_eq_true'.1 h3
    simp only [Bool.and_eq_true, beq_iff_eq] at h4
    exact absurd h4.2 (hno e he h4.1)
  · rw [hR.apart]; exact ⟨h3.1, .inl rfl⟩
theorem DL.takeU (k : Nat) {i j d : Nat} {b : Bool} {o : Oper} (hk : rem[k]? = some (i, o)) (hc : (nd rem && readyR ds rem o && freeR ds wr true rem i o) = true) (hg : o.guard = some (j, b)) (hd : ds[j]? = some (some d)) (hb : st.tmps[d]? = some (.tup []))
    (h : DL P cx ds wr (rem.eraseIdx k) (st.put o.dst (.tup [])) K) : DL P cx ds wr rem st K := fun ops listed hR => by
  simp only [Bool.and_eq_true] at hc
  rw [len_erase hk]
  have hm := List.mem_of_getElem? hk
  intro a w hst
  obtain ⟨fz, β, hsr⟩ := hst
  have hyl : yielded ops a.tmps j = none := by
    obtain ⟨v, h5, vs, h6, h7⟩ := hsr.t.get hb
    cases h7
    unfold yielded
    rw [dst_at hR.ds hd, Option.bind_some, show a.tmps[d]? = some v by simpa using h5, h6]
  refine wpAnyO_first (pu := true) (hR.mem _ hm) (Region.noSelect_spec hR.sel) (fun c a w hp => by obtain ⟨hp, _⟩ := hp; cases hp) _ listed a w ?_ (hR.ready hm hc.1.2) (.inr ⟨by simp [Region.wanted, hg, hyl], rfl⟩) (h _ _ (hR.next hk (nd_nodup hc.1.1)) _ _ ⟨fz, β, hsr.put RepA.undef o.dst⟩)
  intro j oj hj hne hun hno
  have := List.all_eq_true.1 hc.2 _ (hR.unl hj hun)
  simp only [Bool.or_eq_true, Bool.and_eq_true, beq_iff_eq] at this
  rcases this with (h3 | h3) | h3
  · exact absurd h3 hne
  · obtain ⟨e, he, h4⟩ := Array.any_eq_true'.1 h3
    simp only [Bool.and_eq_true, beq_iff_eq] at h4
    exact absurd h4.2 (hno e he h4.1)
  · rw [hR.apart]; exact ⟨h3.1, .inl rfl⟩
/-- Number k of what is left must come next. -/
theorem DL.one (k : Nat) {i : Nat} {o : Oper} (hk : rem[k]? = some (i, o)) (hc : (nd rem && readyR ds rem o && onlyR ds rem i) = true) (hg : o.guard = none)
    (h : OpTo P cx (!wr.contains i) o st (fun s => DL P cx ds wr (rem.eraseIdx k) s K)) : DL P cx ds wr rem st K := fun ops listed hR => by
  simp only [Bool.and_eq_true] at hc
  rw [len_erase hk]
  have hm := List.mem_of_getElem? hk
  exact DR.oneR (hR.only hc.2) (hR.ready hm hc.1.2) (hR.mem _ hm) (fun a w _ => by simp [Region.wanted, hg]) (h.mono fun s hs => hs _ _ (hR.next hk (nd_nodup hc.1.1)))
theorem DL.oneG (k : Nat) {i j d : Nat} {b b' : Bool} {o : Oper} (hk : rem[k]? = some (i, o)) (hc : (nd rem && readyR ds rem o && onlyR ds rem i) = true) (hg : o.guard = some (j, b)) (hd : ds[j]? = some (some d)) (hb : st.tmps[d]? = some (.c (.p (.s (.bool b'))))) (he : b' = b)
    (h : OpTo P cx (!wr.contains i) o st (fun s => DL P cx ds wr (rem.eraseIdx k) s K)) : DL P cx ds wr rem st K := fun ops listed hR => by
  subst he
  simp only [Bool.and_eq_true] at hc
  rw [len_erase hk]
  have hm := List.mem_of_getElem? hk
  exact DR.oneR (hR.only hc.2) (hR.ready hm hc.1.2) (hR.mem _ hm) (fun a w hs => by obtain ⟨fz, β, hs⟩ := hs; simp [Region.wanted, hg, hR.yl hs hd hb]) (h.mono fun s hs => hs _ _ (hR.next hk (nd_nodup hc.1.1)))
def enum {α : Type} : Nat → List α → List (Nat × α)
  | _, [] => []
  | n, a :: l => (n, a) :: enum (n + 1) l
theorem enum_mem {α : Type} : ∀ (l : List α) (n : Nat) (p : Nat × α), p ∈ enum n l → n ≤ p.1 ∧ l[p.1 - n]? = some p.2
  | [], _, _, h => by cases h
  | a :: l, n, p, h => by
    rcases List.mem_cons.1 h with rfl | h
    · simp
    · obtain ⟨h1, h2⟩ := enum_mem l (n + 1) p h
      refine ⟨by omega, ?_⟩
      rw [show p.1 - n = (p.1 - (n + 1)) + 1 by omega]
      simpa using h2
theorem enum_any {α : Type} : ∀ (l : List α) (n i : Nat), (enum n l).any (fun p => p.1 == i) = (decide (n ≤ i) && decide (i < n + l.length))
  | [], n, i => by simp only [enum, List.any_nil, List.length_nil, Nat.add_zero]; by_cases h : n ≤ i <;> simp [h] <;> omega
  | a :: l, n, i => by
    simp only [enum, List.any_cons, enum_any l (n + 1) i, List.length_cons]
    by_cases h : n = i
    · subst h; simp
    · have : (n == i) = false := by simpa using h
      rw [this, Bool.false_or, Bool.eq_iff_iff]; simp; omega
theorem enum_len {α : Type} : ∀ (l : List α) (n : Nat), (enum n l).length = l.length
  | [], _ => rfl
  | a :: l, n => by simp [enum, enum_len l]
theorem AWp.dl {id : Nat} {l : List Oper} (wr : List Nat) (hm : P.follows .mixedOrders = true) (hs : l.all noSel = true) (hds : l.map (·.dst) = ds) (h : DL P cx ds wr (enum 0 l) st (fun s => Q .normal s)) : AWp P cx (.region id l.toArray true) st Q := by
  refine AWp.draw wr hm rfl ?_
  have := h l.toArray (Array.replicate l.length false) ⟨?_, by simpa using hds, fun p hp => ?_, by simp, fun i hi => ?_⟩
  · rwa [enum_len] at this
  · simp only [Region.noSelect, List.all_toArray]
    exact hs
  · obtain ⟨_, h2⟩ := enum_mem l 0 p hp
    simpa using h2
  · have hi' : i < l.length := by simpa using hi
    unfold Vl.todo
    rw [enum_any]
    simp [Array.getD_eq_getD_getElem?, hi']
end
end Go.Proofs.Vl
