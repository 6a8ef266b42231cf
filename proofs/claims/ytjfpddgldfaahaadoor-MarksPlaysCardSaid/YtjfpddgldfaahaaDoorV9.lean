/- Statements whose order Go leaves open: one walk serves every order. -/
import Derived.Test.YtjfpddgldfaahaaDoorV8
set_option linter.all false
namespace Go.Proofs.Vl
open Go Go.RowKit
section
variable {P : Program} {ops : Array Oper} {Q : Exit → Act → World → Prop}
/-- Whatever order is picked from here on; an operation that is no writer lets be the blocks that were there. -/
def wpAnyO (P : Program) (ops : Array Oper) (wr : List Nat) (Q : Exit → Act → World → Prop) : Nat → Array Bool → Act → World → Prop
  | 0, listed, a, w => Region.ready .any ops listed = [] ∧ Q .normal a w
  | n + 1, listed, a, w => (Region.ready .any ops listed = [] → Q .normal a w) ∧
    ∀ i ∈ Region.ready .any ops listed, wpOpV P ops Q i (fun a' w' => ((!wr.contains i) = true → Old w w') ∧ wpAnyO P ops wr Q n (listed.setIfInBounds i true) a' w') a w
variable {wr : List Nat}
theorem wpAny_of_O {r : Option Nat} : ∀ (n : Nat) (listed : Array Bool) (a : Act) (w : World), wpAnyO P ops wr Q n listed a w → wpAnyIn (fwr r) 0 P .any ops Q n listed a w
  | 0, _, _, _, h => h
  | n + 1, _, _, _, h => ⟨h.1, fun i hi => wpOpV_in (wpOpV_mono (fun a' w' h' => wpAny_of_O n _ a' w' h'.2) (h.2 i hi))⟩
/-- pu: whether the operation's value hangs on no world. -/
def Sof (pu : Bool) (w : World) : World → Prop := fun w' => pu = true ∨ Old w w'
theorem YieldsIf.sub {S S' : World → Prop} {o : Oper} {v : Value} {a : Act} (h : YieldsIf P ops S o v a) (hs : ∀ w, S' w → S w) : YieldsIf P ops S' o v a :=
  h.imp (fun ⟨h1, h2⟩ => ⟨h1, fun w hw => h2 w (hs w hw)⟩) id
/-- An operation that may come up now may be taken first: every other one that is still to come waits for it, or touches nothing that it touches (and, if its value hangs on the world, writes nothing). -/
theorem wpAnyO_first {pu : Bool} {i : Nat} {oi : Oper} {v : Value} (hi : ops[i]? = some oi) (hsel : ∀ (j : Nat) (o : Oper) cs b, ops[j]? = some o → o.op ≠ .select cs b) (hQ : ∀ c a w, Q (.panic c) (a.put oi.dst v) w → Q (.panic c) a w) :
    ∀ (n : Nat) (listed : Array Bool) (a : Act) (w : World),
      (∀ j oj, ops[j]? = some oj → j ≠ i → listed.getD j true = false → (∀ e ∈ oj.after, Region.binds .any e = true → e.on ≠ i) → oi.apart ops oj = true ∧ (pu = true ∨ (!wr.contains j) = true)) →
      i ∈ Region.ready .any ops listed → YieldsIf P ops (Sof pu w) oi v a → wpAnyO P ops wr Q n (listed.setIfInBounds i true) (a.put oi.dst v) w → wpAnyO P ops wr Q (n + 1) listed a w := by
  intro n
  induction n with
  | zero =>
    intro listed a w _ hr hy H
    refine ⟨fun h => (by rw [h] at hr; cases hr), fun j hj => ?_⟩
    by_cases hji : j = i
    · subst hji; exact YieldsIf.wpOpV hi hy (.inr (Old.refl w)) ⟨fun _ => Old.refl w, H⟩
    · have := ready_mono hj hji
      rw [H.1] at this
      cases this
  | succ n ih =>
    intro listed a w hfree hr hy H
    refine ⟨fun h => (by rw [h] at hr; cases hr), fun j hj => ?_⟩
    by_cases hji : j = i
    · subst hji; exact YieldsIf.wpOpV hi hy (.inr (Old.refl w)) ⟨fun _ => Old.refl w, H⟩
    · have h1 := H.2 j (ready_mono hj hji)
      obtain ⟨hjun, oj, hoj, hall⟩ := mem_ready.1 hj
      have hnot : ∀ e ∈ oj.after, Region.binds .any e = true → e.on ≠ i := fun e he hb heq => by
        have h1 := hall e he hb
        have h0 := (mem_ready.1 hr).1
        rw [heq] at h1
        rcases Nat.lt_or_ge i listed.size with h' | h'
        · simp [h'] at h0 h1; rw [h0] at h1; cases h1
        · simp [Array.getElem?_eq_none h'] at h1
      have hfj := hfree j oj hoj hji hjun hnot
      have h2 := wpOpV_putIf hoj hfj.1 (fun cs b => hsel i oi cs b hi) (fun cs b => hsel j oj cs b hoj) hQ hy h1
      refine wpOpV_mono (fun a' w' h3 => ⟨h3.2.1, ih (listed.setIfInBounds j true) a' w' ?_ (ready_mono hr (Ne.symm hji)) (YieldsIf.sub h3.1 fun u hu => ?_) ?_⟩) h2
      · intro k ok hk hki hun hno
        refine hfree k ok hk hki ?_ hno
        by_cases hjk : j = k
        · subst hjk; exact hjun
        · rw [getD_set_ne true hjk] at hun; exact hun
      · rcases hu with hu | hu
        · exact .inl hu
        · rcases hfj.2 with hp | hp
          · exact .inl hp
          · exact .inr ((h3.2.1 hp).trans hu)
      · rw [Array.setIfInBounds_comm _ _ hji]
        exact h3.2.2
def freeK (ops : Array Oper) (wr : List Nat) (pu : Bool) (listed : Array Bool) (i : Nat) : Bool :=
  (List.range ops.size).all fun j =>
    match ops[i]?, ops[j]? with
    | some oi, some oj => j == i || listed.getD j true || oj.after.any (fun e => Region.binds .any e && e.on == i) || (oi.apart ops oj && (pu || !wr.contains j))
    | _, _ => true
theorem freeK_spec {pu : Bool} {listed : Array Bool} {i : Nat} {oi : Oper} (hi : ops[i]? = some oi) (h : freeK ops wr pu listed i = true) (j : Nat) (oj : Oper) (hj : ops[j]? = some oj) (hne : j ≠ i) (hun : listed.getD j true = false)
    (hno : ∀ e ∈ oj.after, Region.binds .any e = true → e.on ≠ i) : oi.apart ops oj = true ∧ (pu = true ∨ (!wr.contains j) = true) := by
  unfold freeK at h
  have hlt : j < ops.size := (Array.getElem?_eq_some_iff.1 hj).1
  have := List.all_eq_true.1 h j (List.mem_range.2 hlt)
  simp only [hi, hj, Bool.or_eq_true, Bool.and_eq_true] at this
  rcases this with ((h1 | h1) | h1) | h1
  · exact absurd (by simpa using h1) hne
  · rw [h1] at hun; cases hun
  · obtain ⟨e, he, h2⟩ := Array.any_eq_true'.1 h1
    simp only [Bool.and_eq_true, beq_iff_eq] at h2
    exact absurd h2.2 (hno e he h2.1)
  · exact h1
end

/-- From this state on, whatever order the operations that are left come up in, K holds at the end. -/
def DR (P : Program) (cx : Cx) (ops : Array Oper) (wr : List Nat) (n : Nat) (listed : Array Bool) (st : St) (K : St → Prop) : Prop :=
  ∀ a w, StRep cx st a w → wpAnyO P ops wr (fun e a' w' => e = .normal ∧ ∃ s, K s ∧ StRep cx s a' w') n listed a w
section
variable {P : Program} {cx : Cx} {st : St} {Q : Exit → St → Prop} {K : St → Prop} {ops : Array Oper} {wr : List Nat} {n : Nat} {listed : Array Bool}
theorem StRep.drew {a : Act} {w : World} (h : StRep cx st a w) : StRep cx st a { w with drawn := w.drawn + 1 } := by
  obtain ⟨fz, β, hs⟩ := h
  exact ⟨fz, β, hs.lift rfl rfl rfl (Nat.le_refl _) (fun _ _ => rfl) (fun _ h => h) (fun _ h => .inl h) hs.h.fzlt⟩
theorem AWp.draw {id : Nat} {l : List Oper} {m : Nat} (wr : List Nat) (hm : P.follows .mixedOrders = true) (hl : l.length = m) (h : DR P cx l.toArray wr m (Array.replicate m false) st (fun s => Q .normal s)) : AWp P cx (.region id l.toArray true) st Q :=
  fun a w hs => by
    subst hl
    refine wpIn_mono (wpIn_region_any hm (wpAny_of_O _ _ _ _ (h a _ hs.drew))) ?_
    rintro e a' w' ⟨rfl, s, h1, h2⟩
    exact ⟨s, h1, h2⟩
theorem DR.done (hr : Region.ready .any ops listed = []) (h : K st) : DR P cx ops wr n listed st K := fun a w hs => by
  cases n with
  | zero => exact ⟨hr, rfl, st, h, hs⟩
  | succ n => exact ⟨fun _ => ⟨rfl, st, h, hs⟩, fun i hi => by rw [hr] at hi; cases hi⟩
/-- The one that must come next. -/
theorem DR.one {i : Nat} {o : Oper} (hr : Region.ready .any ops listed = [i]) (ho : ops[i]? = some o) (hg : o.guard = none) (h : OpTo P cx (!wr.contains i) o st (fun s => DR P cx ops wr n (listed.setIfInBounds i true) s K)) : DR P cx ops wr (n + 1) listed st K := fun a w hs => by
  refine ⟨fun h0 => (by rw [hr] at h0; cases h0), fun j hj => ?_⟩
  rw [hr] at hj
  obtain rfl : j = i := by simpa using hj
  unfold wpOpV
  simp only [ho]
  rw [if_pos (by simp [Region.wanted, hg])]
  exact (h a w _ _ hs fun st' a' w' h1 h2 h3 => ⟨h3, h1 a' w' h2⟩)
/-- One that may come up is taken first. -/
theorem DR.first {pu : Bool} {x : AV} (i : Nat) {o : Oper} (ho : ops[i]? = some o) (hs : Region.noSelect ops = true) (hf : freeK ops wr pu listed i = true) (hr : (Region.ready .any ops listed).contains i = true) (hg : o.guard = none) (hy : Val P cx pu o st x)
    (h : DR P cx ops wr n (listed.setIfInBounds i true) (st.put o.dst x) K) : DR P cx ops wr (n + 1) listed st K := fun a w hst => by
  obtain ⟨fz, β, hsr⟩ := hst
  obtain ⟨v, h1, h2⟩ := hy a w fz β hsr
  exact wpAnyO_first (pu := pu) ho (Region.noSelect_spec hs) (fun c a w hp => by obtain ⟨hp, _⟩ := hp; cases hp) n listed a w (freeK_spec ho hf) (by simpa using hr) (.inl ⟨by simp [Region.wanted, hg], fun w' hw' => h2 w' hw'⟩) (h _ _ ⟨fz, β, hsr.put h1 o.dst⟩)
/-- The same of a guarded one. -/
theorem DR.firstG {pu : Bool} {x : AV} (i : Nat) {o : Oper} {j d : Nat} {b : Bool} (ho : ops[i]? = some o) (hs : Region.noSelect ops = true) (hf : freeK ops wr pu listed i = true) (hr : (Region.ready .any ops listed).contains i = true) (hg : o.guard = some (j, b)) (hd : (ops[j]?).bind (·.dst) = some d) (hb : st.tmps[d]? = some (.c (.p (.s (.bool b)))))
    (hy : Val P cx pu o st x) (h : DR P cx ops wr n (listed.setIfInBounds i true) (st.put o.dst x) K) : DR P cx ops wr (n + 1) listed st K := fun a w hst => by
  obtain ⟨fz, β, hsr⟩ := hst
  obtain ⟨v, h1, h2⟩ := hy a w fz β hsr
  have hyl : yielded ops a.tmps j = some b := by
    obtain ⟨v, h5, h6⟩ := hsr.t.get hb
    have := RepA.eq h6; subst this
    unfold yielded
    rw [hd, Option.bind_some, show a.tmps[d]? = some (.bool b) by simpa using h5]
  exact wpAnyO_first (pu := pu) ho (Region.noSelect_spec hs) (fun c a w hp => by obtain ⟨hp, _⟩ := hp; cases hp) n listed a w (freeK_spec ho hf) (by simpa using hr) (.inl ⟨by simp [Region.wanted, hg, hyl], fun w' hw' => h2 w' hw'⟩) (h _ _ ⟨fz, β, hsr.put h1 o.dst⟩)
/-- A guarded one that is left out. -/
theorem DR.firstN (i : Nat) {o : Oper} {j d : Nat} {b b' : Bool} (ho : ops[i]? = some o) (hs : Region.noSelect ops = true) (hf : freeK ops wr true listed i = true) (hr : (Region.ready .any ops listed).contains i = true) (hg : o.guard = some (j, b)) (hd : (ops[j]?).bind (·.dst) = some d) (hb : st.tmps[d]? = some (.c (.p (.s (.bool b'))))) (hne : b' ≠ b)
    (h : DR P cx ops wr n (listed.setIfInBounds i true) (st.put o.dst (.tup [])) K) : DR P cx ops wr (n + 1) listed st K := fun a w hst => by
  obtain ⟨fz, β, hsr⟩ := hst
  have hyl : yielded ops a.tmps j = some b' := by
    obtain ⟨v, h5, h6⟩ := hsr.t.get hb
    have := RepA.eq h6; subst this
    unfold yielded
    rw [hd, Option.bind_some, show a.tmps[d]? = some (.bool b') by simpa using h5]
  exact wpAnyO_first (pu := true) ho (Region.noSelect_spec hs) (fun c a w hp => by obtain ⟨hp, _⟩ := hp; cases hp) n listed a w (freeK_spec ho hf) (by simpa using hr) (.inr ⟨by simp [Region.wanted, hg, hyl, hne], rfl⟩) (h _ _ ⟨fz, β, hsr.put RepA.undef o.dst⟩)
/-- The one that must come next, guarded. -/
theorem DR.oneG {i j d : Nat} {b : Bool} {o : Oper} (hr : Region.ready .any ops listed = [i]) (ho : ops[i]? = some o) (hg : o.guard = some (j, b)) (hd : (ops[j]?).bind (·.dst) = some d) (hb : st.tmps[d]? = some (.c (.p (.s (.bool b)))))
    (h : OpTo P cx (!wr.contains i) o st (fun s => DR P cx ops wr n (listed.setIfInBounds i true) s K)) : DR P cx ops wr (n + 1) listed st K := fun a w hs => by
  refine ⟨fun h0 => (by rw [hr] at h0; cases h0), fun k hk => ?_⟩
  rw [hr] at hk
  obtain rfl : k = i := by simpa using hk
  obtain ⟨fz, β, hsr⟩ := hs
  have hyl : yielded ops a.tmps j = some b := by
    obtain ⟨v, h5, h6⟩ := hsr.t.get hb
    have := RepA.eq h6; subst this
    unfold yielded
    rw [hd, Option.bind_some, show a.tmps[d]? = some (.bool b) by simpa using h5]
  unfold wpOpV
  simp only [ho]
  rw [if_pos (by simp [Region.wanted, hg, hyl])]
  exact (h a w _ _ ⟨fz, β, hsr⟩ fun st' a' w' h1 h2 h3 => ⟨h3, h1 a' w' h2⟩)
/-- Two may come up. -/
theorem DR.two {i j : Nat} {o p : Oper} (hr : Region.ready .any ops listed = [i, j]) (ho : ops[i]? = some o) (hp : ops[j]? = some p) (hg : o.guard = none) (hg' : p.guard = none)
    (h : OpTo P cx (!wr.contains i) o st (fun s => DR P cx ops wr n (listed.setIfInBounds i true) s K)) (h' : OpTo P cx (!wr.contains j) p st (fun s => DR P cx ops wr n (listed.setIfInBounds j true) s K)) : DR P cx ops wr (n + 1) listed st K := fun a w hs => by
  refine ⟨fun h0 => (by rw [hr] at h0; cases h0), fun k hk => ?_⟩
  rw [hr] at hk
  simp only [List.mem_cons, List.not_mem_nil, or_false] at hk
  rcases hk with rfl | rfl
  · unfold wpOpV
    simp only [ho]
    rw [if_pos (by simp [Region.wanted, hg])]
    exact (h a w _ _ hs fun st' a' w' h1 h2 h3 => ⟨h3, h1 a' w' h2⟩)
  · unfold wpOpV
    simp only [hp]
    rw [if_pos (by simp [Region.wanted, hg'])]
    exact (h' a w _ _ hs fun st' a' w' h1 h2 h3 => ⟨h3, h1 a' w' h2⟩)
end
end Go.Proofs.Vl
