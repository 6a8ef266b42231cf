/- Two statements that may both come next. -/
import Derived.Test.YtjfpddgldfaahaaDoorV28
set_option linter.all false
namespace Go.Proofs.Vl
open Go Go.RowKit
section
variable {P : Program} {cx : Cx} {st : St} {Q : Exit → St → Prop} {K : St → Prop} {ops : Array Oper} {wr : List Nat} {n : Nat} {listed : Array Bool} {ds : List (Option Tmp)} {rem : List (Nat × Oper)}
theorem DR.twoR {i j : Nat} {o p : Oper} (hr : ∀ k ∈ Region.ready .any ops listed, k = i ∨ k = j) (hne : i ∈ Region.ready .any ops listed) (ho : ops[i]? = some o) (hp : ops[j]? = some p) (hg : o.guard = none) (hg' : p.guard = none)
    (h : OpTo P cx (!wr.contains i) o st (fun s => DR P cx ops wr n (listed.setIfInBounds i true) s K)) (h' : OpTo P cx (!wr.contains j) p st (fun s => DR P cx ops wr n (listed.setIfInBounds j true) s K)) : DR P cx ops wr (n + 1) listed st K := fun a w hs => by
  refine ⟨fun h0 => (by rw [h0] at hne; cases hne), fun k hk => ?_⟩
  rcases hr k hk with rfl | rfl
  · unfold wpOpV
    simp only [ho]
    rw [if_pos (by simp [Region.wanted, hg])]
    exact (h a w _ _ hs fun st' a' w' h1 h2 h3 => ⟨h3, h1 a' w' h2⟩)
  · unfold wpOpV
    simp only [hp]
    rw [if_pos (by simp [Region.wanted, hg'])]
    exact (h' a w _ _ hs fun st' a' w' h1 h2 h3 => ⟨h3, h1 a' w' h2⟩)
def only2R (ds : List (Option Tmp)) (rem : List (Nat × Oper)) (i j : Nat) : Bool := rem.all fun p => p.1 == i || p.1 == j || p.2.after.any (fun e => Region.binds .any e && todo rem e.on)
theorem Rest.only2 {i j : Nat} (h : Rest ops ds rem listed) (hc : only2R ds rem i j = true) : ∀ k ∈ Region.ready .any ops listed, k = i ∨ k = j := by
  intro k hj
  obtain ⟨h1, o, h2, h3⟩ := mem_ready.1 hj
  have := List.all_eq_true.1 hc _ (h.unl h2 h1)
  simp only [Bool.or_eq_true, beq_iff_eq] at this
  rcases this with (h4 | h4) | h4
  · exact .inl h4
  · exact .inr h4
  · obtain ⟨e, he, h5⟩ := Array.any_eq_true'.1 h4
    simp only [Bool.and_eq_true] at h5
    have h6 := h3 e he h5.1
    obtain ⟨p, hp, h7⟩ := List.any_eq_true.1 h5.2
    simp only [beq_iff_eq] at h7
    have h8 := h.todo (i := p.1) (o := p.2) hp
    rw [h7] at h8
    rw [Array.getD_eq_getD_getElem?] at h6 h8
    cases hx : listed[e.on]? <;> simp [hx] at h6 h8
    rw [h6] at h8; cases h8
theorem DL.two (k m : Nat) {i j : Nat} {o p : Oper} (hk : rem[k]? = some (i, o)) (hm : rem[m]? = some (j, p)) (hc : (nd rem && readyR ds rem o && only2R ds rem i j) = true) (hg : o.guard = none) (hg' : p.guard = none)
    (h : OpTo P cx (!wr.contains i) o st (fun s => DL P cx ds wr (rem.eraseIdx k) s K)) (h' : OpTo P cx (!wr.contains j) p st (fun s => DL P cx ds wr (rem.eraseIdx m) s K)) : DL P cx ds wr rem st K := fun ops listed hR => by
  simp only [Bool.and_eq_true] at hc
  have e1 := len_erase hk
  have e2 := len_erase hm
  have hmi := List.mem_of_getElem? hk
  have hmj := List.mem_of_getElem? hm
  have e3 : (rem.eraseIdx k).length = (rem.eraseIdx m).length := by omega
  rw [e1]
  refine DR.twoR (hR.only2 hc.2) (hR.ready hmi hc.1.2) (hR.mem _ hmi) (hR.mem _ hmj) hg hg' (h.mono fun s hs => hs _ _ (hR.next hk (nd_nodup hc.1.1))) (h'.mono fun s hs => ?_)
  rw [e3]
  exact hs _ _ (hR.next hm (nd_nodup hc.1.1))
/-- The same, where what waits for it waits through others. -/
theorem wpAnyO_firstT {pu : Bool} {i : Nat} {oi : Oper} {v : Value} {Q : Exit → Act → World → Prop} (S : Nat → Prop) (hi : ops[i]? = some oi) (hsel : ∀ (j : Nat) (o : Oper) cs b, ops[j]? = some o → o.op ≠ .select cs b) (hQ : ∀ c a w, Q (.panic c) (a.put oi.dst v) w → Q (.panic c) a w) :
    ∀ (n : Nat) (listed : Array Bool) (a : Act) (w : World),
      (∀ j oj, ops[j]? = some oj → j ≠ i → listed.getD j true = false → ¬ S j → oi.apart ops oj = true ∧ (pu = true ∨ (!wr.contains j) = true)) →
      (∀ j, S j → j ≠ i ∧ listed.getD j true = false ∧ ∃ oj, ops[j]? = some oj ∧ ∃ e ∈ oj.after, Region.binds .any e = true ∧ (e.on = i ∨ S e.on)) →
      i ∈ Region.ready .any ops listed → YieldsIf P ops (Sof pu w) oi v a → wpAnyO P ops wr Q n (listed.setIfInBounds i true) (a.put oi.dst v) w → wpAnyO P ops wr Q (n + 1) listed a w := by
  intro n
  induction n with
  | zero =>
    intro listed a w _ _ hr hy H
    refine ⟨fun h => (by rw [h] at hr; cases hr), fun j hj => ?_⟩
    by_cases hji : j = i
    · subst hji; exact YieldsIf.wpOpV hi hy (.inr (Old.refl w)) ⟨fun _ => Old.refl w, H⟩
    · have := ready_mono hj hji
      rw [H.1] at this
      cases this
  | succ n ih =>
    intro listed a w hfree hS hr hy H
    refine ⟨fun h => (by rw [h] at hr; cases hr), fun j hj => ?_⟩
    by_cases hji : j = i
    · subst hji; exact YieldsIf.wpOpV hi hy (.inr (Old.refl w)) ⟨fun _ => Old.refl w, H⟩
    · have h1 := H.2 j (ready_mono hj hji)
      obtain ⟨hjun, oj, hoj, hall⟩ := mem_ready.1 hj
      have hun' : ∀ m, listed.getD m true = false → listed[m]?.getD false = true → False := fun m h0 h1 => by
        rcases Nat.lt_or_ge m listed.size with h' | h'
        · simp [h'] at h0 h1; rw [h0] at h1; cases h1
        · simp [Array.getElem?_eq_none h'] at h1
      have hnS : ¬ S j := fun hs => by
        obtain ⟨_, _, oj', hoj', e, he, hb, heq⟩ := hS j hs
        obtain rfl : oj = oj' := Option.some.inj (hoj.symm.trans hoj')
        have h1 := hall e he hb
        rw [Array.getD_eq_getD_getElem?] at h1
        rcases heq with heq | heq
        · rw [heq] at h1; exact hun' i (mem_ready.1 hr).1 h1
        · exact hun' _ (hS _ heq).2.1 h1
      have hfj := hfree j oj hoj hji hjun hnS
      have h2 := wpOpV_putIf hoj hfj.1 (fun cs b => hsel i oi cs b hi) (fun cs b => hsel j oj cs b hoj) hQ hy h1
      refine wpOpV_mono (fun a' w' h3 => ⟨h3.2.1, ih (listed.setIfInBounds j true) a' w' ?_ ?_ (ready_mono hr (Ne.symm hji)) (YieldsIf.sub h3.1 fun u hu => ?_) ?_⟩) h2
      · intro k ok hk hki hun hno
        refine hfree k ok hk hki ?_ hno
        by_cases hjk : j = k
        · subst hjk; exact hjun
        · rw [getD_set_ne true hjk] at hun; exact hun
      · intro k hk
        obtain ⟨g1, g2, g3⟩ := hS k hk
        refine ⟨g1, ?_, g3⟩
        have hjk : ¬ j = k := fun e => hnS (by rw [e]; exact hk)
        rw [getD_set_ne true hjk]; exact g2
      · rcases hu with hu | hu
        · exact .inl hu
        · rcases hfj.2 with hp | hp
          · exact .inl hp
          · exact .inr ((h3.2.1 hp).trans hu)
      · rw [Array.setIfInBounds_comm _ _ hji]
        exact h3.2.2
/-- What waits for number i, straight or through others. -/
def clos : Nat → List (Nat × Oper) → Nat → List Nat → List Nat
  | 0, _, _, B => B
  | n + 1, rem, i, B => clos n rem i ((rem.filter fun p => p.1 != i && p.2.after.any (fun e => Region.binds .any e && (e.on == i || B.contains e.on))).map (·.1))
def freeT (ds : List (Option Tmp)) (wr : List Nat) (pu : Bool) (rem : List (Nat × Oper)) (i : Nat) (oi : Oper) (B : List Nat) : Bool :=
  (rem.all fun p => p.1 == i || B.contains p.1 || (apartD ds oi p.2 && (pu || !wr.contains p.1))) &&
  B.all fun b => rem.any fun p => p.1 == b && b != i && p.2.after.any (fun e => Region.binds .any e && (e.on == i || B.contains e.on))
theorem DL.takeT {pu : Bool} {x : AV} (k : Nat) {i : Nat} {o : Oper} (hk : rem[k]? = some (i, o)) (hc : (nd rem && readyR ds rem o && freeT ds wr pu rem i o (clos rem.length rem i [])) = true) (hg : o.guard = none) (hy : Val P cx pu o st x)
    (h : DL P cx ds wr (rem.eraseIdx k) (st.put o.dst x) K) : DL P cx ds wr rem st K := fun ops listed hR => by
  simp only [Bool.and_eq_true] at hc
  generalize clos rem.length rem i [] = B at hc
  rw [len_erase hk]
  have hm := List.mem_of_getElem? hk
  intro a w hst
  obtain ⟨fz, β, hsr⟩ := hst
  obtain ⟨v, h1, h2⟩ := hy a w fz β hsr
  have hc2 := hc.2
  unfold freeT at hc2
  simp only [Bool.and_eq_true] at hc2
  refine wpAnyO_firstT (pu := pu) (fun j => j ∈ B) (hR.mem _ hm) (Region.noSelect_spec hR.sel) (fun c a w hp => by obtain ⟨hp, _⟩ := hp; cases hp) _ listed a w ?_ ?_ (hR.ready hm hc.1.2) (.inl ⟨by simp [Region.wanted, hg], fun w' hw' => h2 w' hw'⟩) (h _ _ (hR.next hk (nd_nodup hc.1.1)) _ _ ⟨fz, β, hsr.put h1 o.dst⟩)
  · intro j oj hj hne hun hno
    have := List.all_eq_true.1 hc2.1 _ (hR.unl hj hun)
    simp only [Bool.or_eq_true, Bool.and_eq_true, beq_iff_eq, List.contains_iff_mem] at this
    rcases this with (h3 | h3) | h3
    · exact absurd h3 hne
    · exact absurd h3 hno
    · rw [hR.apart]; exact h3
  · intro j hj
    have := List.all_eq_true.1 hc2.2 j hj
    obtain ⟨p, hp, h3⟩ := List.any_eq_true.1 this
    simp only [Bool.and_eq_true, beq_iff_eq, bne_iff_ne, ne_eq] at h3
    obtain ⟨⟨h4, h5⟩, h6⟩ := h3
    obtain ⟨e, he, h7⟩ := Array.any_eq_true'.1 h6
    simp only [Bool.and_eq_true, Bool.or_eq_true, beq_iff_eq, List.contains_iff_mem] at h7
    obtain ⟨q, r⟩ := p
    dsimp only at h4 he
    subst h4
    exact ⟨h5, hR.todo hp, r, hR.mem _ hp, e, he, h7.1, h7.2⟩
end
end Go.Proofs.Vl
