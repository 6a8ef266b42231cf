/- Chapter 18: all orders, one by one; the first one that is so. -/
import Derived.Test.YtkgajiddcljdjaaO13
set_option linter.all false
set_option maxRecDepth 2000
set_option maxHeartbeats 8000000
namespace Go.Proofs.Vl
open Go Go.RowKit
attribute [local irreducible] AWp OpTo Run DL Val UN DR AC Le thn inb nog
theorem Le.slot {cx : Cx} {st : St} (t : Nat) {x z : AV} (ht : st.tmps[t]? = some x) (h : ∀ w fz β v, RepA w fz β x v → RepA w fz β z v) : Le cx st ⟨st.tmps.set t z, st.objs⟩ := by
  unfold Le
  rintro a w ⟨fz, β, hs⟩
  refine ⟨fz, β, hs.d, hs.low, hs.rel, hs.h, ?_⟩
  obtain ⟨v, h2, h3⟩ := hs.t.get ht
  have h5 := hs.t.set (h _ _ _ _ h3) t
  have h6 : a.tmps.toList.set t v = a.tmps.toList := by
    apply List.ext_getElem?
    intro i
    rw [List.getElem?_set]
    split
    · rename_i hi; subst hi
      split
      · exact h2.symm
      · rename_i hlt; rw [List.getElem?_eq_none (by omega)]
    · rfl
  rw [h6] at h5
  exact h5
def fnv (f : Nat) : PV := .s (.func (.func f) #[] #[])
theorem fnv_of (f : Nat) (w fz β v) (h : RepA w fz β (.c (.fn f [])) v) : RepA w fz β (.c (.p (fnv f))) v := by
  obtain ⟨cv, rfl, h2⟩ := h
  cases h2
  exact RepP.s _ rfl
theorem of_fnv (f : Nat) (w fz β v) (h : RepA w fz β (.c (.p (fnv f))) v) : RepA w fz β (.c (.fn f [])) v := by
  have h : RepP w fz (fnv f) v := h
  cases RepP.eq h
  exact ⟨[], rfl, .nil⟩
def oaF : Nat := 31
theorem oall_ac (G) (n : Int) : AC Try.prog G 19 [vi n] [] (fun r _ => r = .c (.fn oaF [.fz [.s (.int .i64 n)]])) := by
  refine AC.body' Try.func19 Try.ntmps19 rfl ?_
  intro cx hd hG
  refine nrmL (k := ?_)
  first | ((iterate 3 (refine w1 (k := ?_))); (first | refine zbA 1 (h := ?_) | refine zbO 1 (h := ?_)); (repeat (refine w1 (k := ?_))); exact ⟨[.c _], .cons (.tmp rfl) .nil, rfl⟩) | ((iterate 4 (refine w1 (k := ?_))); (first | refine zbA 1 (h := ?_) | refine zbO 1 (h := ?_)); (repeat (refine w1 (k := ?_))); exact ⟨[.c _], .cons (.tmp rfl) .nil, rfl⟩) | ((iterate 5 (refine w1 (k := ?_))); (first | refine zbA 1 (h := ?_) | refine zbO 1 (h := ?_)); (repeat (refine w1 (k := ?_))); exact ⟨[.c _], .cons (.tmp rfl) .nil, rfl⟩) | ((iterate 6 (refine w1 (k := ?_))); (first | refine zbA 1 (h := ?_) | refine zbO 1 (h := ?_)); (repeat (refine w1 (k := ?_))); exact ⟨[.c _], .cons (.tmp rfl) .nil, rfl⟩) | ((iterate 7 (refine w1 (k := ?_))); (first | refine zbA 1 (h := ?_) | refine zbO 1 (h := ?_)); (repeat (refine w1 (k := ?_))); exact ⟨[.c _], .cons (.tmp rfl) .nil, rfl⟩) | ((iterate 8 (refine w1 (k := ?_))); (first | refine zbA 1 (h := ?_) | refine zbO 1 (h := ?_)); (repeat (refine w1 (k := ?_))); exact ⟨[.c _], .cons (.tmp rfl) .nil, rfl⟩)
theorem oall_it (G) (n : Nat) (hn : n ≤ 8) : IC Try.prog G oaF [.c (.eptr [.s (.int .i64 (n : Int))])] (yP (frL n n [] (fun _ => false))) := by
  unfold IC
  refine GC.body Try.func31 Try.ntmps31 rfl (fun _ => rfl) ?_
  intro cx l J Jx hd hG hrd hml hbs hrr hR
  obtain ⟨w0, fz0, β0, df, G0, rd, rr, ml, bs⟩ := cx
  dsimp only at hd hG hrd hml hbs hrr hR
  subst hd hG hrd hml hbs hrr
  refine nrmL (k := ?_)
  repeat refine w1 (k := ?_)
  refine OpTo.of (x := .pag (thP (fun _ => false))) (by exact Val.buildAP (parts := []) (zc := List.replicate 8 (.bool false)) (sz := 1) (by kernel_rfl) rfl rfl (by kernel_rfl)) ?_
  refine nrm (k := ?_)
  repeat refine w1 (k := ?_)
  refine OpTo.callG (i := 0) (args := fun l => [fro (pvI .i64) [], .pag (thP (fun _ => false)), vi (n : Int), yv l]) hR (fun m y h => by rw [Nat.zero_add]; exact h) rfl rfl (from_gc _ n hn n [] (fun _ => false) (by simp)) (fun r h => by subst h; rfl) (fun r h => by subst h; rfl) rfl rfl rfl rfl rfl rfl ?_ ?_
  ·
    rintro r rfl
    rw [Nat.zero_add]
    refine nrm (k := ?_)
    try dsimp only [yv]
    simp only [upd, beq_self_eq_true, Nat.reduceBEq, cond_false, cond_true]
    refine nrm (k := ?_)
    repeat refine w1 (k := ?_)
    exact ⟨[], .nil, rfl, rfl, .inl ⟨trivial, rfl⟩⟩
  ·
    rintro r rfl
    refine nrm (k := ?_)
    try dsimp only [yv]
    simp only [upd, beq_self_eq_true, Nat.reduceBEq, cond_false, cond_true]
    refine nrm (k := ?_)
    repeat refine w1 (k := ?_)
    exact ⟨[], .nil, rfl, rfl, .inr ⟨trivial, rfl⟩⟩
theorem oall_no (G) (n : Int) (hn : n < 0) : IC Try.prog G oaF [.c (.eptr [.s (.int .i64 n)])] (yP []) := by
  unfold IC
  refine GC.body Try.func31 Try.ntmps31 rfl (fun _ => rfl) ?_
  intro cx l J Jx hd hG hrd hml hbs hrr hR
  obtain ⟨w0, fz0, β0, df, G0, rd, rr, ml, bs⟩ := cx
  dsimp only at hd hG hrd hml hbs hrr hR
  subst hd hG hrd hml hbs hrr
  refine nrmL (k := ?_)
  repeat refine w1 (k := ?_)
  exact ⟨[], .nil, rfl, rfl, .inl ⟨trivial, rfl⟩⟩
def laF : Nat := 21
def lastB (p : List Int) : Bool := decide (0 < p.length) && p[0]? == some ((p.length : Int) - 1)
theorem last_ac (G) (p : List Int) (hp : p.length ≤ 1000) : AC Try.prog G laF [fro (pvI .i64) p] [] (fun r _ => r = vb (lastB p)) := by
  refine AC.body' Try.func21 Try.ntmps21 rfl ?_
  intro cx hd hG
  refine nrmL (k := ?_)
  repeat refine w1 (k := ?_)
  simp only [List.length_map]
  rcases Nat.eq_zero_or_pos p.length with h0 | h0
  ·
    rw [show decide ((p.length : Int) > 0) = false from decide_eq_false (by omega)]
    repeat refine w1 (k := ?_)
    refine ⟨[.c _], .cons (.tmp rfl) .nil, ?_⟩
    unfold lastB; rw [decide_eq_false (show ¬ 0 < p.length by omega)]; rfl
  ·
    rw [show decide ((p.length : Int) > 0) = true from decide_eq_true (by omega)]
    repeat refine w1 (k := ?_)
    simp only [List.length_map]
    repeat refine w1 (k := ?_)
    refine ⟨[.c _], .cons (.tmp rfl) .nil, ?_⟩
    unfold lastB; rw [decide_eq_true h0, List.getElem?_eq_getElem h0, show IntKind.i64.wrap ((p.length : Int) - 1) = (p.length : Int) - 1 from wrap_id (by omega) (by omega)]; rfl
