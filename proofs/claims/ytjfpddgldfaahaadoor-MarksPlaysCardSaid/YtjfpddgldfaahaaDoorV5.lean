/- Rules over memory: rows that are made, grown, cut; structs put together. -/
import Derived.Test.YtjfpddgldfaahaaDoorV4
import Derived.Laws.MakeOwn
set_option linter.all false
namespace Go.Proofs.Vl
open Go Go.RowKit

section
variable {P : Program} {cx : Cx} {st : St} {a : Act} {w : World} {fz : Nat → Prop} {β : Nat → Option Nat}
variable {K : St → Prop} {dst : Option Tmp} {ty T T' E : TypeId} {pos : String} {af : Array Edge} {gd : Option (Nat × Bool)} {x y : Operand} {n k off : Nat}

/-! ### Names forgotten -/
def CV.kill (k : Nat) (x : CV) : CV := cond (x.ref k) .any x
def TV.kill (k : Nat) : TV → TV
  | .c x => .c (x.kill k)
  | .agg cs => .agg (cs.map (CV.kill k))
  | .pag cs => .pag cs
def AV.kill (k : Nat) : AV → AV
  | .c x => .c (x.kill k)
  | .agg cs => .agg (cs.map (CV.kill k))
  | .pag cs => .pag cs
  | .tup xs => .tup (xs.map (TV.kill k))
def Ob.kill (k : Nat) : Ob → Ob
  | .cells T cs => .cells T (cs.map (CV.kill k))
  | .pcells T cs => .pcells T cs
  | .row T sz xs => .row T sz xs
  | .mapo es clock => .mapo es clock
  | .tok F J => .tok F J
  | .sav xs vs => .sav (xs.map (AV.kill k)) vs
def okill (k : Nat) : List (Nat × Ob) → List (Nat × Ob)
  | [] => []
  | (j, o) :: r => (j, cond (j == k) o (o.kill k)) :: okill k r
def St.kill (k : Nat) (st : St) : St := ⟨st.tmps.map (AV.kill k), okill k st.objs⟩
theorem CV.ref_kill (k : Nat) (x : CV) : (x.kill k).ref k = false := by
  unfold CV.kill
  cases h : x.ref k with
  | true => rfl
  | false => exact h
theorem TV.ref_kill (k : Nat) (x : TV) : (x.kill k).ref k = false := by
  cases x <;> simp [TV.kill, TV.ref, CV.ref_kill]
theorem AV.ref_kill (k : Nat) (x : AV) : (x.kill k).ref k = false := by
  cases x <;> simp [AV.kill, AV.ref, CV.ref_kill, TV.ref_kill]
theorem Ob.ref_kill (k : Nat) (x : Ob) : (x.kill k).ref k = false := by
  cases x <;> simp [Ob.kill, Ob.ref, CV.ref_kill, AV.ref_kill]
theorem okill_ref (k : Nat) : ∀ os : List (Nat × Ob), (okill k os).all (fun x => x.1 == k || !x.2.ref k) = true
  | [] => rfl
  | (j, o) :: r => by
    simp only [okill, List.all_cons, okill_ref k r, Bool.and_true]
    by_cases h : j = k
    · simp [h]
    · have h' : (j == k) = false := by simpa using h
      rw [h']; simp [Ob.ref_kill]
theorem noref_kill (k : Nat) (st : St) : (st.kill k).noref k = true := by
  simp only [St.noref, St.kill, Bool.and_eq_true, okill_ref, and_true, List.all_map, List.all_eq_true]
  intro x _
  simp [AV.ref_kill]
theorem cond_dec (i k : Nat) (a b : Ob) : cond (i == k) a b = if i = k then a else b := by
  by_cases h : i = k
  · simp [h]
  · have h' : (i == k) = false := by simpa using h
    rw [h', if_neg h]; rfl
theorem find_okill (k j : Nat) : ∀ os : List (Nat × Ob), find (okill k os) j = (find os j).map fun o => if j = k then o else o.kill k
  | [] => rfl
  | (i, o) :: r => by
    rw [okill, find_cons, find_cons, find_okill k j r, cond_dec]
    by_cases h : i = j
    · subst h; rw [if_pos rfl, if_pos rfl]; rfl
    · rw [if_neg h, if_neg h]
theorem CV.kill_eq {k : Nat} {x : CV} (h : x.ref k = false) : x.kill k = x := by simp [CV.kill, h]
theorem RepC.kill {x : CV} {v : Value} (h : RepC w fz β x v) (k : Nat) : RepC w fz β (x.kill k) v := by
  unfold CV.kill; cases x.ref k with
  | true => trivial
  | false => exact h
theorem RepA.kill {x : AV} {v : Value} (h : RepA w fz β x v) (k : Nat) : RepA w fz β (x.kill k) v := by
  cases x with
  | c x => exact RepC.kill h k
  | agg cs => obtain ⟨vs, h1, h2⟩ := h; exact ⟨vs, h1, h2.map _ fun a b hr => ⟨hr.1, hr.2.kill k⟩⟩
  | pag cs => exact h
  | tup xs =>
    obtain ⟨vs, h1, h2⟩ := h
    refine ⟨vs, h1, h2.map _ fun a b hr => ?_⟩
    cases a with
    | c x => exact RepC.kill hr k
    | agg cs => obtain ⟨vs, h1, h2⟩ := hr; exact ⟨vs, h1, h2.map _ fun a b hr => ⟨hr.1, hr.2.kill k⟩⟩
    | pag cs => exact hr
theorem RepO.kill {j : Nat} {o : Ob} (h : RepO w fz β j o) (k : Nat) : RepO w fz β j (o.kill k) := by
  cases o with
  | cells T cs => obtain ⟨b, vs, h1, h2, h3⟩ := h; exact ⟨b, vs, h1, h2, h3.map _ fun a v hr => ⟨hr.1, hr.2.kill k⟩⟩
  | sav xs vs => exact All2.map (R := RepA w fz β) _ h fun a v hr => hr.kill k
  | _ => exact h
theorem SR.kill (h : SR cx st a w fz β) (k : Nat) : SR cx (st.kill k) a w fz β := by
  refine ⟨h.d, h.low, h.rel, ⟨h.h.lt, h.h.fzlt, h.h.inj, h.h.apart, fun j o hj => ?_⟩, h.t.map _ fun x v hr => hr.kill k⟩
  simp only [St.kill, find_okill] at hj
  cases hf : find st.objs j with
  | none => simp [hf] at hj
  | some o' =>
    simp only [hf, Option.map_some, Option.some.injEq] at hj
    subst hj
    have := h.h.ob j o' hf
    split
    · exact this
    · exact this.kill k

/-! ### Rows that are read -/
/-- The elements of a slice, read as a list. -/
def elems (st : St) : AV → Option (List (List PV))
  | .c (.p (.fro xs)) => some xs
  | .c (.own k sz n) => match find st.objs k with
    | some (.row _ sz' xs) => if sz = sz' ∧ n = xs.length then some xs else none
    | _ => none
  | .c (.win k sz off n) => match find st.objs k with
    | some (.row _ sz' xs) => if sz = sz' ∧ off + n ≤ xs.length then some ((xs.drop off).take n) else none
    | _ => none
  | .c (.p (.s (.slice none 0 0))) => some []
  | _ => none
/-- The same over memory: where the elements lie, one behind another. -/
structure Lies (w : World) (fz : Nat → Prop) (v : Value) (sz : Nat) (xs : List (List PV)) : Prop where
  ex : ∃ ad cap, v = .slice ad xs.length cap ∧ xs.length ≤ cap ∧ (xs = [] ∨ ∃ b o, ad = some ⟨b, o, none⟩ ∧ (∀ cs ∈ xs, cs.length = sz) ∧ ∃ news : List Value, All2 (RepP w fz) xs.flatten news ∧ ∀ (j : Nat) u, news[j]? = some u → w.cell? ⟨b, o + j, none⟩ = some u)
theorem flat_of {sz : Nat} {xs : List (List PV)} {b o : Nat} (hl : ∀ (j : Nat) cs, xs[j]? = some cs → cs.length = sz) (h : ∀ (j : Nat) cs (c : Nat) x, xs[j]? = some cs → cs[c]? = some x → ∃ u, w.cell? ⟨b, o + (j * sz + c), none⟩ = some u ∧ RepP w fz x u) :
    ∃ news : List Value, All2 (RepP w fz) xs.flatten news ∧ ∀ (j : Nat) u, news[j]? = some u → w.cell? ⟨b, o + j, none⟩ = some u := by
  have hl' : ∀ cs ∈ xs, cs.length = sz := fun cs hcs => by obtain ⟨i, hi⟩ := List.getElem?_of_mem hcs; exact hl i cs hi
  refine place_vals (R := RepP w fz) (b := b) xs.flatten o fun c y hy => ?_
  have hc : c < xs.length * sz := by rw [← flat_len hl']; exact (List.getElem?_eq_some_iff.1 hy).1
  have hs0 : 0 < sz := by rcases Nat.eq_zero_or_pos sz with h | h; (subst h; simp at hc); exact h
  have hj : c / sz < xs.length := Nat.div_lt_of_lt_mul (by rw [Nat.mul_comm]; exact hc)
  have he : c / sz * sz + c % sz = c := by rw [Nat.mul_comm]; exact Nat.div_add_mod c sz
  have hxs : xs[c / sz]? = some xs[c / sz] := List.getElem?_eq_getElem hj
  have := flat_get hl' hxs (c % sz) (Nat.mod_lt _ hs0)
  rw [he, hy] at this
  obtain ⟨u, h1, h2⟩ := h _ _ _ _ hxs this.symm
  rw [he] at h1
  exact ⟨u, h1, h2⟩
theorem SR.lies (h : SR cx st a w fz β) {z : AV} {v : Value} (hz : RepA w fz β z v) {xs : List (List PV)} (he : elems st z = some xs) : ∃ sz, Lies w fz v sz xs := by
  cases z with
  | c z =>
    cases z with
    | p z =>
      cases z with
      | s u =>
        unfold elems at he
        split at he
        · simp_all
        · simp_all
        · simp_all
        · rename_i heq; cases heq; cases he; have := RepP.eq hz; subst this; exact ⟨0, ⟨none, 0, rfl, Nat.le_refl _, .inl rfl⟩⟩
        · cases he
      | fro ys =>
        simp only [elems, Option.some.injEq] at he
        subst he
        cases hz with
        | nil ad cap => exact ⟨0, ⟨ad, cap, rfl, Nat.zero_le _, .inl rfl⟩⟩
        | fro _ b o cap sz val hb hcap hl hc hr =>
          refine ⟨sz, ⟨_, cap, rfl, hcap, .inr ⟨b, o, rfl, fun cs hcs => by obtain ⟨i, hi⟩ := List.getElem?_of_mem hcs; exact hl i cs hi, ?_⟩⟩⟩
          exact flat_of hl fun j cs c x h1 h2 => ⟨_, hc j cs c x h1 h2, hr j cs c x h1 h2⟩
    | own k sz n =>
      unfold elems at he
      cases hf : find st.objs k with
      | none => simp [hf] at he
      | some ob =>
        cases ob with
        | row T sz' ys =>
          simp only [hf] at he
          split at he
          · rename_i hh
            obtain ⟨rfl, rfl⟩ := hh
            cases he
            rcases hz with ⟨h1, h2, h3⟩ | ⟨b, cap, T', h1, h2, h3, h4, h5⟩
            · have : xs = [] := List.eq_nil_of_length_eq_zero h2
              subst this; subst h3
              exact ⟨0, ⟨none, 0, rfl, Nat.le_refl _, .inl rfl⟩⟩
            · rcases h.h.ob k _ hf with ⟨h6, h7⟩ | ⟨b', vs, h6, h7, h8, h9, h10⟩
              · rw [h1] at h6; cases h6
              · rw [h1] at h6; cases h6
                refine ⟨sz, ⟨_, cap, h2, h5, .inr ⟨b, 0, rfl, h9, ?_⟩⟩⟩
                refine flat_of (fun j cs hj => h9 cs (List.mem_of_getElem? hj)) fun j cs c x h11 h12 => ?_
                obtain ⟨u, h13, h14⟩ := row_at (T := T) h9 h10 h11 h12
                exact ⟨u, by rw [Nat.zero_add, cellAt h7]; exact h13, h14⟩
          · cases he
        | _ => simp [hf] at he
    | win k sz off n =>
      unfold elems at he
      cases hf : find st.objs k with
      | none => simp [hf] at he
      | some ob =>
        cases ob with
        | row T sz' ys =>
          simp only [hf] at he
          split at he
          · rename_i hh
            obtain ⟨rfl, hh⟩ := hh
            cases he
            have hlen : ((ys.drop off).take n).length = n := by simp; omega
            rcases hz with ⟨h1, ad, cap, h2⟩ | ⟨b, cap, h1, h2, h3⟩
            · subst h1; exact ⟨0, ⟨ad, cap, by simpa using h2, by simp, .inl (by simp)⟩⟩
            · rcases h.h.ob k _ hf with ⟨h6, h7⟩ | ⟨b', vs, h6, h7, h8, h9, h10⟩
              · rw [h1] at h6; cases h6
              · rw [h1] at h6; cases h6
                have hsub : ∀ cs ∈ (ys.drop off).take n, cs.length = sz := fun cs hcs => h9 cs (List.mem_of_mem_drop (List.mem_of_mem_take hcs))
                refine ⟨sz, ⟨_, cap, by rw [hlen]; exact h2, by rw [hlen]; exact h3, .inr ⟨b, off * sz, rfl, hsub, ?_⟩⟩⟩
                refine flat_of (fun j cs hj => hsub cs (List.mem_of_getElem? hj)) fun j cs c x h11 h12 => ?_
                rw [List.getElem?_take] at h11
                split at h11
                · rw [List.getElem?_drop] at h11
                  obtain ⟨u, h13, h14⟩ := row_at (T := T) h9 h10 h11 h12
                  exact ⟨u, by rw [cellAt h7, ← Nat.add_assoc, ← Nat.add_mul]; exact h13, h14⟩
                · cases h11
          · cases he
        | _ => simp [hf] at he
    | _ => simp [elems] at he
  | _ => simp [elems] at he

/-! ### Append -/
def tyF (P : Program) (T : TypeId) : Option (Option Value × Nat × Nat) := (P.info? T).map fun i => (i.zero, i.size, i.bytes)
theorem tyF_spec {z : Value} {sz by_ : Nat} (h : tyF P E = some (some z, sz, by_)) : ∃ i, P.info? E = some i ∧ i.zero = some z ∧ i.size = sz ∧ i.bytes = by_ := by
  unfold tyF at h
  cases hi : P.info? E with
  | none => simp [hi] at h
  | some i => simp [hi] at h; exact ⟨i, rfl, h⟩
theorem run_app_none {t ty : TypeId} (ht : P.underlying t = some (.slice E)) {i : TypeInfo} (hi : P.info? E = some i) (b : Option Addr) (n cap : Nat) (hn : n ≤ cap) (ad : Option Addr) (c : Nat) :
    (Builtin.append_ #[t, t] ty #[.slice b n cap, .slice ad 0 c]).run P w = .ok (.slice b n cap) w := by
  cases ad <;> cases b <;> simp [Builtin.append_, run_underlying ht, sizeOf, typeInfo, hi, Builtin.lenOf, Builtin.firstCells, hn, storeCells, loadCells, loadCellsFrom]
theorem mem_flat {sz : Nat} {xs ys : List (List PV)} (h1 : ∀ cs ∈ xs, cs.length = sz) (h2 : ∀ cs ∈ ys, cs.length = sz) : ∀ cs ∈ xs ++ ys, cs.length = sz := by
  intro cs h; rcases List.mem_append.1 h with h | h; exact h1 _ h; exact h2 _ h
/-- Onto a row of the call's own, or onto none (k: the key that the row has then). -/
theorem OpTo.app {t : TypeId} {s : Operand} {z : Value} {sz by_ : Nat} {xs ys : List (List PV)} (hu : P.underlying t = some (.slice E)) (hE : tyF P E = some (some z, sz, by_)) (hzs : z.cells.size = sz) (hs0 : 0 < sz)
    (h1 : okOp s = true) (h2 : okOp x = true) (hlow : k < 1000000)
    (hs : st.op cx s = .c (.own k sz xs.length) ∧ find st.objs k = some (.row E sz xs) ∨ st.op cx s = .c (.p (.s (.slice none 0 0))) ∧ xs = [])
    (hx : elems st (st.op cx x) = some ys) (hys : ∀ cs ∈ ys, cs.length = sz) (hb : (xs.length + ys.length) * by_ ≤ 140737488355328) (hm : xs.length + ys.length ≤ maxLen)
    (kk : K (St.put ⟨(st.kill k).tmps, upd (st.kill k).objs k (.row E sz (xs ++ ys))⟩ dst (.c (.own k sz (xs.length + ys.length))))) :
    OpTo P cx false ⟨dst, .call { callee := .builtin .append, args := #[s, x], argTypes := #[t, t] }, ty, pos, af, gd⟩ st K := by
  intro a w next Qx ⟨fz, β, hr⟩ hn
  obtain ⟨i, hi, hiz, his, hib⟩ := tyF_spec hE
  obtain ⟨sz', ⟨ad, c, e1, e2, e3⟩⟩ := hr.lies (hr.op x h2) hx
  have hsmall : xs.length + ys.length ≤ 9223372036854775807 := by simp only [maxLen] at hm; omega
  have hrun : ∀ v w', (Builtin.append_ #[t, t] ty #[a.eval s, a.eval x]).run P w = .ok v w' → (execOp a.eval ⟨dst, .call { callee := .builtin .append, args := #[s, x], argTypes := #[t, t] }, ty, pos, af, gd⟩).run P w = .ok (.value v) w' := by
    intro v w' h; simp [execOp, resolve, invoke, builtin, h]
  have fin : ∀ v w' fz' β', (Builtin.append_ #[t, t] ty #[a.eval s, a.eval x]).run P w = .ok v w' → SR cx ⟨(st.kill k).tmps, upd (st.kill k).objs k (.row E sz (xs ++ ys))⟩ a w' fz' β' → RepC w' fz' β' (.own k sz (xs.length + ys.length)) v → wpv P ⟨dst, .call { callee := .builtin .append, args := #[s, x], argTypes := #[t, t] }, ty, pos, af, gd⟩ a w next Qx := by
    intro v w' fz' β' h3 h4 h5
    unfold wpv
    rw [hrun v w' h3]
    exact hn _ _ _ kk ⟨fz', β', h4.put (x := .c (.own k sz (xs.length + ys.length))) h5 dst⟩ (fun h => by cases h)
  -- what the new row reads as, over a block that begins with the old values and the new ones
  have mkRow : ∀ (w' : World) (fz' : Nat → Prop) (β' : Nat → Option Nat) (olds news rest : List Value) (b' : Nat), β' k = some b' → w'.heap[b']? = some (.cells (olds ++ news ++ rest).toArray E (0, 0)) → (∀ cs ∈ xs, cs.length = sz) →
      All2 (RepP w' fz') xs.flatten olds → All2 (RepP w' fz') ys.flatten news → RepO w' fz' β' k (.row E sz (xs ++ ys)) := by
    intro w' fz' β' olds news rest b' h3 h4 h5 h6 h7
    have hl1 : olds.length = xs.length * sz := by rw [← h6.len]; exact flat_len h5
    have hl2 : news.length = ys.length * sz := by rw [← h7.len]; exact flat_len hys
    have hl : (olds ++ news).length = (xs ++ ys).length * sz := by rw [List.length_append, List.length_append, Nat.add_mul, hl1, hl2]
    refine .inr ⟨b', _, h3, h4, by rw [← hl]; simp, mem_flat h5 hys, ?_⟩
    rw [← hl, List.take_left, List.flatten_append]
    exact h6.append h7
  have hnl : ∀ news : List Value, All2 (RepP w fz) ys.flatten news → news.length = ys.length * i.size := fun news h => by rw [← h.len, his]; exact flat_len hys
  -- the new elements
  by_cases hy0 : ys = []
  · -- nothing new
    subst hy0
    simp only [List.length_nil, Nat.add_zero, List.append_nil] at *
    rcases hs with ⟨hs, hf⟩ | ⟨hs, rfl⟩
    · have hS := hr.op s h1
      rw [hs] at hS
      have hv : ∃ bb cap, a.eval s = .slice bb xs.length cap ∧ xs.length ≤ cap := by
        rcases hS with ⟨_, h4, h5⟩ | ⟨b, cap, T', _, h5, _, _, h6⟩
        · exact ⟨none, 0, by rw [h5, h4], by omega⟩
        · exact ⟨_, cap, h5, h6⟩
      obtain ⟨bb, cap, hv, hcap⟩ := hv
      refine fin (a.eval s) w fz β (by rw [hv, e1]; exact run_app_none hu hi bb _ cap hcap ad c) ?_ hS
      refine ⟨hr.d, hr.low, hr.rel, ⟨hr.h.lt, hr.h.fzlt, hr.h.inj, hr.h.apart, fun j o hj => ?_⟩, (hr.kill k).t⟩
      rw [find_upd] at hj
      by_cases hjk : k = j
      · subst hjk; rw [if_pos rfl] at hj; cases hj; exact hr.h.ob _ _ hf
      · rw [if_neg hjk] at hj; exact (hr.kill k).h.ob j o hj
    · have hv := hr.eq hs h1
      have hnil : (β k = none) ∨ ¬ (β k = none) := Decidable.em _
      -- the key's elder block is given up
      refine fin (.slice none 0 0) w fz (bup β k none) (by rw [hv, e1]; exact run_app_none hu hi none 0 0 (Nat.le_refl _) ad c) ?_ (.inl ⟨bup_same _ _ _, rfl, rfl⟩)
      have hkk := hr.kill k
      refine ⟨hkk.d.stp (Stp.bupN _ _ _ _), hkk.low, ⟨hkk.rel.os, hkk.rel.tape, hkk.rel.output, hkk.rel.size, hkk.rel.old, hkk.rel.shp, hkk.rel.fzin, hkk.rel.fzout, ?_, ?_, hkk.rel.glob, fun j hj h0 => (bup_other _ _ _ (by omega)).trans (hkk.rel.bhi j hj h0)⟩, ⟨?_, hkk.h.fzlt, ?_, ?_, ?_⟩, ?_⟩
      · intro j b hj
        have : j ≠ k := fun e => by subst e; rw [hkk.low j hlow] at hj; cases hj
        rw [bup_other _ _ _ this]; exact hkk.rel.bin j b hj
      · intro j b hj
        by_cases hjk : j = k
        · subst hjk; rw [bup_same] at hj; cases hj
        · rw [bup_other _ _ _ hjk] at hj; exact hkk.rel.bout j b hj
      · intro j b hj
        by_cases hjk : j = k
        · subst hjk; rw [bup_same] at hj; cases hj
        · rw [bup_other _ _ _ hjk] at hj; exact hkk.h.lt j b hj
      · intro j j' b h3 h4
        by_cases hjk : j = k
        · subst hjk; rw [bup_same] at h3; cases h3
        · by_cases hjk' : j' = k
          · subst hjk'; rw [bup_same] at h4; cases h4
          · rw [bup_other _ _ _ hjk] at h3; rw [bup_other _ _ _ hjk'] at h4; exact hkk.h.inj _ _ _ h3 h4
      · intro b hb' j hj
        by_cases hjk : j = k
        · subst hjk; rw [bup_same] at hj; cases hj
        · rw [bup_other _ _ _ hjk] at hj; exact hkk.h.apart b hb' j hj
      · intro j o hj
        rw [find_upd] at hj
        by_cases hjk : k = j
        · subst hjk; rw [if_pos rfl] at hj; cases hj; exact .inl ⟨bup_same _ _ _, rfl⟩
        · rw [if_neg hjk] at hj
          refine (hkk.h.ob j o hj).adv (Adv.refl _ _) (fun _ h => h) (bup_other _ _ _ (Ne.symm hjk)) (fun _ _ => rfl) (fun m hm' => bup_other _ _ _ ?_) (Stp.bupN _ _ _ _)
          intro e; subst e; rw [St.noref_o (noref_kill _ _) hj (Ne.symm hjk)] at hm'; cases hm'
      · refine hkk.t.mono fun u v hu' hv' => hv'.adv (Adv.refl _ _) (fun _ h => h) (fun m hm' => bup_other _ _ _ ?_)
        intro e; subst e; rw [St.noref_t (noref_kill _ _) hu'] at hm'; cases hm'
  · obtain ⟨b, o, e4, e5, news, e6, e7⟩ := e3.resolve_left hy0
    subst e4
    have hy1 : 0 < ys.length := List.length_pos_iff.2 hy0
    have hnews : ∀ (j : Nat) u, news[j]? = some u → w.cell? ((⟨b, o, none⟩ : Addr).add j) = some u := fun j u hj => by rw [Addr.add_lit]; exact e7 j u hj
    have hone : ∀ u ∈ news, u.oneCell' = true := all2_one e6
    have hlenN := hnl news e6
    have big : ∀ (olds : List Value) (v : Value) (cap : Nat) (rest : List Value), (∀ cs ∈ xs, cs.length = sz) → All2 (RepP w fz) xs.flatten olds → v = .slice (some ⟨w.heap.size, 0, none⟩) (xs.length + ys.length) cap → cap ≤ maxLen → xs.length + ys.length ≤ cap →
        (olds ++ news ++ rest).length = cap * sz → (Builtin.append_ #[t, t] ty #[a.eval s, a.eval x]).run P w = .ok v (w.drew.alloc (.cells (olds ++ news ++ rest).toArray E)) → wpv P ⟨dst, .call { callee := .builtin .append, args := #[s, x], argTypes := #[t, t] }, ty, pos, af, gd⟩ a w next Qx := by
      intro olds v cap rest h3 h4 h5 h6 h7 h8 h9
      have hA : Adv fz w (w.drew.alloc (.cells (olds ++ news ++ rest).toArray E)) := adv_push rfl hr.h.fzlt
      have hnew : (w.drew.alloc (.cells (olds ++ news ++ rest).toArray E)).heap[w.heap.size]? = some (.cells (olds ++ news ++ rest).toArray E) := heap_alloc_new w.drew _
      have hkk := (hr.kill k).mk' hlow (noref_kill k st) (.row E sz (xs ++ ys)) rfl (w' := w.drew.alloc (.cells (olds ++ news ++ rest).toArray E)) ⟨rfl, rfl, rfl⟩ (.cells (olds ++ news ++ rest).toArray E) rfl
        (mkRow _ fz _ olds news rest w.heap.size (bup_same _ _ _) hnew h3 (h4.mono fun _ _ _ h => RepP.adv h hA fun _ h => h) (e6.mono fun _ _ _ h => RepP.adv h hA fun _ h => h))
      refine fin v _ fz _ h9 hkk ?_
      exact .inr ⟨w.heap.size, cap, E, bup_same _ _ _, h5, by rw [shapeAt hnew, h8], h6, h7⟩
    have wrap : ∀ cap, Builtin.zeroCells z.cells cap = ((Builtin.zeroCells z.cells cap).toList).toArray := fun cap => by simp
    rcases hs with ⟨hs, hf⟩ | ⟨hs, rfl⟩
    · have hS := hr.op s h1
      rw [hs] at hS
      rcases hr.h.ob k _ hf with ⟨h3, h4⟩ | ⟨b', vs, h3, h4, h5, h6, h7⟩
      · -- there is no block yet
        subst h4
        rcases hS with ⟨_, _, h8⟩ | ⟨b2, cap, T', h8, _⟩
        · have hrn := run_append_nil (P := P) w t ty E i z hu hi hiz ⟨b, o, none⟩ ys.length c news hlenN hnews hy1 (by omega) (by rw [hib]; simp only [List.length_nil, Nat.zero_add] at hb; omega)
          refine big [] _ (grownCap w ys.length 0 E) (Builtin.zeroCells z.cells (grownCap w ys.length 0 E - ys.length)).toList (by simp) .nil rfl (grownCap_le_maxLen w _ _ _ (by simp at hm; omega)) (by simp; exact grownCap_ge w _ _ _) ?_ (by rw [h8, e1]; simp only [List.length_nil, Nat.zero_add, List.nil_append, ← List.append_toArray, Array.toArray_toList]; exact hrn)
          have := grownCap_ge w ys.length 0 E
          simp only [List.nil_append, List.length_append, hlenN, Array.length_toList, size_zeroCells, hzs, his, ← Nat.add_mul]
          congr 1; omega
        · rw [h3] at h8; cases h8
      · rcases hS with ⟨h8, _⟩ | ⟨b2, cap, T', h8, h9, h10, h11, h12⟩
        · rw [h3] at h8; cases h8
        · rw [h3] at h8; cases h8
          have hvl : vs.length = cap * sz := by rw [shapeAt h4] at h10; simp at h10; exact h10.2
          by_cases hroom : xs.length + ys.length ≤ cap
          · -- there is room
            have hfit : xs.length * i.size + news.length ≤ vs.toArray.size := by rw [hlenN, his]; simp only [List.size_toArray, hvl, ← Nat.add_mul]; exact Nat.mul_le_mul_right _ hroom
            have hrr := run_append_room (P := P) w t ty E i hu hi b' xs.length cap vs.toArray h4 ⟨b, o, none⟩ ys.length c news hlenN hnews hone hroom hfit
            rw [his] at hrr
            have hl' : (vs.take (xs.length * sz) ++ news ++ vs.drop (xs.length * sz + news.length)).length = vs.length := by
              have h := hfit; rw [his] at h; simp only [List.size_toArray] at h; simp; omega
            have hkk := (hr.kill k).wr h3 h4 hl' (.row E sz (xs ++ ys)) (fun w' hA hb' => mkRow w' fz β (vs.take (xs.length * sz)) news (vs.drop (xs.length * sz + news.length)) b' h3 hb' h6 (h7.mono fun _ _ _ h => RepP.adv h hA fun _ h => h) (e6.mono fun _ _ _ h => RepP.adv h hA fun _ h => h))
            refine fin _ _ fz β (by rw [h9, e1]; exact hrr) hkk ?_
            exact .inr ⟨b', cap, E, h3, rfl, by rw [shapeAt (setRow_heap w b' _ _ E _ h4), hl', hvl], h11, hroom⟩
          · -- it grows
            have holds : ∀ (j : Nat) u, (vs.take (xs.length * sz))[j]? = some u → w.cell? ((⟨b', 0, none⟩ : Addr).add j) = some u := fun j u hj => by
              rw [Addr.add_lit, Nat.zero_add, cellAt h4]
              rw [List.getElem?_take] at hj
              split at hj
              · exact hj
              · cases hj
            have hlo : (vs.take (xs.length * sz)).length = xs.length * i.size := by rw [his, ← h7.len]; exact flat_len h6
            have hrg := run_append_grow (P := P) w t ty E i z hu hi hiz ⟨b', 0, none⟩ xs.length cap (vs.take (xs.length * sz)) hlo holds ⟨b, o, none⟩ ys.length c news hlenN hnews (by omega) (by omega) (growslice_fits (by omega) (by rw [hib]; exact hb))
            refine big (vs.take (xs.length * sz)) _ (grownCap w (xs.length + ys.length) cap E) (Builtin.zeroCells z.cells (grownCap w (xs.length + ys.length) cap E - (xs.length + ys.length))).toList h6 h7 rfl (grownCap_le_maxLen w _ _ _ hm) (grownCap_ge w _ _ _) ?_ (by rw [h9, e1]; simp only [← List.append_toArray, Array.toArray_toList]; exact hrg)
            have := grownCap_ge w (xs.length + ys.length) cap E
            simp only [List.length_append, hlo, hlenN, Array.length_toList, size_zeroCells, hzs, his, ← Nat.add_mul]
            congr 1; omega
    · have hv := hr.eq hs h1
      have hrn := run_append_nil (P := P) w t ty E i z hu hi hiz ⟨b, o, none⟩ ys.length c news hlenN hnews hy1 (by omega) (by rw [hib]; simp only [List.length_nil, Nat.zero_add] at hb; omega)
      refine big [] _ (grownCap w ys.length 0 E) (Builtin.zeroCells z.cells (grownCap w ys.length 0 E - ys.length)).toList (by simp) .nil rfl (grownCap_le_maxLen w _ _ _ (by simp at hm; omega)) (by simp; exact grownCap_ge w _ _ _) ?_ (by rw [hv, e1]; simp only [List.length_nil, Nat.zero_add, List.nil_append, ← List.append_toArray, Array.toArray_toList]; exact hrn)
      have := grownCap_ge w ys.length 0 E
      simp only [List.nil_append, List.length_append, hlenN, Array.length_toList, size_zeroCells, hzs, his, ← Nat.add_mul]
      congr 1; omega
end
end Go.Proofs.Vl
