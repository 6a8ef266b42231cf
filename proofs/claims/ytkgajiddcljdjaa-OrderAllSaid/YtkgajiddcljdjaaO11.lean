/- A cut that leaves no room; what is appended to it is a new row. -/
import Derived.Test.YtkgajiddcljdjaaO10
set_option linter.all false
set_option maxHeartbeats 1000000
namespace Go.Proofs.Vl
open Go Go.RowKit
section
variable {P : Program} {cx : Cx} {st : St} {Q : Exit → St → Prop} {K : St → Prop} {ops : Array Oper} {wr : List Nat} {n : Nat} {listed : Array Bool} {ds : List (Option Tmp)} {rem : List (Nat × Oper)}
/-- A step whose value is told by itself. -/
theorem DL.takeX {pu : Bool} {C : Value → Prop} {F : Value → St} (k : Nat) {i : Nat} {o : Oper} (hk : rem[k]? = some (i, o)) (hc : (nd rem && readyR ds rem o && freeT ds wr pu rem i o (clos rem.length rem i [])) = true) (hg : o.guard = none)
    (hy : ∀ a w fz β, SR cx st a w fz β → ∃ v, C v ∧ SR cx (F v) (a.put o.dst v) w fz β ∧ ∀ w', (pu = true ∨ Old w w') → (execOp a.eval o).run P w' = .ok (.value v) w')
    (h : ∀ v, C v → DL P cx ds wr (rem.eraseIdx k) (F v) K) : DL P cx ds wr rem st K := fun ops listed hR => by
  simp only [Bool.and_eq_true] at hc
  generalize clos rem.length rem i [] = B at hc
  rw [len_erase hk]
  have hm := List.mem_of_getElem? hk
  intro a w hst
  obtain ⟨fz, β, hsr⟩ := hst
  obtain ⟨v, h0, h1, h2⟩ := hy a w fz β hsr
  have hc2 := hc.2
  unfold freeT at hc2
  simp only [Bool.and_eq_true] at hc2
  refine wpAnyO_firstT (pu := pu) (fun j => j ∈ B) (hR.mem _ hm) (Region.noSelect_spec hR.sel) (fun c a w hp => by obtain ⟨hp, _⟩ := hp; cases hp) _ listed a w ?_ ?_ (hR.ready hm hc.1.2) (.inl ⟨by simp [Region.wanted, hg], fun w' hw' => h2 w' hw'⟩) (h v h0 _ _ (hR.next hk (nd_nodup hc.1.1)) _ _ ⟨fz, β, h1⟩)
  · intro j oj hj hne hun hno
    have := List.all_eq_true.1 hc2.1 _ (hR.unl hj hun)
    simp only [Bool.or_eq_true, Bool.and_eq_true, beq_iff_eq, List.contains_iff_mem] at this
    rcases this with (h3 | h3) | h3
    · exact absurd h3 hne
    · exact absurd h3 hno
    · rw [hR.apart]; exact h3
  · intro j hj
    have := List.all_eq_true.1 hc2.2 j hj
    obtain ⟨p, hp, h3⟩ := List.any_eq_true.1 this
    simp only [Bool.and_eq_true, beq_iff_eq, bne_iff_ne, ne_eq] at h3
    obtain ⟨⟨h4, h5⟩, h6⟩ := h3
    obtain ⟨e, he, h7⟩ := Array.any_eq_true'.1 h6
    simp only [Bool.and_eq_true, Bool.or_eq_true, beq_iff_eq, List.contains_iff_mem] at h7
    obtain ⟨q, r⟩ := p
    dsimp only at h4 he
    subst h4
    exact ⟨h5, hR.todo hp, r, hR.mem _ hp, e, he, h7.1, h7.2⟩
end
section
variable {P : Program} {cx : Cx} {st : St} {K : St → Prop} {dst : Option Tmp} {ty : TypeId} {pos : String} {af : Array Edge} {gd : Option (Nat × Bool)} {kp : Bool}
theorem run_cut3 {T E : TypeId} {w : World} (hu : P.underlying T = some (.slice E)) {i : TypeInfo} (hi : P.info? E = some i) {n cap : Nat} {k1 k2 : IntKind} (ad : Option Addr) (hhc : n ≤ cap) :
    (Instr.sliceAt T (.slice ad n cap) none (some (.int k1 (n : Int))) (some (.int k2 (n : Int)))).run P w = .ok (.slice (if n = 0 then ad else ad.map (·.add (0 * i.size))) n n) w := by
  have hb : ∀ (k : IntKind) (v : Int) (y : Nat) (code : BoundsCode), 0 ≤ v → v.toNat ≤ y → (Instr.sliceBound (.int k v) y code).run P w = .ok v.toNat w := fun k v y code h0 hy => by
    have : 0 ≤ v ∧ v ≤ (y : Int) := ⟨h0, by omega⟩
    simp [Instr.sliceBound, asIntOf, this]
  have hbs : (Instr.sliceBounds true n cap none (some (.int k1 (n : Int))) (some (.int k2 (n : Int)))).run P w = .ok (0, n, n) w := by
    simp [Instr.sliceBounds, hb k1 n n _ (Int.natCast_nonneg n) (by simp), hb k2 n cap _ (Int.natCast_nonneg n) (by simpa using hhc)]
  simp [Instr.sliceAt, Instr.slice, run_underlying hu, hbs, sizeOf, typeInfo, hi]
theorem AWp.dlW {Q : Exit → St → Prop} {id : Nat} {l : List Oper} {ds : List (Option Tmp)} {rem : List (Nat × Oper)} (wr : List Nat) (hm : P.follows .mixedOrders = true := by kernel_rfl) (hsl : l.all noSel = true := by rfl) (hds : l.map (·.dst) = ds := by (dsimp only [List.map] <;> exact rfl)) (he : enum 0 l = rem := by (dsimp only [enum, Nat.reduceAdd] <;> exact rfl)) (h : DL P cx ds wr rem st (fun s => Q .normal s)) : AWp P cx (.region id l.toArray true) st Q := by
  subst he; exact AWp.dl wr hm hsl hds h
/-- A slice without room. -/
def full (n : Nat) (v : Value) : Prop := ∃ ad, v = .slice ad n n
/-- Cut to its own length and no further. -/
theorem cut3 {T : TypeId} {x y z : Operand} {xs : List (List PV)} {k1 k2 : IntKind} {d sz kk : Nat} (hs : slI P T = some sz) (hsz : ∀ cs ∈ xs, cs.length = sz) (ho : okOp x = true) (hx : st.op cx x = .c (.p (.fro xs))) (h1 : okOp y = true) (hy : st.op cx y = .c (.p (.s (.int k1 (xs.length : Int))))) (h2 : okOp z = true) (hz : st.op cx z = .c (.p (.s (.int k2 (xs.length : Int))))) :
    ∀ a w fz β, SR cx st a w fz β → ∃ v, full xs.length v ∧ SR cx ⟨(st.put (some d) (.c (.p (.s v)))).tmps, upd st.objs kk (.sav [.c (.p (.fro xs))] [v])⟩ (a.put (some d) v) w fz β ∧ ∀ w', (true = true ∨ Old w w') → (execOp a.eval ⟨some d, .slice T x none (some y) (some z), ty, pos, af, gd⟩).run P w' = .ok (.value v) w' := by
  intro a w fz β hr
  have hX := hr.op x ho
  rw [hx] at hX
  replace hX : RepP w fz (.fro xs) (a.eval x) := hX
  obtain ⟨e, hu, hE⟩ := slI_spec hs
  cases hi : P.info? e with
  | none => simp [hi] at hE
  | some i =>
  have e1 := hr.eq hy h1
  have e2 := hr.eq hz h2
  have fin : ∀ ad cap, a.eval x = .slice ad xs.length cap → xs.length ≤ cap → RepP w fz (.fro xs) (.slice (if xs.length = 0 then ad else ad.map (·.add (0 * i.size))) xs.length xs.length) →
      ∃ v, full xs.length v ∧ SR cx ⟨(st.put (some d) (.c (.p (.s v)))).tmps, upd st.objs kk (.sav [.c (.p (.fro xs))] [v])⟩ (a.put (some d) v) w fz β ∧ ∀ w', (true = true ∨ Old w w') → (execOp a.eval ⟨some d, .slice T x none (some y) (some z), ty, pos, af, gd⟩).run P w' = .ok (.value v) w' := by
    intro ad cap h3 h4 hrep
    refine ⟨.slice (if xs.length = 0 then ad else ad.map (·.add (0 * i.size))) xs.length xs.length, ⟨_, rfl⟩, ?_, fun w' _ => ?_⟩
    · have hp := hr.put (x := .c (.p (.s (.slice (if xs.length = 0 then ad else ad.map (·.add (0 * i.size))) xs.length xs.length)))) (.s _ rfl) (some d)
      refine ⟨hp.d, hp.low, hp.rel, ⟨hp.h.lt, hp.h.fzlt, hp.h.inj, hp.h.apart, fun j o hj => ?_⟩, hp.t⟩
      rw [find_upd] at hj
      split at hj
      · cases hj; exact .cons hrep .nil
      · exact hp.h.ob j o hj
    · simp only [execOp, Option.map_none, Option.map_some, Sem.run_bind]
      rw [h3, e1, e2, run_cut3 hu hi ad h4]; rfl
  generalize hv : a.eval x = v at hX fin
  cases hX with
  | nil ad cap =>
    refine fin ad cap rfl (Nat.zero_le _) ?_
    exact RepP.nil _ _
  | fro _ b o cap sz' val hb hcap hll hc hr' =>
    refine fin _ cap rfl hcap ?_
    by_cases h0 : xs.length = 0
    · obtain rfl := List.eq_nil_of_length_eq_zero h0
      exact RepP.nil _ _
    · rw [if_neg h0]
      simp only [Option.map_some, Addr.add_lit, Nat.zero_mul, Nat.add_zero]
      exact RepP.fro _ b o _ sz' val hb (Nat.le_refl _) hll hc hr'
/-- What is appended to a slice without room is a new row. -/
theorem OpTo.appC {t E : TypeId} {s x : Operand} {z v0 : Value} {sz by_ kk d : Nat} {xs ys : List (List PV)} (hu : P.underlying t = some (.slice E)) (hE : tyF P E = some (some z, sz, by_)) (hzs : z.cells.size = sz) (hs0 : 0 < sz)
    (h1 : okOp s = true) (h2 : okOp x = true) (hlow : d < 1000000) (hs : st.op cx s = .c (.p (.s v0))) (hv0 : full xs.length v0) (hsv : find st.objs kk = some (.sav [.c (.p (.fro xs))] [v0])) (hxs : ∀ cs ∈ xs, cs.length = sz)
    (hx : elems st (st.op cx x) = some ys) (hy0 : ys ≠ []) (hys : ∀ cs ∈ ys, cs.length = sz) (hb : (xs.length + ys.length) * by_ ≤ 140737488355328) (hm : xs.length + ys.length ≤ maxLen)
    (kk1 : K (St.put ⟨(st.kill d).tmps, upd (st.kill d).objs d (.row E sz (xs ++ ys))⟩ dst (.c (.own d sz (xs.length + ys.length))))) :
    OpTo P cx false ⟨dst, .call { callee := .builtin .append, args := #[s, x], argTypes := #[t, t] }, ty, pos, af, gd⟩ st K := by
  intro a w next Qx ⟨fz, β, hr⟩ hn
  obtain ⟨i, hi, hiz, his, hib⟩ := tyF_spec hE
  obtain ⟨sz', ⟨ad, c, e1, e2, e3⟩⟩ := hr.lies (hr.op x h2) hx
  have hsmall : xs.length + ys.length ≤ 9223372036854775807 := by simp only [maxLen] at hm; omega
  have hrun : ∀ v w', (Builtin.append_ #[t, t] ty #[a.eval s, a.eval x]).run P w = .ok v w' → (execOp a.eval ⟨dst, .call { callee := .builtin .append, args := #[s, x], argTypes := #[t, t] }, ty, pos, af, gd⟩).run P w = .ok (.value v) w' := by
    intro v w' h; simp [execOp, resolve, invoke, builtin, h]
  have fin : ∀ v w' fz' β', (Builtin.append_ #[t, t] ty #[a.eval s, a.eval x]).run P w = .ok v w' → SR cx ⟨(st.kill d).tmps, upd (st.kill d).objs d (.row E sz (xs ++ ys))⟩ a w' fz' β' → RepC w' fz' β' (.own d sz (xs.length + ys.length)) v → wpv P ⟨dst, .call { callee := .builtin .append, args := #[s, x], argTypes := #[t, t] }, ty, pos, af, gd⟩ a w next Qx := by
    intro v w' fz' β' h3 h4 h5
    unfold wpv
    rw [hrun v w' h3]
    exact hn _ _ _ kk1 ⟨fz', β', h4.put (x := .c (.own d sz (xs.length + ys.length))) h5 dst⟩ (fun h => by cases h)
  have mkRow : ∀ (w' : World) (fz' : Nat → Prop) (β' : Nat → Option Nat) (olds news rest : List Value) (b' : Nat), β' d = some b' → w'.heap[b']? = some (.cells (olds ++ news ++ rest).toArray E (0, 0)) → (∀ cs ∈ xs, cs.length = sz) →
      All2 (RepP w' fz') xs.flatten olds → All2 (RepP w' fz') ys.flatten news → RepO w' fz' β' d (.row E sz (xs ++ ys)) := by
    intro w' fz' β' olds news rest b' h3 h4 h5 h6 h7
    have hl1 : olds.length = xs.length * sz := by rw [← h6.len]; exact flat_len h5
    have hl2 : news.length = ys.length * sz := by rw [← h7.len]; exact flat_len hys
    have hl : (olds ++ news).length = (xs ++ ys).length * sz := by rw [List.length_append, List.length_append, Nat.add_mul, hl1, hl2]
    refine .inr ⟨b', _, h3, h4, by rw [← hl]; simp, mem_flat h5 hys, ?_⟩
    rw [← hl, List.take_left, List.flatten_append]
    exact h6.append h7
  have hnl : ∀ news : List Value, All2 (RepP w fz) ys.flatten news → news.length = ys.length * i.size := fun news h => by rw [← h.len, his]; exact flat_len hys
  obtain ⟨b, o, e4, e5, news, e6, e7⟩ := e3.resolve_left hy0
  subst e4
  have hy1 : 0 < ys.length := List.length_pos_iff.2 hy0
  have hnews : ∀ (j : Nat) u, news[j]? = some u → w.cell? ((⟨b, o, none⟩ : Addr).add j) = some u := fun j u hj => by rw [Addr.add_lit]; exact e7 j u hj
  have hlenN := hnl news e6
  have big : ∀ (olds : List Value) (v : Value) (cap : Nat) (rest : List Value), (∀ cs ∈ xs, cs.length = sz) → All2 (RepP w fz) xs.flatten olds → v = .slice (some ⟨w.heap.size, 0, none⟩) (xs.length + ys.length) cap → cap ≤ maxLen → xs.length + ys.length ≤ cap →
      (olds ++ news ++ rest).length = cap * sz → (Builtin.append_ #[t, t] ty #[a.eval s, a.eval x]).run P w = .ok v (w.drew.alloc (.cells (olds ++ news ++ rest).toArray E)) → wpv P ⟨dst, .call { callee := .builtin .append, args := #[s, x], argTypes := #[t, t] }, ty, pos, af, gd⟩ a w next Qx := by
    intro olds v cap rest h3 h4 h5 h6 h7 h8 h9
    have hA : Adv fz w (w.drew.alloc (.cells (olds ++ news ++ rest).toArray E)) := adv_push rfl hr.h.fzlt
    have hnew : (w.drew.alloc (.cells (olds ++ news ++ rest).toArray E)).heap[w.heap.size]? = some (.cells (olds ++ news ++ rest).toArray E) := heap_alloc_new w.drew _
    have hkk := (hr.kill d).mk' hlow (noref_kill d st) (.row E sz (xs ++ ys)) rfl (w' := w.drew.alloc (.cells (olds ++ news ++ rest).toArray E)) ⟨rfl, rfl, rfl⟩ (.cells (olds ++ news ++ rest).toArray E) rfl
      (mkRow _ fz _ olds news rest w.heap.size (bup_same _ _ _) hnew h3 (h4.mono fun _ _ _ h => RepP.adv h hA fun _ h => h) (e6.mono fun _ _ _ h => RepP.adv h hA fun _ h => h))
    refine fin v _ fz _ h9 hkk ?_
    exact .inr ⟨w.heap.size, cap, E, bup_same _ _ _, h5, by rw [shapeAt hnew, h8], h6, h7⟩
  have hv := hr.eq hs h1
  have hsav : RepA w fz β (.c (.p (.fro xs))) v0 := by
    have h3 : All2 (RepA w fz β) [.c (.p (.fro xs))] [v0] := hr.h.ob kk _ hsv
    cases h3 with
    | cons h _ => exact h
  obtain ⟨n0, hn0⟩ := hv0
  have grow : ∀ (b' : Addr) (olds : List Value), v0 = .slice (some b') xs.length xs.length → All2 (RepP w fz) xs.flatten olds → (∀ (j : Nat) u, olds[j]? = some u → w.cell? (b'.add j) = some u) → wpv P ⟨dst, .call { callee := .builtin .append, args := #[s, x], argTypes := #[t, t] }, ty, pos, af, gd⟩ a w next Qx := by
    intro b' olds h3 h4 h5
    have hlo : olds.length = xs.length * i.size := by rw [his, ← h4.len]; exact flat_len hxs
    have hrg := run_append_grow (P := P) w t ty E i z hu hi hiz b' xs.length xs.length olds hlo h5 ⟨b, o, none⟩ ys.length c news hlenN hnews (by omega) (by omega) (growslice_fits (by omega) (by rw [hib]; exact hb))
    refine big olds _ (grownCap w (xs.length + ys.length) xs.length E) (Builtin.zeroCells z.cells (grownCap w (xs.length + ys.length) xs.length E - (xs.length + ys.length))).toList hxs h4 rfl (grownCap_le_maxLen w _ _ _ hm) (grownCap_ge w _ _ _) ?_ (by rw [hv, h3, e1]; simp only [← List.append_toArray, Array.toArray_toList]; exact hrg)
    have := grownCap_ge w (xs.length + ys.length) xs.length E
    simp only [List.length_append, hlo, hlenN, Array.length_toList, size_zeroCells, hzs, his, ← Nat.add_mul]
    congr 1; omega
  by_cases h0 : xs = []
  · subst h0
    cases n0 with
    | some b' => exact grow b' [] hn0 .nil (fun j u hj => by simp at hj)
    | none =>
      have hrn := run_append_nil (P := P) w t ty E i z hu hi hiz ⟨b, o, none⟩ ys.length c news hlenN hnews hy1 (by omega) (by rw [hib]; simp only [List.length_nil, Nat.zero_add] at hb; omega)
      refine big [] _ (grownCap w ys.length 0 E) (Builtin.zeroCells z.cells (grownCap w ys.length 0 E - ys.length)).toList (by simp) .nil rfl (grownCap_le_maxLen w _ _ _ (by simp at hm; omega)) (by simp; exact grownCap_ge w _ _ _) ?_ (by rw [hv, hn0, e1]; simp only [List.length_nil, Nat.zero_add, List.nil_append, ← List.append_toArray, Array.toArray_toList]; exact hrn)
      have := grownCap_ge w ys.length 0 E
      simp only [List.nil_append, List.length_append, hlenN, Array.length_toList, size_zeroCells, hzs, his, ← Nat.add_mul]
      congr 1; omega
  · obtain ⟨sz2, ⟨ad2, c2, f1, f2, f3⟩⟩ := hr.lies hsav (xs := xs) rfl
    obtain ⟨b2, o2, f4, f5, olds, f6, f7⟩ := f3.resolve_left h0
    subst f4
    have hv1 : v0 = .slice (some ⟨b2, o2, none⟩) xs.length xs.length := by
      rw [hn0] at f1 ⊢; cases f1; rfl
    exact grow _ olds hv1 f6 (fun j u hj => by rw [Addr.add_lit]; exact f7 j u hj)
theorem OpTo.appCM {α : Type} (f : α → List PV) (l m : List α) {t E : TypeId} {s x : Operand} {z v0 : Value} {sz by_ kk d : Nat} (hT : litI P t = some (E, z, sz, by_)) (hzs : z.cells.size = sz) (hs0 : 0 < sz)
    (h1 : okOp s = true) (h2 : okOp x = true) (hlow : d < 1000000) (hs : st.op cx s = .c (.p (.s v0))) (hv0 : full l.length v0) (hsv : find st.objs kk = some (.sav [.c (.p (.fro (l.map f)))] [v0]))
    (hx : elems st (st.op cx x) = some (m.map f)) (hm0 : m ≠ []) (hfl : ∀ a, (f a).length = sz) (hb : (l.length + m.length) * by_ ≤ 140737488355328) (hm : l.length + m.length ≤ maxLen)
    (kk1 : K (St.put ⟨(st.kill d).tmps, upd (st.kill d).objs d (.row E sz ((l ++ m).map f))⟩ dst (.c (.own d sz (l ++ m).length)))) :
    OpTo P cx false ⟨dst, .call { callee := .builtin .append, args := #[s, x], argTypes := #[t, t] }, ty, pos, af, gd⟩ st K := by
  obtain ⟨hu, hE⟩ := litI_spec hT
  refine OpTo.appC (xs := l.map f) (ys := m.map f) hu hE hzs hs0 h1 h2 hlow hs (by simpa using hv0) hsv (map_len hfl l) hx (by simpa using hm0) (map_len hfl m) (by simpa using hb) (by simpa using hm) ?_
  simp only [← List.map_append, List.length_map]
  rw [List.length_append] at kk1; exact kk1
end
end Go.Proofs.Vl
