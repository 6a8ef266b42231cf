/- More rules: rows put together, cut; structs put together. -/
import Derived.Test.YtjfpddgldfaahaaDoorV12
set_option linter.all false
namespace Go.Proofs.Vl
open Go Go.RowKit
section
variable {P : Program} {cx : Cx} {st : St} {a : Act} {w : World} {fz : Nat → Prop} {β : Nat → Option Nat}
variable {K : St → Prop} {dst : Option Tmp} {ty T T' E : TypeId} {pos : String} {af : Array Edge} {gd : Option (Nat × Bool)} {x y : Operand} {n k off : Nat} {kp : Bool}
def chunks {α : Type} (sz : Nat) : Nat → List α → List (List α)
  | 0, _ => []
  | n + 1, l => l.take sz :: chunks sz n (l.drop sz)
theorem chunks_flat {α : Type} (sz : Nat) : ∀ (n : Nat) (l : List α), l.length = n * sz → (chunks sz n l).flatten = l
  | 0, l, h => by simp at h; subst h; rfl
  | n + 1, l, h => by
    rw [Nat.succ_mul] at h
    rw [chunks, List.flatten_cons, chunks_flat sz n _ (by simp; omega), List.take_append_drop]
theorem chunks_len {α : Type} (sz : Nat) : ∀ (n : Nat) (l : List α), l.length = n * sz → (∀ cs ∈ chunks sz n l, cs.length = sz) ∧ (chunks sz n l).length = n
  | 0, l, h => by simp [chunks]
  | n + 1, l, h => by
    rw [Nat.succ_mul] at h
    obtain ⟨h1, h2⟩ := chunks_len sz n (l.drop sz) (by simp; omega)
    refine ⟨fun cs hcs => ?_, by simp [chunks, h2]⟩
    rcases List.mem_cons.1 hcs with rfl | hcs
    · simp; omega
    · exact h1 cs hcs
def zeros (sz : Nat) (z : Value) (n : Nat) : List PV := (List.replicate n (z.cells.toList.map PV.s)).flatten
theorem SR.parts (h : SR cx st a w fz β) : ∀ (parts : List (Nat × Operand)), parts.all (fun p => okOp p.2) = true →
    All2 (fun (p : Nat × Option (List PV)) (q : Nat × Value) => p.1 = q.1 ∧ ∀ us, p.2 = some us → All2 (RepP w fz) us q.2.cells.toList) (parts.map fun p => (p.1, pvs (st.op cx p.2))) (parts.map fun p => (p.1, a.eval p.2))
  | [], _ => .nil
  | (i, x) :: r, ho => by
    simp only [List.all_cons, Bool.and_eq_true] at ho
    refine .cons ⟨rfl, fun us hu => ?_⟩ (h.parts r ho.2)
    obtain ⟨vs, h1, h2⟩ := (h.op x ho.1).pvs hu
    dsimp only; rw [h1]; exact h2
theorem SR.partsC (h : SR cx st a w fz β) : ∀ (parts : List (Nat × Operand)), parts.all (fun p => okOp p.2) = true →
    All2 (fun (p : Nat × Option (List CV)) (q : Nat × Value) => p.1 = q.1 ∧ ∀ us, p.2 = some us → All2 (RepC1 w fz β) us q.2.cells.toList) (parts.map fun p => (p.1, cvs (st.op cx p.2))) (parts.map fun p => (p.1, a.eval p.2))
  | [], _ => .nil
  | (i, x) :: r, ho => by
    simp only [List.all_cons, Bool.and_eq_true] at ho
    refine .cons ⟨rfl, fun us hu => ?_⟩ (h.partsC r ho.2)
    obtain ⟨vs, h1, h2⟩ := (h.op x ho.1).cvs hu
    dsimp only; rw [h1]; exact h2
theorem fillA_len {α : Type} {place : Nat → Option (Nat × Nat)} : ∀ (parts : List (Nat × Option (List α))) (cs cs' : List α), fillA place cs parts = some cs' → cs'.length = cs.length
  | [], cs, cs', h => by simp only [fillA, Option.some.injEq] at h; rw [h]
  | (i, none) :: r, cs, cs', h => by simp [fillA] at h
  | (i, some us) :: r, cs, cs', h => by
    simp only [fillA] at h
    cases hp : place i with
    | none => simp [hp] at h
    | some os =>
      obtain ⟨off, size⟩ := os
      simp only [hp] at h
      obtain ⟨h1, h2⟩ := cond_some h
      simp only [Bool.and_eq_true, beq_iff_eq, decide_eq_true_eq] at h1
      rw [fillA_len r _ _ h2, splice_len (by omega)]
/-- []T{..}. -/
theorem OpTo.lit {d len : Nat} {z : Value} {sz by_ : Nat} {parts : List (Nat × Operand)} {cs : List PV} (hu : P.underlying T = some (.slice E)) (hE : tyF P E = some (some z, sz, by_)) (hzs : z.cells.size = sz) (hs0 : 0 < sz) (hok : okV z = true) (hnt : z.oneCell' = true ∨ ∃ cs, z = .agg cs)
    (hb : len * sz ≤ 16777216) (ho : parts.all (fun p => okOp p.2) = true) (hf : fillA (fun i => some (i * sz, sz)) (zeros sz z len) (parts.map fun p => (p.1, pvs (st.op cx p.2))) = some cs) (hlow : d < 1000000) (hd : st.noref d = true)
    (kk : K (St.put ⟨st.tmps, upd st.objs d (.row E sz (chunks sz len cs))⟩ (some d) (.c (.own d sz len)))) : OpTo P cx kp ⟨some d, .buildSlice T len parts.toArray, ty, pos, af, gd⟩ st K := by
  refine OpTo.made rfl hlow hd rfl (fun a w fz β hs => ?_) kk
  obtain ⟨i, hi, hiz, his, hib⟩ := tyF_spec hE
  have hok' := okCells hok (fun vs e => by subst e; rcases hnt with h | ⟨cs, h⟩ <;> cases h)
  have h0 := all2_made (w := w) (fz := fz) hzs hs0 hok' len (len * sz) (Nat.le_refl _)
  rw [List.take_of_length_le (by simp [size_madeCells])] at h0
  obtain ⟨vcs, h1, h2⟩ := fill_rep _ _ (zeros sz z len) cs _ h0 (hs.parts parts ho) hf
  have hlz : (zeros sz z len).length = len * sz := by unfold zeros; rw [flat_len (sz := sz) (fun cs h => by rw [List.eq_of_mem_replicate h]; simp [hzs])]; simp
  have hl : cs.length = len * sz := by rw [fillA_len _ _ _ hf, hlz]
  have hvl : vcs.length = len * sz := by rw [← h2.len, hl]
  have hrun : (execOp a.eval ⟨some d, .buildSlice T len parts.toArray, ty, pos, af, gd⟩).run P w = .ok (.value (.slice (some ⟨w.heap.size, 0, none⟩) len len)) (w.alloc (.cells vcs.toArray E)) := by
    have hmc : madeCells z.cells (len * sz) = (Array.range (len * sz)).map (z.cells[· % z.cells.size]!) := rfl
    simp only [Array.toArray_toList] at h1
    by_cases hz0 : len = 0
    · subst hz0
      have hm0 : madeCells z.cells (0 * sz) = #[] := by simp [madeCells]
      rw [hm0] at h1
      have hr0 : Array.map (fun _ : Nat => (default : Value)) (Array.range 0) = #[] := by simp
      simp [execOp, Instr.buildSlice, run_underlying hu, sizeOf, typeInfo, hi, his, newRow]
      rw [hr0, h1]
      simp
    · have hz1 : ¬ (len * sz = 0) := by have := Nat.mul_pos (Nat.pos_of_ne_zero hz0) hs0; omega
      have h1' : Instr.fill (fun i => some (i * sz, sz)) (Array.map (fun x => z.cells[x % z.cells.size]!) (Array.range (len * sz))) (List.map (fun p => (p.1, a.eval p.2)) parts) = some vcs.toArray := h1
      have hb' : ¬ (16777216 < len * sz) := by omega
      simp [execOp, Instr.buildSlice, run_underlying hu, sizeOf, typeInfo, zeroValue, hi, his, hiz, hz1, newRow, hb'] at h1' ⊢
      simp [h1']
  obtain ⟨c1, c2⟩ := chunks_len sz len cs hl
  have hnew : (w.alloc (.cells vcs.toArray E)).heap[w.heap.size]? = some (.cells vcs.toArray E) := heap_alloc_new w _
  have hA : Adv fz w (w.alloc (.cells vcs.toArray E)) := adv_push rfl hs.h.fzlt
  refine ⟨_, .cells vcs.toArray E, _, hrun, ⟨rfl, rfl, rfl⟩, rfl, fun β' hβ _ => ⟨.inr ⟨w.heap.size, vcs, hβ, hnew, by rw [c2, hvl]; exact Nat.le_refl _, c1, ?_⟩, .inr ⟨w.heap.size, len, E, hβ, rfl, by rw [shapeAt hnew, hvl], ?_, Nat.le_refl _⟩⟩⟩
  · rw [chunks_flat _ _ _ hl, c2, List.take_of_length_le (Nat.le_of_eq hvl)]
    exact h2.mono fun _ _ _ h => RepP.adv h hA fun _ h => h
  · have : len ≤ len * sz := Nat.le_mul_of_pos_right _ hs0
    unfold maxLen; omega
/-! ### Structs -/
def plI (P : Program) (T : TypeId) : Option (List (Nat × Nat) × List Value) :=
  match P.underlying T, tyZero P T with
  | some (.struct fs), some (.agg zc) => (fs.toList.mapM (fun f => (P.info? f.type).map fun i => (f.offset, i.size))).map fun pl => (pl, zc.toList)
  | _, _ => none
theorem run_built {pl : List (Nat × Nat)} {zc : List Value} (h : plI P T = some (pl, zc)) {parts : Array (Nat × Value)} {vs : List Value} (hf : Instr.fill (pl[·]?) zc.toArray parts.toList = some vs.toArray) : (Instr.build T parts).run P w = .ok (.agg vs.toArray) w := by
  refine run_build w T parts _ ?_
  unfold plI at h
  split at h
  · rename_i fs zc' hu hz
    obtain ⟨pl', hp, he⟩ := Option.map_eq_some_iff.1 h
    cases he
    unfold tyZero at hz
    unfold Program.built
    cases hi : P.info? T with
    | none => simp [hi] at hz
    | some i =>
      have hz' : i.zero = some (.agg zc') := by simpa [hi] using hz
      simp only [hu, hz', hp]
      simpa [Value.cells] using hf
  · cases h
theorem okZero {z : Value} : z.oneCell' = true → okV z = true := by cases z <;> simp [Value.oneCell', okV]
theorem Val.buildP {parts : List (Nat × Operand)} {pl : List (Nat × Nat)} {zc : List Value} {cs : List PV} (hp : plI P T = some (pl, zc)) (hz : zc.all (·.oneCell') = true) (ho : parts.all (fun p => okOp p.2) = true)
    (hf : fillA (pl[·]?) (zc.map .s) (parts.map fun p => (p.1, pvs (st.op cx p.2))) = some cs) : Val P cx true ⟨dst, .build T parts.toArray, ty, pos, af, gd⟩ st (.pag cs) := fun a w fz β hs => by
  obtain ⟨vcs, h1, h2⟩ := fill_rep _ _ (zc.map .s) cs zc (all2_s (w := w) (fz := fz) zc fun u hu => List.all_eq_true.1 hz u hu) (hs.parts parts ho) hf
  refine ⟨.agg vcs.toArray, ⟨vcs, rfl, h2⟩, fun w' _ => ?_⟩
  have := run_built (P := P) (w := w') (T := T) hp (parts := (parts.map fun p => (p.1, a.eval p.2)).toArray) (vs := vcs) (by simpa using h1)
  simp only [execOp, List.map_toArray, Sem.run_bind]
  rw [this]; rfl
theorem Val.buildC {parts : List (Nat × Operand)} {pl : List (Nat × Nat)} {zc : List Value} {cs : List CV} (hp : plI P T = some (pl, zc)) (hz : zc.all (·.oneCell') = true) (ho : parts.all (fun p => okOp p.2) = true)
    (hf : fillA (pl[·]?) (zc.map fun v => .p (.s v)) (parts.map fun p => (p.1, cvs (st.op cx p.2))) = some cs) : Val P cx true ⟨dst, .build T parts.toArray, ty, pos, af, gd⟩ st (.agg cs) := fun a w fz β hs => by
  have h0 : All2 (RepC1 w fz β) (zc.map fun v => CV.p (.s v)) zc := by
    have := all2_map_p (β := β) (all2_s (w := w) (fz := fz) zc fun u hu => List.all_eq_true.1 hz u hu)
    rwa [List.map_map] at this
  obtain ⟨vcs, h1, h2⟩ := fill_rep _ _ _ cs zc h0 (hs.partsC parts ho) hf
  refine ⟨.agg vcs.toArray, ⟨vcs, rfl, h2⟩, fun w' _ => ?_⟩
  have := run_built (P := P) (w := w') (T := T) hp (parts := (parts.map fun p => (p.1, a.eval p.2)).toArray) (vs := vcs) (by simpa using h1)
  simp only [execOp, List.map_toArray, Sem.run_bind]
  rw [this]; rfl
/-! ### Cuts -/
/-- A bound of a cut: left out (it is d), or a number. -/
def Bnd (cx : Cx) (st : St) (o : Option Operand) (d r : Nat) : Prop := (o = none ∧ r = d) ∨ ∃ x k v, o = some x ∧ okOp x = true ∧ st.op cx x = .c (.p (.s (.int k v))) ∧ 0 ≤ v ∧ v.toNat = r
theorem Bnd.no {d : Nat} : Bnd cx st none d d := .inl ⟨rfl, rfl⟩
theorem Bnd.at {x : Operand} {k : IntKind} {v : Int} {d : Nat} (hx : st.op cx x = .c (.p (.s (.int k v)))) (ho : okOp x = true) (h0 : 0 ≤ v) : Bnd cx st (some x) d v.toNat := .inr ⟨x, k, v, rfl, ho, hx, h0, rfl⟩
theorem run_cut (hu : P.underlying T = some (.slice E)) {i : TypeInfo} (hi : P.info? E = some i) {lo hi_ : Option Value} {l h cap n : Nat} (ad : Option Addr) (hlo : (lo = none ∧ l = 0) ∨ ∃ k v, lo = some (.int k v) ∧ 0 ≤ v ∧ v.toNat = l) (hhi : (hi_ = none ∧ h = n) ∨ ∃ k v, hi_ = some (.int k v) ∧ 0 ≤ v ∧ v.toNat = h)
    (hlh : l ≤ h) (hhc : h ≤ cap) : (Instr.sliceAt T (.slice ad n cap) lo hi_ none).run P w = .ok (.slice (if cap = l then ad else ad.map (·.add (l * i.size))) (h - l) (cap - l)) w := by
  have hb : ∀ (k : IntKind) (v : Int) (y : Nat) (code : BoundsCode), 0 ≤ v → v.toNat ≤ y → (Instr.sliceBound (.int k v) y code).run P w = .ok v.toNat w := fun k v y code h0 hy => by
    have : 0 ≤ v ∧ v ≤ (y : Int) := ⟨h0, by omega⟩
    simp [Instr.sliceBound, asIntOf, this]
  have hbs : (Instr.sliceBounds true n cap lo hi_ none).run P w = .ok (l, h, cap) w := by
    rcases hlo with ⟨rfl, rfl⟩ | ⟨k1, v1, rfl, h1, rfl⟩ <;> rcases hhi with ⟨rfl, rfl⟩ | ⟨k2, v2, rfl, h2, rfl⟩
    · simp [Instr.sliceBounds]
    · simp [Instr.sliceBounds, hb k2 v2 cap _ h2 hhc]
    · simp [Instr.sliceBounds, hb k1 v1 _ _ h1 hlh]
    · simp [Instr.sliceBounds, hb k2 v2 cap _ h2 hhc, hb k1 v1 _ _ h1 hlh]
  simp [Instr.sliceAt, Instr.slice, run_underlying hu, hbs, sizeOf, typeInfo, hi]
theorem SR.bnd {d r : Nat} (h : SR cx st a w fz β) {o : Option Operand} (hb : Bnd cx st o d r) : (o.map a.eval = none ∧ r = d) ∨ ∃ k v, o.map a.eval = some (.int k v) ∧ 0 ≤ v ∧ v.toNat = r := by
  rcases hb with ⟨rfl, rfl⟩ | ⟨x, k, v, rfl, ho, hx, h0, rfl⟩
  · exact .inl ⟨rfl, rfl⟩
  · exact .inr ⟨k, v, by simp [h.eq hx ho], h0, rfl⟩
theorem Val.cutF {xs : List (List PV)} {lo hi : Option Operand} {l h sz : Nat} (hu : P.underlying T = some (.slice E)) (hE : (P.info? E).map (·.size) = some sz) (ho : okOp x = true) (hx : st.op cx x = .c (.p (.fro xs))) (hl : Bnd cx st lo 0 l) (hh : Bnd cx st hi xs.length h) (hlh : l ≤ h) (hhn : h ≤ xs.length) (hsz : ∀ cs ∈ xs, cs.length = sz) :
    Val P cx true ⟨dst, .slice T x lo hi none, ty, pos, af, gd⟩ st (.c (.p (.fro ((xs.take h).drop l)))) := fun a w fz β hs => by
  have hX := hs.op x ho
  rw [hx] at hX
  replace hX : RepP w fz (.fro xs) (a.eval x) := hX
  generalize hv : a.eval x = v at hX
  cases hi' : P.info? E with
  | none => simp [hi'] at hE
  | some i =>
    have his : i.size = sz := by simpa [hi'] using hE
    have hbl := hs.bnd hl
    have hbh := hs.bnd hh
    have hlen : ((xs.take h).drop l).length = h - l := by simp; omega
    cases hX with
    | nil ad cap =>
      simp only [List.length_nil, Nat.le_zero_eq] at hhn hbh
      subst hhn
      obtain rfl : l = 0 := by omega
      refine ⟨_, ?_, fun w' _ => by simp only [execOp, Option.map_none, Sem.run_bind]; rw [hv, run_cut hu hi' ad hbl hbh (Nat.le_refl _) (Nat.zero_le _)]; rfl⟩
      simp only [List.take_nil, List.drop_nil]
      exact RepP.nil _ _
    | fro _ b o cap sz' val hb hcap hll hc hr =>
      refine ⟨_, ?_, fun w' _ => by simp only [execOp, Option.map_none, Sem.run_bind]; rw [hv, run_cut hu hi' _ hbl hbh hlh (Nat.le_trans hhn hcap)]; rfl⟩
      by_cases hz : h - l = 0
      · have : (xs.take h).drop l = [] := List.eq_nil_of_length_eq_zero (by rw [hlen, hz])
        rw [this, hz]; exact RepP.nil _ _
      · rw [if_neg (by omega)]
        have hs' : sz' = sz := by
          have h0 : xs[l]? = some xs[l] := List.getElem?_eq_getElem (by omega)
          rw [← hll _ _ h0]; exact hsz _ (List.mem_of_getElem? h0)
        subst hs'
        have hget : ∀ (j : Nat) cs, ((xs.take h).drop l)[j]? = some cs → xs[l + j]? = some cs := fun j cs hj => by
          rw [List.getElem?_drop, List.getElem?_take] at hj
          split at hj
          · exact hj
          · cases hj
        simp only [Option.map_some, Addr.add_lit, his, ← hlen]
        refine RepP.fro _ b (o + l * sz') _ sz' (fun j c => val (l + j) c) hb (by rw [hlen]; omega) (fun j cs hj => hll _ _ (hget j cs hj)) (fun j cs c z hj hcz => ?_) (fun j cs c z hj hcz => hr _ _ _ _ (hget j cs hj) hcz)
        have := hc _ _ _ _ (hget j cs hj) hcz
        rw [show o + l * sz' + (j * sz' + c) = o + ((l + j) * sz' + c) by rw [Nat.add_mul]; omega]; exact this
end
end Go.Proofs.Vl
