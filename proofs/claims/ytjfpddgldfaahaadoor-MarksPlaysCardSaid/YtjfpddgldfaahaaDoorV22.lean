/- What an argument's reading says, of structs and arrays; elements of arrays. -/
import Derived.Test.YtjfpddgldfaahaaDoorV21
set_option linter.all false
namespace Go.Proofs.Vl
open Go Go.RowKit Go.ChangeShapes Go.WideShapes
section
variable {P : Program} {T e : TypeId} {α β : Type} {f : α → List PV} {ok : α → Prop}
theorem Opens.iso {f' : β → List PV} {ok' : β → Prop} (h : Opens P T f ok) (g : α → β) (hf : ∀ a, ok a → f' (g a) = f a) (hok : ∀ a, ok a → ok' (g a)) : Opens P T f' ok' := by
  intro H enc w base spare held fuel cs x hx
  obtain ⟨a, h1, h2⟩ := h hx
  exact ⟨g a, by rw [hf a h2]; exact h1, hok a h2⟩
/-- Of fields, one behind another. -/
def OpensFs (P : Program) (fs : List (TypeId × Nat)) {α : Type} (f : α → List PV) (ok : α → Prop) : Prop :=
  ∀ {H : Type} {enc : TypeId × Value → H} {w : World} {base : Nat} {spare : Nat → Bool} {held : Bool} {cs : List Value}, cs.length = (fs.map (·.2)).sum →
    (∀ (i : Nat) (t : TypeId) (sz : Nat), fs[i]? = some (t, sz) → ∃ fuel x, DataW.trod enc P w base spare held fuel t ((cs.drop ((fs.take i).map (·.2)).sum).take sz) = some x) → ∃ a, All2 (RepP w (Elder w)) (f a) cs ∧ ok a
theorem OpensFs.nil : OpensFs P [] (fun _ : Unit => []) (fun _ => True) := by
  intro H enc w base spare held cs hl _
  cases cs with
  | nil => exact ⟨(), .nil, trivial⟩
  | cons a l => simp at hl
theorem OpensFs.cons {t : TypeId} {sz : Nat} {r : List (TypeId × Nat)} {f2 : β → List PV} {ok2 : β → Prop} (h1 : Opens P t f ok) (h2 : OpensFs P r f2 ok2) : OpensFs P ((t, sz) :: r) (fun p : α × β => f p.1 ++ f2 p.2) (fun p => ok p.1 ∧ ok2 p.2) := by
  intro H enc w base spare held cs hl h
  obtain ⟨fuel, x, hx⟩ := h 0 t sz rfl
  simp only [List.take_zero, List.map_nil, List.sum_nil, List.drop_zero] at hx
  obtain ⟨a, g1, g2⟩ := h1 hx
  obtain ⟨b, g3, g4⟩ := h2 (cs := cs.drop sz) (w := w) (enc := enc) (base := base) (spare := spare) (held := held) (by simp at hl ⊢; omega) (fun i t' sz' hi => by
    obtain ⟨fuel, x, hx⟩ := h (i + 1) t' sz' (by simpa using hi)
    refine ⟨fuel, x, ?_⟩
    simp only [List.take_succ_cons, List.map_cons, List.sum_cons] at hx
    rw [List.drop_drop]; exact hx)
  refine ⟨(a, b), ?_, g2, g4⟩
  have := g1.append g3
  rwa [List.take_append_drop] at this
def fieldsOk (P : Program) : List Field → Nat → List (TypeId × Nat) → Bool
  | [], _, [] => true
  | f :: fs, off, (t, sz) :: r => f.offset == off && f.type == t && P.cellsOf t == sz && fieldsOk P fs (off + sz) r
  | _, _, _ => false
theorem fieldsOk_at {P : Program} : ∀ {fs : List Field} {off : Nat} {l : List (TypeId × Nat)}, fieldsOk P fs off l = true → ∀ (i : Nat) (t : TypeId) (sz : Nat), l[i]? = some (t, sz) → ∃ f, fs[i]? = some f ∧ f.offset = off + ((l.take i).map (·.2)).sum ∧ f.type = t ∧ P.cellsOf t = sz
  | [], _, [], _, i, t, sz, h => by simp at h
  | f :: fs, off, (t, sz) :: r, hk, i, t', sz', h => by
    simp only [fieldsOk, Bool.and_eq_true, beq_iff_eq] at hk
    obtain ⟨⟨⟨h1, h2⟩, h3⟩, h4⟩ := hk
    cases i with
    | zero => simp at h; obtain ⟨rfl, rfl⟩ := h; exact ⟨f, rfl, by simp [h1], h2, h3⟩
    | succ i =>
      obtain ⟨f', g1, g2, g3⟩ := fieldsOk_at h4 i t' sz' (by simpa using h)
      exact ⟨f', by simpa using g1, by rw [g2]; simp [Nat.add_assoc], g3⟩
  | [], _, _ :: _, hk, _, _, _, _ => by simp [fieldsOk] at hk
  | _ :: _, _, [], hk, _, _, _, h => by simp at h
theorem Opens.struct {fs : Array Field} {l : List (TypeId × Nat)} (ht : P.underlying T = some (.struct fs)) (hfs : fieldsOk P fs.toList 0 l = true) (hc : P.cellsOf T = (l.map (·.2)).sum) (h : OpensFs P l f ok) : Opens P T f ok := by
  intro H enc w base spare held fuel cs x hx
  obtain ⟨xs, n, _, _, hl, hlen, hf⟩ := DataW.trod_struct ht hx
  refine h (enc := enc) (w := w) (base := base) (spare := spare) (held := held) (by rw [hl, hc]) (fun i t sz hi => ?_)
  obtain ⟨fd, g1, g2, g3, g4⟩ := fieldsOk_at hfs i t sz hi
  have g5 : fs[i]? = some fd := by simpa using g1
  have hlt : i < xs.length := by rw [hlen]; exact (Array.getElem?_eq_some_iff.1 g5).1
  have := hf i fd g5
  rw [g3, g2, g4, Nat.zero_add, List.getElem?_eq_getElem hlt] at this
  exact ⟨n, _, this⟩
theorem all2_chunks {R : PV → Value → Prop} {sz : Nat} : ∀ (n : Nat) (cs : List Value), cs.length = n * sz → (∀ i, i < n → ∃ a, All2 R (f a) ((cs.drop (i * sz)).take sz) ∧ ok a) → ∃ l : List α, l.length = n ∧ (∀ x ∈ l, ok x) ∧ All2 R (l.map f).flatten cs
  | 0, cs, hl, _ => by
    have : cs = [] := List.eq_nil_of_length_eq_zero (by omega)
    subst this
    exact ⟨[], rfl, by simp, .nil⟩
  | n + 1, cs, hl, h => by
    obtain ⟨a, h1, h2⟩ := h 0 (by omega)
    simp only [Nat.zero_mul, List.drop_zero] at h1
    obtain ⟨l, h3, h4, h5⟩ := all2_chunks (R := R) (sz := sz) n (cs.drop sz) (by rw [List.length_drop, hl, Nat.succ_mul]; omega) (fun i hi => by
      obtain ⟨b, g1, g2⟩ := h (i + 1) (by omega)
      refine ⟨b, ?_, g2⟩
      rw [List.drop_drop]
      rwa [Nat.succ_mul, Nat.add_comm] at g1)
    refine ⟨a :: l, by simp [h3], fun x hx => ?_, ?_⟩
    · rcases List.mem_cons.1 hx with rfl | hx
      · exact h2
      · exact h4 x hx
    · have := h1.append h5
      rwa [List.take_append_drop] at this
theorem Opens.array {n sz : Nat} (ht : P.underlying T = some (.array n e)) (hsz : P.cellsOf e = sz) (hc : P.cellsOf T = n * sz) (he : Opens P e f ok) : Opens P T (fun l : List α => (l.map f).flatten) (fun l => l.length = n ∧ ∀ x ∈ l, ok x) := by
  intro H enc w base spare held fuel cs x hx
  obtain ⟨xs, m, _, _, hl, hlen, hf⟩ := DataW.trod_array ht hx
  obtain ⟨l, h1, h2, h3⟩ := all2_chunks (f := f) (ok := ok) (R := RepP w (Elder w)) (sz := sz) n cs (by rw [hl, hc]) (fun i hi => by
    have := hf i hi
    rw [List.getElem?_eq_getElem (by omega), hsz] at this
    obtain ⟨a, g1, g2⟩ := he this
    exact ⟨a, g1, g2⟩)
  exact ⟨l, h3, h1, h2⟩
theorem okWide_agg {w : World} {r : Reach} {base : Nat} {v : Value} (ht : (match P.underlying T with | some (.struct _) | some (.array _ _) => true | _ => false) = true) (h : Value.okWide P w r base T v) : ∃ cs, v = .agg cs := by
  unfold Value.okWide at h
  split at ht
  · rename_i hu; rw [hu] at h; obtain ⟨cs, h1, _⟩ := h; exact ⟨cs, h1⟩
  · rename_i hu; rw [hu] at h; obtain ⟨cs, h1, _⟩ := h; exact ⟨cs, h1⟩
  · cases ht
end
section
variable {P : Program} {cx : Cx} {st : St}
variable {kp : Bool} {K : St → Prop} {dst : Option Tmp} {ty T T' E : TypeId} {pos : String} {af : Array Edge} {gd : Option (Nat × Bool)} {x y : Operand} {k : Nat}
def arrI (P : Program) (S : TypeId) : Option (Nat × Nat) := match P.underlying S with
  | some (.array L e) => (P.info? e).map fun i => (L, i.size)
  | _ => none
theorem Val.ixR {S : TypeId} {L sz j : Nat} {kd : IntKind} (hs : arrI P S = some (L, sz)) (h1 : okOp x = true) (h2 : okOp y = true) (hA : isAddr (st.op cx x) = true)
    (hi : st.op cx y = .c (.p (.s (.int kd (j : Int))))) (hj : j < L) : Val P cx true ⟨dst, .indexAddr S x y, ty, pos, af, gd⟩ st (addOff (st.op cx x) (j * sz)) := by
  unfold arrI at hs
  split at hs
  · rename_i L' e hu
    cases hz : P.info? e with
    | none => simp [hz] at hs
    | some i =>
      simp only [hz, Option.map_some, Option.some.injEq, Prod.mk.injEq] at hs
      obtain ⟨rfl, rfl⟩ := hs
      have := Val.ixA (P := P) (dst := dst) (ty := ty) (pos := pos) (af := af) (gd := gd) (sz := i.size) hu (by simp [hz]) h1 h2 hA hi (by omega) (by omega)
      rwa [Int.toNat_natCast] at this
  · cases hs
theorem Val.ixL {S : TypeId} {L sz : Nat} {kd : IntKind} {i : Int} (hs : arrI P S = some (L, sz)) (h1 : okOp x = true) (h2 : okOp y = true) (hA : isAddr (st.op cx x) = true)
    (hi : st.op cx y = .c (.p (.s (.int kd i)))) (hj : 0 ≤ i ∧ i < L) : Val P cx true ⟨dst, .indexAddr S x y, ty, pos, af, gd⟩ st (addOff (st.op cx x) (i.toNat * sz)) := by
  refine Val.ixR (kd := kd) hs h1 h2 hA ?_ (by omega)
  rw [hi, Int.toNat_of_nonneg hj.1]
theorem Val.ixNL {S : TypeId} {sz : Nat} {kd : IntKind} {i : Int} {α : Type} {f : α → List PV} {l : List α} (hs : slI P S = some sz) (h1 : okOp x = true) (h2 : okOp y = true) (hx : st.op cx x = .c (.p (.fro (l.map f))))
    (hi : st.op cx y = .c (.p (.s (.int kd i)))) (h0 : 0 ≤ i) (hj : i.toNat < l.length) (hf : ∀ a, (f a).length = sz) : Val P cx true ⟨dst, .indexAddr S x y, ty, pos, af, gd⟩ st (.c (.eptr (f l[i.toNat]))) := by
  refine Val.ixN (kd := kd) hs h1 h2 hx ?_ hj hf
  rw [hi, Int.toNat_of_nonneg h0]
theorem Val.ixONL {S : TypeId} {sz n : Nat} {kd : IntKind} {i : Int} (hs : slI P S = some sz) (h1 : okOp x = true) (h2 : okOp y = true) (hx : st.op cx x = .c (.own k sz n))
    (hi : st.op cx y = .c (.p (.s (.int kd i)))) (h0 : 0 ≤ i) (hj : i.toNat < n) : Val P cx true ⟨dst, .indexAddr S x y, ty, pos, af, gd⟩ st (.c (.rptr k sz i.toNat 0)) := by
  refine Val.ixON (kd := kd) hs h1 h2 hx ?_ hj
  rw [hi, Int.toNat_of_nonneg h0]
end
end Go.Proofs.Vl
