/- Values told apart from memory: what a slot holds and what a block holds, as lists; and when a frame and a world hold just that. -/
import Derived.WalkKit
import Derived.Laws.AppendOwn
import Derived.Laws.MakeOwn
import Derived.OrdersHeld
import Derived.Below
set_option linter.all false
namespace Go.Proofs.Vl
open Go Go.RowKit

inductive All2 {α β : Type} (R : α → β → Prop) : List α → List β → Prop
  | nil : All2 R [] []
  | cons {a b as bs} : R a b → All2 R as bs → All2 R (a :: as) (b :: bs)
namespace All2
variable {α β : Type} {R S : α → β → Prop} {as : List α} {bs : List β} {a : α} {b : β}
theorem len (h : All2 R as bs) : as.length = bs.length := by induction h with | nil => rfl | cons _ _ ih => simp [ih]
theorem get (h : All2 R as bs) : ∀ {i : Nat} {a : α}, as[i]? = some a → ∃ b, bs[i]? = some b ∧ R a b := by
  induction h with
  | nil => intro i a h; simp at h
  | cons hr _ ih =>
    intro i a h
    cases i with
    | zero => simp at h; subst h; exact ⟨_, by simp, hr⟩
    | succ i => simpa using ih (by simpa using h)
theorem get' (h : All2 R as bs) : ∀ {i : Nat} {b : β}, bs[i]? = some b → ∃ a, as[i]? = some a ∧ R a b := by
  induction h with
  | nil => intro i a h; simp at h
  | cons hr _ ih =>
    intro i a h
    cases i with
    | zero => simp at h; subst h; exact ⟨_, by simp, hr⟩
    | succ i => simpa using ih (by simpa using h)
theorem mono (h : All2 R as bs) (f : ∀ a b, a ∈ as → R a b → S a b) : All2 S as bs := by
  induction h with
  | nil => exact .nil
  | cons hr _ ih => exact .cons (f _ _ List.mem_cons_self hr) (ih fun a b ha => f a b (List.mem_cons_of_mem _ ha))
theorem set (h : All2 R as bs) (hr : R a b) : ∀ i, All2 R (as.set i a) (bs.set i b) := by
  induction h with
  | nil => intro i; exact .nil
  | cons h0 h1 ih => intro i; cases i with
    | zero => exact .cons hr h1
    | succ i => exact .cons h0 (ih i)
theorem append {as' : List α} {bs' : List β} (h : All2 R as bs) (h' : All2 R as' bs') : All2 R (as ++ as') (bs ++ bs') := by
  induction h with
  | nil => exact h'
  | cons hr _ ih => exact .cons hr ih
theorem map {γ : Type} {T : γ → β → Prop} (f : α → γ) (h : All2 R as bs) (hf : ∀ a b, R a b → T (f a) b) : All2 T (as.map f) bs := by
  induction h with
  | nil => exact .nil
  | cons hr _ ih => exact .cons (hf _ _ hr) ih
theorem drop (h : All2 R as bs) : ∀ n, All2 R (as.drop n) (bs.drop n) := by
  induction h with
  | nil => intro n; simp; exact .nil
  | cons hr h1 ih => intro n; cases n with
    | zero => exact .cons hr h1
    | succ n => simpa using ih n
theorem take (h : All2 R as bs) : ∀ n, All2 R (as.take n) (bs.take n) := by
  induction h with
  | nil => intro n; simp; exact .nil
  | cons hr h1 ih => intro n; cases n with
    | zero => exact .nil
    | succ n => simpa using All2.cons hr (ih n)
theorem of_get : ∀ {as : List α} {bs : List β}, as.length = bs.length → (∀ (i : Nat) (a : α) (b : β), as[i]? = some a → bs[i]? = some b → R a b) → All2 R as bs
  | [], [], _, _ => .nil
  | a :: as, b :: bs, hl, h => .cons (h 0 a b rfl rfl) (of_get (by simpa using hl) fun i a b h1 h2 => h (i + 1) a b (by simpa using h1) (by simpa using h2))
  | [], _ :: _, hl, _ => by simp at hl
  | _ :: _, [], hl, _ => by simp at hl
theorem replicate (hr : R a b) : ∀ n, All2 R (List.replicate n a) (List.replicate n b)
  | 0 => .nil
  | n + 1 => .cons hr (replicate hr n)
theorem right_of (h : All2 (fun a b => b = b ∧ R a b) as bs) : All2 R as bs := h.mono fun _ _ _ h => h.2
end All2

/-- What a cell holds that leads to no memory of the call's own: a value as it is, or a row that is only read. -/
inductive PV where
  | s (v : Value)
  | fro (xs : List (List PV))
inductive Cap where
  | key (k : Nat)
  | val (x : Value)
  | fz (cs : List PV)
/-- What a cell or a slot of one cell holds. Keys name the call's own blocks. -/
inductive CV where
  | p (x : PV)
  | own (k sz n : Nat)
  | win (k sz off n : Nat)
  | ptr (k off : Nat)
  | rptr (k sz i c : Nat)
  | eptr (cs : List PV)
  | fn (f : Nat) (caps : List Cap)
  | mp (k : Nat)
  | any
inductive TV where
  | c (x : CV)
  | agg (cs : List CV)
  | pag (cs : List PV)
inductive AV where
  | c (x : CV)
  | agg (cs : List CV)
  | pag (cs : List PV)
  | tup (xs : List TV)
def TV.av : TV → AV
  | .c x => .c x
  | .agg x => .agg x
  | .pag x => .pag x
inductive Ob where
  | cells (T : TypeId) (cs : List CV)
  | pcells (T : TypeId) (cs : List PV)
  | row (T : TypeId) (sz : Nat) (xs : List (List PV))
  | mapo (es : List MapEntry) (clock : Nat)
  | tok (F : Nat → Prop) (J : World → (Nat → Prop) → Prop)
  | sav (xs : List AV) (vs : List Value)

def Cap.ref (k : Nat) : Cap → Bool
  | .key j => j == k
  | .val _ | .fz _ => false
def CV.ref (k : Nat) : CV → Bool
  | .own j _ _ | .win j _ _ _ | .ptr j _ | .rptr j _ _ _ | .mp j => j == k
  | .fn _ caps => caps.any (Cap.ref k)
  | .p _ | .eptr _ | .any => false
def TV.ref (k : Nat) : TV → Bool
  | .c x => x.ref k
  | .agg cs => cs.any (CV.ref k)
  | .pag _ => false
def AV.ref (k : Nat) : AV → Bool
  | .c x => x.ref k
  | .agg cs => cs.any (CV.ref k)
  | .pag _ => false
  | .tup xs => xs.any (TV.ref k)
def Ob.ref (k : Nat) : Ob → Bool
  | .cells _ cs => cs.any (CV.ref k)
  | .pcells .. | .row .. | .mapo .. | .tok .. => false
  | .sav xs _ => xs.any (AV.ref k)

inductive RepP (w : World) (fz : Nat → Prop) : PV → Value → Prop
  | s (v : Value) (h : v.oneCell' = true) : RepP w fz (.s v) v
  | nil (a : Option Addr) (cap : Nat) : RepP w fz (.fro []) (.slice a 0 cap)
  | fro (xs : List (List PV)) (b o cap sz : Nat) (val : Nat → Nat → Value) (hb : 0 < sz → fz b) (hcap : xs.length ≤ cap) (hl : ∀ (j : Nat) (cs : List PV), xs[j]? = some cs → cs.length = sz)
      (hc : ∀ (j : Nat) (cs : List PV) (c : Nat) (x : PV), xs[j]? = some cs → cs[c]? = some x → w.cell? ⟨b, o + (j * sz + c), none⟩ = some (val j c))
      (hr : ∀ (j : Nat) (cs : List PV) (c : Nat) (x : PV), xs[j]? = some cs → cs[c]? = some x → RepP w fz x (val j c)) : RepP w fz (.fro xs) (.slice (some ⟨b, o, none⟩) xs.length cap)
def RepE (w : World) (fz : Nat → Prop) (cs : List PV) (v : Value) : Prop :=
  ∃ b o, v = .pointer (some ⟨b, o, none⟩) ∧ (cs ≠ [] → fz b) ∧ ∀ (c : Nat) (x : PV), cs[c]? = some x → ∃ u, w.cell? ⟨b, o + c, none⟩ = some u ∧ RepP w fz x u
def RepCap (w : World) (fz : Nat → Prop) (β : Nat → Option Nat) : Cap → Value → Prop
  | .key k, v => ∃ b, β k = some b ∧ v = .pointer (some ⟨b, 0, none⟩)
  | .val x, v => v = x
  | .fz cs, v => RepE w fz cs v
def RepC (w : World) (fz : Nat → Prop) (β : Nat → Option Nat) : CV → Value → Prop
  | .p x, v => RepP w fz x v
  | .own k sz n, v => (β k = none ∧ n = 0 ∧ v = .slice none 0 0) ∨ ∃ b cap T, β k = some b ∧ v = .slice (some ⟨b, 0, none⟩) n cap ∧ w.shape? b = some (T, cap * sz) ∧ cap ≤ maxLen ∧ n ≤ cap
  | .win k sz off n, v => (n = 0 ∧ ∃ a cap, v = .slice a 0 cap) ∨ ∃ b cap, β k = some b ∧ v = .slice (some ⟨b, off * sz, none⟩) n cap ∧ n ≤ cap
  | .ptr k off, v => ∃ b, β k = some b ∧ v = .pointer (some ⟨b, off, none⟩)
  | .rptr k sz i c, v => ∃ b, β k = some b ∧ v = .pointer (some ⟨b, i * sz + c, none⟩)
  | .eptr cs, v => ∃ b o, v = .pointer (some ⟨b, o, none⟩) ∧ (cs ≠ [] → fz b) ∧ ∀ (c : Nat) (x : PV), cs[c]? = some x → ∃ u, w.cell? ⟨b, o + c, none⟩ = some u ∧ RepP w fz x u
  | .fn f caps, v => ∃ cv : List Value, v = .func (.func f) #[] cv.toArray ∧ All2 (RepCap w fz β) caps cv
  | .mp k, v => ∃ b, β k = some b ∧ v = .map (some b)
  | .any, _ => True
/-- The same, and the value is one cell's. -/
def RepC1 (w : World) (fz : Nat → Prop) (β : Nat → Option Nat) (x : CV) (v : Value) : Prop := v.oneCell' = true ∧ RepC w fz β x v
def RepT (w : World) (fz : Nat → Prop) (β : Nat → Option Nat) : TV → Value → Prop
  | .c x, v => RepC w fz β x v
  | .agg cs, v => ∃ vs : List Value, v = .agg vs.toArray ∧ All2 (RepC1 w fz β) cs vs
  | .pag cs, v => ∃ vs : List Value, v = .agg vs.toArray ∧ All2 (RepP w fz) cs vs
def RepA (w : World) (fz : Nat → Prop) (β : Nat → Option Nat) : AV → Value → Prop
  | .c x, v => RepC w fz β x v
  | .agg cs, v => ∃ vs : List Value, v = .agg vs.toArray ∧ All2 (RepC1 w fz β) cs vs
  | .pag cs, v => ∃ vs : List Value, v = .agg vs.toArray ∧ All2 (RepP w fz) cs vs
  | .tup xs, v => ∃ vs : List Value, v = .tuple vs.toArray ∧ All2 (RepT w fz β) xs vs
/-- A step of the world that changes blocks of X alone, and makes new ones. -/
structure StX (w : World) (X : Nat → Prop) (w' : World) (X' : Nat → Prop) : Prop where
  os : w'.os = w.os
  tape : w'.tape = w.tape
  output : w'.output = w.output
  size : w.heap.size ≤ w'.heap.size
  blk : ∀ b, b < w.heap.size → ¬ X b → w'.heap[b]? = w.heap[b]?
  shp : ∀ b s, w.shape? b = some s → w'.shape? b = some s
  own : ∀ b, b < w.heap.size → X' b → X b
/-- What is said of all but X abides. -/
def Abi (J : World → (Nat → Prop) → Prop) : Prop := ∀ w X w' X', StX w X w' X' → J w X → J w' X'
def RepO (w : World) (fz : Nat → Prop) (β : Nat → Option Nat) (k : Nat) : Ob → Prop
  | .cells T cs => ∃ b, ∃ vs : List Value, β k = some b ∧ w.heap[b]? = some (.cells vs.toArray T (0, 0)) ∧ All2 (RepC1 w fz β) cs vs
  | .pcells T cs => ∃ b, ∃ vs : List Value, β k = some b ∧ w.heap[b]? = some (.cells vs.toArray T (0, 0)) ∧ All2 (RepP w fz) cs vs
  | .row T sz xs => (β k = none ∧ xs = []) ∨ ∃ b, ∃ vs : List Value, β k = some b ∧ w.heap[b]? = some (.cells vs.toArray T (0, 0)) ∧ xs.length * sz ≤ vs.length ∧
      (∀ cs ∈ xs, cs.length = sz) ∧ All2 (RepP w fz) xs.flatten (vs.take (xs.length * sz))
  | .mapo es clock => ∃ b, β k = some b ∧ w.heap[b]? = some (.map es.toArray clock)
  | .tok F J => Abi J ∧ ∃ X : Nat → Prop, (∀ k b, β k = some b → X b) ∧ (∀ b, fz b → F b ∨ X b) ∧ J w X
  | .sav xs vs => All2 (RepA w fz β) xs vs

theorem RepP.one {w : World} {fz : Nat → Prop} {x : PV} {v : Value} (h : RepP w fz x v) : v.oneCell' = true := by
  cases h <;> first | assumption | rfl

/-- A step of the world that lets be what is only read, and the blocks' sizes. -/
structure Adv (fz : Nat → Prop) (w w' : World) : Prop where
  blk : ∀ b, fz b → ∀ o v, w.cell? ⟨b, o, none⟩ = some v → w'.cell? ⟨b, o, none⟩ = some v
  shp : ∀ b s, w.shape? b = some s → w'.shape? b = some s
theorem Adv.of {fz : Nat → Prop} {w w' : World} (h : ∀ b, fz b → w'.heap[b]? = w.heap[b]?) (hs : ∀ b s, w.shape? b = some s → w'.shape? b = some s) : Adv fz w w' :=
  ⟨fun b hb o v hv => (World.cell?_of_block (w := w) (a := ⟨b, o, none⟩) (h b hb)).trans hv, hs⟩
theorem Adv.refl (fz : Nat → Prop) (w : World) : Adv fz w w := ⟨fun _ _ _ _ h => h, fun _ _ h => h⟩
theorem Adv.trans {fz : Nat → Prop} {w w1 w2 : World} (h : Adv fz w w1) (h' : Adv fz w1 w2) : Adv fz w w2 := ⟨fun b hb o v hv => h'.blk b hb o v (h.blk b hb o v hv), fun b s hs => h'.shp b s (h.shp b s hs)⟩
section
variable {w w' : World} {fz fz' : Nat → Prop} {β β' : Nat → Option Nat}
theorem RepP.adv {x : PV} {v : Value} (h : RepP w fz x v) (hA : Adv fz w w') (hs : ∀ b, fz b → fz' b) : RepP w' fz' x v := by
  induction h with
  | s v h => exact .s v h
  | nil a cap => exact .nil a cap
  | fro xs b o cap sz val hb hcap hl hc hr ih => exact .fro xs b o cap sz val (fun h0 => hs _ (hb h0)) hcap hl (fun j cs c x h1 h2 => hA.blk b (hb (by have := hl j cs h1; have := (List.getElem?_eq_some_iff.1 h2).1; omega)) _ _ (hc j cs c x h1 h2)) ih
theorem RepE.adv {cs : List PV} {v : Value} (h : RepE w fz cs v) (hA : Adv fz w w') (hs : ∀ b, fz b → fz' b) : RepE w' fz' cs v := by
  obtain ⟨b, o, h1, h2, h3⟩ := h
  refine ⟨b, o, h1, fun hn => hs _ (h2 hn), fun c x hx => ?_⟩
  obtain ⟨u, h4, h5⟩ := h3 c x hx
  exact ⟨u, hA.blk b (h2 (by intro h0; subst h0; simp at hx)) _ _ h4, h5.adv hA hs⟩
theorem RepCap.adv {x : Cap} {v : Value} (h : RepCap w fz β x v) (hA : Adv fz w w') (hs : ∀ b, fz b → fz' b) (hβ : ∀ k, x.ref k = true → β' k = β k) : RepCap w' fz' β' x v := by
  cases x with
  | key k => obtain ⟨b, h1, h2⟩ := h; exact ⟨b, (hβ k (by simp [Cap.ref])).trans h1, h2⟩
  | val x => exact h
  | fz cs => exact RepE.adv h hA hs
/-- A step of a call: what is not its own abides. -/
structure Stp (w : World) (fz : Nat → Prop) (β : Nat → Option Nat) (w' : World) (fz' : Nat → Prop) (β' : Nat → Option Nat) : Prop where
  os : w'.os = w.os
  tape : w'.tape = w.tape
  output : w'.output = w.output
  size : w.heap.size ≤ w'.heap.size
  blk : ∀ b, b < w.heap.size → (∀ k, β k ≠ some b) → w'.heap[b]? = w.heap[b]?
  shp : ∀ b s, w.shape? b = some s → w'.shape? b = some s
  ffz : ∀ b, b < w.heap.size → fz' b → fz b ∨ ∃ k, β k = some b
  own : ∀ k b, b < w.heap.size → β' k = some b → ∃ k', β k' = some b
  mono : ∀ b, fz b → fz' b
theorem Stp.here (hm : ∀ b, fz b → fz' b) (hf : ∀ b, b < w.heap.size → fz' b → fz b ∨ ∃ k, β k = some b) (ho : ∀ k b, b < w.heap.size → β' k = some b → ∃ k', β k' = some b) : Stp w fz β w fz' β' :=
  ⟨rfl, rfl, rfl, Nat.le_refl _, fun _ _ _ => rfl, fun _ _ h => h, hf, ho, hm⟩
theorem Stp.refl (w : World) (fz : Nat → Prop) (β : Nat → Option Nat) : Stp w fz β w fz β := .here (fun _ h => h) (fun _ _ h => .inl h) (fun k _ _ h => ⟨k, h⟩)
theorem Stp.trans {w2 : World} {fz2 : Nat → Prop} {β2 : Nat → Option Nat} (h : Stp w fz β w' fz' β') (h' : Stp w' fz' β' w2 fz2 β2) : Stp w fz β w2 fz2 β2 where
  os := h'.os.trans h.os
  tape := h'.tape.trans h.tape
  output := h'.output.trans h.output
  size := Nat.le_trans h.size h'.size
  blk := fun b hb hn => (h'.blk b (Nat.lt_of_lt_of_le hb h.size) fun k hk => by obtain ⟨k', hk'⟩ := h.own k b hb hk; exact hn k' hk').trans (h.blk b hb hn)
  shp := fun b s hs => h'.shp b s (h.shp b s hs)
  ffz := fun b hb hf => by
    rcases h'.ffz b (Nat.lt_of_lt_of_le hb h.size) hf with h1 | ⟨k, h1⟩
    · exact h.ffz b hb h1
    · exact .inr (h.own k b hb h1)
  own := fun k b hb hk => by obtain ⟨k', hk'⟩ := h'.own k b (Nat.lt_of_lt_of_le hb h.size) hk; exact h.own k' b hb hk'
  mono := fun b hb => h'.mono b (h.mono b hb)
theorem tok_stp {F : Nat → Prop} {J : World → (Nat → Prop) → Prop} (h : Abi J ∧ ∃ X : Nat → Prop, (∀ k b, β k = some b → X b) ∧ (∀ b, fz b → F b ∨ X b) ∧ J w X) (hst : Stp w fz β w' fz' β') : Abi J ∧ ∃ X : Nat → Prop, (∀ k b, β' k = some b → X b) ∧ (∀ b, fz' b → F b ∨ X b) ∧ J w' X := by
  obtain ⟨ha, X, h1, h3, h2⟩ := h
  refine ⟨ha, fun b => X b ∨ w.heap.size ≤ b, fun k b hk => ?_, fun b hf => ?_, ha w X w' _ ⟨hst.os, hst.tape, hst.output, hst.size, fun b hb hX => hst.blk b hb fun k hk => hX (h1 k b hk), hst.shp, fun b hb hx => hx.resolve_right (by omega)⟩ h2⟩
  · by_cases hb : b < w.heap.size
    · obtain ⟨k', hk'⟩ := hst.own k b hb hk; exact .inl (h1 k' b hk')
    · exact .inr (by omega)
  · by_cases hb : b < w.heap.size
    · rcases hst.ffz b hb hf with h | ⟨k, h⟩
      · exact (h3 b h).imp id .inl
      · exact .inr (.inl (h1 k b h))
    · exact .inr (.inr (by omega))
theorem RepC.adv {x : CV} {v : Value} (h : RepC w fz β x v) (hA : Adv fz w w') (hs : ∀ b, fz b → fz' b) (hβ : ∀ k, x.ref k = true → β' k = β k) : RepC w' fz' β' x v := by
  cases x with
  | p x => exact RepP.adv h hA hs
  | own k sz n =>
    have e := hβ k (by simp [CV.ref])
    rcases h with ⟨h1, h2⟩ | ⟨b, cap, T, h1, h2, h3, h4⟩
    · exact .inl ⟨e.trans h1, h2⟩
    · exact .inr ⟨b, cap, T, e.trans h1, h2, hA.shp _ _ h3, h4⟩
  | win k sz off n =>
    have e := hβ k (by simp [CV.ref])
    rcases h with h | ⟨b, cap, h1, h2⟩
    · exact .inl h
    · exact .inr ⟨b, cap, e.trans h1, h2⟩
  | ptr k off => obtain ⟨b, h1, h2⟩ := h; exact ⟨b, (hβ k (by simp [CV.ref])).trans h1, h2⟩
  | rptr k sz i c => obtain ⟨b, h1, h2⟩ := h; exact ⟨b, (hβ k (by simp [CV.ref])).trans h1, h2⟩
  | mp k => obtain ⟨b, h1, h2⟩ := h; exact ⟨b, (hβ k (by simp [CV.ref])).trans h1, h2⟩
  | eptr cs =>
    obtain ⟨b, o, h1, h2, h3⟩ := h
    refine ⟨b, o, h1, fun hn => hs _ (h2 hn), fun c x hx => ?_⟩
    obtain ⟨u, h4, h5⟩ := h3 c x hx
    exact ⟨u, hA.blk b (h2 (by intro h0; subst h0; simp at hx)) _ _ h4, h5.adv hA hs⟩
  | fn f caps =>
    obtain ⟨cv, h1, h2⟩ := h
    exact ⟨cv, h1, h2.mono fun a b ha hr => hr.adv hA hs fun k hk => hβ k (by simp only [CV.ref, List.any_eq_true]; exact ⟨a, ha, hk⟩)⟩
  | any => trivial
theorem RepT.adv {x : TV} {v : Value} (h : RepT w fz β x v) (hA : Adv fz w w') (hs : ∀ b, fz b → fz' b) (hβ : ∀ k, x.ref k = true → β' k = β k) : RepT w' fz' β' x v := by
  cases x with
  | c x => exact RepC.adv h hA hs hβ
  | agg cs => obtain ⟨vs, h1, h2⟩ := h; exact ⟨vs, h1, h2.mono fun a b ha hr => ⟨hr.1, hr.2.adv hA hs fun k hk => hβ k (by simp only [TV.ref, List.any_eq_true]; exact ⟨a, ha, hk⟩)⟩⟩
  | pag cs => obtain ⟨vs, h1, h2⟩ := h; exact ⟨vs, h1, h2.mono fun a b ha hr => hr.adv hA hs⟩
theorem RepA.adv {x : AV} {v : Value} (h : RepA w fz β x v) (hA : Adv fz w w') (hs : ∀ b, fz b → fz' b) (hβ : ∀ k, x.ref k = true → β' k = β k) : RepA w' fz' β' x v := by
  cases x with
  | c x => exact RepC.adv h hA hs hβ
  | agg cs => obtain ⟨vs, h1, h2⟩ := h; exact ⟨vs, h1, h2.mono fun a b ha hr => ⟨hr.1, hr.2.adv hA hs fun k hk => hβ k (by simp only [AV.ref, List.any_eq_true]; exact ⟨a, ha, hk⟩)⟩⟩
  | pag cs => obtain ⟨vs, h1, h2⟩ := h; exact ⟨vs, h1, h2.mono fun a b ha hr => hr.adv hA hs⟩
  | tup xs => obtain ⟨vs, h1, h2⟩ := h; exact ⟨vs, h1, h2.mono fun a b ha hr => RepT.adv hr hA hs fun k hk => hβ k (by simp only [AV.ref, List.any_eq_true]; exact ⟨a, ha, hk⟩)⟩
theorem RepO.adv0 {k : Nat} {x : Ob} (hnt : ∀ F J, x ≠ .tok F J) (h : RepO w fz β k x) (hA : Adv fz w w') (hs : ∀ b, fz b → fz' b) (hk : β' k = β k) (hb : ∀ b, β k = some b → w'.heap[b]? = w.heap[b]?) (hβ : ∀ j, x.ref j = true → β' j = β j) : RepO w' fz' β' k x := by
  cases x with
  | cells T cs => obtain ⟨b, vs, h1, h2, h3⟩ := h; exact ⟨b, vs, hk.trans h1, (hb b h1).trans h2, h3.mono fun a v ha hr => ⟨hr.1, hr.2.adv hA hs fun k hk => hβ k (by simp only [Ob.ref, List.any_eq_true]; exact ⟨a, ha, hk⟩)⟩⟩
  | pcells T cs => obtain ⟨b, vs, h1, h2, h3⟩ := h; exact ⟨b, vs, hk.trans h1, (hb b h1).trans h2, h3.mono fun a v ha hr => hr.adv hA hs⟩
  | row T sz xs =>
    rcases h with ⟨h1, h2⟩ | ⟨b, vs, h1, h2, h3, h4, h5⟩
    · exact .inl ⟨hk.trans h1, h2⟩
    · exact .inr ⟨b, vs, hk.trans h1, (hb b h1).trans h2, h3, h4, h5.mono fun a v ha hr => hr.adv hA hs⟩
  | mapo es clock => obtain ⟨b, h1, h2⟩ := h; exact ⟨b, hk.trans h1, (hb b h1).trans h2⟩
  | tok F J => exact absurd rfl (hnt F J)
  | sav xs vs => exact All2.mono (R := RepA w fz β) h fun a v ha hr => hr.adv hA hs fun k hk => hβ k (by simp only [Ob.ref, List.any_eq_true]; exact ⟨a, ha, hk⟩)
theorem RepO.adv {k : Nat} {x : Ob} (h : RepO w fz β k x) (hA : Adv fz w w') (hs : ∀ b, fz b → fz' b) (hk : β' k = β k) (hb : ∀ b, β k = some b → w'.heap[b]? = w.heap[b]?) (hβ : ∀ j, x.ref j = true → β' j = β j) (hst : Stp w fz β w' fz' β') : RepO w' fz' β' k x := by
  by_cases hn : ∃ F J, x = .tok F J
  · obtain ⟨F, J, rfl⟩ := hn; exact tok_stp h hst
  · exact RepO.adv0 (fun F J e => hn ⟨F, J, e⟩) h hA hs hk hb hβ
end

def find : List (Nat × Ob) → Nat → Option Ob
  | [], _ => none
  | (j, o) :: r, k => cond (j == k) (some o) (find r k)
def upd : List (Nat × Ob) → Nat → Ob → List (Nat × Ob)
  | [], k, o => [(k, o)]
  | (j, p) :: r, k, o => cond (j == k) ((k, o) :: r) ((j, p) :: upd r k o)
theorem find_cons (j : Nat) (o : Ob) (r : List (Nat × Ob)) (k : Nat) : find ((j, o) :: r) k = if j = k then some o else find r k := by
  unfold find
  by_cases h : j = k
  · subst h; simp
  · have : (j == k) = false := by simpa using h
    rw [this, if_neg h]; cases r <;> rfl
theorem upd_cons (j : Nat) (p : Ob) (r : List (Nat × Ob)) (k : Nat) (o : Ob) : upd ((j, p) :: r) k o = if j = k then (k, o) :: r else (j, p) :: upd r k o := by
  unfold upd
  by_cases h : j = k
  · subst h; simp
  · have : (j == k) = false := by simpa using h
    rw [this, if_neg h]; cases r <;> rfl
theorem find_upd (os : List (Nat × Ob)) (k : Nat) (o : Ob) (j : Nat) : find (upd os k o) j = if k = j then some o else find os j := by
  induction os with
  | nil => simp only [upd, find_cons]
  | cons x r ih =>
    obtain ⟨i, p⟩ := x
    rw [upd_cons, find_cons]
    by_cases h : i = k
    · subst h; rw [if_pos rfl, find_cons]; by_cases h2 : i = j <;> simp [h2]
    · rw [if_neg h, find_cons, ih]
      by_cases h2 : i = j
      · subst h2; rw [if_pos rfl, if_pos rfl, if_neg (Ne.symm h)]
      · rw [if_neg h2, if_neg h2]

structure H (w : World) (fz : Nat → Prop) (β : Nat → Option Nat) (os : List (Nat × Ob)) : Prop where
  lt : ∀ k b, β k = some b → b < w.heap.size
  fzlt : ∀ b, fz b → b < w.heap.size
  inj : ∀ k k' b, β k = some b → β k' = some b → k = k'
  apart : ∀ b, fz b → ∀ k, β k ≠ some b
  ob : ∀ k o, find os k = some o → RepO w fz β k o

/-- Where a call stands: the world it came into, what of it is only read, the blocks that it was lent. -/
structure Cx where
  w0 : World
  fz0 : Nat → Prop
  β0 : Nat → Option Nat
  defers : List Deferred := []
  G : Nat → Option (List PV) := fun _ => none
  rd : Option Nat := none
  rr : Bool := false
  ml : Bool := false
  base : Option (World × (Nat → Prop) × (Nat → Option Nat)) := none
def mark (D : Nat) : Deferred := { target := .collected D, args := #[] }
/-- A block that is nobody's to change. -/
def PR (w : World) (β : Nat → Option Nat) (b : Nat) (o : Obj) : Prop := w.heap[b]? = some o ∧ ∀ k, β k ≠ some b
structure DM (cx : Cx) (a : Act) (w : World) (fz : Nat → Prop) (β : Nat → Option Nat) : Prop where
  ds : ∃ Ds : List Nat, a.defers = Ds.map mark ++ cx.defers ∧ Ds.Nodup ∧ ∀ D ∈ Ds, cx.w0.heap.size ≤ D ∧ fz D ∧ PR w β D (.deferred (some []))
  pr : ∀ W f b, cx.base = some (W, f, b) → Stp W f b w fz β
  lo : cx.ml = false → a.defers = cx.defers
section
variable {cx : Cx} {a : Act} {w w' : World} {fz fz' : Nat → Prop} {β β' : Nat → Option Nat}
theorem PR.lt {b : Nat} {o : Obj} (h : PR w β b o) : b < w.heap.size := (Array.getElem?_eq_some_iff.1 h.1).1
theorem PR.stp {b : Nat} {o : Obj} (h : PR w β b o) (hst : Stp w fz β w' fz' β') : PR w' β' b o :=
  ⟨(hst.blk b h.lt h.2).trans h.1, fun k hk => by obtain ⟨k', hk'⟩ := hst.own k b h.lt hk; exact h.2 k' hk'⟩
theorem DM.stp (h : DM cx a w fz β) (hst : Stp w fz β w' fz' β') : DM cx a w' fz' β' := by
  obtain ⟨⟨Ds, h1, h0, h2⟩, h3, h30⟩ := h
  refine ⟨⟨Ds, h1, h0, fun D hD => ?_⟩, fun W f b hb => (h3 W f b hb).trans hst, h30⟩
  obtain ⟨h4, h5, h6⟩ := h2 D hD
  exact ⟨h4, hst.mono D h5, h6.stp hst⟩
theorem DM.put (h : DM cx a w fz β) (dst : Option Tmp) (v : Value) : DM cx (a.put dst v) w fz β := by
  cases dst <;> exact ⟨h.ds, h.pr, h.lo⟩
end
/-- Where a plain call stands. -/
abbrev Cx.of (w : World) (fz : Nat → Prop) (β : Nat → Option Nat) (G : Nat → Option (List PV)) : Cx := { w0 := w, fz0 := fz, β0 := β, defers := [], G := G }
theorem DM.nil (cx : Cx) (a : Act) (w : World) (fz : Nat → Prop) (β : Nat → Option Nat) (h : a.defers = cx.defers) (hp : cx.base = none) : DM cx a w fz β :=
  ⟨⟨[], h, List.nodup_nil, fun D hD => (by cases hD)⟩, fun W f b hb => (by rw [hp] at hb; cases hb), fun _ => h⟩
structure Rel (cx : Cx) (w : World) (fz : Nat → Prop) (β : Nat → Option Nat) : Prop where
  os : w.os = cx.w0.os
  tape : w.tape = cx.w0.tape
  output : w.output = cx.w0.output
  size : cx.w0.heap.size ≤ w.heap.size
  old : cx.rr = false → ∀ b, b < cx.w0.heap.size → (∀ k, cx.β0 k ≠ some b) → w.heap[b]? = cx.w0.heap[b]?
  shp : ∀ b s, cx.w0.shape? b = some s → w.shape? b = some s
  fzin : ∀ b, cx.fz0 b → fz b
  fzout : ∀ b, fz b → cx.fz0 b ∨ cx.w0.heap.size ≤ b
  bin : ∀ k b, cx.β0 k = some b → β k = some b
  bout : ∀ k b, β k = some b → cx.β0 k = some b ∨ cx.w0.heap.size ≤ b
  glob : ∀ g cs, cx.G g = some cs → RepC w fz (fun _ => none) (.eptr cs) (.pointer (some ⟨g, 0, none⟩))
  bhi : ∀ k, 1000000 ≤ k → cx.β0 k = none → β k = none
structure St where
  tmps : List AV
  objs : List (Nat × Ob)
def St.put (st : St) : Option Tmp → AV → St
  | some d, x => { st with tmps := st.tmps.set d x }
  | none, _ => st
/-- Fix the choice of names. -/
structure SR (cx : Cx) (st : St) (a : Act) (w : World) (fz : Nat → Prop) (β : Nat → Option Nat) : Prop where
  d : DM cx a w fz β
  low : ∀ k, k < 1000000 → cx.β0 k = none
  rel : Rel cx w fz β
  h : H w fz β st.objs
  t : All2 (RepA w fz β) st.tmps a.tmps.toList
def StRep (cx : Cx) (st : St) (a : Act) (w : World) : Prop := ∃ fz β, SR cx st a w fz β

theorem SR.put {cx : Cx} {st : St} {a : Act} {w : World} {fz β} (h : SR cx st a w fz β) {x : AV} {v : Value} (hx : RepA w fz β x v) (dst : Option Tmp) : SR cx (st.put dst x) (a.put dst v) w fz β := by
  cases dst with
  | none => exact h
  | some d => exact ⟨h.d.put (some d) v, h.low, h.rel, h.h, by simp only [St.put, Act.put, Array.toList_setIfInBounds]; exact h.t.set hx d⟩
theorem RepA.any {w fz β} (v : Value) : RepA w fz β (.c .any) v := trivial
end Go.Proofs.Vl
