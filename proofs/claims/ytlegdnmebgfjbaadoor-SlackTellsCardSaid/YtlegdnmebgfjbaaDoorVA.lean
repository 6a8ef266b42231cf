/- The value logic (merged). -/
import Derived.WalkKit
import Derived.Laws.AppendOwn
import Derived.Laws.MakeOwn
import Derived.OrdersHeld
import Derived.Below
import Derived.CallsIn
import Derived.OrdersIn
import Derived.Sort.LoopGhostIn
import Derived.Scope
import Derived.Deep.LoopGhost
import Derived.Laws.Tables
import Derived.Laws.CopyRow
import Derived.Laws.OwnMore
import Derived.Laws.Cells
import Derived.Maps.AppendAt
section
/- Values told apart from memory: what a slot holds and what a block holds, as lists; and when a frame and a world hold just that. -/
set_option linter.all false
namespace Go.Proofs.Vl
open Go Go.RowKit

inductive All2 {α β : Type} (R : α → β → Prop) : List α → List β → Prop
  | nil : All2 R [] []
  | cons {a b as bs} : R a b → All2 R as bs → All2 R (a :: as) (b :: bs)
namespace All2
variable {α β : Type} {R S : α → β → Prop} {as : List α} {bs : List β} {a : α} {b : β}
theorem len (h : All2 R as bs) : as.length = bs.length := by induction h with | nil => rfl | cons _ _ ih => simp [ih]
theorem get (h : All2 R as bs) : ∀ {i : Nat} {a : α}, as[i]? = some a → ∃ b, bs[i]? = some b ∧ R a b := by
  induction h with
  | nil => intro i a h; simp at h
  | cons hr _ ih =>
    intro i a h
    cases i with
    | zero => simp at h; subst h; exact ⟨_, by simp, hr⟩
    | succ i => simpa using ih (by simpa using h)
theorem get' (h : All2 R as bs) : ∀ {i : Nat} {b : β}, bs[i]? = some b → ∃ a, as[i]? = some a ∧ R a b := by
  induction h with
  | nil => intro i a h; simp at h
  | cons hr _ ih =>
    intro i a h
    cases i with
    | zero => simp at h; subst h; exact ⟨_, by simp, hr⟩
    | succ i => simpa using ih (by simpa using h)
theorem mono (h : All2 R as bs) (f : ∀ a b, a ∈ as → R a b → S a b) : All2 S as bs := by
  induction h with
  | nil => exact .nil
  | cons hr _ ih => exact .cons (f _ _ List.mem_cons_self hr) (ih fun a b ha => f a b (List.mem_cons_of_mem _ ha))
theorem set (h : All2 R as bs) (hr : R a b) : ∀ i, All2 R (as.set i a) (bs.set i b) := by
  induction h with
  | nil => intro i; exact .nil
  | cons h0 h1 ih => intro i; cases i with
    | zero => exact .cons hr h1
    | succ i => exact .cons h0 (ih i)
theorem append {as' : List α} {bs' : List β} (h : All2 R as bs) (h' : All2 R as' bs') : All2 R (as ++ as') (bs ++ bs') := by
  induction h with
  | nil => exact h'
  | cons hr _ ih => exact .cons hr ih
theorem map {γ : Type} {T : γ → β → Prop} (f : α → γ) (h : All2 R as bs) (hf : ∀ a b, R a b → T (f a) b) : All2 T (as.map f) bs := by
  induction h with
  | nil => exact .nil
  | cons hr _ ih => exact .cons (hf _ _ hr) ih
theorem drop (h : All2 R as bs) : ∀ n, All2 R (as.drop n) (bs.drop n) := by
  induction h with
  | nil => intro n; simp; exact .nil
  | cons hr h1 ih => intro n; cases n with
    | zero => exact .cons hr h1
    | succ n => simpa using ih n
theorem take (h : All2 R as bs) : ∀ n, All2 R (as.take n) (bs.take n) := by
  induction h with
  | nil => intro n; simp; exact .nil
  | cons hr h1 ih => intro n; cases n with
    | zero => exact .nil
    | succ n => simpa using All2.cons hr (ih n)
theorem of_get : ∀ {as : List α} {bs : List β}, as.length = bs.length → (∀ (i : Nat) (a : α) (b : β), as[i]? = some a → bs[i]? = some b → R a b) → All2 R as bs
  | [], [], _, _ => .nil
  | a :: as, b :: bs, hl, h => .cons (h 0 a b rfl rfl) (of_get (by simpa using hl) fun i a b h1 h2 => h (i + 1) a b (by simpa using h1) (by simpa using h2))
  | [], _ :: _, hl, _ => by simp at hl
  | _ :: _, [], hl, _ => by simp at hl
theorem replicate (hr : R a b) : ∀ n, All2 R (List.replicate n a) (List.replicate n b)
  | 0 => .nil
  | n + 1 => .cons hr (replicate hr n)
theorem right_of (h : All2 (fun a b => b = b ∧ R a b) as bs) : All2 R as bs := h.mono fun _ _ _ h => h.2
end All2

/-- What a cell holds that leads to no memory of the call's own: a value as it is, or a row that is only read. -/
inductive PV where
  | s (v : Value)
  | fro (xs : List (List PV))
inductive Cap where
  | key (k : Nat)
  | val (x : Value)
  | fz (cs : List PV)
/-- What a cell or a slot of one cell holds. Keys name the call's own blocks. -/
inductive CV where
  | p (x : PV)
  | own (k sz n : Nat)
  | win (k sz off n : Nat)
  | ptr (k off : Nat)
  | rptr (k sz i c : Nat)
  | eptr (cs : List PV)
  | fn (f : Nat) (caps : List Cap)
  | mp (k : Nat)
  | any
inductive TV where
  | c (x : CV)
  | agg (cs : List CV)
  | pag (cs : List PV)
inductive AV where
  | c (x : CV)
  | agg (cs : List CV)
  | pag (cs : List PV)
  | tup (xs : List TV)
def TV.av : TV → AV
  | .c x => .c x
  | .agg x => .agg x
  | .pag x => .pag x
inductive Ob where
  | cells (T : TypeId) (cs : List CV)
  | pcells (T : TypeId) (cs : List PV)
  | row (T : TypeId) (sz : Nat) (xs : List (List PV))
  | mapo (es : List MapEntry) (clock : Nat)
  | tok (F : Nat → Prop) (J : World → (Nat → Prop) → Prop)
  | sav (xs : List AV) (vs : List Value)

def Cap.ref (k : Nat) : Cap → Bool
  | .key j => j == k
  | .val _ | .fz _ => false
def CV.ref (k : Nat) : CV → Bool
  | .own j _ _ | .win j _ _ _ | .ptr j _ | .rptr j _ _ _ | .mp j => j == k
  | .fn _ caps => caps.any (Cap.ref k)
  | .p _ | .eptr _ | .any => false
def TV.ref (k : Nat) : TV → Bool
  | .c x => x.ref k
  | .agg cs => cs.any (CV.ref k)
  | .pag _ => false
def AV.ref (k : Nat) : AV → Bool
  | .c x => x.ref k
  | .agg cs => cs.any (CV.ref k)
  | .pag _ => false
  | .tup xs => xs.any (TV.ref k)
def Ob.ref (k : Nat) : Ob → Bool
  | .cells _ cs => cs.any (CV.ref k)
  | .pcells .. | .row .. | .mapo .. | .tok .. => false
  | .sav xs _ => xs.any (AV.ref k)

inductive RepP (w : World) (fz : Nat → Prop) : PV → Value → Prop
  | s (v : Value) (h : v.oneCell' = true) : RepP w fz (.s v) v
  | nil (a : Option Addr) (cap : Nat) : RepP w fz (.fro []) (.slice a 0 cap)
  | fro (xs : List (List PV)) (b o cap sz : Nat) (val : Nat → Nat → Value) (hb : 0 < sz → fz b) (hcap : xs.length ≤ cap) (hl : ∀ (j : Nat) (cs : List PV), xs[j]? = some cs → cs.length = sz)
      (hc : ∀ (j : Nat) (cs : List PV) (c : Nat) (x : PV), xs[j]? = some cs → cs[c]? = some x → w.cell? ⟨b, o + (j * sz + c), none⟩ = some (val j c))
      (hr : ∀ (j : Nat) (cs : List PV) (c : Nat) (x : PV), xs[j]? = some cs → cs[c]? = some x → RepP w fz x (val j c)) : RepP w fz (.fro xs) (.slice (some ⟨b, o, none⟩) xs.length cap)
def RepE (w : World) (fz : Nat → Prop) (cs : List PV) (v : Value) : Prop :=
  ∃ b o, v = .pointer (some ⟨b, o, none⟩) ∧ (cs ≠ [] → fz b) ∧ ∀ (c : Nat) (x : PV), cs[c]? = some x → ∃ u, w.cell? ⟨b, o + c, none⟩ = some u ∧ RepP w fz x u
def RepCap (w : World) (fz : Nat → Prop) (β : Nat → Option Nat) : Cap → Value → Prop
  | .key k, v => ∃ b, β k = some b ∧ v = .pointer (some ⟨b, 0, none⟩)
  | .val x, v => v = x
  | .fz cs, v => RepE w fz cs v
def RepC (w : World) (fz : Nat → Prop) (β : Nat → Option Nat) : CV → Value → Prop
  | .p x, v => RepP w fz x v
  | .own k sz n, v => (β k = none ∧ n = 0 ∧ v = .slice none 0 0) ∨ ∃ b cap T, β k = some b ∧ v = .slice (some ⟨b, 0, none⟩) n cap ∧ w.shape? b = some (T, cap * sz) ∧ cap ≤ maxLen ∧ n ≤ cap
  | .win k sz off n, v => (n = 0 ∧ ∃ a cap, v = .slice a 0 cap) ∨ ∃ b cap, β k = some b ∧ v = .slice (some ⟨b, off * sz, none⟩) n cap ∧ n ≤ cap
  | .ptr k off, v => ∃ b, β k = some b ∧ v = .pointer (some ⟨b, off, none⟩)
  | .rptr k sz i c, v => ∃ b, β k = some b ∧ v = .pointer (some ⟨b, i * sz + c, none⟩)
  | .eptr cs, v => ∃ b o, v = .pointer (some ⟨b, o, none⟩) ∧ (cs ≠ [] → fz b) ∧ ∀ (c : Nat) (x : PV), cs[c]? = some x → ∃ u, w.cell? ⟨b, o + c, none⟩ = some u ∧ RepP w fz x u
  | .fn f caps, v => ∃ cv : List Value, v = .func (.func f) #[] cv.toArray ∧ All2 (RepCap w fz β) caps cv
  | .mp k, v => ∃ b, β k = some b ∧ v = .map (some b)
  | .any, _ => True
/-- The same, and the value is one cell's. -/
def RepC1 (w : World) (fz : Nat → Prop) (β : Nat → Option Nat) (x : CV) (v : Value) : Prop := v.oneCell' = true ∧ RepC w fz β x v
def RepT (w : World) (fz : Nat → Prop) (β : Nat → Option Nat) : TV → Value → Prop
  | .c x, v => RepC w fz β x v
  | .agg cs, v => ∃ vs : List Value, v = .agg vs.toArray ∧ All2 (RepC1 w fz β) cs vs
  | .pag cs, v => ∃ vs : List Value, v = .agg vs.toArray ∧ All2 (RepP w fz) cs vs
def RepA (w : World) (fz : Nat → Prop) (β : Nat → Option Nat) : AV → Value → Prop
  | .c x, v => RepC w fz β x v
  | .agg cs, v => ∃ vs : List Value, v = .agg vs.toArray ∧ All2 (RepC1 w fz β) cs vs
  | .pag cs, v => ∃ vs : List Value, v = .agg vs.toArray ∧ All2 (RepP w fz) cs vs
  | .tup xs, v => ∃ vs : List Value, v = .tuple vs.toArray ∧ All2 (RepT w fz β) xs vs
/-- A step of the world that changes blocks of X alone, and makes new ones. -/
structure StX (w : World) (X : Nat → Prop) (w' : World) (X' : Nat → Prop) : Prop where
  os : w'.os = w.os
  tape : w'.tape = w.tape
  output : w'.output = w.output
  size : w.heap.size ≤ w'.heap.size
  blk : ∀ b, b < w.heap.size → ¬ X b → w'.heap[b]? = w.heap[b]?
  shp : ∀ b s, w.shape? b = some s → w'.shape? b = some s
  own : ∀ b, b < w.heap.size → X' b → X b
/-- What is said of all but X abides. -/
def Abi (J : World → (Nat → Prop) → Prop) : Prop := ∀ w X w' X', StX w X w' X' → J w X → J w' X'
def RepO (w : World) (fz : Nat → Prop) (β : Nat → Option Nat) (k : Nat) : Ob → Prop
  | .cells T cs => ∃ b, ∃ vs : List Value, β k = some b ∧ w.heap[b]? = some (.cells vs.toArray T (0, 0)) ∧ All2 (RepC1 w fz β) cs vs
  | .pcells T cs => ∃ b, ∃ vs : List Value, β k = some b ∧ w.heap[b]? = some (.cells vs.toArray T (0, 0)) ∧ All2 (RepP w fz) cs vs
  | .row T sz xs => (β k = none ∧ xs = []) ∨ ∃ b, ∃ vs : List Value, β k = some b ∧ w.heap[b]? = some (.cells vs.toArray T (0, 0)) ∧ xs.length * sz ≤ vs.length ∧
      (∀ cs ∈ xs, cs.length = sz) ∧ All2 (RepP w fz) xs.flatten (vs.take (xs.length * sz))
  | .mapo es clock => ∃ b, β k = some b ∧ w.heap[b]? = some (.map es.toArray clock)
  | .tok F J => Abi J ∧ ∃ X : Nat → Prop, (∀ k b, β k = some b → X b) ∧ (∀ b, fz b → F b ∨ X b) ∧ J w X
  | .sav xs vs => All2 (RepA w fz β) xs vs

theorem RepP.one {w : World} {fz : Nat → Prop} {x : PV} {v : Value} (h : RepP w fz x v) : v.oneCell' = true := by
  cases h <;> first | assumption | rfl

/-- A step of the world that lets be what is only read, and the blocks' sizes. -/
structure Adv (fz : Nat → Prop) (w w' : World) : Prop where
  blk : ∀ b, fz b → ∀ o v, w.cell? ⟨b, o, none⟩ = some v → w'.cell? ⟨b, o, none⟩ = some v
  shp : ∀ b s, w.shape? b = some s → w'.shape? b = some s
theorem Adv.of {fz : Nat → Prop} {w w' : World} (h : ∀ b, fz b → w'.heap[b]? = w.heap[b]?) (hs : ∀ b s, w.shape? b = some s → w'.shape? b = some s) : Adv fz w w' :=
  ⟨fun b hb o v hv => (World.cell?_of_block (w := w) (a := ⟨b, o, none⟩) (h b hb)).trans hv, hs⟩
theorem Adv.refl (fz : Nat → Prop) (w : World) : Adv fz w w := ⟨fun _ _ _ _ h => h, fun _ _ h => h⟩
theorem Adv.trans {fz : Nat → Prop} {w w1 w2 : World} (h : Adv fz w w1) (h' : Adv fz w1 w2) : Adv fz w w2 := ⟨fun b hb o v hv => h'.blk b hb o v (h.blk b hb o v hv), fun b s hs => h'.shp b s (h.shp b s hs)⟩
section
variable {w w' : World} {fz fz' : Nat → Prop} {β β' : Nat → Option Nat}
theorem RepP.adv {x : PV} {v : Value} (h : RepP w fz x v) (hA : Adv fz w w') (hs : ∀ b, fz b → fz' b) : RepP w' fz' x v := by
  induction h with
  | s v h => exact .s v h
  | nil a cap => exact .nil a cap
  | fro xs b o cap sz val hb hcap hl hc hr ih => exact .fro xs b o cap sz val (fun h0 => hs _ (hb h0)) hcap hl (fun j cs c x h1 h2 => hA.blk b (hb (by have := hl j cs h1; have := (List.getElem?_eq_some_iff.1 h2).1; omega)) _ _ (hc j cs c x h1 h2)) ih
theorem RepE.adv {cs : List PV} {v : Value} (h : RepE w fz cs v) (hA : Adv fz w w') (hs : ∀ b, fz b → fz' b) : RepE w' fz' cs v := by
  obtain ⟨b, o, h1, h2, h3⟩ := h
  refine ⟨b, o, h1, fun hn => hs _ (h2 hn), fun c x hx => ?_⟩
  obtain ⟨u, h4, h5⟩ := h3 c x hx
  exact ⟨u, hA.blk b (h2 (by intro h0; subst h0; simp at hx)) _ _ h4, h5.adv hA hs⟩
theorem RepCap.adv {x : Cap} {v : Value} (h : RepCap w fz β x v) (hA : Adv fz w w') (hs : ∀ b, fz b → fz' b) (hβ : ∀ k, x.ref k = true → β' k = β k) : RepCap w' fz' β' x v := by
  cases x with
  | key k => obtain ⟨b, h1, h2⟩ := h; exact ⟨b, (hβ k (by simp [Cap.ref])).trans h1, h2⟩
  | val x => exact h
  | fz cs => exact RepE.adv h hA hs
/-- A step of a call: what is not its own abides. -/
structure Stp (w : World) (fz : Nat → Prop) (β : Nat → Option Nat) (w' : World) (fz' : Nat → Prop) (β' : Nat → Option Nat) : Prop where
  os : w'.os = w.os
  tape : w'.tape = w.tape
  output : w'.output = w.output
  size : w.heap.size ≤ w'.heap.size
  blk : ∀ b, b < w.heap.size → (∀ k, β k ≠ some b) → w'.heap[b]? = w.heap[b]?
  shp : ∀ b s, w.shape? b = some s → w'.shape? b = some s
  ffz : ∀ b, b < w.heap.size → fz' b → fz b ∨ ∃ k, β k = some b
  own : ∀ k b, b < w.heap.size → β' k = some b → ∃ k', β k' = some b
  mono : ∀ b, fz b → fz' b
theorem Stp.here (hm : ∀ b, fz b → fz' b) (hf : ∀ b, b < w.heap.size → fz' b → fz b ∨ ∃ k, β k = some b) (ho : ∀ k b, b < w.heap.size → β' k = some b → ∃ k', β k' = some b) : Stp w fz β w fz' β' :=
  ⟨rfl, rfl, rfl, Nat.le_refl _, fun _ _ _ => rfl, fun _ _ h => h, hf, ho, hm⟩
theorem Stp.refl (w : World) (fz : Nat → Prop) (β : Nat → Option Nat) : Stp w fz β w fz β := .here (fun _ h => h) (fun _ _ h => .inl h) (fun k _ _ h => ⟨k, h⟩)
theorem Stp.trans {w2 : World} {fz2 : Nat → Prop} {β2 : Nat → Option Nat} (h : Stp w fz β w' fz' β') (h' : Stp w' fz' β' w2 fz2 β2) : Stp w fz β w2 fz2 β2 where
  os := h'.os.trans h.os
  tape := h'.tape.trans h.tape
  output := h'.output.trans h.output
  size := Nat.le_trans h.size h'.size
  blk := fun b hb hn => (h'.blk b (Nat.lt_of_lt_of_le hb h.size) fun k hk => by obtain ⟨k', hk'⟩ := h.own k b hb hk; exact hn k' hk').trans (h.blk b hb hn)
  shp := fun b s hs => h'.shp b s (h.shp b s hs)
  ffz := fun b hb hf => by
    rcases h'.ffz b (Nat.lt_of_lt_of_le hb h.size) hf with h1 | ⟨k, h1⟩
    · exact h.ffz b hb h1
    · exact .inr (h.own k b hb h1)
  own := fun k b hb hk => by obtain ⟨k', hk'⟩ := h'.own k b (Nat.lt_of_lt_of_le hb h.size) hk; exact h.own k' b hb hk'
  mono := fun b hb => h'.mono b (h.mono b hb)
theorem tok_stp {F : Nat → Prop} {J : World → (Nat → Prop) → Prop} (h : Abi J ∧ ∃ X : Nat → Prop, (∀ k b, β k = some b → X b) ∧ (∀ b, fz b → F b ∨ X b) ∧ J w X) (hst : Stp w fz β w' fz' β') : Abi J ∧ ∃ X : Nat → Prop, (∀ k b, β' k = some b → X b) ∧ (∀ b, fz' b → F b ∨ X b) ∧ J w' X := by
  obtain ⟨ha, X, h1, h3, h2⟩ := h
  refine ⟨ha, fun b => X b ∨ w.heap.size ≤ b, fun k b hk => ?_, fun b hf => ?_, ha w X w' _ ⟨hst.os, hst.tape, hst.output, hst.size, fun b hb hX => hst.blk b hb fun k hk => hX (h1 k b hk), hst.shp, fun b hb hx => hx.resolve_right (by omega)⟩ h2⟩
  · by_cases hb : b < w.heap.size
    · obtain ⟨k', hk'⟩ := hst.own k b hb hk; exact .inl (h1 k' b hk')
    · exact .inr (by omega)
  · by_cases hb : b < w.heap.size
    · rcases hst.ffz b hb hf with h | ⟨k, h⟩
      · exact (h3 b h).imp id .inl
      · exact .inr (.inl (h1 k b h))
    · exact .inr (.inr (by omega))
theorem RepC.adv {x : CV} {v : Value} (h : RepC w fz β x v) (hA : Adv fz w w') (hs : ∀ b, fz b → fz' b) (hβ : ∀ k, x.ref k = true → β' k = β k) : RepC w' fz' β' x v := by
  cases x with
  | p x => exact RepP.adv h hA hs
  | own k sz n =>
    have e := hβ k (by simp [CV.ref])
    rcases h with ⟨h1, h2⟩ | ⟨b, cap, T, h1, h2, h3, h4⟩
    · exact .inl ⟨e.trans h1, h2⟩
    · exact .inr ⟨b, cap, T, e.trans h1, h2, hA.shp _ _ h3, h4⟩
  | win k sz off n =>
    have e := hβ k (by simp [CV.ref])
    rcases h with h | ⟨b, cap, h1, h2⟩
    · exact .inl h
    · exact .inr ⟨b, cap, e.trans h1, h2⟩
  | ptr k off => obtain ⟨b, h1, h2⟩ := h; exact ⟨b, (hβ k (by simp [CV.ref])).trans h1, h2⟩
  | rptr k sz i c => obtain ⟨b, h1, h2⟩ := h; exact ⟨b, (hβ k (by simp [CV.ref])).trans h1, h2⟩
  | mp k => obtain ⟨b, h1, h2⟩ := h; exact ⟨b, (hβ k (by simp [CV.ref])).trans h1, h2⟩
  | eptr cs =>
    obtain ⟨b, o, h1, h2, h3⟩ := h
    refine ⟨b, o, h1, fun hn => hs _ (h2 hn), fun c x hx => ?_⟩
    obtain ⟨u, h4, h5⟩ := h3 c x hx
    exact ⟨u, hA.blk b (h2 (by intro h0; subst h0; simp at hx)) _ _ h4, h5.adv hA hs⟩
  | fn f caps =>
    obtain ⟨cv, h1, h2⟩ := h
    exact ⟨cv, h1, h2.mono fun a b ha hr => hr.adv hA hs fun k hk => hβ k (by simp only [CV.ref, List.any_eq_true]; exact ⟨a, ha, hk⟩)⟩
  | any => trivial
theorem RepT.adv {x : TV} {v : Value} (h : RepT w fz β x v) (hA : Adv fz w w') (hs : ∀ b, fz b → fz' b) (hβ : ∀ k, x.ref k = true → β' k = β k) : RepT w' fz' β' x v := by
  cases x with
  | c x => exact RepC.adv h hA hs hβ
  | agg cs => obtain ⟨vs, h1, h2⟩ := h; exact ⟨vs, h1, h2.mono fun a b ha hr => ⟨hr.1, hr.2.adv hA hs fun k hk => hβ k (by simp only [TV.ref, List.any_eq_true]; exact ⟨a, ha, hk⟩)⟩⟩
  | pag cs => obtain ⟨vs, h1, h2⟩ := h; exact ⟨vs, h1, h2.mono fun a b ha hr => hr.adv hA hs⟩
theorem RepA.adv {x : AV} {v : Value} (h : RepA w fz β x v) (hA : Adv fz w w') (hs : ∀ b, fz b → fz' b) (hβ : ∀ k, x.ref k = true → β' k = β k) : RepA w' fz' β' x v := by
  cases x with
  | c x => exact RepC.adv h hA hs hβ
  | agg cs => obtain ⟨vs, h1, h2⟩ := h; exact ⟨vs, h1, h2.mono fun a b ha hr => ⟨hr.1, hr.2.adv hA hs fun k hk => hβ k (by simp only [AV.ref, List.any_eq_true]; exact ⟨a, ha, hk⟩)⟩⟩
  | pag cs => obtain ⟨vs, h1, h2⟩ := h; exact ⟨vs, h1, h2.mono fun a b ha hr => hr.adv hA hs⟩
  | tup xs => obtain ⟨vs, h1, h2⟩ := h; exact ⟨vs, h1, h2.mono fun a b ha hr => RepT.adv hr hA hs fun k hk => hβ k (by simp only [AV.ref, List.any_eq_true]; exact ⟨a, ha, hk⟩)⟩
theorem RepO.adv0 {k : Nat} {x : Ob} (hnt : ∀ F J, x ≠ .tok F J) (h : RepO w fz β k x) (hA : Adv fz w w') (hs : ∀ b, fz b → fz' b) (hk : β' k = β k) (hb : ∀ b, β k = some b → w'.heap[b]? = w.heap[b]?) (hβ : ∀ j, x.ref j = true → β' j = β j) : RepO w' fz' β' k x := by
  cases x with
  | cells T cs => obtain ⟨b, vs, h1, h2, h3⟩ := h; exact ⟨b, vs, hk.trans h1, (hb b h1).trans h2, h3.mono fun a v ha hr => ⟨hr.1, hr.2.adv hA hs fun k hk => hβ k (by simp only [Ob.ref, List.any_eq_true]; exact ⟨a, ha, hk⟩)⟩⟩
  | pcells T cs => obtain ⟨b, vs, h1, h2, h3⟩ := h; exact ⟨b, vs, hk.trans h1, (hb b h1).trans h2, h3.mono fun a v ha hr => hr.adv hA hs⟩
  | row T sz xs =>
    rcases h with ⟨h1, h2⟩ | ⟨b, vs, h1, h2, h3, h4, h5⟩
    · exact .inl ⟨hk.trans h1, h2⟩
    · exact .inr ⟨b, vs, hk.trans h1, (hb b h1).trans h2, h3, h4, h5.mono fun a v ha hr => hr.adv hA hs⟩
  | mapo es clock => obtain ⟨b, h1, h2⟩ := h; exact ⟨b, hk.trans h1, (hb b h1).trans h2⟩
  | tok F J => exact absurd rfl (hnt F J)
  | sav xs vs => exact All2.mono (R := RepA w fz β) h fun a v ha hr => hr.adv hA hs fun k hk => hβ k (by simp only [Ob.ref, List.any_eq_true]; exact ⟨a, ha, hk⟩)
theorem RepO.adv {k : Nat} {x : Ob} (h : RepO w fz β k x) (hA : Adv fz w w') (hs : ∀ b, fz b → fz' b) (hk : β' k = β k) (hb : ∀ b, β k = some b → w'.heap[b]? = w.heap[b]?) (hβ : ∀ j, x.ref j = true → β' j = β j) (hst : Stp w fz β w' fz' β') : RepO w' fz' β' k x := by
  by_cases hn : ∃ F J, x = .tok F J
  · obtain ⟨F, J, rfl⟩ := hn; exact tok_stp h hst
  · exact RepO.adv0 (fun F J e => hn ⟨F, J, e⟩) h hA hs hk hb hβ
end

def find : List (Nat × Ob) → Nat → Option Ob
  | [], _ => none
  | (j, o) :: r, k => cond (j == k) (some o) (find r k)
def upd : List (Nat × Ob) → Nat → Ob → List (Nat × Ob)
  | [], k, o => [(k, o)]
  | (j, p) :: r, k, o => cond (j == k) ((k, o) :: r) ((j, p) :: upd r k o)
theorem find_cons (j : Nat) (o : Ob) (r : List (Nat × Ob)) (k : Nat) : find ((j, o) :: r) k = if j = k then some o else find r k := by
  unfold find
  by_cases h : j = k
  · subst h; simp
  · have : (j == k) = false := by simpa using h
    rw [this, if_neg h]; cases r <;> rfl
theorem upd_cons (j : Nat) (p : Ob) (r : List (Nat × Ob)) (k : Nat) (o : Ob) : upd ((j, p) :: r) k o = if j = k then (k, o) :: r else (j, p) :: upd r k o := by
  unfold upd
  by_cases h : j = k
  · subst h; simp
  · have : (j == k) = false := by simpa using h
    rw [this, if_neg h]; cases r <;> rfl
theorem find_upd (os : List (Nat × Ob)) (k : Nat) (o : Ob) (j : Nat) : find (upd os k o) j = if k = j then some o else find os j := by
  induction os with
  | nil => simp only [upd, find_cons]
  | cons x r ih =>
    obtain ⟨i, p⟩ := x
    rw [upd_cons, find_cons]
    by_cases h : i = k
    · subst h; rw [if_pos rfl, find_cons]; by_cases h2 : i = j <;> simp [h2]
    · rw [if_neg h, find_cons, ih]
      by_cases h2 : i = j
      · subst h2; rw [if_pos rfl, if_pos rfl, if_neg (Ne.symm h)]
      · rw [if_neg h2, if_neg h2]

structure H (w : World) (fz : Nat → Prop) (β : Nat → Option Nat) (os : List (Nat × Ob)) : Prop where
  lt : ∀ k b, β k = some b → b < w.heap.size
  fzlt : ∀ b, fz b → b < w.heap.size
  inj : ∀ k k' b, β k = some b → β k' = some b → k = k'
  apart : ∀ b, fz b → ∀ k, β k ≠ some b
  ob : ∀ k o, find os k = some o → RepO w fz β k o

/-- Where a call stands: the world it came into, what of it is only read, the blocks that it was lent. -/
structure Cx where
  w0 : World
  fz0 : Nat → Prop
  β0 : Nat → Option Nat
  defers : List Deferred := []
  G : Nat → Option (List PV) := fun _ => none
  rd : Option Nat := none
  rr : Bool := false
  ml : Bool := false
  base : Option (World × (Nat → Prop) × (Nat → Option Nat)) := none
def mark (D : Nat) : Deferred := { target := .collected D, args := #[] }
/-- A block that is nobody's to change. -/
def PR (w : World) (β : Nat → Option Nat) (b : Nat) (o : Obj) : Prop := w.heap[b]? = some o ∧ ∀ k, β k ≠ some b
structure DM (cx : Cx) (a : Act) (w : World) (fz : Nat → Prop) (β : Nat → Option Nat) : Prop where
  ds : ∃ Ds : List Nat, a.defers = Ds.map mark ++ cx.defers ∧ Ds.Nodup ∧ ∀ D ∈ Ds, cx.w0.heap.size ≤ D ∧ fz D ∧ PR w β D (.deferred (some []))
  pr : ∀ W f b, cx.base = some (W, f, b) → Stp W f b w fz β
  lo : cx.ml = false → a.defers = cx.defers
section
variable {cx : Cx} {a : Act} {w w' : World} {fz fz' : Nat → Prop} {β β' : Nat → Option Nat}
theorem PR.lt {b : Nat} {o : Obj} (h : PR w β b o) : b < w.heap.size := (Array.getElem?_eq_some_iff.1 h.1).1
theorem PR.stp {b : Nat} {o : Obj} (h : PR w β b o) (hst : Stp w fz β w' fz' β') : PR w' β' b o :=
  ⟨(hst.blk b h.lt h.2).trans h.1, fun k hk => by obtain ⟨k', hk'⟩ := hst.own k b h.lt hk; exact h.2 k' hk'⟩
theorem DM.stp (h : DM cx a w fz β) (hst : Stp w fz β w' fz' β') : DM cx a w' fz' β' := by
  obtain ⟨⟨Ds, h1, h0, h2⟩, h3, h30⟩ := h
  refine ⟨⟨Ds, h1, h0, fun D hD => ?_⟩, fun W f b hb => (h3 W f b hb).trans hst, h30⟩
  obtain ⟨h4, h5, h6⟩ := h2 D hD
  exact ⟨h4, hst.mono D h5, h6.stp hst⟩
theorem DM.put (h : DM cx a w fz β) (dst : Option Tmp) (v : Value) : DM cx (a.put dst v) w fz β := by
  cases dst <;> exact ⟨h.ds, h.pr, h.lo⟩
end
/-- Where a plain call stands. -/
abbrev Cx.of (w : World) (fz : Nat → Prop) (β : Nat → Option Nat) (G : Nat → Option (List PV)) : Cx := { w0 := w, fz0 := fz, β0 := β, defers := [], G := G }
theorem DM.nil (cx : Cx) (a : Act) (w : World) (fz : Nat → Prop) (β : Nat → Option Nat) (h : a.defers = cx.defers) (hp : cx.base = none) : DM cx a w fz β :=
  ⟨⟨[], h, List.nodup_nil, fun D hD => (by cases hD)⟩, fun W f b hb => (by rw [hp] at hb; cases hb), fun _ => h⟩
structure Rel (cx : Cx) (w : World) (fz : Nat → Prop) (β : Nat → Option Nat) : Prop where
  os : w.os = cx.w0.os
  tape : w.tape = cx.w0.tape
  output : w.output = cx.w0.output
  size : cx.w0.heap.size ≤ w.heap.size
  old : cx.rr = false → ∀ b, b < cx.w0.heap.size → (∀ k, cx.β0 k ≠ some b) → w.heap[b]? = cx.w0.heap[b]?
  shp : ∀ b s, cx.w0.shape? b = some s → w.shape? b = some s
  fzin : ∀ b, cx.fz0 b → fz b
  fzout : ∀ b, fz b → cx.fz0 b ∨ cx.w0.heap.size ≤ b
  bin : ∀ k b, cx.β0 k = some b → β k = some b
  bout : ∀ k b, β k = some b → cx.β0 k = some b ∨ cx.w0.heap.size ≤ b
  glob : ∀ g cs, cx.G g = some cs → RepC w fz (fun _ => none) (.eptr cs) (.pointer (some ⟨g, 0, none⟩))
  bhi : ∀ k, 1000000 ≤ k → cx.β0 k = none → β k = none
structure St where
  tmps : List AV
  objs : List (Nat × Ob)
def St.put (st : St) : Option Tmp → AV → St
  | some d, x => { st with tmps := st.tmps.set d x }
  | none, _ => st
/-- Fix the choice of names. -/
structure SR (cx : Cx) (st : St) (a : Act) (w : World) (fz : Nat → Prop) (β : Nat → Option Nat) : Prop where
  d : DM cx a w fz β
  low : ∀ k, k < 1000000 → cx.β0 k = none
  rel : Rel cx w fz β
  h : H w fz β st.objs
  t : All2 (RepA w fz β) st.tmps a.tmps.toList
def StRep (cx : Cx) (st : St) (a : Act) (w : World) : Prop := ∃ fz β, SR cx st a w fz β

theorem SR.put {cx : Cx} {st : St} {a : Act} {w : World} {fz β} (h : SR cx st a w fz β) {x : AV} {v : Value} (hx : RepA w fz β x v) (dst : Option Tmp) : SR cx (st.put dst x) (a.put dst v) w fz β := by
  cases dst with
  | none => exact h
  | some d => exact ⟨h.d.put (some d) v, h.low, h.rel, h.h, by simp only [St.put, Act.put, Array.toList_setIfInBounds]; exact h.t.set hx d⟩
theorem RepA.any {w fz β} (v : Value) : RepA w fz β (.c .any) v := trivial
end Go.Proofs.Vl
end
section
/- Groundwork for rounds: an operation walked as everywhere is walked so in a round's frame. -/
set_option linter.all false
namespace Go.Proofs.Vl
open Go
/-- The wide fence, in a round or not. -/
def fwr (r : Option Nat) : Fence := { Fence.wide with round := r }
section
variable {P : Program} {r : Option Nat} {n : Nat}
theorem fwr_none : fwr none = Fence.wide := rfl
theorem callsIn_fwr {f : FuncId} {args : Array Value} {w : World} {R : Ending → World → Prop} (h : Calls P f args w R) : CallsIn (fwr r) n P f args w R := (callsIn_wide (n := n)).2 h
theorem wpIn_of_value {o : Oper} {a : Act} {w w' : World} {v : Value} {next : Act → World → Prop} {Q : Exit → Act → World → Prop} (hnd : ∀ c, o.op ≠ .defer c) (h : (execOp a.eval o).run P w = .ok (.value v) w') (hn : next (a.put o.dst v) w') : o.wpIn (fwr r) n P a w next Q :=
  ⟨fun _ _ => trivial, by rw [Oper.semAt_eq _ _ _ hnd, h]; exact hn⟩
theorem wpIn_of_skip {o : Oper} {a : Act} {w w' : World} {next : Act → World → Prop} {Q : Exit → Act → World → Prop} (hnd : ∀ c, o.op ≠ .defer c) (h : (execOp a.eval o).run P w = .ok .skip w') (hn : next (a.put o.dst undef) w') : o.wpIn (fwr r) n P a w next Q :=
  ⟨fun _ _ => trivial, by rw [Oper.semAt_eq _ _ _ hnd, h]; exact hn⟩
theorem wpIn_of_enter {o : Oper} {a : Act} {w w' : World} {f : FuncId} {args : Array Value} {next : Act → World → Prop} {Q : Exit → Act → World → Prop} (hnd : ∀ c, o.op ≠ .defer c) (h : (execOp a.eval o).run P w = .ok (.enter f args) w')
    (hc : Calls P f args w' fun | .returned v, w'' => next (a.put o.dst v) w'' | .panicked chain, w'' => Q (.panic chain) a w'' | .outgrown, _ => LetsOut Q) : o.wpIn (fwr r) n P a w next Q :=
  ⟨fun _ _ => trivial, by rw [Oper.semAt_eq _ _ _ hnd, h]; exact ⟨fun h => (by cases h), callsIn_fwr hc⟩⟩
section
variable {b : Frame} {a : Act} {k : List Item} {cs : List Frame} {w : World}
theorem stepR_scope {c : Code} : step P (lone (b.atR a (.code (.scope c) :: k)) cs w) = .next (lone (b.atR a (.code c :: .inScope c :: k)) cs w) :=
  step_lone_go (by simp [stepG, stepG.exec, Frame.atR])
theorem stepR_inScope {c : Code} : step P (lone (b.atR a (.inScope c :: k)) cs w) = .next (lone (b.atR a k) cs w) :=
  step_lone_go (by simp [stepG, stepG.exec, Frame.atR])
end
/-- A scope without a jump, in a round or not. -/
theorem wpIn_scope {F : Fence} {Q : Exit → Act → World → Prop} {a : Act} {w : World} {c : Code} (h : c.wpIn F n P (Exit.noGoto Q) a w) : (Code.scope c).wpIn F n P Q a w := by
  intro b k cs hro hb hr
  have h0 : (lone (b.atR a (.code (.scope c) :: k)) cs w).fenced P F := fenced_calm hb hr rfl
  obtain ⟨e, a₁, w₁, hq, harr⟩ := h b (.inScope c :: k) cs hro hb hr
  cases e with
  | normal => exact ⟨.normal, a₁, w₁, hq, .head h0 stepR_scope (StepsIn.trans harr (.one (fenced_calm hb hr rfl) stepR_inScope))⟩
  | exit id =>
    have hx : exitTo id (.inScope c :: k) = exitTo id k := by simp [exitTo]
    exact ⟨_, a₁, w₁, hq, fun k' hk => .head h0 stepR_scope (harr.1 k' (by rw [hx]; exact hk)),
      fun hr' hk => let ⟨k₁, h1, h2⟩ := harr.2 hr' (by rw [hx]; exact hk); ⟨k₁, h1, .head h0 stepR_scope h2⟩⟩
  | goto l => exact hq.elim
  | ret => exact ⟨_, a₁, w₁, hq, .of_steps (.one h0 stepR_scope) harr⟩
  | panic ch => exact ⟨_, a₁, w₁, hq, .of_steps (.one h0 stepR_scope) harr⟩
  | outgrown => exact ⟨_, a₁, w₁, hq, .of_steps (.one h0 stepR_scope) harr⟩
theorem wpIn_wide_of {c : Code} {Q : Exit → Act → World → Prop} {a : Act} {w : World} (h : c.wpIn (fwr none) n P Q a w) : c.wp P Q a w := wpIn_wide.1 h
end

/-! ### Operations, in a round or not -/
def upv (P : Program) (o : Oper) (a : Act) (next : Act → World → Prop) (Q : Exit → Act → World → Prop) : Result Next → Prop
  | .ok (.value v) w' => next (a.put o.dst v) w'
  | .ok .skip w' => next (a.put o.dst undef) w'
  | .ok (.enter f args) w' => Calls P f args w' fun
      | .returned v, w'' => next (a.put o.dst v) w''
      | .panicked chain, w'' => Q (.panic chain) a w''
      | .outgrown, _ => LetsOut Q
  | .ok (.round l f tmps assign body) w' => RoundIn (fwr none) 0 P l f tmps assign body w' fun
      | .returned v, w'' => next (a.put o.dst v) w''
      | .panicked chain, w'' => Q (.panic chain) a w''
      | .outgrown, _ => LetsOut Q
  | .halt (.panic v) w' => Q (.panic [{ v, recovered := false }]) a w'
  | _ => False
def wpv (P : Program) (o : Oper) (a : Act) (w : World) (next : Act → World → Prop) (Q : Exit → Act → World → Prop) : Prop := upv P o a next Q ((execOp a.eval o).run P w)
section
variable {P : Program} {o : Oper} {a : Act} {next : Act → World → Prop} {Q : Exit → Act → World → Prop} {w : World}
theorem upv_enter {f : FuncId} {args : Array Value} : upv P o a next Q (.ok (.enter f args) w) = Calls P f args w fun
    | .returned v, w'' => next (a.put o.dst v) w''
    | .panicked chain, w'' => Q (.panic chain) a w''
    | .outgrown, _ => LetsOut Q := rfl
theorem upv_value {v : Value} : upv P o a next Q (.ok (.value v) w) = next (a.put o.dst v) w := rfl
theorem upv_skip : upv P o a next Q (.ok .skip w) = next (a.put o.dst undef) w := rfl
theorem upv_mono {next' : Act → World → Prop} (hn : ∀ a w, next a w → next' a w) {r : Result Next} (h : upv P o a next Q r) : upv P o a next' Q r := by
  cases r with
  | ok x w' =>
    cases x <;> simp only [upv] at h ⊢ <;> first
      | exact hn _ _ h
      | exact Calls.mono h (fun e w'' he => by cases e <;> first | exact hn _ _ he | exact he)
      | exact RoundIn.mono h (fun e w'' he => by cases e <;> first | exact hn _ _ he | exact he)
  | halt x w' => cases x <;> simp only [upv] at h ⊢ <;> exact h
theorem wpv_mono {next' : Act → World → Prop} (hn : ∀ a w, next a w → next' a w) (h : wpv P o a w next Q) : wpv P o a w next' Q := upv_mono hn h
theorem roundIn_fwr {r : Option Nat} {n l : Nat} {f : FuncId} {tmps : Array Value} {assign body : Code} {R : Ending → World → Prop} (h : RoundIn (fwr none) 0 P l f tmps assign body w R) : RoundIn (fwr r) n P l f tmps assign body w R :=
  ⟨h.1, fun c cs _ => h.2 c cs (fun d hd => by cases hd)⟩
theorem wpv_in {r : Option Nat} {n : Nat} (h : wpv P o a w next Q) : o.wpIn (fwr r) n P a w next Q := by
  refine ⟨fun _ _ => trivial, ?_⟩
  by_cases hd : ∃ c, o.op = .defer c
  · obtain ⟨c, hc⟩ := hd
    unfold wpv at h
    have e : execOp a.eval o = (do pure (.defer (← resolve a.eval c o.type))) := by unfold execOp; rw [hc]
    rw [e, Sem.run_bind] at h
    cases hr : (resolve a.eval c o.type).run P w with
    | ok d w' => rw [hr] at h; exact h.elim
    | halt x w' =>
      rw [hr] at h
      have e2 : (o.semAt (fwr r).round a.eval).run P w = .halt x w' := by
        cases r with
        | none => show (execOp a.eval o).run P w = _; rw [e, Sem.run_bind, hr]; rfl
        | some l => unfold Oper.semAt; rw [hc]; show (do Instr.deferInRound l (← resolve a.eval c o.type); pure Next.skip : Sem Next).run P w = _; rw [Sem.run_bind, hr]; rfl
      rw [e2]
      cases x <;> first | exact h | exact h.elim
  · rw [Oper.semAt_eq _ _ _ (fun c hc => hd ⟨c, hc⟩)]
    unfold wpv at h
    generalize (execOp a.eval o).run P w = rr at h
    cases rr with
    | ok x w' =>
      cases x <;> simp only [upv] at h <;> first
        | exact h.elim
        | exact h
        | exact ⟨fun h => (by cases h), callsIn_fwr h⟩
        | exact ⟨fun h => (by cases h), roundIn_fwr h⟩
    | halt x w' => cases x <;> simp only [upv] at h <;> first | exact h | exact h.elim
end
def wpOpV (P : Program) (ops : Array Oper) (Q : Exit → Act → World → Prop) (i : Nat) (K : Act → World → Prop) (a : Act) (w : World) : Prop :=
  match ops[i]? with
  | none => K a w
  | some o => if Region.wanted o (yielded ops a.tmps) then wpv P o a w K Q else K (a.put o.dst undef) w
def wpListV (P : Program) (ops : Array Oper) (Q : Exit → Act → World → Prop) : List Oper → Act → World → Prop
  | [], a, w => Q .normal a w
  | o :: rest, a, w => if Region.wanted o (yielded ops a.tmps) then wpv P o a w (wpListV P ops Q rest) Q else wpListV P ops Q rest (a.put o.dst undef) w
section
variable {P : Program} {ops : Array Oper} {Q : Exit → Act → World → Prop} {S : World → Prop} {r : Option Nat} {n : Nat}
theorem wpListV_in : ∀ (l : List Oper) (k : Nat), (∀ j, l[j]? = ops[k + j]?) → ∀ a w, wpListV P ops Q l a w → wpOpsIn (fwr r) n P ops Q (List.range' k l.length) a w
  | [], k, _, a, w, h => by simpa [wpOpsIn, wpListV] using h
  | o :: l, k, hl, a, w, h => by
    have h0 : ops[k]? = some o := by simpa using (hl 0).symm
    have ih := fun a w => wpListV_in l (k + 1) (fun j => by have := hl (j + 1); simpa [Nat.add_assoc, Nat.add_comm 1 j] using this) a w
    simp only [List.length_cons, List.range'_succ, wpOpsIn, h0]
    unfold wpListV at h
    split
    · rename_i hw; rw [if_pos hw] at h; exact wpv_in (wpv_mono ih h)
    · rename_i hw; rw [if_neg hw] at h; exact ⟨fun _ _ => trivial, ih _ _ h⟩
theorem wpIn_regionV {id : Nat} {l : List Oper} {a : Act} {w : World} (h : wpListV P l.toArray Q l a w) : (Code.region id l.toArray false).wpIn (fwr r) n P Q a w := by
  refine wpIn_region ?_
  have := wpListV_in (ops := l.toArray) (Q := Q) (r := r) (n := n) l 0 (fun j => by simp) a w h
  rw [List.range_eq_range']
  simpa using this
theorem wpListV_step {o : Oper} {rest : List Oper} {a : Act} {w : World} (h : ∀ K' : Act → World → Prop, (∀ a w, wpListV P ops Q rest a w → K' a w) → if Region.wanted o (yielded ops a.tmps) then wpv P o a w K' Q else K' (a.put o.dst undef) w) : wpListV P ops Q (o :: rest) a w := by
  unfold wpListV; exact h _ fun _ _ h => h
theorem wpListV_plain {o : Oper} {rest : List Oper} {a : Act} {w : World} (hg : o.guard = none) (h : ∀ K' : Act → World → Prop, (∀ a w, wpListV P ops Q rest a w → K' a w) → wpv P o a w K' Q) : wpListV P ops Q (o :: rest) a w := by
  unfold wpListV; rw [if_pos (by simp [Region.wanted, hg])]; exact h _ fun _ _ h => h
theorem wpOpV_mono {i : Nat} {a : Act} {w : World} {K K' : Act → World → Prop} (h : ∀ a w, K a w → K' a w) (hh : wpOpV P ops Q i K a w) : wpOpV P ops Q i K' a w := by
  unfold wpOpV at *
  split
  · exact h _ _ (by simpa [*] using hh)
  · rename_i o ho
    simp only [ho] at hh
    split
    · rename_i hw; simp only [hw, if_true] at hh; exact wpv_mono h hh
    · rename_i hw; simp only [hw] at hh; exact h _ _ hh
theorem YieldsIf.wpOpV {i : Nat} {o : Oper} {v : Value} {a : Act} (hi : ops[i]? = some o) (hy : YieldsIf P ops S o v a) {K : Act → World → Prop} {w : World} (hS : S w) (h : K (a.put o.dst v) w) : Vl.wpOpV P ops Q i K a w := by
  unfold Vl.wpOpV
  simp only [hi]
  rcases hy with ⟨hw, hv⟩ | ⟨hw, rfl⟩
  · simp only [hw, if_true, wpv, hv w hS, upv]; exact h
  · simp only [hw, Bool.false_eq_true, if_false]; exact h
theorem wpOpV_putIf {j : Nat} {oi oj : Oper} {v : Value} (hj : ops[j]? = some oj) (hap : oi.apart ops oj = true)
    (hsi : ∀ cs b, oi.op ≠ .select cs b) (hsj : ∀ cs b, oj.op ≠ .select cs b)
    (hQ : ∀ c a w, Q (.panic c) (a.put oi.dst v) w → Q (.panic c) a w) {K : Act → World → Prop} {a : Act} {w : World}
    (hy : YieldsIf P ops S oi v a) (h : wpOpV P ops Q j K (a.put oi.dst v) w) :
    wpOpV P ops Q j (fun a' w' => YieldsIf P ops S oi v a' ∧ K (a'.put oi.dst v) w') a w := by
  obtain ⟨h1, h2, h3⟩ := Oper.apart_spec hap
  have keep : ∀ (a : Act), YieldsIf P ops S oi v a → ∀ u, YieldsIf P ops S oi v (a.put oj.dst u) := fun a hy u =>
    hy.of_same (execOp_put oi hsi a oj.dst u h3) (wanted_put oi a oj.dst u h3)
  unfold wpOpV at *
  simp only [hj] at *
  rw [wanted_put oj a oi.dst v h1] at h
  split
  · rename_i hw
    simp only [hw, if_true] at h
    unfold wpv at *
    rw [execOp_put oj hsj a oi.dst v h1] at h
    generalize (execOp a.eval oj).run P w = r at *
    cases r with
    | ok n w' =>
      cases n <;> simp only [upv] at h ⊢
      case value u => exact ⟨keep a hy u, by rw [← Act.put_comm a v u h2]; exact h⟩
      case skip => exact ⟨keep a hy _, by rw [← Act.put_comm a v undef h2]; exact h⟩
      case enter f args =>
        refine Calls.mono h fun e w'' he => ?_
        cases e with
        | returned u => exact ⟨keep a hy u, by rw [← Act.put_comm a v u h2]; exact he⟩
        | panicked c => exact hQ _ _ _ he
        | outgrown => exact he
      case round l f tmps assign body =>
        refine RoundIn.mono h fun e w'' he => ?_
        cases e with
        | returned u => exact ⟨keep a hy u, by rw [← Act.put_comm a v u h2]; exact he⟩
        | panicked c => exact hQ _ _ _ he
        | outgrown => exact he
    | halt x w' =>
      cases x <;> simp only [upv] at h ⊢
      case panic u => exact hQ _ _ _ h
  · rename_i hw
    simp only [hw] at h
    exact ⟨keep a hy _, by rw [← Act.put_comm a v undef h2]; exact h⟩
theorem wpOpV_in {i : Nat} {K : Act → World → Prop} {a : Act} {w : World} (h : wpOpV P ops Q i K a w) : wpOpIn (fwr r) n P ops Q i K a w := by
  unfold wpOpV at h
  unfold wpOpIn
  split
  · rename_i hn; simp only [hn] at h; exact h
  · rename_i o ho
    simp only [ho] at h
    split
    · rename_i hw; rw [if_pos hw] at h; exact wpv_in h
    · rename_i hw; rw [if_neg hw] at h; exact ⟨fun _ _ => trivial, h⟩
end
end Go.Proofs.Vl
end
section
/- Rules: code and operations over values told apart from memory. -/
set_option linter.all false
namespace Go.Proofs.Vl
open Go Go.RowKit

/-! ### Code -/
def AWp (P : Program) (cx : Cx) (c : Code) (st : St) (Q : Exit → St → Prop) : Prop :=
  ∀ a w, StRep cx st a w → c.wpIn (fwr cx.rd) 0 P (fun e a' w' => ∃ st', Q e st' ∧ StRep cx st' a' w') a w
def thn (next : St → Prop) (Q : Exit → St → Prop) : Exit → St → Prop
  | .normal, st => next st
  | .exit i, st => Q (.exit i) st
  | .goto l, st => Q (.goto l) st
  | .ret, st => Q .ret st
  | .panic c, st => Q (.panic c) st
  | .outgrown, st => Q .outgrown st
def inb (id : Nat) (Q : Exit → St → Prop) : Exit → St → Prop
  | .exit id', st => if id' = id then Q .normal st else Q (.exit id') st
  | .normal, st => Q .normal st
  | .goto l, st => Q (.goto l) st
  | .ret, st => Q .ret st
  | .panic c, st => Q (.panic c) st
  | .outgrown, st => Q .outgrown st
section
variable {P : Program} {cx : Cx} {st : St} {Q Q' : Exit → St → Prop} {x y : Code}
theorem AWp.mono (h : AWp P cx x st Q) (hq : ∀ e s, Q e s → Q' e s) : AWp P cx x st Q' :=
  fun a w hs => Go.wpIn_mono (h a w hs) fun e a' w' ⟨s, q, r⟩ => ⟨s, hq _ _ q, r⟩
theorem AWp.skip (h : Q .normal st) : AWp P cx .skip st Q := fun a w hs => Go.wpIn_skip ⟨st, h, hs⟩
theorem AWp.label {l : Nat} (h : Q .normal st) : AWp P cx (.label l) st Q := fun a w hs => Go.wpIn_label ⟨st, h, hs⟩
theorem AWp.exit {i : Nat} (h : Q (.exit i) st) : AWp P cx (.exit i) st Q := fun a w hs => Go.wpIn_exit ⟨st, h, hs⟩
theorem AWp.ret (h : Q .ret st) : AWp P cx .ret st Q := fun a w hs => Go.wpIn_ret ⟨st, h, hs⟩
theorem AWp.seq (h : AWp P cx x st (thn (fun s => AWp P cx y s Q) Q)) : AWp P cx (.seq x y) st Q := fun a w hs => by
  refine Go.wpIn_seq (Go.wpIn_mono (h a w hs) ?_)
  rintro e a' w' ⟨s, q, r⟩
  cases e with
  | normal => exact q a' w' r
  | exit _ => exact ⟨s, q, r⟩
  | goto _ => exact ⟨s, q, r⟩
  | ret => exact ⟨s, q, r⟩
  | panic _ => exact ⟨s, q, r⟩
  | outgrown => exact ⟨s, q, r⟩
/-- The same, what follows under a name. -/
theorem AWp.seqh (h : ∀ y', y' = y → AWp P cx x st (thn (fun s => AWp P cx y' s Q) Q)) : AWp P cx (.seq x y) st Q := AWp.seq (h y rfl)
theorem AWp.unh (e : x = y) (h : AWp P cx y st Q) : AWp P cx x st Q := e ▸ h
theorem AWp.block {id : Nat} (h : AWp P cx x st (inb id Q)) : AWp P cx (.block id x) st Q := fun a w hs => by
  refine Go.wpIn_block (Go.wpIn_mono (h a w hs) ?_)
  rintro e a' w' ⟨s, q, r⟩
  cases e with
  | exit i => by_cases hi : i = id
              · simp only [inb, if_pos hi] at q; simp only [Exit.inBlock, if_pos hi]; exact ⟨s, q, r⟩
              · simp only [inb, if_neg hi] at q; simp only [Exit.inBlock, if_neg hi]; exact ⟨s, q, r⟩
  | normal => exact ⟨s, q, r⟩
  | goto _ => exact ⟨s, q, r⟩
  | ret => exact ⟨s, q, r⟩
  | panic _ => exact ⟨s, q, r⟩
  | outgrown => exact ⟨s, q, r⟩
/-- What one state says less than another one. -/
def Le (cx : Cx) (st st' : St) : Prop := ∀ a w, StRep cx st a w → StRep cx st' a w
theorem Le.refl : Le cx st st := fun _ _ h => h
theorem AWp.weak {st' : St} (hl : Le cx st st') (h : AWp P cx x st' Q) : AWp P cx x st Q := fun a w hs => h a w (hl a w hs)
/-- A loop: I n holds at the head; a round leaves a lesser n, or the loop. -/
theorem AWp.loop (I : Nat → St → Prop) (n : Nat) (h0 : I n st)
    (hr : ∀ n s, I n s → AWp P cx x s (thn (fun s' => ∃ m s'', m < n ∧ I m s'' ∧ Le cx s' s'') Q)) : AWp P cx (.loop x) st Q := fun a w hs => by
  refine Go.wpIn_loop_ghost (fun k a w => ∃ s, I k s ∧ StRep cx s a w) n ⟨st, h0, hs⟩ ?_
  rintro k a w ⟨s, hi, hs⟩
  refine Go.wpIn_mono (hr k s hi a w hs) ?_
  rintro e a' w' ⟨s', q, r⟩
  cases e with
  | normal => obtain ⟨m, s'', hm, hi', hl⟩ := q; exact ⟨m, hm, s'', hi', hl _ _ r⟩
  | exit _ => exact ⟨s', q, r⟩
  | goto _ => exact ⟨s', q, r⟩
  | ret => exact ⟨s', q, r⟩
  | panic _ => exact ⟨s', q, r⟩
  | outgrown => exact ⟨s', q, r⟩
end

/-! ### Operands -/
def PV.ofV : Value → PV := .s
def AV.ofV : Value → AV
  | .agg cs => .pag (cs.toList.map .s)
  | .tuple _ => .c .any
  | v => .c (.p (.s v))
def gt : List AV → Nat → AV
  | [], _ => .c .any
  | a :: _, 0 => a
  | _ :: l, n + 1 => gt l n
theorem gt_eq : ∀ (l : List AV) (n : Nat), gt l n = l.getD n (.c .any)
  | [], _ => rfl
  | a :: _, 0 => rfl
  | _ :: l, n + 1 => by simpa [gt] using gt_eq l n
def St.op (cx : Cx) (st : St) : Operand → AV
  | .tmp t => gt st.tmps t
  | .const v => AV.ofV v
  | .func f => .c (.fn f [])
  | .global g => match cx.G g with
    | some cs => .c (.eptr cs)
    | none => .c .any
/-- Values that a constant may be. -/
def okV : Value → Bool
  | .agg cs => cs.all (·.oneCell')
  | .tuple _ => true
  | v => v.oneCell'
def okOp : Operand → Bool
  | .const v => okV v
  | _ => true
theorem RepA.ofV {w fz β} {v : Value} (h : okV v = true) : RepA w fz β (AV.ofV v) v := by
  cases v with
  | agg cs =>
    refine ⟨cs.toList, by simp, ?_⟩
    have h' : ∀ u ∈ cs.toList, u.oneCell' = true := fun u hu => (Array.all_eq_true_iff_forall_mem.1 h) u (by simpa using hu)
    generalize cs.toList = l at h'
    induction l with
    | nil => exact .nil
    | cons a l ih => exact .cons (.s a (h' a (by simp))) (ih fun u hu => h' u (by simp [hu]))
  | tuple vs => trivial
  | _ => exact RepP.s _ rfl
theorem SR.op {cx : Cx} {st : St} {a : Act} {w : World} {fz β} (h : SR cx st a w fz β) (x : Operand) (hx : okOp x = true) : RepA w fz β (st.op cx x) (a.eval x) := by
  cases x with
  | tmp t =>
    simp only [St.op, Act.eval, gt_eq, List.getD]
    cases ht : st.tmps[t]? with
    | none => exact RepA.any _
    | some y =>
      obtain ⟨v, h1, h2⟩ := h.t.get ht
      have : a.tmps.getD t undef = v := by simp at h1; simp [Array.getD_eq_getD_getElem?, h1]
      rw [this]; exact h2
  | const v => exact RepA.ofV hx
  | global g =>
    simp only [St.op, Act.eval]
    cases hg : cx.G g with
    | none => exact RepA.any _
    | some cs =>
      have := h.rel.glob g cs hg
      exact RepC.adv (β' := β) this (Adv.refl _ _) (fun _ h => h) (fun k hk => by simp [CV.ref] at hk)
  | func f => exact ⟨[], rfl, .nil⟩

/-! ### Operations -/
/-- All blocks that were there are as they were. -/
def Old (w w' : World) : Prop := w.heap.size ≤ w'.heap.size ∧ ∀ b, b < w.heap.size → w'.heap[b]? = w.heap[b]?
theorem Old.refl (w : World) : Old w w := ⟨Nat.le_refl _, fun _ _ => rfl⟩
theorem Old.trans {a b c : World} (h : Old a b) (h' : Old b c) : Old a c := ⟨Nat.le_trans h.1 h'.1, fun k hk => (h'.2 k (Nat.lt_of_lt_of_le hk h.1)).trans (h.2 k hk)⟩
theorem Old.push {w w' : World} {O : Obj} (h : w'.heap = w.heap.push O) : Old w w' := ⟨by rw [h]; simp, fun b hb => by rw [h, Array.getElem?_push, if_neg (by omega)]⟩
/-- kp: it must let be all blocks that were there. -/
def OpTo (P : Program) (cx : Cx) (kp : Bool) (o : Oper) (st : St) (K : St → Prop) : Prop :=
  ∀ (a : Act) (w : World) (next : Act → World → Prop) (Qx : Exit → Act → World → Prop), StRep cx st a w → (∀ st' a' w', K st' → StRep cx st' a' w' → (kp = true → Old w w') → next a' w') → wpv P o a w next Qx
def Run (P : Program) (cx : Cx) (ds : List (Option Tmp)) : List Oper → St → (St → Prop) → Prop
  | [], st, K => K st
  | o :: r, st, K => match o.guard with
    | none => OpTo P cx false o st (fun s => Run P cx ds r s K)
    | some (j, want) => (∃ d b, ds[j]? = some (some d) ∧ st.tmps[d]? = some (.c (.p (.s (.bool b)))) ∧
        (b = want → OpTo P cx false o st (fun s => Run P cx ds r s K)) ∧ (b ≠ want → Run P cx ds r (st.put o.dst (.tup [])) K)) ∨
      (∃ d, ds[j]? = some (some d) ∧ st.tmps[d]? = some (.tup []) ∧ Run P cx ds r (st.put o.dst (.tup [])) K)
section
variable {P : Program} {cx : Cx} {st : St} {Q : Exit → St → Prop} {K : St → Prop} {ops : Array Oper} {ds : List (Option Tmp)}
theorem RepP.eq {w fz} {v u : Value} (h : RepP w fz (.s v) u) : u = v := by cases h; rfl
theorem RepA.eq {w fz β} {v u : Value} (h : RepA w fz β (.c (.p (.s v))) u) : u = v := RepP.eq h
theorem RepA.undef {w fz β} : RepA w fz β (.tup []) undef := ⟨[], rfl, .nil⟩
theorem dst_at (hds : ops.toList.map (·.dst) = ds) {j d : Nat} (h1 : ds[j]? = some (some d)) : (ops[j]?).bind (·.dst) = some d := by
  subst hds
  simp only [List.getElem?_map, Array.getElem?_toList] at h1
  cases ho : ops[j]? with
  | none => simp [ho] at h1
  | some x => simpa [ho] using h1
theorem run_sound (hds : ops.toList.map (·.dst) = ds) : ∀ (l : List Oper) (st : St), Run P cx ds l st (fun s => Q .normal s) → ∀ a w, StRep cx st a w → wpListV P ops (fun e a' w' => ∃ st', Q e st' ∧ StRep cx st' a' w') l a w
  | [], st, h, a, w, hs => ⟨st, h, hs⟩
  | o :: r, st, h, a, w, hs => by
    unfold Run at h
    cases hg : o.guard with
    | none =>
      rw [hg] at h
      exact wpListV_plain hg fun K' hK => h a w K' _ hs fun st' a' w' h1 h2 _ => hK _ _ (run_sound hds r st' h1 a' w' h2)
    | some g =>
      obtain ⟨j, want⟩ := g
      rw [hg] at h
      obtain ⟨fz, β, hs'⟩ := hs
      rcases h with ⟨d, b, h1, h2, h3, h4⟩ | ⟨d, h1, h2, h4⟩
      case inr =>
        have hy : yielded ops a.tmps j = none := by
          obtain ⟨v, h5, vs, h6, h7⟩ := hs'.t.get h2
          cases h7
          unfold yielded
          rw [dst_at hds h1, Option.bind_some, show a.tmps[d]? = some v by simpa using h5, h6]
        refine wpListV_step fun K' hK => ?_
        rw [if_neg (by simp [Region.wanted, hg, hy])]
        exact hK _ _ (run_sound hds r _ h4 _ _ ⟨fz, β, hs'.put RepA.undef o.dst⟩)
      have hy : yielded ops a.tmps j = some b := by
        obtain ⟨v, h5, h6⟩ := hs'.t.get h2
        have := RepA.eq h6; subst this
        unfold yielded
        have h0 : (ops[j]?).bind (·.dst) = some d := by
          subst hds
          simp only [List.getElem?_map, Array.getElem?_toList] at h1
          cases ho : ops[j]? with
          | none => simp [ho] at h1
          | some x => simpa [ho] using h1
        rw [h0, Option.bind_some]
        have h7 : a.tmps[d]? = some (.bool b) := by simpa using h5
        rw [h7]
      by_cases hb : b = want
      · refine wpListV_step fun K' hK => ?_
        rw [if_pos (by simp [Region.wanted, hg, hy, hb])]
        exact h3 hb a w K' _ ⟨fz, β, hs'⟩ fun st' a' w' h5 h6 _ => hK _ _ (run_sound hds r st' h5 a' w' h6)
      · refine wpListV_step fun K' hK => ?_
        rw [if_neg (by simp [Region.wanted, hg, hy, hb])]
        exact hK _ _ (run_sound hds r _ (h4 hb) _ _ ⟨fz, β, hs'.put RepA.undef o.dst⟩)
theorem AWp.region {id : Nat} {l : List Oper} (hds : l.map (·.dst) = ds) (h : Run P cx ds l st (fun s => Q .normal s)) : AWp P cx (.region id l.toArray false) st Q :=
  fun a w hs => wpIn_regionV (run_sound (by simpa using hds) l st h a w hs)
theorem Run.nil (h : K st) : Run P cx ds [] st K := h
variable {o : Oper} {r : List Oper}
theorem Run.cons (hg : o.guard = none) (h : OpTo P cx false o st (fun s => Run P cx ds r s K)) : Run P cx ds (o :: r) st K := by
  unfold Run; rw [hg]; exact h
theorem Run.yes {j d : Nat} {b : Bool} (hg : o.guard = some (j, b)) (hd : ds[j]? = some (some d)) (hb : st.tmps[d]? = some (.c (.p (.s (.bool b)))))
    (h : OpTo P cx false o st (fun s => Run P cx ds r s K)) : Run P cx ds (o :: r) st K := by
  unfold Run; rw [hg]; exact .inl ⟨d, b, hd, hb, fun _ => h, fun hn => absurd rfl hn⟩
theorem Run.no {j d : Nat} {b b' : Bool} (hg : o.guard = some (j, b)) (hd : ds[j]? = some (some d)) (hb : st.tmps[d]? = some (.c (.p (.s (.bool b'))))) (hne : b' ≠ b)
    (h : Run P cx ds r (st.put o.dst (.tup [])) K) : Run P cx ds (o :: r) st K := by
  unfold Run; rw [hg]; exact .inl ⟨d, b', hd, hb, fun he => absurd he hne, fun _ => h⟩
theorem Run.noU {j d : Nat} {b : Bool} (hg : o.guard = some (j, b)) (hd : ds[j]? = some (some d)) (hb : st.tmps[d]? = some (.tup [])) (h : Run P cx ds r (st.put o.dst (.tup [])) K) : Run P cx ds (o :: r) st K := by
  unfold Run; rw [hg]; exact .inr ⟨d, hd, hb, h⟩

variable {kp : Bool}
theorem Old.cell {w w' : World} (h : Old w w') {a : Addr} {v : Value} (hc : w.cell? a = some v) : w'.cell? a = some v :=
  (World.cell?_of_block (w := w) (h.2 a.block (World.block_lt_of_cell? w a hc))).trans hc
/-- An operation that leaves the world alone and yields a value (pu: in whatever world; else: in every world that still has the blocks). -/
def Val (P : Program) (cx : Cx) (pu : Bool) (o : Oper) (st : St) (x : AV) : Prop :=
  ∀ a w fz β, SR cx st a w fz β → ∃ v, RepA w fz β x v ∧ ∀ w', (pu = true ∨ Old w w') → (execOp a.eval o).run P w' = .ok (.value v) w'
variable {pu : Bool}
theorem Val.imp {x : AV} (h : Val P cx pu o st x) : Val P cx false o st x := fun a w fz β hs =>
  let ⟨v, h1, h2⟩ := h a w fz β hs; ⟨v, h1, fun w' hw => h2 w' (.inr (hw.resolve_left (by simp)))⟩
theorem OpTo.of {x : AV} (h : Val P cx pu o st x) (k : K (st.put o.dst x)) : OpTo P cx kp o st K := by
  intro a w next Qx ⟨fz, β, hs⟩ hn
  obtain ⟨v, h1, h2⟩ := h a w fz β hs
  unfold wpv
  rw [h2 w (.inr (Old.refl w))]
  exact hn _ _ _ k ⟨fz, β, hs.put h1 o.dst⟩ (fun _ => Old.refl w)
theorem Val.pure {v : Value} (hv : okV v = true) (h : ∀ a w fz β, SR cx st a w fz β → ∀ w', (execOp a.eval o).run P w' = .ok (.value v) w') : Val P cx true o st (AV.ofV v) :=
  fun a w fz β hs => ⟨v, RepA.ofV hv, fun w' _ => h a w fz β hs w'⟩
variable {dst : Option Tmp} {ty : TypeId} {pos : String} {af : Array Edge} {gd : Option (Nat × Bool)} {x y : Operand}
theorem Val.move (hx : okOp x = true) : Val P cx true ⟨dst, .move x, ty, pos, af, gd⟩ st (st.op cx x) :=
  fun a w fz β hs => ⟨a.eval x, hs.op x hx, fun _ _ => rfl⟩
theorem Val.assign (hx : okOp x = true) : Val P cx true ⟨dst, .assign x, ty, pos, af, gd⟩ st (st.op cx x) :=
  fun a w fz β hs => ⟨a.eval x, hs.op x hx, fun _ _ => rfl⟩
theorem SR.eq {a : Act} {w : World} {fz β} (h : SR cx st a w fz β) {x : Operand} {v : Value} (hx : st.op cx x = .c (.p (.s v))) (ho : okOp x = true) : a.eval x = v := by
  have := h.op x ho
  rw [hx] at this
  exact RepA.eq this
theorem Val.pick {c : Operand} {b : Bool} (hc : st.op cx c = .c (.p (.s (.bool b)))) (h1 : okOp x = true) (h2 : okOp y = true) (hc1 : okOp c = true) :
    Val P cx true ⟨dst, .pick c x y, ty, pos, af, gd⟩ st (if b then st.op cx x else st.op cx y) :=
  fun a w fz β hs => ⟨if b then a.eval x else a.eval y, by cases b; exact hs.op y h2; exact hs.op x h1, fun w' _ => by
    have := hs.eq hc hc1
    cases b <;> simp [execOp, this, asBool]⟩
theorem Val.bin {op : BinOp} {tx t2 : TypeId} {u v z : Value} (hx : st.op cx x = .c (.p (.s u))) (hy : st.op cx y = .c (.p (.s v))) (h1 : okOp x = true) (h2 : okOp y = true) (hz : okV z = true)
    (hr : ∀ w, (binOp op tx u v).run P w = .ok z w) (he : ∀ w, (eqGuard op tx x y u v).run P w = .ok () w) : Val P cx true ⟨dst, .binOp op tx x y t2, ty, pos, af, gd⟩ st (AV.ofV z) :=
  Val.pure hz (fun a w fz β hs w' => by
    have e1 := hs.eq hx h1
    have e2 := hs.eq hy h2
    simp [execOp, e1, e2, he, hr])
theorem eqGuard_int (op : BinOp) (tx : TypeId) (x y : Operand) (k j : IntKind) (a b : Int) (w : World) : (eqGuard op tx x y (.int k a) (.int j b)).run P w = .ok () w := by
  cases op <;> rfl
/-- What an operator makes of two whole numbers of one kind. -/
def iop (op : BinOp) (k : IntKind) (a b : Int) : Value := match op with
  | .add => .int k (k.wrap (a + b))
  | .sub => .int k (k.wrap (a - b))
  | .mul => .int k (k.wrap (a * b))
  | .and => .int k (bits .and k a b)
  | .or => .int k (bits .or k a b)
  | .xor => .int k (bits .xor k a b)
  | .andNot => .int k (bits .andNot k a b)
  | .eql => .bool (a == b)
  | .neq => .bool (a != b)
  | .lss => .bool (decide (a < b))
  | .leq => .bool (decide (a ≤ b))
  | .gtr => .bool (decide (a > b))
  | .geq => .bool (decide (a ≥ b))
  | _ => undef
def iopB : BinOp → Bool
  | .quo | .rem | .shl | .shr => false
  | _ => true
theorem run_iop {op : BinOp} (ho : iopB op = true) (tx : TypeId) (k : IntKind) (a b : Int) (w : World) : (binOp op tx (.int k a) (.int k b)).run P w = .ok (iop op k a b) w := by
  cases op <;> first | (simp [iopB] at ho; done) | (simp [binOp, iop, Op.intArith, Op.intBits, Op.intCmp, bits]; done) | rfl
theorem okV_iop {op : BinOp} (ho : iopB op = true) (k : IntKind) (a b : Int) : okV (iop op k a b) = true := by
  cases op <;> first | rfl | (simp [iopB] at ho; done)
theorem Val.int2 {op : BinOp} {tx t2 : TypeId} {kd : IntKind} {u v : Int} (ho : iopB op = true) (hx : st.op cx x = .c (.p (.s (.int kd u)))) (hy : st.op cx y = .c (.p (.s (.int kd v)))) (h1 : okOp x = true) (h2 : okOp y = true) :
    Val P cx true ⟨dst, .binOp op tx x y t2, ty, pos, af, gd⟩ st (AV.ofV (iop op kd u v)) :=
  Val.bin hx hy h1 h2 (okV_iop ho _ _ _) (run_iop ho tx kd u v) (fun w => eqGuard_int op tx x y kd kd u v w)
theorem Val.quo {tx t2 : TypeId} {kd : IntKind} {u v : Int} (hx : st.op cx x = .c (.p (.s (.int kd u)))) (hy : st.op cx y = .c (.p (.s (.int kd v)))) (h1 : okOp x = true) (h2 : okOp y = true) (h0 : v ≠ 0) :
    Val P cx true ⟨dst, .binOp .quo tx x y t2, ty, pos, af, gd⟩ st (AV.ofV (.int kd (kd.wrap (u.tdiv v)))) :=
  Val.bin hx hy h1 h2 rfl (fun w => by simp [binOp, Op.intDiv, h0]) (fun w => eqGuard_int _ tx x y kd kd u v w)
theorem Val.rem {tx t2 : TypeId} {kd : IntKind} {u v : Int} (hx : st.op cx x = .c (.p (.s (.int kd u)))) (hy : st.op cx y = .c (.p (.s (.int kd v)))) (h1 : okOp x = true) (h2 : okOp y = true) (h0 : v ≠ 0) :
    Val P cx true ⟨dst, .binOp .rem tx x y t2, ty, pos, af, gd⟩ st (AV.ofV (.int kd (u.tmod v))) :=
  Val.bin hx hy h1 h2 rfl (fun w => by simp [binOp, Op.intDiv, h0]) (fun w => eqGuard_int _ tx x y kd kd u v w)
theorem Val.shl {tx t2 : TypeId} {kd kj : IntKind} {u v : Int} (hx : st.op cx x = .c (.p (.s (.int kd u)))) (hy : st.op cx y = .c (.p (.s (.int kj v)))) (h1 : okOp x = true) (h2 : okOp y = true) (h0 : 0 ≤ v) :
    Val P cx true ⟨dst, .binOp .shl tx x y t2, ty, pos, af, gd⟩ st (AV.ofV (.int kd (kd.wrap (u * 2 ^ (min v.toNat kd.bits))))) :=
  Val.bin hx hy h1 h2 rfl (fun w => by simp [binOp, Op.shift, show ¬ v < 0 by omega]) (fun w => eqGuard_int _ tx x y kd kj u v w)
theorem Val.shr {tx t2 : TypeId} {kd kj : IntKind} {u v : Int} (hx : st.op cx x = .c (.p (.s (.int kd u)))) (hy : st.op cx y = .c (.p (.s (.int kj v)))) (h1 : okOp x = true) (h2 : okOp y = true) (h0 : 0 ≤ v) :
    Val P cx true ⟨dst, .binOp .shr tx x y t2, ty, pos, af, gd⟩ st (AV.ofV (.int kd (u.fdiv (2 ^ (min v.toNat kd.bits))))) :=
  Val.bin hx hy h1 h2 rfl (fun w => by simp [binOp, Op.shift, show ¬ v < 0 by omega]) (fun w => eqGuard_int _ tx x y kd kj u v w)
theorem Val.not {tx : TypeId} {b : Bool} (hx : st.op cx x = .c (.p (.s (.bool b)))) (h1 : okOp x = true) : Val P cx true ⟨dst, .unOp .not tx x, ty, pos, af, gd⟩ st (AV.ofV (.bool !b)) :=
  Val.pure rfl (fun a w fz β hs w' => by have e := hs.eq hx h1; simp [execOp, e, Op.unary])
theorem Val.convI {sr ds : TypeId} {kd kj : IntKind} {u : Int} (hx : st.op cx x = .c (.p (.s (.int kj u)))) (h1 : okOp x = true) {D : TypeDesc} (hs1 : P.underlying sr = some D) (hs2 : P.underlying ds = some (.int kd)) :
    Val P cx true ⟨dst, .convert sr ds x, ty, pos, af, gd⟩ st (AV.ofV (.int kd (kd.wrap u))) :=
  Val.pure rfl (fun a w fz β hs w' => by
    have e := hs.eq hx h1
    simp [execOp, e, convert, run_underlying hs1, run_underlying hs2, Conv.intToInt])
theorem RepT.av {w fz β} {x : TV} {v : Value} (h : RepT w fz β x v) : RepA w fz β x.av v := by cases x <;> exact h
theorem Val.extract {j : Nat} {xs : List TV} {z : TV} (hx : st.op cx x = .tup xs) (h1 : okOp x = true) (hz : xs[j]? = some z) : Val P cx true ⟨dst, .extract x j, ty, pos, af, gd⟩ st z.av :=
  fun a w fz β hs => by
    have h2 := hs.op x h1
    rw [hx] at h2
    obtain ⟨vs, h3, h4⟩ := h2
    obtain ⟨v, h5, h6⟩ := h4.get hz
    exact ⟨v, h6.av, fun w' _ => by simp [execOp, Instr.extract, h3, h5]⟩
end
end Go.Proofs.Vl
end
section
/- Rules over memory: loads, stores, new blocks, rows. -/
set_option linter.all false
namespace Go.Proofs.Vl
open Go Go.RowKit

section
variable {P : Program} {cx : Cx} {st : St} {a : Act} {w : World} {fz : Nat → Prop} {β : Nat → Option Nat}

/-! ### Worlds that step on -/
def bup (β : Nat → Option Nat) (d : Nat) (b : Option Nat) : Nat → Option Nat := fun k => if k = d then b else β k
theorem bup_same (β : Nat → Option Nat) (d : Nat) (b : Option Nat) : bup β d b d = b := by simp [bup]
theorem bup_other (β : Nat → Option Nat) (d : Nat) (b : Option Nat) {k : Nat} (h : k ≠ d) : bup β d b k = β k := by simp [bup, h]
def St.noref (st : St) (d : Nat) : Bool := st.tmps.all (fun x => !x.ref d) && st.objs.all (fun x => x.1 == d || !x.2.ref d)
theorem St.noref_t {d : _} (h : st.noref d = true) {x : AV} (hx : x ∈ st.tmps) : x.ref d = false := by
  simp only [St.noref, Bool.and_eq_true, List.all_eq_true] at h
  simpa using h.1 x hx
theorem find_mem {os : List (Nat × Ob)} {k : Nat} {o : Ob} (h : find os k = some o) : (k, o) ∈ os := by
  induction os with
  | nil => simp [find] at h
  | cons x r ih =>
    obtain ⟨j, p⟩ := x
    rw [find_cons] at h
    by_cases hj : j = k
    · rw [if_pos hj] at h; cases h; subst hj; exact List.mem_cons_self
    · rw [if_neg hj] at h; exact List.mem_cons_of_mem _ (ih h)
theorem St.noref_o {d : _} (h : st.noref d = true) {k : Nat} {o : Ob} (hk : find st.objs k = some o) (hne : k ≠ d) : o.ref d = false := by
  simp only [St.noref, Bool.and_eq_true, List.all_eq_true] at h
  have := h.2 _ (find_mem hk)
  simpa [hne] using this
theorem cellAt {w : World} {b : Nat} {vs : List Value} {T : TypeId} {fr : Nat × Nat} (h : w.heap[b]? = some (.cells vs.toArray T fr)) (j : Nat) : w.cell? ⟨b, j, none⟩ = vs[j]? := by
  simp [World.cell?, h]
theorem shapeAt {w : World} {b : Nat} {vs : List Value} {T : TypeId} {fr : Nat × Nat} (h : w.heap[b]? = some (.cells vs.toArray T fr)) : w.shape? b = some (T, vs.length) := by
  simp [World.shape?, h]
theorem shape_eq {w w' : World} {b : Nat} (h : w'.heap[b]? = w.heap[b]?) : w'.shape? b = w.shape? b := by simp [World.shape?, h]
theorem shape_lt {w : World} {b : Nat} {s} (h : w.shape? b = some s) : b < w.heap.size := by
  unfold World.shape? at h
  split at h
  · rename_i hh; exact (Array.getElem?_eq_some_iff.1 hh).1
  · cases h
theorem Stp.bupN (w : World) (fz : Nat → Prop) (β : Nat → Option Nat) (d : Nat) : Stp w fz β w fz (bup β d none) := .here (fun _ h => h) (fun _ _ h => .inl h) (fun k b _ h => by
  by_cases hk : k = d
  · subst hk; rw [bup_same] at h; cases h
  · rw [bup_other _ _ _ hk] at h; exact ⟨k, h⟩)
theorem RepC.glob_adv {w' : World} {fz' : Nat → Prop} {cs : List PV} {v : Value} (h : RepC w fz (fun _ => none) (.eptr cs) v) (hA : Adv fz w w') (hs : ∀ b, fz b → fz' b) : RepC w' fz' (fun _ => none) (.eptr cs) v :=
  RepC.adv h hA hs (fun k hk => rfl)

/-- A new block under key d. -/
theorem SR.mk' (h : SR cx st a w fz β) {d : Nat} (hlow : d < 1000000) (hd : st.noref d = true) (ob : Ob) (hr : ob.ref d = false) {w' : World} (hw : w'.os = w.os ∧ w'.tape = w.tape ∧ w'.output = w.output) (o : Obj) (hh : w'.heap = w.heap.push o)
    (hrep : RepO w' fz (bup β d (some w.heap.size)) d ob) :
    SR cx ⟨st.tmps, upd st.objs d ob⟩ a w' fz (bup β d (some w.heap.size)) := by
  have hsz : w'.heap.size = w.heap.size + 1 := by rw [hh]; simp
  have hold : ∀ b, b < w.heap.size → w'.heap[b]? = w.heap[b]? := fun b hb => by rw [hh, Array.getElem?_push, if_neg (by omega)]
  have hA : Adv fz w w' := .of (fun b hb => hold b (h.h.fzlt b hb)) (fun b s hs => (shape_eq (hold b (shape_lt hs))).trans hs)
  have hst : Stp w fz β w' fz (bup β d (some w.heap.size)) := ⟨hw.1, hw.2.1, hw.2.2, by rw [hsz]; exact Nat.le_succ _, fun b hb _ => hold b hb, hA.shp, fun b _ hb => .inl hb, fun k b hb hk => by
    by_cases hkd : k = d
    · subst hkd; rw [bup_same] at hk; cases hk; omega
    · rw [bup_other _ _ _ hkd] at hk; exact ⟨k, hk⟩, fun _ h => h⟩
  refine ⟨h.d.stp hst, h.low, ⟨hw.1.trans h.rel.os, hw.2.1.trans h.rel.tape, hw.2.2.trans h.rel.output, by rw [hsz]; exact Nat.le_succ_of_le h.rel.size, ?_, fun b s hs => hA.shp b s (h.rel.shp b s hs), h.rel.fzin, h.rel.fzout, ?_, ?_, fun g cs hg => (h.rel.glob g cs hg).glob_adv hA (fun _ h => h), fun k hk h0 => (bup_other _ _ _ (by omega)).trans (h.rel.bhi k hk h0)⟩, ⟨?_, ?_, ?_, ?_, ?_⟩, ?_⟩
  · intro hrr b hb hn
    rw [hold b (Nat.lt_of_lt_of_le hb h.rel.size)]
    exact h.rel.old hrr b hb hn
  · intro k b hk
    by_cases hkd : k = d
    · subst hkd; rw [h.low k hlow] at hk; cases hk
    · rw [bup_other _ _ _ hkd]; exact h.rel.bin k b hk
  · intro k b hk
    by_cases hkd : k = d
    · subst hkd; rw [bup_same] at hk; cases hk; exact .inr h.rel.size
    · rw [bup_other _ _ _ hkd] at hk; exact h.rel.bout k b hk
  · intro k b hk
    by_cases hkd : k = d
    · subst hkd; rw [bup_same] at hk; cases hk; omega
    · rw [bup_other _ _ _ hkd] at hk; have := h.h.lt k b hk; omega
  · intro b hb; have := h.h.fzlt b hb; omega
  · intro k k' b h1 h2
    by_cases hk : k = d <;> by_cases hk' : k' = d
    · exact hk.trans hk'.symm
    · rw [hk, bup_same] at h1; rw [bup_other _ _ _ hk'] at h2; cases h1; have := h.h.lt _ _ h2; omega
    · rw [hk', bup_same] at h2; rw [bup_other _ _ _ hk] at h1; cases h2; have := h.h.lt _ _ h1; omega
    · rw [bup_other _ _ _ hk] at h1; rw [bup_other _ _ _ hk'] at h2; exact h.h.inj _ _ _ h1 h2
  · intro b hb k hk
    by_cases hkd : k = d
    · subst hkd; rw [bup_same] at hk; cases hk; have := h.h.fzlt _ hb; omega
    · rw [bup_other _ _ _ hkd] at hk; exact h.h.apart b hb k hk
  · intro k o' hk
    rw [find_upd] at hk
    by_cases hkd : d = k
    · subst hkd; rw [if_pos rfl] at hk; cases hk; exact hrep
    · rw [if_neg hkd] at hk
      refine (h.h.ob k o' hk).adv hA (fun _ h => h) (bup_other _ _ _ (Ne.symm hkd)) (fun b hb => hold b (h.h.lt k b hb)) (fun j hj => bup_other _ _ _ ?_) hst
      intro e; subst e; rw [St.noref_o hd hk (Ne.symm hkd)] at hj; cases hj
  · refine h.t.mono fun x v hx hv => hv.adv hA (fun _ h => h) (fun j hj => bup_other _ _ _ ?_)
    intro e; subst e; rw [St.noref_t hd hx] at hj; cases hj

/-- The block of key k is written: as many cells as it had. -/
theorem SR.wr (h : SR cx st a w fz β) {k b : Nat} (hk : β k = some b) {vs vs' : List Value} {T : TypeId} (hb : w.heap[b]? = some (.cells vs.toArray T (0, 0))) (hlen : vs'.length = vs.length)
    (ob : Ob) (hrep : ∀ w', Adv fz w w' → w'.heap[b]? = some (.cells vs'.toArray T (0, 0)) → RepO w' fz β k ob) :
    SR cx ⟨st.tmps, upd st.objs k ob⟩ a (w.setRow b vs'.toArray) fz β := by
  have hw : (w.setRow b vs'.toArray).heap[b]? = some (.cells vs'.toArray T (0, 0)) := setRow_heap w b _ _ T _ hb
  have ho : ∀ j, j ≠ b → (w.setRow b vs'.toArray).heap[j]? = w.heap[j]? := fun j hj => setRow_other w b j _ hj
  have hA : Adv fz w (w.setRow b vs'.toArray) := .of (fun j hj => ho j (fun e => h.h.apart j hj k (e ▸ hk))) (fun j s hs => by
    by_cases hj : j = b
    · subst hj; rw [shapeAt hb] at hs; rw [shapeAt hw, hlen]; exact hs
    · exact (shape_eq (ho j hj)).trans hs)
  have hsz : (w.setRow b vs'.toArray).heap.size = w.heap.size := by simp [World.setRow]
  have hst : Stp w fz β (w.setRow b vs'.toArray) fz β := ⟨rfl, rfl, rfl, by rw [hsz]; exact Nat.le_refl _, fun j _ hn => ho j (fun e => hn k (e ▸ hk)), hA.shp, fun b _ h => .inl h, fun k b _ h => ⟨k, h⟩, fun _ h => h⟩
  refine ⟨h.d.stp hst, h.low, ⟨h.rel.os, h.rel.tape, h.rel.output, by rw [hsz]; exact h.rel.size, ?_, fun b s hs => hA.shp b s (h.rel.shp b s hs), h.rel.fzin, h.rel.fzout, h.rel.bin, h.rel.bout, fun g cs hg => (h.rel.glob g cs hg).glob_adv hA (fun _ h => h), h.rel.bhi⟩, ⟨?_, ?_, h.h.inj, h.h.apart, ?_⟩, ?_⟩
  · intro hrr j hj hn
    rw [ho j ?_]
    · exact h.rel.old hrr j hj hn
    · intro e; subst e
      rcases h.rel.bout k j hk with h1 | h1
      · exact hn k h1
      · omega
  · intro k b hk; rw [hsz]; exact h.h.lt k b hk
  · intro b hb; rw [hsz]; exact h.h.fzlt b hb
  · intro k' o' hk'
    rw [find_upd] at hk'
    by_cases he : k = k'
    · subst he; rw [if_pos rfl] at hk'; cases hk'; exact hrep _ hA hw
    · rw [if_neg he] at hk'
      exact (h.h.ob k' o' hk').adv hA (fun _ h => h) rfl (fun j hj => ho j (fun e => he (h.h.inj _ _ _ hk (e ▸ hj)))) (fun _ _ => rfl) hst
  · exact h.t.mono fun x v hx hv => hv.adv hA (fun _ h => h) (fun _ _ => rfl)

/-! ### Types -/
def tyI (P : Program) (T : TypeId) : Option (Option Nat) :=
  match P.underlying T, P.info? T with
  | some (.struct _), some i | some (.array _ _), some i => some (some i.size)
  | some _, some _ => some none
  | _, _ => none
def tyZ (P : Program) (T : TypeId) : Option (Nat × Nat) := (P.info? T).map fun i => (i.size, i.bytes)
theorem run_loadVar1 {T : TypeId} (hT : tyI P T = some none) (p : Addr) {v : Value} (hv : w.cell? p = some v) : (loadVar T p).run P w = .ok v w := by
  unfold tyI at hT
  cases hu : P.underlying T with
  | none => simp [hu] at hT
  | some D =>
    cases hi : P.info? T with
    | none => cases D <;> simp [hu, hi] at hT
    | some i => cases D <;> simp [hu, hi] at hT <;> simp [loadVar, isAgg, run_underlying hu, hv]
theorem run_loadVarN {T : TypeId} {n : Nat} (hT : tyI P T = some (some n)) (b o : Nat) (vs : List Value) (hn : vs.length = n) (hv : ∀ (j : Nat) v, vs[j]? = some v → w.cell? ⟨b, o + j, none⟩ = some v) : (loadVar T ⟨b, o, none⟩).run P w = .ok (.agg vs.toArray) w := by
  subst hn
  have hl : (loadCells ⟨b, o, none⟩ vs.length).run P w = .ok vs.toArray w := run_loadCells_list (P := P) w ⟨b, o, none⟩ vs (fun j v h => by rw [Addr.add_lit]; exact hv j v h)
  unfold tyI at hT
  cases hu : P.underlying T with
  | none => simp [hu] at hT
  | some D =>
    cases hi : P.info? T with
    | none => cases D <;> simp [hu, hi] at hT
    | some i => cases D <;> simp [hu, hi] at hT <;> simp [loadVar, isAgg, run_underlying hu, sizeOf, typeInfo, hi, hT, hl]

/-! ### Places that are read -/
def placeP (st : St) : AV → Option (List PV)
  | .c (.ptr k off) => match find st.objs k with
    | some (.pcells _ cs) => some (cs.drop off)
    | _ => none
  | .c (.rptr k sz i c) => match find st.objs k with
    | some (.row _ sz' xs) => if sz = sz' then (xs[i]?).map (·.drop c) else none
    | _ => none
  | .c (.eptr cs) => some cs
  | _ => none
def placeC (st : St) : AV → Option (List CV)
  | .c (.ptr k off) => match find st.objs k with
    | some (.cells _ cs) => some (cs.drop off)
    | _ => none
  | _ => none
theorem flat_get {α : Type} {sz : Nat} : ∀ {xs : List (List α)}, (∀ cs ∈ xs, cs.length = sz) → ∀ {i : Nat} {cs : List α}, xs[i]? = some cs → ∀ c : Nat, c < sz → xs.flatten[i * sz + c]? = cs[c]?
  | [], _, i, cs, h, c, _ => by simp at h
  | x :: xs, hl, i, cs, h, c, hc => by
    have hx := hl x List.mem_cons_self
    cases i with
    | zero =>
      simp at h; subst h
      simp only [Nat.zero_mul, Nat.zero_add, List.flatten_cons]
      rw [List.getElem?_append_left (by omega)]
    | succ i =>
      simp only [List.getElem?_cons_succ] at h
      simp only [List.flatten_cons]
      rw [List.getElem?_append_right (by rw [hx, Nat.succ_mul]; omega), hx]
      rw [← flat_get (fun cs hcs => hl cs (List.mem_cons_of_mem _ hcs)) h c hc]
      congr 1
      rw [Nat.succ_mul]; omega
theorem flat_len {α : Type} {sz : Nat} : ∀ {xs : List (List α)}, (∀ cs ∈ xs, cs.length = sz) → xs.flatten.length = xs.length * sz
  | [], _ => by simp
  | x :: xs, hl => by
    rw [List.flatten_cons, List.length_append, hl x List.mem_cons_self, flat_len (fun cs h => hl cs (List.mem_cons_of_mem _ h)), List.length_cons, Nat.succ_mul, Nat.add_comm]
/-- A cell of a row, in the block. -/
theorem row_at {T : TypeId} {sz : Nat} {xs : List (List PV)} {vs : List Value} (hl : ∀ cs ∈ xs, cs.length = sz) (hf : All2 (RepP w fz) xs.flatten (vs.take (xs.length * sz))) {i : Nat} {cs : List PV} (hi : xs[i]? = some cs) {c : Nat} {x : PV} (hc : cs[c]? = some x) : ∃ v, vs[i * sz + c]? = some v ∧ RepP w fz x v := by
  have hcs := hl cs (List.mem_of_getElem? hi)
  have hlt : c < sz := by have := (List.getElem?_eq_some_iff.1 hc).1; omega
  obtain ⟨v, h1, h2⟩ := hf.get ((flat_get hl hi c hlt).trans hc)
  rw [List.getElem?_take] at h1
  split at h1
  · exact ⟨v, h1, h2⟩
  · cases h1
theorem SR.placeP (h : SR cx st a w fz β) {x : AV} {v : Value} (hx : RepA w fz β x v) {cs : List PV} (hp : placeP st x = some cs) :
    ∃ b o, v = .pointer (some ⟨b, o, none⟩) ∧ ∀ (c : Nat) y, cs[c]? = some y → ∃ u, w.cell? ⟨b, o + c, none⟩ = some u ∧ RepP w fz y u := by
  cases x with
  | c x =>
    cases x with
    | ptr k off =>
      obtain ⟨b, h1, h2⟩ := hx
      refine ⟨b, off, h2, fun c y hy => ?_⟩
      unfold Vl.placeP at hp
      cases hf : find st.objs k with
      | none => simp [hf] at hp
      | some ob =>
        cases ob with
        | pcells T cs' =>
          simp only [hf, Option.some.injEq] at hp
          subst hp
          obtain ⟨b', vs, h3, h4, h5⟩ := h.h.ob k _ hf
          rw [h1] at h3; cases h3
          rw [List.getElem?_drop] at hy
          obtain ⟨u, h6, h7⟩ := h5.get hy
          exact ⟨u, (cellAt h4 _).trans h6, h7⟩
        | _ => simp [hf] at hp
    | rptr k sz i c =>
      obtain ⟨b, h1, h2⟩ := hx
      refine ⟨b, i * sz + c, h2, fun c' y hy => ?_⟩
      unfold Vl.placeP at hp
      cases hf : find st.objs k with
      | none => simp [hf] at hp
      | some ob =>
        cases ob with
        | row T sz' xs =>
          simp only [hf] at hp
          by_cases hs : sz = sz'
          · subst hs
            rw [if_pos rfl] at hp
            cases hxi : xs[i]? with
            | none => simp [hxi] at hp
            | some cs' =>
              simp only [hxi, Option.map_some, Option.some.injEq] at hp
              subst hp
              rcases h.h.ob k _ hf with ⟨h3, h4⟩ | ⟨b', vs, h3, h4, h5, h6, h7⟩
              · subst h4; simp at hxi
              · rw [h1] at h3; cases h3
                rw [List.getElem?_drop] at hy
                obtain ⟨u, h8, h9⟩ := row_at (T := T) h6 h7 hxi hy
                exact ⟨u, by rw [cellAt h4, Nat.add_assoc]; exact h8, h9⟩
          · simp [hs] at hp
        | _ => simp [hf] at hp
    | eptr cs' =>
      simp only [Vl.placeP, Option.some.injEq] at hp
      subst hp
      obtain ⟨b, o, h1, h2, h3⟩ := hx
      exact ⟨b, o, h1, h3⟩
    | _ => simp [Vl.placeP] at hp
  | _ => simp [Vl.placeP] at hp
theorem SR.placeC (h : SR cx st a w fz β) {x : AV} {v : Value} (hx : RepA w fz β x v) {cs : List CV} (hp : placeC st x = some cs) :
    ∃ b o, v = .pointer (some ⟨b, o, none⟩) ∧ ∀ (c : Nat) y, cs[c]? = some y → ∃ u, w.cell? ⟨b, o + c, none⟩ = some u ∧ RepC1 w fz β y u := by
  cases x with
  | c x =>
    cases x with
    | ptr k off =>
      obtain ⟨b, h1, h2⟩ := hx
      refine ⟨b, off, h2, fun c y hy => ?_⟩
      unfold Vl.placeC at hp
      cases hf : find st.objs k with
      | none => simp [hf] at hp
      | some ob =>
        cases ob with
        | cells T cs' =>
          simp only [hf, Option.some.injEq] at hp
          subst hp
          obtain ⟨b', vs, h3, h4, h5⟩ := h.h.ob k _ hf
          rw [h1] at h3; cases h3
          rw [List.getElem?_drop] at hy
          obtain ⟨u, h6, h7⟩ := h5.get hy
          exact ⟨u, (cellAt h4 _).trans h6, h7⟩
        | _ => simp [hf] at hp
    | _ => simp [Vl.placeC] at hp
  | _ => simp [Vl.placeC] at hp
/-- The values of a place's first n cells. -/
theorem place_vals {α : Type} {R : α → Value → Prop} {b : Nat} : ∀ (cs : List α) (o : Nat), (∀ (c : Nat) y, cs[c]? = some y → ∃ u, w.cell? ⟨b, o + c, none⟩ = some u ∧ R y u) → ∃ vs : List Value, All2 R cs vs ∧ ∀ (j : Nat) v, vs[j]? = some v → w.cell? ⟨b, o + j, none⟩ = some v
  | [], o, _ => ⟨[], .nil, fun j v h => by simp at h⟩
  | c :: cs, o, h => by
    obtain ⟨u, h1, h2⟩ := h 0 c rfl
    obtain ⟨vs, h3, h4⟩ := place_vals (b := b) cs (o + 1) (fun j y hy => by have := h (j + 1) y hy; rwa [show o + (j + 1) = o + 1 + j by omega] at this)
    refine ⟨u :: vs, .cons h2 h3, fun j v hv => ?_⟩
    cases j with
    | zero => simp at hv; subst hv; exact h1
    | succ j => have := h4 j v (by simpa using hv); rwa [show o + 1 + j = o + (j + 1) by omega] at this

variable {kp : Bool} {K : St → Prop} {dst : Option Tmp} {ty T : TypeId} {pos : String} {af : Array Edge} {gd : Option (Nat × Bool)} {x y : Operand} {n : Nat}
theorem Val.ld1 {cs : List PV} {z : PV} (hT : tyI P T = some none) (ho : okOp x = true) (hp : placeP st (st.op cx x) = some cs) (hz : cs[0]? = some z) : Val P cx false ⟨dst, .load T x, ty, pos, af, gd⟩ st ((.c (.p z))) := fun a w fz β hs => by
    obtain ⟨b, o, h1, h2⟩ := hs.placeP (hs.op x ho) hp
    obtain ⟨u, h3, h4⟩ := h2 0 z hz
    exact ⟨u, h4, fun w' hw => by simp [execOp, h1, Instr.loadAt, Instr.sureAddr, run_loadVar1 hT ⟨b, o, none⟩ ((hw.resolve_left (by simp)).cell (by simpa using h3))]⟩
theorem Val.ldN {cs : List PV} (hT : tyI P T = some (some n)) (ho : okOp x = true) (hp : placeP st (st.op cx x) = some cs) (hn : n ≤ cs.length) : Val P cx false ⟨dst, .load T x, ty, pos, af, gd⟩ st ((.pag (cs.take n))) := fun a w fz β hs => by
    obtain ⟨b, o, h1, h2⟩ := hs.placeP (hs.op x ho) hp
    obtain ⟨vs, h3, h4⟩ := place_vals (R := RepP w fz) (b := b) (cs.take n) o (fun c y hy => h2 c y (by rw [List.getElem?_take] at hy; split at hy; exact hy; cases hy))
    exact ⟨.agg vs.toArray, ⟨vs, rfl, h3⟩, fun w' hw => by simp [execOp, h1, Instr.loadAt, Instr.sureAddr, run_loadVarN hT b o vs (by rw [← h3.len, List.length_take]; omega) (fun j v hj => (hw.resolve_left (by simp)).cell (h4 j v hj))]⟩
theorem Val.lc1 {cs : List CV} {z : CV} (hT : tyI P T = some none) (ho : okOp x = true) (hp : placeC st (st.op cx x) = some cs) (hz : cs[0]? = some z) : Val P cx false ⟨dst, .load T x, ty, pos, af, gd⟩ st ((.c z)) := fun a w fz β hs => by
    obtain ⟨b, o, h1, h2⟩ := hs.placeC (hs.op x ho) hp
    obtain ⟨u, h3, h4⟩ := h2 0 z hz
    exact ⟨u, h4.2, fun w' hw => by simp [execOp, h1, Instr.loadAt, Instr.sureAddr, run_loadVar1 hT ⟨b, o, none⟩ ((hw.resolve_left (by simp)).cell (by simpa using h3))]⟩
theorem Val.lcN {cs : List CV} (hT : tyI P T = some (some n)) (ho : okOp x = true) (hp : placeC st (st.op cx x) = some cs) (hn : n ≤ cs.length) : Val P cx false ⟨dst, .load T x, ty, pos, af, gd⟩ st ((.agg (cs.take n))) := fun a w fz β hs => by
    obtain ⟨b, o, h1, h2⟩ := hs.placeC (hs.op x ho) hp
    obtain ⟨vs, h3, h4⟩ := place_vals (R := RepC1 w fz β) (b := b) (cs.take n) o (fun c y hy => h2 c y (by rw [List.getElem?_take] at hy; split at hy; exact hy; cases hy))
    exact ⟨.agg vs.toArray, ⟨vs, rfl, h3⟩, fun w' hw => by simp [execOp, h1, Instr.loadAt, Instr.sureAddr, run_loadVarN hT b o vs (by rw [← h3.len, List.length_take]; omega) (fun j v hj => (hw.resolve_left (by simp)).cell (h4 j v hj))]⟩

/-! ### New variables -/
def tyZero (P : Program) (T : TypeId) : Option Value := (P.info? T).bind (·.zero)
theorem okCells {z : Value} (hz : okV z = true) (hn : ∀ vs, z ≠ .tuple vs) : ∀ u ∈ z.cells.toList, u.oneCell' = true := by
  intro u hu
  cases z with
  | agg cs => exact (Array.all_eq_true_iff_forall_mem.1 hz) u (by simpa [Value.cells] using hu)
  | tuple vs => exact absurd rfl (hn vs)
  | _ => simp [Value.cells] at hu; subst hu; rfl
theorem all2_s {w fz} : ∀ (l : List Value), (∀ u ∈ l, u.oneCell' = true) → All2 (RepP w fz) (l.map PV.s) l
  | [], _ => .nil
  | u :: l, h => .cons (.s u (h u (by simp))) (all2_s l fun v hv => h v (by simp [hv]))
/-- An operation that makes a block under its own slot's number. -/
theorem OpTo.made {o : Oper} {d : Nat} {ob : Ob} {z : AV} (hdst : o.dst = some d) (hlow : d < 1000000) (hd : st.noref d = true) (hr : ob.ref d = false)
    (h : ∀ a w fz β, SR cx st a w fz β → ∃ (v : Value) (O : Obj) (w' : World), (execOp a.eval o).run P w = .ok (.value v) w' ∧ (w'.os = w.os ∧ w'.tape = w.tape ∧ w'.output = w.output) ∧ w'.heap = w.heap.push O ∧
      (∀ β', β' d = some w.heap.size → (∀ k, k ≠ d → β' k = β k) → RepO w' fz β' d ob ∧ RepA w' fz β' z v))
    (k : K (St.put ⟨st.tmps, upd st.objs d ob⟩ (some d) z)) : OpTo P cx kp o st K := by
  intro a w next Qx ⟨fz, β, hs⟩ hn
  obtain ⟨v, O, w', h1, h2, h3, h4⟩ := h a w fz β hs
  obtain ⟨h5, h6⟩ := h4 (bup β d (some w.heap.size)) (bup_same _ _ _) (fun k hk => bup_other _ _ _ hk)
  have hs' := hs.mk' hlow hd ob hr h2 O h3 h5
  unfold wpv
  rw [h1]
  rw [upv_value, hdst]
  exact hn _ _ _ k ⟨fz, _, hs'.put h6 (some d)⟩ (fun _ => Old.push h3)
theorem adv_push {w w' : World} {O : Obj} (hh : w'.heap = w.heap.push O) (hf : ∀ b, fz b → b < w.heap.size) : Adv fz w w' :=
  .of (fun b hb => by rw [hh, Array.getElem?_push, if_neg (by have := hf b hb; omega)]) (fun b s hs => by rw [shape_eq (w := w)]; exact hs; rw [hh, Array.getElem?_push, if_neg (by have := shape_lt hs; omega)])
theorem OpTo.alloc {d : Nat} {z : Value} (hz : tyZero P T = some z) (hok : okV z = true) (hnt : z.oneCell' = true ∨ ∃ cs, z = .agg cs) (hlow : d < 1000000) (hd : st.noref d = true)
    (k : K (St.put ⟨st.tmps, upd st.objs d (.pcells T (z.cells.toList.map .s))⟩ (some d) (.c (.ptr d 0)))) : OpTo P cx kp ⟨some d, .alloc T, ty, pos, af, gd⟩ st K := by
  refine OpTo.made rfl hlow hd rfl (fun a w fz β hs => ?_) k
  have hz' : ∃ i, P.info? T = some i ∧ i.zero = some z := by
    unfold tyZero at hz
    cases hi : P.info? T with
    | none => simp [hi] at hz
    | some i => exact ⟨i, rfl, by simpa [hi] using hz⟩
  obtain ⟨i, hi, hzz⟩ := hz'
  refine ⟨.pointer (some ⟨w.heap.size, 0, none⟩), .cells z.cells T, w.alloc (.cells z.cells T), by simp [execOp, Instr.alloc, zeroValue, typeInfo, hi, hzz, newVar, newRow], ⟨rfl, rfl, rfl⟩, rfl, fun β' h1 h2 => ⟨⟨w.heap.size, z.cells.toList, h1, by rw [heap_alloc_new], ?_⟩, ⟨w.heap.size, h1, rfl⟩⟩⟩
  exact all2_s _ (okCells hok (fun vs e => by subst e; rcases hnt with h | ⟨cs, h⟩ <;> cases h))
def obOf (T : TypeId) : AV → Option Ob
  | .c (.p y) => some (.pcells T [y])
  | .c .any => none
  | .c y => some (.cells T [y])
  | .pag ys => some (.pcells T ys)
  | .agg ys => some (.cells T ys)
  | .tup _ => none
theorem RepC.one {x : CV} {v : Value} (h : RepC w fz β x v) (hx : x ≠ .any) : v.oneCell' = true := by
  cases x with
  | p x => exact RepP.one h
  | own k sz n => rcases h with ⟨_, _, rfl⟩ | ⟨b, cap, T, _, rfl, _⟩ <;> rfl
  | win k sz off n => rcases h with ⟨_, a, cap, rfl⟩ | ⟨b, cap, _, rfl, _⟩ <;> rfl
  | ptr k off => obtain ⟨b, _, rfl⟩ := h; rfl
  | rptr k sz i c => obtain ⟨b, _, rfl⟩ := h; rfl
  | mp k => obtain ⟨b, _, rfl⟩ := h; rfl
  | eptr cs => obtain ⟨b, o, rfl, _⟩ := h; rfl
  | fn f caps => obtain ⟨cv, rfl, _⟩ := h; rfl
  | any => exact absurd rfl hx
theorem cells_one {v : Value} (h : v.oneCell' = true) : v.cells = #[v] := by cases v <;> first | rfl | cases h
theorem OpTo.box {d : Nat} {ob : Ob} (hob : obOf T (st.op cx x) = some ob) (ho : okOp x = true) (hlow : d < 1000000) (hd : st.noref d = true) (hr : ob.ref d = false)
    (k : K (St.put ⟨st.tmps, upd st.objs d ob⟩ (some d) (.c (.ptr d 0)))) : OpTo P cx kp ⟨some d, .box T x, ty, pos, af, gd⟩ st K := by
  refine OpTo.made rfl hlow hd hr (fun a w fz β hs => ?_) k
  have hx := hs.op x ho
  refine ⟨.pointer (some ⟨w.heap.size, 0, none⟩), .cells (a.eval x).cells T, w.alloc (.cells (a.eval x).cells T), by simp [execOp, Instr.box, newVar, newRow], ⟨rfl, rfl, rfl⟩, rfl, fun β' h1 h2 => ⟨?_, ⟨w.heap.size, h1, rfl⟩⟩⟩
  have hA : Adv fz w (w.alloc (.cells (a.eval x).cells T)) := adv_push rfl hs.h.fzlt
  generalize st.op cx x = av at hob hx
  generalize a.eval x = v at hx hA
  have hnew : (w.alloc (.cells v.cells T)).heap[w.heap.size]? = some (.cells v.cells T) := heap_alloc_new w _
  cases av with
  | c y =>
    cases y with
    | p y =>
      cases hob
      rw [cells_one (RepP.one hx)] at hnew ⊢
      rw [cells_one (RepP.one hx)] at hA
      exact ⟨w.heap.size, [v], h1, hnew, .cons (RepP.adv hx hA (fun _ h => h)) .nil⟩
    | any => cases hob
    | _ =>
      cases hob
      simp only [RepA] at hx
      have h1v := RepC.one hx (by simp)
      rw [cells_one h1v] at hnew hA ⊢
      exact ⟨w.heap.size, [v], h1, hnew, .cons ⟨h1v, RepC.adv hx hA (fun _ h => h) (fun j hj => h2 j (by intro e; subst e; simp [Ob.ref] at hr; rw [hr] at hj; cases hj))⟩ .nil⟩
  | pag ys =>
    cases hob
    obtain ⟨vs, rfl, h3⟩ := hx
    exact ⟨w.heap.size, vs, h1, hnew, h3.mono fun _ _ _ h => RepP.adv h hA (fun _ h => h)⟩
  | agg ys =>
    cases hob
    obtain ⟨vs, rfl, h3⟩ := hx
    refine ⟨w.heap.size, vs, h1, hnew, h3.mono fun c u hc h => ⟨h.1, h.2.adv hA (fun _ h => h) (fun j hj => h2 j ?_)⟩⟩
    intro e; subst e
    simp only [Ob.ref, List.any_eq_false] at hr
    exact absurd hj (hr c hc)
  | tup ys => cases hob
end
end Go.Proofs.Vl
end
section
/- Rules over memory: stores, places of fields and elements, lengths. -/
set_option linter.all false
namespace Go.Proofs.Vl
open Go Go.RowKit

section
variable {P : Program} {cx : Cx} {st : St} {a : Act} {w : World} {fz : Nat → Prop} {β : Nat → Option Nat}
variable {K : St → Prop} {dst : Option Tmp} {ty T T' : TypeId} {pos : String} {af : Array Edge} {gd : Option (Nat × Bool)} {x y : Operand} {n k off : Nat}

/-! ### Stores -/
theorem OpTo.wr {o : Oper} (hdst : o.dst = none) (k : Nat) (ob : Ob)
    (h : ∀ a w fz β, SR cx st a w fz β → ∃ b T, ∃ vs vs' : List Value, β k = some b ∧ w.heap[b]? = some (.cells vs.toArray T (0, 0)) ∧ vs'.length = vs.length ∧ (execOp a.eval o).run P w = .ok .skip (w.setRow b vs'.toArray) ∧
      ∀ w', Adv fz w w' → w'.heap[b]? = some (.cells vs'.toArray T (0, 0)) → RepO w' fz β k ob)
    (kk : K ⟨st.tmps, upd st.objs k ob⟩) : OpTo P cx false o st K := by
  intro a w next Qx ⟨fz, β, hs⟩ hn
  obtain ⟨b, T, vs, vs', h1, h2, h3, h4, h5⟩ := h a w fz β hs
  unfold wpv
  rw [h4, upv_skip, hdst]
  exact hn _ _ _ kk ⟨fz, β, hs.wr h1 h2 h3 ob h5⟩ (fun h => by cases h)
def splice {α : Type} (vs : List α) (o : Nat) (us : List α) : List α := vs.take o ++ us ++ vs.drop (o + us.length)
theorem splice_len {α : Type} {vs us : List α} {o : Nat} (h : o + us.length ≤ vs.length) : (splice vs o us).length = vs.length := by
  simp [splice]; omega
theorem All2.splice {α β : Type} {R : α → β → Prop} {as us : List α} {bs vs : List β} (h : All2 R as bs) (hu : All2 R us vs) (o : Nat) : All2 R (splice as o us) (splice bs o vs) := by
  unfold Vl.splice
  rw [hu.len]
  exact ((h.take o).append hu).append (h.drop _)
theorem splice_one {α : Type} (vs : List α) (o : Nat) (u : α) (h : o < vs.length) : splice vs o [u] = vs.set o u := by
  unfold splice
  rw [List.set_eq_take_append_cons_drop, if_pos h]
  simp
theorem run_store {T : TypeId} {b o : Nat} {T' : TypeId} {vs us : List Value} {v : Value} (hv : v.cells.toList = us) (hu : ∀ u ∈ us, u.oneCell' = true) (hT : (P.info? T).map (·.size) = some us.length)
    (hb : w.heap[b]? = some (.cells vs.toArray T' (0, 0))) (hl : o + us.length ≤ vs.length) : (storeVar T ⟨b, o, none⟩ v).run P w = .ok () (w.setRow b (splice vs o us).toArray) := by
  have h1 := run_storeCells_at (P := P) b o T' us 0 vs.toArray w hb (by simpa using hl) hu
  simp only [Nat.add_zero] at h1
  cases hi : P.info? T with
  | none => simp [hi] at hT
  | some i =>
    simp only [hi, Option.map_some, Option.some.injEq] at hT
    have hsz : v.cells.size = us.length := by rw [← hv]; simp
    simp [storeVar, sizeOf, typeInfo, hi, hT, hsz, hv, h1, splice]
theorem all2_map_p {w fz β} : ∀ {ys : List PV} {vs : List Value}, All2 (RepP w fz) ys vs → All2 (RepC1 w fz β) (ys.map CV.p) vs
  | _, _, .nil => .nil
  | _, _, .cons h t => .cons ⟨h.one, h⟩ (all2_map_p t)
theorem all2_one {w fz} {ys : List PV} {vs : List Value} (h : All2 (RepP w fz) ys vs) : ∀ u ∈ vs, u.oneCell' = true := by
  intro u hu
  obtain ⟨i, hi⟩ := List.getElem?_of_mem hu
  obtain ⟨a, _, h2⟩ := h.get' hi
  exact h2.one
theorem all2_one1 {w fz β} {ys : List CV} {vs : List Value} (h : All2 (RepC1 w fz β) ys vs) : ∀ u ∈ vs, u.oneCell' = true := by
  intro u hu
  obtain ⟨i, hi⟩ := List.getElem?_of_mem hu
  obtain ⟨a, _, h2⟩ := h.get' hi
  exact h2.1
/-- What is stored, as cells. -/
def pvs : AV → Option (List PV)
  | .c (.p z) => some [z]
  | .pag ys => some ys
  | _ => none
def cvs : AV → Option (List CV)
  | .c .any => none
  | .c z => some [z]
  | .pag ys => some (ys.map .p)
  | .agg ys => some ys
  | .tup _ => none
theorem RepA.pvs {x : AV} {v : Value} (h : RepA w fz β x v) {ys : List PV} (hy : pvs x = some ys) : ∃ us : List Value, v.cells.toList = us ∧ All2 (RepP w fz) ys us := by
  cases x with
  | c z =>
    cases z with
    | p z => cases hy; exact ⟨[v], by rw [cells_one (RepP.one h)], .cons h .nil⟩
    | _ => cases hy
  | pag zs => cases hy; obtain ⟨us, rfl, h2⟩ := h; exact ⟨us, by simp [Value.cells], h2⟩
  | _ => cases hy
theorem RepA.cvs {x : AV} {v : Value} (h : RepA w fz β x v) {ys : List CV} (hy : cvs x = some ys) : ∃ us : List Value, v.cells.toList = us ∧ All2 (RepC1 w fz β) ys us := by
  cases x with
  | c z =>
    cases z with
    | any => cases hy
    | _ =>
      cases hy
      simp only [RepA] at h
      have h1 := RepC.one h (by simp)
      exact ⟨[v], by rw [cells_one h1], .cons ⟨h1, h⟩ .nil⟩
  | pag zs => cases hy; obtain ⟨us, rfl, h2⟩ := h; exact ⟨us, by simp [Value.cells], all2_map_p h2⟩
  | agg zs => cases hy; obtain ⟨us, rfl, h2⟩ := h; exact ⟨us, by simp [Value.cells], h2⟩
  | tup zs => cases hy
theorem run_skip_store {o : Oper} (ho : o.op = .store T x y) {p : Addr} (h1 : a.eval x = .pointer (some p)) {w' : World} (h2 : (storeVar T p (a.eval y)).run P w = .ok () w') : (execOp a.eval o).run P w = .ok .skip w' := by
  simp [execOp, ho, h1, Instr.storeAt, Instr.sureAddr, h2]
/-- Into a variable of plain cells. -/
theorem OpTo.stP {cs ys : List PV} (hx : st.op cx x = .c (.ptr k off)) (h1 : okOp x = true) (hf : find st.objs k = some (.pcells T' cs)) (hy : pvs (st.op cx y) = some ys) (h2 : okOp y = true) (hT : (P.info? T).map (·.size) = some ys.length) (hl : off + ys.length ≤ cs.length)
    (kk : K ⟨st.tmps, upd st.objs k (.pcells T' (splice cs off ys))⟩) : OpTo P cx false ⟨none, .store T x y, ty, pos, af, gd⟩ st K := by
  refine OpTo.wr rfl k _ (fun a w fz β hs => ?_) kk
  have hX := hs.op x h1
  rw [hx] at hX
  obtain ⟨b, e1, e2⟩ := hX
  obtain ⟨us, e3, e4⟩ := (hs.op y h2).pvs hy
  obtain ⟨b', vs, e5, e6, e7⟩ := hs.h.ob k _ hf
  rw [e1] at e5; cases e5
  refine ⟨b, T', vs, splice vs off us, e1, e6, splice_len (by rw [← e4.len, ← e7.len]; exact hl), run_skip_store rfl e2 (run_store e3 (all2_one e4) (by rw [hT, e4.len]) e6 (by rw [← e4.len, ← e7.len]; exact hl)), fun w' hA hb => ?_⟩
  exact ⟨b, _, e1, hb, (e7.mono fun _ _ _ h => RepP.adv h hA fun _ h => h).splice (e4.mono fun _ _ _ h => RepP.adv h hA fun _ h => h) off⟩
/-- Into a variable of cells that may lead to the call's own. -/
theorem OpTo.stC {cs ys : List CV} (hx : st.op cx x = .c (.ptr k off)) (h1 : okOp x = true) (hf : find st.objs k = some (.cells T' cs)) (hy : cvs (st.op cx y) = some ys) (h2 : okOp y = true) (hT : (P.info? T).map (·.size) = some ys.length) (hl : off + ys.length ≤ cs.length)
    (kk : K ⟨st.tmps, upd st.objs k (.cells T' (splice cs off ys))⟩) : OpTo P cx false ⟨none, .store T x y, ty, pos, af, gd⟩ st K := by
  refine OpTo.wr rfl k _ (fun a w fz β hs => ?_) kk
  have hX := hs.op x h1
  rw [hx] at hX
  obtain ⟨b, e1, e2⟩ := hX
  obtain ⟨us, e3, e4⟩ := (hs.op y h2).cvs hy
  obtain ⟨b', vs, e5, e6, e7⟩ := hs.h.ob k _ hf
  rw [e1] at e5; cases e5
  refine ⟨b, T', vs, splice vs off us, e1, e6, splice_len (by rw [← e4.len, ← e7.len]; exact hl), run_skip_store rfl e2 (run_store e3 (all2_one1 e4) (by rw [hT, e4.len]) e6 (by rw [← e4.len, ← e7.len]; exact hl)), fun w' hA hb => ?_⟩
  exact ⟨b, _, e1, hb, (e7.mono fun _ _ _ h => ⟨h.1, RepC.adv h.2 hA (fun _ h => h) fun _ _ => rfl⟩).splice (e4.mono fun _ _ _ h => ⟨h.1, RepC.adv h.2 hA (fun _ h => h) fun _ _ => rfl⟩) off⟩
/-- A variable of plain cells takes in what leads to the call's own. -/
theorem OpTo.stPC {cs : List PV} {ys : List CV} (hx : st.op cx x = .c (.ptr k off)) (h1 : okOp x = true) (hf : find st.objs k = some (.pcells T' cs)) (hy : cvs (st.op cx y) = some ys) (h2 : okOp y = true) (hT : (P.info? T).map (·.size) = some ys.length) (hl : off + ys.length ≤ cs.length)
    (kk : K ⟨st.tmps, upd st.objs k (.cells T' (splice (cs.map .p) off ys))⟩) : OpTo P cx false ⟨none, .store T x y, ty, pos, af, gd⟩ st K := by
  refine OpTo.wr rfl k _ (fun a w fz β hs => ?_) kk
  have hX := hs.op x h1
  rw [hx] at hX
  obtain ⟨b, e1, e2⟩ := hX
  obtain ⟨us, e3, e4⟩ := (hs.op y h2).cvs hy
  obtain ⟨b', vs, e5, e6, e7⟩ := hs.h.ob k _ hf
  rw [e1] at e5; cases e5
  refine ⟨b, T', vs, splice vs off us, e1, e6, splice_len (by rw [← e4.len, ← e7.len]; exact hl), run_skip_store rfl e2 (run_store e3 (all2_one1 e4) (by rw [hT, e4.len]) e6 (by rw [← e4.len, ← e7.len]; exact hl)), fun w' hA hb => ?_⟩
  exact ⟨b, _, e1, hb, (all2_map_p (e7.mono fun _ _ _ h => RepP.adv h hA fun _ h => h)).splice (e4.mono fun _ _ _ h => ⟨h.1, RepC.adv h.2 hA (fun _ h => h) fun _ _ => rfl⟩) off⟩
theorem take_splice {α : Type} (vs us : List α) (o N : Nat) (h1 : o + us.length ≤ N) (h2 : N ≤ vs.length) : (splice vs o us).take N = splice (vs.take N) o us := by
  unfold splice
  rw [List.take_append, List.take_of_length_le (by simp; omega), List.take_take, Nat.min_eq_left (by omega), List.drop_take]
  congr 2
  simp
  omega
theorem splice_app {α : Type} (x A ys : List α) (p : Nat) : splice (x ++ A) (x.length + p) ys = x ++ splice A p ys := by
  unfold splice
  rw [List.take_append, List.take_of_length_le (by omega), List.drop_append, List.drop_of_length_le (by omega), Nat.add_sub_cancel_left, show x.length + p + ys.length - x.length = p + ys.length by omega]
  simp
theorem flat_splice {α : Type} {sz : Nat} : ∀ {xs : List (List α)}, (∀ cs ∈ xs, cs.length = sz) → ∀ {i : Nat} {cs : List α}, xs[i]? = some cs → ∀ (c : Nat) (ys : List α), c + ys.length ≤ sz → (xs.set i (splice cs c ys)).flatten = splice xs.flatten (i * sz + c) ys
  | [], _, i, cs, h, _, _, _ => by simp at h
  | x :: xs, hl, i, cs, h, c, ys, hc => by
    have hx := hl x List.mem_cons_self
    cases i with
    | zero =>
      simp at h; subst h
      simp only [List.set_cons_zero, List.flatten_cons, Nat.zero_mul, Nat.zero_add, splice]
      rw [List.take_append_of_le_length (by omega), List.drop_append_of_le_length (by omega)]
      simp
    | succ i =>
      simp only [List.getElem?_cons_succ] at h
      have ih := flat_splice (fun cs hcs => hl cs (List.mem_cons_of_mem _ hcs)) h c ys hc
      have e : (i + 1) * sz + c = x.length + (i * sz + c) := by rw [hx, Nat.succ_mul]; omega
      rw [List.set_cons_succ, List.flatten_cons, ih, e, List.flatten_cons, splice_app]
/-- Into an element of a row, from its cell c on. -/
theorem OpTo.stR {sz i c : Nat} {xs : List (List PV)} {cs ys : List PV} (hx : st.op cx x = .c (.rptr k sz i c)) (h1 : okOp x = true) (hf : find st.objs k = some (.row T' sz xs)) (hi : xs[i]? = some cs) (hy : pvs (st.op cx y) = some ys) (h2 : okOp y = true)
    (hT : (P.info? T).map (·.size) = some ys.length) (hl : c + ys.length ≤ sz)
    (kk : K ⟨st.tmps, upd st.objs k (.row T' sz (xs.set i (splice cs c ys)))⟩) : OpTo P cx false ⟨none, .store T x y, ty, pos, af, gd⟩ st K := by
  refine OpTo.wr rfl k _ (fun a w fz β hs => ?_) kk
  have hX := hs.op x h1
  rw [hx] at hX
  obtain ⟨b, e1, e2⟩ := hX
  obtain ⟨us, e3, e4⟩ := (hs.op y h2).pvs hy
  rcases hs.h.ob k _ hf with ⟨e5, e6⟩ | ⟨b', vs, e5, e6, e7, e8, e9⟩
  · subst e6; simp at hi
  · rw [e1] at e5; cases e5
    have hlt : i < xs.length := (List.getElem?_eq_some_iff.1 hi).1
    have hul := e4.len
    have hbd : i * sz + c + us.length ≤ xs.length * sz := by
      have h : (i + 1) * sz ≤ xs.length * sz := Nat.mul_le_mul_right _ hlt
      rw [Nat.succ_mul] at h; omega
    refine ⟨b, T', vs, splice vs (i * sz + c) us, e1, e6, splice_len (by omega), run_skip_store rfl e2 (run_store e3 (all2_one e4) (by rw [hT, e4.len]) e6 (by omega)), fun w' hA hb => .inr ⟨b, _, e1, hb, ?_, ?_, ?_⟩⟩
    · rw [splice_len (by omega), List.length_set]; exact e7
    · intro cs' hcs'
      rcases List.mem_or_eq_of_mem_set hcs' with h | h
      · exact e8 _ h
      · rw [h, splice_len (by rw [e8 cs (List.mem_of_getElem? hi)]; exact hl)]; exact e8 cs (List.mem_of_getElem? hi)
    · rw [List.length_set, flat_splice e8 hi c ys hl, take_splice _ _ _ _ hbd e7]
      exact (e9.mono fun _ _ _ h => RepP.adv h hA fun _ h => h).splice (e4.mono fun _ _ _ h => RepP.adv h hA fun _ h => h) _

/-! ### Places of fields and elements -/
variable {kp : Bool}
def addOff : AV → Nat → AV
  | .c (.ptr k off), o => .c (.ptr k (off + o))
  | .c (.rptr k sz i c), o => .c (.rptr k sz i (c + o))
  | .c (.eptr cs), o => .c (.eptr (cs.drop o))
  | _, _ => .c .any
def isAddr : AV → Bool
  | .c (.ptr ..) | .c (.rptr ..) | .c (.eptr ..) => true
  | _ => false
theorem RepA.addOff {z : AV} {v : Value} (h : RepA w fz β z v) (hz : isAddr z = true) : ∃ b o, v = .pointer (some ⟨b, o, none⟩) ∧ ∀ d, RepA w fz β (addOff z d) (.pointer (some ⟨b, o + d, none⟩)) := by
  cases z with
  | c z =>
    cases z with
    | ptr k off => obtain ⟨b, h1, h2⟩ := h; exact ⟨b, off, h2, fun d => ⟨b, h1, rfl⟩⟩
    | rptr k sz i c => obtain ⟨b, h1, h2⟩ := h; exact ⟨b, i * sz + c, h2, fun d => ⟨b, h1, by rw [Nat.add_assoc]⟩⟩
    | eptr cs =>
      obtain ⟨b, o, h1, h2, h3⟩ := h
      refine ⟨b, o, h1, fun d => ⟨b, o + d, rfl, fun hn => h2 (by intro e; subst e; simp at hn), fun c y hy => ?_⟩⟩
      rw [List.getElem?_drop] at hy
      obtain ⟨u, h4, h5⟩ := h3 _ _ hy
      exact ⟨u, by rw [Nat.add_assoc]; exact h4, h5⟩
    | _ => cases hz
  | _ => cases hz
def fldI (P : Program) (S : TypeId) (f : Nat) : Option Nat :=
  match P.underlying S with
  | some (.struct fs) => match fs[f]? with
    | some fd => match P.info? fd.type with
      | some i => if i.size = 0 then none else some fd.offset
      | none => none
    | none => none
  | _ => none
theorem Val.fld {S : TypeId} {f o : Nat} (hF : fldI P S f = some o) (h1 : okOp x = true) (hA : isAddr (st.op cx x) = true) : Val P cx true ⟨dst, .fieldAddr S x f, ty, pos, af, gd⟩ st ((addOff (st.op cx x) o)) := fun a w fz β hs => by
    obtain ⟨b, o', h2, h3⟩ := (hs.op x h1).addOff hA
    refine ⟨_, h3 o, fun w' hw => ?_⟩
    unfold fldI at hF
    cases hu : P.underlying S with
    | none => simp [hu] at hF
    | some D =>
      cases D with
      | struct fs =>
        simp only [hu] at hF
        cases hf : fs[f]? with
        | none => simp [hf] at hF
        | some fd =>
          simp only [hf] at hF
          cases hi : P.info? fd.type with
          | none => simp [hi] at hF
          | some i =>
            simp only [hi] at hF
            by_cases h0 : i.size = 0
            · simp [h0] at hF
            · simp only [h0, if_false, Option.some.injEq] at hF
              subst hF
              simp [execOp, h2, Instr.fieldAt, run_underlying hu, hf, Instr.sureAddr, fieldPlace, sizeOf, typeInfo, hi, h0, Addr.add_lit]
      | _ => simp [hu] at hF
/-- An array's element. -/
theorem Val.ixA {S E : TypeId} {L sz : Nat} {kd : IntKind} {i : Int} (hu : P.underlying S = some (.array L E)) (hz : (P.info? E).map (·.size) = some sz) (h1 : okOp x = true) (h2 : okOp y = true) (hA : isAddr (st.op cx x) = true)
    (hi : st.op cx y = .c (.p (.s (.int kd i)))) (h0 : 0 ≤ i) (hL : i < L) : Val P cx true ⟨dst, .indexAddr S x y, ty, pos, af, gd⟩ st ((addOff (st.op cx x) (i.toNat * sz))) := fun a w fz β hs => by
    obtain ⟨b, o', h3, h4⟩ := (hs.op x h1).addOff hA
    have e := hs.eq hi h2
    refine ⟨_, h4 (i.toNat * sz), fun w' hw => ?_⟩
    cases hi' : P.info? E with
    | none => simp [hi'] at hz
    | some inf =>
      simp only [hi', Option.map_some, Option.some.injEq] at hz
      simp [execOp, h3, e, Instr.indexAt, run_underlying hu, asIntOf, Instr.sureAddr, sizeOf, typeInfo, hi', hz, h0, hL, Addr.add_lit]
/-- An element of a row that is only read. -/
theorem Val.ixF {S E : TypeId} {sz : Nat} {kd : IntKind} {i : Int} {xs : List (List PV)} {cs : List PV} (hu : P.underlying S = some (.slice E)) (hz : (P.info? E).map (·.size) = some sz) (h1 : okOp x = true) (h2 : okOp y = true) (hx : st.op cx x = .c (.p (.fro xs)))
    (hi : st.op cx y = .c (.p (.s (.int kd i)))) (h0 : 0 ≤ i) (hc : xs[i.toNat]? = some cs) (hcs : cs.length = sz) : Val P cx true ⟨dst, .indexAddr S x y, ty, pos, af, gd⟩ st ((.c (.eptr cs))) := fun a w fz β hs => by
    have hX := hs.op x h1
    rw [hx] at hX
    have e := hs.eq hi h2
    have hlt : i.toNat < xs.length := (List.getElem?_eq_some_iff.1 hc).1
    have hL : i < xs.length := by omega
    generalize hv : a.eval x = v at hX
    cases hi' : P.info? E with
    | none => simp [hi'] at hz
    | some inf =>
      simp only [hi', Option.map_some, Option.some.injEq] at hz
      cases hX with
      | nil ad cap => simp at hlt
      | fro _ b o cap sz' val hb hcap hl hcc hr =>
        have hs' : sz' = sz := by rw [← hl _ _ hc]; exact hcs
        subst hs'
        refine ⟨.pointer (some ⟨b, o + i.toNat * sz', none⟩), ⟨b, o + i.toNat * sz', rfl, fun hne => hb (by have := List.length_pos_iff.2 hne; omega), fun c z hzc => ⟨val i.toNat c, ?_, hr _ _ _ _ hc hzc⟩⟩, fun w' hw => ?_⟩
        · rw [Nat.add_assoc]; exact hcc _ _ _ _ hc hzc
        · simp [execOp, hv, e, Instr.indexAt, run_underlying hu, asIntOf, sizeOf, typeInfo, hi', hz, h0, hL, Addr.add_lit]
/-- An element of a row of the call's own. -/
theorem Val.ixO {S E : TypeId} {sz : Nat} {kd : IntKind} {i : Int} {n : Nat} (hu : P.underlying S = some (.slice E)) (hz : (P.info? E).map (·.size) = some sz) (h1 : okOp x = true) (h2 : okOp y = true) (hx : st.op cx x = .c (.own k sz n))
    (hi : st.op cx y = .c (.p (.s (.int kd i)))) (h0 : 0 ≤ i) (hL : i < n) : Val P cx true ⟨dst, .indexAddr S x y, ty, pos, af, gd⟩ st ((.c (.rptr k sz i.toNat 0))) := fun a w fz β hs => by
    have hX := hs.op x h1
    rw [hx] at hX
    have e := hs.eq hi h2
    cases hi' : P.info? E with
    | none => simp [hi'] at hz
    | some inf =>
      simp only [hi', Option.map_some, Option.some.injEq] at hz
      rcases hX with ⟨_, h3, _⟩ | ⟨b, cap, T, h3, h4, h5, h6⟩
      · omega
      · exact ⟨.pointer (some ⟨b, i.toNat * sz + 0, none⟩), ⟨b, h3, rfl⟩, fun w' hw => by simp [execOp, h4, e, Instr.indexAt, run_underlying hu, asIntOf, sizeOf, typeInfo, hi', hz, h0, hL, Addr.add_lit]⟩
theorem Val.ixW {S E : TypeId} {sz : Nat} {kd : IntKind} {i : Int} {n off : Nat} (hu : P.underlying S = some (.slice E)) (hz : (P.info? E).map (·.size) = some sz) (h1 : okOp x = true) (h2 : okOp y = true) (hx : st.op cx x = .c (.win k sz off n))
    (hi : st.op cx y = .c (.p (.s (.int kd i)))) (h0 : 0 ≤ i) (hL : i < n) : Val P cx true ⟨dst, .indexAddr S x y, ty, pos, af, gd⟩ st ((.c (.rptr k sz (off + i.toNat) 0))) := fun a w fz β hs => by
    have hX := hs.op x h1
    rw [hx] at hX
    have e := hs.eq hi h2
    cases hi' : P.info? E with
    | none => simp [hi'] at hz
    | some inf =>
      simp only [hi', Option.map_some, Option.some.injEq] at hz
      rcases hX with ⟨h3, _⟩ | ⟨b, cap, h3, h4, h5⟩
      · omega
      · exact ⟨.pointer (some ⟨b, (off + i.toNat) * sz + 0, none⟩), ⟨b, h3, rfl⟩, fun w' hw => by simp [execOp, h4, e, Instr.indexAt, run_underlying hu, asIntOf, sizeOf, typeInfo, hi', hz, h0, hL, Addr.add_lit, Nat.add_mul]⟩

/-! ### Lengths, least and greatest -/
def lenA : AV → Option Nat
  | .c (.p (.fro xs)) => some xs.length
  | .c (.own _ _ n) => some n
  | .c (.win _ _ _ n) => some n
  | .c (.p (.s (.slice none 0 0))) => some 0
  | _ => none
theorem Val.len {E at_ : TypeId} {n : Nat} (hu : P.underlying at_ = some (.slice E)) (h1 : okOp x = true) (hn : lenA (st.op cx x) = some n) : Val P cx true ⟨dst, .call { callee := .builtin .len, args := #[x], argTypes := #[at_] }, ty, pos, af, gd⟩ st ((.c (.p (.s (.int .i64 n))))) := fun a w fz β hs => by
    have hX := hs.op x h1
    refine ⟨.int .i64 n, RepP.s _ rfl, fun w' hw => ?_⟩
    have : ∃ ad cap, a.eval x = .slice ad n cap := by
      revert hX hn
      generalize a.eval x = v
      cases st.op cx x with
      | c z =>
        cases z with
        | p z =>
          cases z with
          | s v => intro hn hX; have := RepP.eq hX; unfold lenA at hn; split at hn <;> simp_all
          | fro xs => intro hn hX; simp only [lenA, Option.some.injEq] at hn; subst hn; cases hX <;> exact ⟨_, _, rfl⟩
        | own k sz m => intro hn hX; simp only [lenA, Option.some.injEq] at hn; subst hn; rcases hX with ⟨_, h2, h3⟩ | ⟨b, cap, T, _, h3, _⟩; (subst h2; exact ⟨_, _, h3⟩); exact ⟨_, _, h3⟩
        | win k sz off m => intro hn hX; simp only [lenA, Option.some.injEq] at hn; subst hn; rcases hX with ⟨h2, ad, cap, h3⟩ | ⟨b, cap, _, h3, _⟩; (subst h2; exact ⟨_, _, h3⟩); exact ⟨_, _, h3⟩
        | _ => intro hn; simp [lenA] at hn
      | _ => intro hn; simp [lenA] at hn
    obtain ⟨ad, cap, he⟩ := this
    simp [execOp, resolve, invoke, builtin, Builtin.len_, run_underlying hu, he, goInt]
theorem Val.lenS {at_ : TypeId} {s : ByteArray} (hu : P.underlying at_ = some .string) (h1 : okOp x = true) (hn : st.op cx x = .c (.p (.s (.string s)))) : Val P cx true ⟨dst, .call { callee := .builtin .len, args := #[x], argTypes := #[at_] }, ty, pos, af, gd⟩ st ((.c (.p (.s (.int .i64 s.size))))) := fun a w fz β hs => by
    have e := hs.eq hn h1
    exact ⟨.int .i64 s.size, RepP.s _ rfl, fun w' hw => by simp [execOp, resolve, invoke, builtin, Builtin.len_, run_underlying hu, e, goInt]⟩
theorem Val.min2 {ats : Array TypeId} {kd kj : IntKind} {u v : Int} (hx : st.op cx x = .c (.p (.s (.int kd u)))) (hy : st.op cx y = .c (.p (.s (.int kj v)))) (h1 : okOp x = true) (h2 : okOp y = true) : Val P cx true ⟨dst, .call { callee := .builtin .min, args := #[x, y], argTypes := ats }, ty, pos, af, gd⟩ st ((.c (.p (.s (.int kd (if v < u then v else u)))))) := fun a w fz β hs => by
    have e1 := hs.eq hx h1
    have e2 := hs.eq hy h2
    exact ⟨_, RepP.s _ rfl, fun w' hw => by simp [execOp, resolve, invoke, builtin, Builtin.min_, Builtin.min2, e1, e2]⟩
theorem Val.max2 {ats : Array TypeId} {kd kj : IntKind} {u v : Int} (hx : st.op cx x = .c (.p (.s (.int kd u)))) (hy : st.op cx y = .c (.p (.s (.int kj v)))) (h1 : okOp x = true) (h2 : okOp y = true) : Val P cx true ⟨dst, .call { callee := .builtin .max, args := #[x, y], argTypes := ats }, ty, pos, af, gd⟩ st ((.c (.p (.s (.int kd (if v > u then v else u)))))) := fun a w fz β hs => by
    have e1 := hs.eq hx h1
    have e2 := hs.eq hy h2
    exact ⟨_, RepP.s _ rfl, fun w' hw => by simp [execOp, resolve, invoke, builtin, Builtin.max_, Builtin.max2, e1, e2]⟩
end
end Go.Proofs.Vl
end
section
/- Rules over memory: rows that are made, grown, cut; structs put together. -/
set_option linter.all false
namespace Go.Proofs.Vl
open Go Go.RowKit

section
variable {P : Program} {cx : Cx} {st : St} {a : Act} {w : World} {fz : Nat → Prop} {β : Nat → Option Nat}
variable {K : St → Prop} {dst : Option Tmp} {ty T T' E : TypeId} {pos : String} {af : Array Edge} {gd : Option (Nat × Bool)} {x y : Operand} {n k off : Nat}

/-! ### Names forgotten -/
def CV.kill (k : Nat) (x : CV) : CV := cond (x.ref k) .any x
def TV.kill (k : Nat) : TV → TV
  | .c x => .c (x.kill k)
  | .agg cs => .agg (cs.map (CV.kill k))
  | .pag cs => .pag cs
def AV.kill (k : Nat) : AV → AV
  | .c x => .c (x.kill k)
  | .agg cs => .agg (cs.map (CV.kill k))
  | .pag cs => .pag cs
  | .tup xs => .tup (xs.map (TV.kill k))
def Ob.kill (k : Nat) : Ob → Ob
  | .cells T cs => .cells T (cs.map (CV.kill k))
  | .pcells T cs => .pcells T cs
  | .row T sz xs => .row T sz xs
  | .mapo es clock => .mapo es clock
  | .tok F J => .tok F J
  | .sav xs vs => .sav (xs.map (AV.kill k)) vs
def okill (k : Nat) : List (Nat × Ob) → List (Nat × Ob)
  | [] => []
  | (j, o) :: r => (j, cond (j == k) o (o.kill k)) :: okill k r
def St.kill (k : Nat) (st : St) : St := ⟨st.tmps.map (AV.kill k), okill k st.objs⟩
theorem CV.ref_kill (k : Nat) (x : CV) : (x.kill k).ref k = false := by
  unfold CV.kill
  cases h : x.ref k with
  | true => rfl
  | false => exact h
theorem TV.ref_kill (k : Nat) (x : TV) : (x.kill k).ref k = false := by
  cases x <;> simp [TV.kill, TV.ref, CV.ref_kill]
theorem AV.ref_kill (k : Nat) (x : AV) : (x.kill k).ref k = false := by
  cases x <;> simp [AV.kill, AV.ref, CV.ref_kill, TV.ref_kill]
theorem Ob.ref_kill (k : Nat) (x : Ob) : (x.kill k).ref k = false := by
  cases x <;> simp [Ob.kill, Ob.ref, CV.ref_kill, AV.ref_kill]
theorem okill_ref (k : Nat) : ∀ os : List (Nat × Ob), (okill k os).all (fun x => x.1 == k || !x.2.ref k) = true
  | [] => rfl
  | (j, o) :: r => by
    simp only [okill, List.all_cons, okill_ref k r, Bool.and_true]
    by_cases h : j = k
    · simp [h]
    · have h' : (j == k) = false := by simpa using h
      rw [h']; simp [Ob.ref_kill]
theorem noref_kill (k : Nat) (st : St) : (st.kill k).noref k = true := by
  simp only [St.noref, St.kill, Bool.and_eq_true, okill_ref, and_true, List.all_map, List.all_eq_true]
  intro x _
  simp [AV.ref_kill]
theorem cond_dec (i k : Nat) (a b : Ob) : cond (i == k) a b = if i = k then a else b := by
  by_cases h : i = k
  · simp [h]
  · have h' : (i == k) = false := by simpa using h
    rw [h', if_neg h]; rfl
theorem find_okill (k j : Nat) : ∀ os : List (Nat × Ob), find (okill k os) j = (find os j).map fun o => if j = k then o else o.kill k
  | [] => rfl
  | (i, o) :: r => by
    rw [okill, find_cons, find_cons, find_okill k j r, cond_dec]
    by_cases h : i = j
    · subst h; rw [if_pos rfl, if_pos rfl]; rfl
    · rw [if_neg h, if_neg h]
theorem CV.kill_eq {k : Nat} {x : CV} (h : x.ref k = false) : x.kill k = x := by simp [CV.kill, h]
theorem RepC.kill {x : CV} {v : Value} (h : RepC w fz β x v) (k : Nat) : RepC w fz β (x.kill k) v := by
  unfold CV.kill; cases x.ref k with
  | true => trivial
  | false => exact h
theorem RepA.kill {x : AV} {v : Value} (h : RepA w fz β x v) (k : Nat) : RepA w fz β (x.kill k) v := by
  cases x with
  | c x => exact RepC.kill h k
  | agg cs => obtain ⟨vs, h1, h2⟩ := h; exact ⟨vs, h1, h2.map _ fun a b hr => ⟨hr.1, hr.2.kill k⟩⟩
  | pag cs => exact h
  | tup xs =>
    obtain ⟨vs, h1, h2⟩ := h
    refine ⟨vs, h1, h2.map _ fun a b hr => ?_⟩
    cases a with
    | c x => exact RepC.kill hr k
    | agg cs => obtain ⟨vs, h1, h2⟩ := hr; exact ⟨vs, h1, h2.map _ fun a b hr => ⟨hr.1, hr.2.kill k⟩⟩
    | pag cs => exact hr
theorem RepO.kill {j : Nat} {o : Ob} (h : RepO w fz β j o) (k : Nat) : RepO w fz β j (o.kill k) := by
  cases o with
  | cells T cs => obtain ⟨b, vs, h1, h2, h3⟩ := h; exact ⟨b, vs, h1, h2, h3.map _ fun a v hr => ⟨hr.1, hr.2.kill k⟩⟩
  | sav xs vs => exact All2.map (R := RepA w fz β) _ h fun a v hr => hr.kill k
  | _ => exact h
theorem SR.kill (h : SR cx st a w fz β) (k : Nat) : SR cx (st.kill k) a w fz β := by
  refine ⟨h.d, h.low, h.rel, ⟨h.h.lt, h.h.fzlt, h.h.inj, h.h.apart, fun j o hj => ?_⟩, h.t.map _ fun x v hr => hr.kill k⟩
  simp only [St.kill, find_okill] at hj
  cases hf : find st.objs j with
  | none => simp [hf] at hj
  | some o' =>
    simp only [hf, Option.map_some, Option.some.injEq] at hj
    subst hj
    have := h.h.ob j o' hf
    split
    · exact this
    · exact this.kill k

/-! ### Rows that are read -/
/-- The elements of a slice, read as a list. -/
def elems (st : St) : AV → Option (List (List PV))
  | .c (.p (.fro xs)) => some xs
  | .c (.own k sz n) => match find st.objs k with
    | some (.row _ sz' xs) => if sz = sz' ∧ n = xs.length then some xs else none
    | _ => none
  | .c (.win k sz off n) => match find st.objs k with
    | some (.row _ sz' xs) => if sz = sz' ∧ off + n ≤ xs.length then some ((xs.drop off).take n) else none
    | _ => none
  | .c (.p (.s (.slice none 0 0))) => some []
  | _ => none
/-- The same over memory: where the elements lie, one behind another. -/
structure Lies (w : World) (fz : Nat → Prop) (v : Value) (sz : Nat) (xs : List (List PV)) : Prop where
  ex : ∃ ad cap, v = .slice ad xs.length cap ∧ xs.length ≤ cap ∧ (xs = [] ∨ ∃ b o, ad = some ⟨b, o, none⟩ ∧ (∀ cs ∈ xs, cs.length = sz) ∧ ∃ news : List Value, All2 (RepP w fz) xs.flatten news ∧ ∀ (j : Nat) u, news[j]? = some u → w.cell? ⟨b, o + j, none⟩ = some u)
theorem flat_of {sz : Nat} {xs : List (List PV)} {b o : Nat} (hl : ∀ (j : Nat) cs, xs[j]? = some cs → cs.length = sz) (h : ∀ (j : Nat) cs (c : Nat) x, xs[j]? = some cs → cs[c]? = some x → ∃ u, w.cell? ⟨b, o + (j * sz + c), none⟩ = some u ∧ RepP w fz x u) :
    ∃ news : List Value, All2 (RepP w fz) xs.flatten news ∧ ∀ (j : Nat) u, news[j]? = some u → w.cell? ⟨b, o + j, none⟩ = some u := by
  have hl' : ∀ cs ∈ xs, cs.length = sz := fun cs hcs => by obtain ⟨i, hi⟩ := List.getElem?_of_mem hcs; exact hl i cs hi
  refine place_vals (R := RepP w fz) (b := b) xs.flatten o fun c y hy => ?_
  have hc : c < xs.length * sz := by rw [← flat_len hl']; exact (List.getElem?_eq_some_iff.1 hy).1
  have hs0 : 0 < sz := by rcases Nat.eq_zero_or_pos sz with h | h; (subst h; simp at hc); exact h
  have hj : c / sz < xs.length := Nat.div_lt_of_lt_mul (by rw [Nat.mul_comm]; exact hc)
  have he : c / sz * sz + c % sz = c := by rw [Nat.mul_comm]; exact Nat.div_add_mod c sz
  have hxs : xs[c / sz]? = some xs[c / sz] := List.getElem?_eq_getElem hj
  have := flat_get hl' hxs (c % sz) (Nat.mod_lt _ hs0)
  rw [he, hy] at this
  obtain ⟨u, h1, h2⟩ := h _ _ _ _ hxs this.symm
  rw [he] at h1
  exact ⟨u, h1, h2⟩
theorem SR.lies (h : SR cx st a w fz β) {z : AV} {v : Value} (hz : RepA w fz β z v) {xs : List (List PV)} (he : elems st z = some xs) : ∃ sz, Lies w fz v sz xs := by
  cases z with
  | c z =>
    cases z with
    | p z =>
      cases z with
      | s u =>
        unfold elems at he
        split at he
        · simp_all
        · simp_all
        · simp_all
        · rename_i heq; cases heq; cases he; have := RepP.eq hz; subst this; exact ⟨0, ⟨none, 0, rfl, Nat.le_refl _, .inl rfl⟩⟩
        · cases he
      | fro ys =>
        simp only [elems, Option.some.injEq] at he
        subst he
        cases hz with
        | nil ad cap => exact ⟨0, ⟨ad, cap, rfl, Nat.zero_le _, .inl rfl⟩⟩
        | fro _ b o cap sz val hb hcap hl hc hr =>
          refine ⟨sz, ⟨_, cap, rfl, hcap, .inr ⟨b, o, rfl, fun cs hcs => by obtain ⟨i, hi⟩ := List.getElem?_of_mem hcs; exact hl i cs hi, ?_⟩⟩⟩
          exact flat_of hl fun j cs c x h1 h2 => ⟨_, hc j cs c x h1 h2, hr j cs c x h1 h2⟩
    | own k sz n =>
      unfold elems at he
      cases hf : find st.objs k with
      | none => simp [hf] at he
      | some ob =>
        cases ob with
        | row T sz' ys =>
          simp only [hf] at he
          split at he
          · rename_i hh
            obtain ⟨rfl, rfl⟩ := hh
            cases he
            rcases hz with ⟨h1, h2, h3⟩ | ⟨b, cap, T', h1, h2, h3, h4, h5⟩
            · have : xs = [] := List.eq_nil_of_length_eq_zero h2
              subst this; subst h3
              exact ⟨0, ⟨none, 0, rfl, Nat.le_refl _, .inl rfl⟩⟩
            · rcases h.h.ob k _ hf with ⟨h6, h7⟩ | ⟨b', vs, h6, h7, h8, h9, h10⟩
              · rw [h1] at h6; cases h6
              · rw [h1] at h6; cases h6
                refine ⟨sz, ⟨_, cap, h2, h5, .inr ⟨b, 0, rfl, h9, ?_⟩⟩⟩
                refine flat_of (fun j cs hj => h9 cs (List.mem_of_getElem? hj)) fun j cs c x h11 h12 => ?_
                obtain ⟨u, h13, h14⟩ := row_at (T := T) h9 h10 h11 h12
                exact ⟨u, by rw [Nat.zero_add, cellAt h7]; exact h13, h14⟩
          · cases he
        | _ => simp [hf] at he
    | win k sz off n =>
      unfold elems at he
      cases hf : find st.objs k with
      | none => simp [hf] at he
      | some ob =>
        cases ob with
        | row T sz' ys =>
          simp only [hf] at he
          split at he
          · rename_i hh
            obtain ⟨rfl, hh⟩ := hh
            cases he
            have hlen : ((ys.drop off).take n).length = n := by simp; omega
            rcases hz with ⟨h1, ad, cap, h2⟩ | ⟨b, cap, h1, h2, h3⟩
            · subst h1; exact ⟨0, ⟨ad, cap, by simpa using h2, by simp, .inl (by simp)⟩⟩
            · rcases h.h.ob k _ hf with ⟨h6, h7⟩ | ⟨b', vs, h6, h7, h8, h9, h10⟩
              · rw [h1] at h6; cases h6
              · rw [h1] at h6; cases h6
                have hsub : ∀ cs ∈ (ys.drop off).take n, cs.length = sz := fun cs hcs => h9 cs (List.mem_of_mem_drop (List.mem_of_mem_take hcs))
                refine ⟨sz, ⟨_, cap, by rw [hlen]; exact h2, by rw [hlen]; exact h3, .inr ⟨b, off * sz, rfl, hsub, ?_⟩⟩⟩
                refine flat_of (fun j cs hj => hsub cs (List.mem_of_getElem? hj)) fun j cs c x h11 h12 => ?_
                rw [List.getElem?_take] at h11
                split at h11
                · rw [List.getElem?_drop] at h11
                  obtain ⟨u, h13, h14⟩ := row_at (T := T) h9 h10 h11 h12
                  exact ⟨u, by rw [cellAt h7, ← Nat.add_assoc, ← Nat.add_mul]; exact h13, h14⟩
                · cases h11
          · cases he
        | _ => simp [hf] at he
    | _ => simp [elems] at he
  | _ => simp [elems] at he

/-! ### Append -/
def tyF (P : Program) (T : TypeId) : Option (Option Value × Nat × Nat) := (P.info? T).map fun i => (i.zero, i.size, i.bytes)
theorem tyF_spec {z : Value} {sz by_ : Nat} (h : tyF P E = some (some z, sz, by_)) : ∃ i, P.info? E = some i ∧ i.zero = some z ∧ i.size = sz ∧ i.bytes = by_ := by
  unfold tyF at h
  cases hi : P.info? E with
  | none => simp [hi] at h
  | some i => simp [hi] at h; exact ⟨i, rfl, h⟩
theorem run_app_none {t ty : TypeId} (ht : P.underlying t = some (.slice E)) {i : TypeInfo} (hi : P.info? E = some i) (b : Option Addr) (n cap : Nat) (hn : n ≤ cap) (ad : Option Addr) (c : Nat) :
    (Builtin.append_ #[t, t] ty #[.slice b n cap, .slice ad 0 c]).run P w = .ok (.slice b n cap) w := by
  cases ad <;> cases b <;> simp [Builtin.append_, run_underlying ht, sizeOf, typeInfo, hi, Builtin.lenOf, Builtin.firstCells, hn, storeCells, loadCells, loadCellsFrom]
theorem mem_flat {sz : Nat} {xs ys : List (List PV)} (h1 : ∀ cs ∈ xs, cs.length = sz) (h2 : ∀ cs ∈ ys, cs.length = sz) : ∀ cs ∈ xs ++ ys, cs.length = sz := by
  intro cs h; rcases List.mem_append.1 h with h | h; exact h1 _ h; exact h2 _ h
/-- Onto a row of the call's own, or onto none (k: the key that the row has then). -/
theorem OpTo.app {t : TypeId} {s : Operand} {z : Value} {sz by_ : Nat} {xs ys : List (List PV)} (hu : P.underlying t = some (.slice E)) (hE : tyF P E = some (some z, sz, by_)) (hzs : z.cells.size = sz) (hs0 : 0 < sz)
    (h1 : okOp s = true) (h2 : okOp x = true) (hlow : k < 1000000)
    (hs : st.op cx s = .c (.own k sz xs.length) ∧ find st.objs k = some (.row E sz xs) ∨ st.op cx s = .c (.p (.s (.slice none 0 0))) ∧ xs = [])
    (hx : elems st (st.op cx x) = some ys) (hys : ∀ cs ∈ ys, cs.length = sz) (hb : (xs.length + ys.length) * by_ ≤ 140737488355328) (hm : xs.length + ys.length ≤ maxLen)
    (kk : K (St.put ⟨(st.kill k).tmps, upd (st.kill k).objs k (.row E sz (xs ++ ys))⟩ dst (.c (.own k sz (xs.length + ys.length))))) :
    OpTo P cx false ⟨dst, .call { callee := .builtin .append, args := #[s, x], argTypes := #[t, t] }, ty, pos, af, gd⟩ st K := by
  intro a w next Qx ⟨fz, β, hr⟩ hn
  obtain ⟨i, hi, hiz, his, hib⟩ := tyF_spec hE
  obtain ⟨sz', ⟨ad, c, e1, e2, e3⟩⟩ := hr.lies (hr.op x h2) hx
  have hsmall : xs.length + ys.length ≤ 9223372036854775807 := by simp only [maxLen] at hm; omega
  have hrun : ∀ v w', (Builtin.append_ #[t, t] ty #[a.eval s, a.eval x]).run P w = .ok v w' → (execOp a.eval ⟨dst, .call { callee := .builtin .append, args := #[s, x], argTypes := #[t, t] }, ty, pos, af, gd⟩).run P w = .ok (.value v) w' := by
    intro v w' h; simp [execOp, resolve, invoke, builtin, h]
  have fin : ∀ v w' fz' β', (Builtin.append_ #[t, t] ty #[a.eval s, a.eval x]).run P w = .ok v w' → SR cx ⟨(st.kill k).tmps, upd (st.kill k).objs k (.row E sz (xs ++ ys))⟩ a w' fz' β' → RepC w' fz' β' (.own k sz (xs.length + ys.length)) v → wpv P ⟨dst, .call { callee := .builtin .append, args := #[s, x], argTypes := #[t, t] }, ty, pos, af, gd⟩ a w next Qx := by
    intro v w' fz' β' h3 h4 h5
    unfold wpv
    rw [hrun v w' h3]
    exact hn _ _ _ kk ⟨fz', β', h4.put (x := .c (.own k sz (xs.length + ys.length))) h5 dst⟩ (fun h => by cases h)
  -- what the new row reads as, over a block that begins with the old values and the new ones
  have mkRow : ∀ (w' : World) (fz' : Nat → Prop) (β' : Nat → Option Nat) (olds news rest : List Value) (b' : Nat), β' k = some b' → w'.heap[b']? = some (.cells (olds ++ news ++ rest).toArray E (0, 0)) → (∀ cs ∈ xs, cs.length = sz) →
      All2 (RepP w' fz') xs.flatten olds → All2 (RepP w' fz') ys.flatten news → RepO w' fz' β' k (.row E sz (xs ++ ys)) := by
    intro w' fz' β' olds news rest b' h3 h4 h5 h6 h7
    have hl1 : olds.length = xs.length * sz := by rw [← h6.len]; exact flat_len h5
    have hl2 : news.length = ys.length * sz := by rw [← h7.len]; exact flat_len hys
    have hl : (olds ++ news).length = (xs ++ ys).length * sz := by rw [List.length_append, List.length_append, Nat.add_mul, hl1, hl2]
    refine .inr ⟨b', _, h3, h4, by rw [← hl]; simp, mem_flat h5 hys, ?_⟩
    rw [← hl, List.take_left, List.flatten_append]
    exact h6.append h7
  have hnl : ∀ news : List Value, All2 (RepP w fz) ys.flatten news → news.length = ys.length * i.size := fun news h => by rw [← h.len, his]; exact flat_len hys
  -- the new elements
  by_cases hy0 : ys = []
  · -- nothing new
    subst hy0
    simp only [List.length_nil, Nat.add_zero, List.append_nil] at *
    rcases hs with ⟨hs, hf⟩ | ⟨hs, rfl⟩
    · have hS := hr.op s h1
      rw [hs] at hS
      have hv : ∃ bb cap, a.eval s = .slice bb xs.length cap ∧ xs.length ≤ cap := by
        rcases hS with ⟨_, h4, h5⟩ | ⟨b, cap, T', _, h5, _, _, h6⟩
        · exact ⟨none, 0, by rw [h5, h4], by omega⟩
        · exact ⟨_, cap, h5, h6⟩
      obtain ⟨bb, cap, hv, hcap⟩ := hv
      refine fin (a.eval s) w fz β (by rw [hv, e1]; exact run_app_none hu hi bb _ cap hcap ad c) ?_ hS
      refine ⟨hr.d, hr.low, hr.rel, ⟨hr.h.lt, hr.h.fzlt, hr.h.inj, hr.h.apart, fun j o hj => ?_⟩, (hr.kill k).t⟩
      rw [find_upd] at hj
      by_cases hjk : k = j
      · subst hjk; rw [if_pos rfl] at hj; cases hj; exact hr.h.ob _ _ hf
      · rw [if_neg hjk] at hj; exact (hr.kill k).h.ob j o hj
    · have hv := hr.eq hs h1
      have hnil : (β k = none) ∨ ¬ (β k = none) := Decidable.em _
      -- the key's elder block is given up
      refine fin (.slice none 0 0) w fz (bup β k none) (by rw [hv, e1]; exact run_app_none hu hi none 0 0 (Nat.le_refl _) ad c) ?_ (.inl ⟨bup_same _ _ _, rfl, rfl⟩)
      have hkk := hr.kill k
      refine ⟨hkk.d.stp (Stp.bupN _ _ _ _), hkk.low, ⟨hkk.rel.os, hkk.rel.tape, hkk.rel.output, hkk.rel.size, hkk.rel.old, hkk.rel.shp, hkk.rel.fzin, hkk.rel.fzout, ?_, ?_, hkk.rel.glob, fun j hj h0 => (bup_other _ _ _ (by omega)).trans (hkk.rel.bhi j hj h0)⟩, ⟨?_, hkk.h.fzlt, ?_, ?_, ?_⟩, ?_⟩
      · intro j b hj
        have : j ≠ k := fun e => by subst e; rw [hkk.low j hlow] at hj; cases hj
        rw [bup_other _ _ _ this]; exact hkk.rel.bin j b hj
      · intro j b hj
        by_cases hjk : j = k
        · subst hjk; rw [bup_same] at hj; cases hj
        · rw [bup_other _ _ _ hjk] at hj; exact hkk.rel.bout j b hj
      · intro j b hj
        by_cases hjk : j = k
        · subst hjk; rw [bup_same] at hj; cases hj
        · rw [bup_other _ _ _ hjk] at hj; exact hkk.h.lt j b hj
      · intro j j' b h3 h4
        by_cases hjk : j = k
        · subst hjk; rw [bup_same] at h3; cases h3
        · by_cases hjk' : j' = k
          · subst hjk'; rw [bup_same] at h4; cases h4
          · rw [bup_other _ _ _ hjk] at h3; rw [bup_other _ _ _ hjk'] at h4; exact hkk.h.inj _ _ _ h3 h4
      · intro b hb' j hj
        by_cases hjk : j = k
        · subst hjk; rw [bup_same] at hj; cases hj
        · rw [bup_other _ _ _ hjk] at hj; exact hkk.h.apart b hb' j hj
      · intro j o hj
        rw [find_upd] at hj
        by_cases hjk : k = j
        · subst hjk; rw [if_pos rfl] at hj; cases hj; exact .inl ⟨bup_same _ _ _, rfl⟩
        · rw [if_neg hjk] at hj
          refine (hkk.h.ob j o hj).adv (Adv.refl _ _) (fun _ h => h) (bup_other _ _ _ (Ne.symm hjk)) (fun _ _ => rfl) (fun m hm' => bup_other _ _ _ ?_) (Stp.bupN _ _ _ _)
          intro e; subst e; rw [St.noref_o (noref_kill _ _) hj (Ne.symm hjk)] at hm'; cases hm'
      · refine hkk.t.mono fun u v hu' hv' => hv'.adv (Adv.refl _ _) (fun _ h => h) (fun m hm' => bup_other _ _ _ ?_)
        intro e; subst e; rw [St.noref_t (noref_kill _ _) hu'] at hm'; cases hm'
  · obtain ⟨b, o, e4, e5, news, e6, e7⟩ := e3.resolve_left hy0
    subst e4
    have hy1 : 0 < ys.length := List.length_pos_iff.2 hy0
    have hnews : ∀ (j : Nat) u, news[j]? = some u → w.cell? ((⟨b, o, none⟩ : Addr).add j) = some u := fun j u hj => by rw [Addr.add_lit]; exact e7 j u hj
    have hone : ∀ u ∈ news, u.oneCell' = true := all2_one e6
    have hlenN := hnl news e6
    have big : ∀ (olds : List Value) (v : Value) (cap : Nat) (rest : List Value), (∀ cs ∈ xs, cs.length = sz) → All2 (RepP w fz) xs.flatten olds → v = .slice (some ⟨w.heap.size, 0, none⟩) (xs.length + ys.length) cap → cap ≤ maxLen → xs.length + ys.length ≤ cap →
        (olds ++ news ++ rest).length = cap * sz → (Builtin.append_ #[t, t] ty #[a.eval s, a.eval x]).run P w = .ok v (w.drew.alloc (.cells (olds ++ news ++ rest).toArray E)) → wpv P ⟨dst, .call { callee := .builtin .append, args := #[s, x], argTypes := #[t, t] }, ty, pos, af, gd⟩ a w next Qx := by
      intro olds v cap rest h3 h4 h5 h6 h7 h8 h9
      have hA : Adv fz w (w.drew.alloc (.cells (olds ++ news ++ rest).toArray E)) := adv_push rfl hr.h.fzlt
      have hnew : (w.drew.alloc (.cells (olds ++ news ++ rest).toArray E)).heap[w.heap.size]? = some (.cells (olds ++ news ++ rest).toArray E) := heap_alloc_new w.drew _
      have hkk := (hr.kill k).mk' hlow (noref_kill k st) (.row E sz (xs ++ ys)) rfl (w' := w.drew.alloc (.cells (olds ++ news ++ rest).toArray E)) ⟨rfl, rfl, rfl⟩ (.cells (olds ++ news ++ rest).toArray E) rfl
        (mkRow _ fz _ olds news rest w.heap.size (bup_same _ _ _) hnew h3 (h4.mono fun _ _ _ h => RepP.adv h hA fun _ h => h) (e6.mono fun _ _ _ h => RepP.adv h hA fun _ h => h))
      refine fin v _ fz _ h9 hkk ?_
      exact .inr ⟨w.heap.size, cap, E, bup_same _ _ _, h5, by rw [shapeAt hnew, h8], h6, h7⟩
    have wrap : ∀ cap, Builtin.zeroCells z.cells cap = ((Builtin.zeroCells z.cells cap).toList).toArray := fun cap => by simp
    rcases hs with ⟨hs, hf⟩ | ⟨hs, rfl⟩
    · have hS := hr.op s h1
      rw [hs] at hS
      rcases hr.h.ob k _ hf with ⟨h3, h4⟩ | ⟨b', vs, h3, h4, h5, h6, h7⟩
      · -- there is no block yet
        subst h4
        rcases hS with ⟨_, _, h8⟩ | ⟨b2, cap, T', h8, _⟩
        · have hrn := run_append_nil (P := P) w t ty E i z hu hi hiz ⟨b, o, none⟩ ys.length c news hlenN hnews hy1 (by omega) (by rw [hib]; simp only [List.length_nil, Nat.zero_add] at hb; omega)
          refine big [] _ (grownCap w ys.length 0 E) (Builtin.zeroCells z.cells (grownCap w ys.length 0 E - ys.length)).toList (by simp) .nil rfl (grownCap_le_maxLen w _ _ _ (by simp at hm; omega)) (by simp; exact grownCap_ge w _ _ _) ?_ (by rw [h8, e1]; simp only [List.length_nil, Nat.zero_add, List.nil_append, ← List.append_toArray, Array.toArray_toList]; exact hrn)
          have := grownCap_ge w ys.length 0 E
          simp only [List.nil_append, List.length_append, hlenN, Array.length_toList, size_zeroCells, hzs, his, ← Nat.add_mul]
          congr 1; omega
        · rw [h3] at h8; cases h8
      · rcases hS with ⟨h8, _⟩ | ⟨b2, cap, T', h8, h9, h10, h11, h12⟩
        · rw [h3] at h8; cases h8
        · rw [h3] at h8; cases h8
          have hvl : vs.length = cap * sz := by rw [shapeAt h4] at h10; simp at h10; exact h10.2
          by_cases hroom : xs.length + ys.length ≤ cap
          · -- there is room
            have hfit : xs.length * i.size + news.length ≤ vs.toArray.size := by rw [hlenN, his]; simp only [List.size_toArray, hvl, ← Nat.add_mul]; exact Nat.mul_le_mul_right _ hroom
            have hrr := run_append_room (P := P) w t ty E i hu hi b' xs.length cap vs.toArray h4 ⟨b, o, none⟩ ys.length c news hlenN hnews hone hroom hfit
            rw [his] at hrr
            have hl' : (vs.take (xs.length * sz) ++ news ++ vs.drop (xs.length * sz + news.length)).length = vs.length := by
              have h := hfit; rw [his] at h; simp only [List.size_toArray] at h; simp; omega
            have hkk := (hr.kill k).wr h3 h4 hl' (.row E sz (xs ++ ys)) (fun w' hA hb' => mkRow w' fz β (vs.take (xs.length * sz)) news (vs.drop (xs.length * sz + news.length)) b' h3 hb' h6 (h7.mono fun _ _ _ h => RepP.adv h hA fun _ h => h) (e6.mono fun _ _ _ h => RepP.adv h hA fun _ h => h))
            refine fin _ _ fz β (by rw [h9, e1]; exact hrr) hkk ?_
            exact .inr ⟨b', cap, E, h3, rfl, by rw [shapeAt (setRow_heap w b' _ _ E _ h4), hl', hvl], h11, hroom⟩
          · -- it grows
            have holds : ∀ (j : Nat) u, (vs.take (xs.length * sz))[j]? = some u → w.cell? ((⟨b', 0, none⟩ : Addr).add j) = some u := fun j u hj => by
              rw [Addr.add_lit, Nat.zero_add, cellAt h4]
              rw [List.getElem?_take] at hj
              split at hj
              · exact hj
              · cases hj
            have hlo : (vs.take (xs.length * sz)).length = xs.length * i.size := by rw [his, ← h7.len]; exact flat_len h6
            have hrg := run_append_grow (P := P) w t ty E i z hu hi hiz ⟨b', 0, none⟩ xs.length cap (vs.take (xs.length * sz)) hlo holds ⟨b, o, none⟩ ys.length c news hlenN hnews (by omega) (by omega) (growslice_fits (by omega) (by rw [hib]; exact hb))
            refine big (vs.take (xs.length * sz)) _ (grownCap w (xs.length + ys.length) cap E) (Builtin.zeroCells z.cells (grownCap w (xs.length + ys.length) cap E - (xs.length + ys.length))).toList h6 h7 rfl (grownCap_le_maxLen w _ _ _ hm) (grownCap_ge w _ _ _) ?_ (by rw [h9, e1]; simp only [← List.append_toArray, Array.toArray_toList]; exact hrg)
            have := grownCap_ge w (xs.length + ys.length) cap E
            simp only [List.length_append, hlo, hlenN, Array.length_toList, size_zeroCells, hzs, his, ← Nat.add_mul]
            congr 1; omega
    · have hv := hr.eq hs h1
      have hrn := run_append_nil (P := P) w t ty E i z hu hi hiz ⟨b, o, none⟩ ys.length c news hlenN hnews hy1 (by omega) (by rw [hib]; simp only [List.length_nil, Nat.zero_add] at hb; omega)
      refine big [] _ (grownCap w ys.length 0 E) (Builtin.zeroCells z.cells (grownCap w ys.length 0 E - ys.length)).toList (by simp) .nil rfl (grownCap_le_maxLen w _ _ _ (by simp at hm; omega)) (by simp; exact grownCap_ge w _ _ _) ?_ (by rw [hv, e1]; simp only [List.length_nil, Nat.zero_add, List.nil_append, ← List.append_toArray, Array.toArray_toList]; exact hrn)
      have := grownCap_ge w ys.length 0 E
      simp only [List.nil_append, List.length_append, hlenN, Array.length_toList, size_zeroCells, hzs, his, ← Nat.add_mul]
      congr 1; omega
end
end Go.Proofs.Vl
end
section
/- Calls: what a function answers, told of values alone. -/
set_option linter.all false
namespace Go.Proofs.Vl
open Go Go.RowKit

/-- Called at these arguments, over these blocks (keys from 1000000 on), the function returns what Q tells. -/
def AC (P : Program) (G : Nat → Option (List PV)) (f : Nat) (args : List AV) (os : List (Nat × Ob)) (Q : AV → List (Nat × Ob) → Prop) : Prop :=
  ∀ (w : World) (fz : Nat → Prop) (β : Nat → Option Nat) (vs : List Value), (∀ k, k < 1000000 → β k = none) → H w fz β os →
    (∀ g cs, G g = some cs → RepC w fz (fun _ => none) (.eptr cs) (.pointer (some ⟨g, 0, none⟩))) → All2 (RepA w fz β) args vs →
    Calls P f vs.toArray w (fun e w' => ∃ v r os' fz' β', e = .returned v ∧ Q r os' ∧ Rel (Cx.of w fz β G) w' fz' β' ∧ H w' fz' β' os' ∧ RepA w' fz' β' r v)
theorem AC.mono {P : Program} {G} {f : Nat} {args : List AV} {os} {Q Q' : AV → List (Nat × Ob) → Prop} (h : AC P G f args os Q) (hq : ∀ r o, Q r o → Q' r o) : AC P G f args os Q' :=
  fun w fz β vs h1 h2 h3 h4 => (h w fz β vs h1 h2 h3 h4).mono fun e w' ⟨v, r, os', fz', β', h5, h6, h7⟩ => ⟨v, r, os', fz', β', h5, hq _ _ h6, h7⟩

section
variable {P : Program} {cx : Cx} {st : St} {a : Act} {w : World} {fz : Nat → Prop} {β : Nat → Option Nat}

/-! ### Results -/
inductive ResV (P : Program) (st : St) : ResultVar → AV → Prop
  | tmp {t : Nat} {z : AV} (h : st.tmps[t]? = some z) : ResV P st (.tmp t) z
  | ld1 {t : Nat} {T : TypeId} {x : AV} {cs : List PV} {z : PV} (h : st.tmps[t]? = some x) (hT : tyI P T = some none) (hp : placeP st x = some cs) (hz : cs[0]? = some z) : ResV P st (.cell t T) (.c (.p z))
  | ldN {t n : Nat} {T : TypeId} {x : AV} {cs : List PV} (h : st.tmps[t]? = some x) (hT : tyI P T = some (some n)) (hp : placeP st x = some cs) (hn : n ≤ cs.length) : ResV P st (.cell t T) (.pag (cs.take n))
  | lc1 {t : Nat} {T : TypeId} {x : AV} {cs : List CV} {z : CV} (h : st.tmps[t]? = some x) (hT : tyI P T = some none) (hp : placeC st x = some cs) (hz : cs[0]? = some z) : ResV P st (.cell t T) (.c z)
  | lcN {t n : Nat} {T : TypeId} {x : AV} {cs : List CV} (h : st.tmps[t]? = some x) (hT : tyI P T = some (some n)) (hp : placeC st x = some cs) (hn : n ≤ cs.length) : ResV P st (.cell t T) (.agg (cs.take n))
def resOne (P : Program) (tmps : Array Value) : ResultVar → Sem Value
  | .tmp t => pure (tmps.getD t undef)
  | .cell a t => do loadVar t (← asAddr (tmps.getD a undef))
theorem SR.tmp (h : SR cx st a w fz β) {t : Nat} {z : AV} (ht : st.tmps[t]? = some z) : ∃ v, a.tmps.getD t undef = v ∧ RepA w fz β z v := by
  obtain ⟨v, h1, h2⟩ := h.t.get ht
  refine ⟨v, ?_, h2⟩
  simp at h1
  simp [Array.getD_eq_getD_getElem?, h1]
theorem SR.res (h : SR cx st a w fz β) {rv : ResultVar} {z : AV} (hz : ResV P st rv z) : ∃ v, (resOne P a.tmps rv).run P w = .ok v w ∧ RepA w fz β z v := by
  cases hz with
  | tmp ht => obtain ⟨v, h1, h2⟩ := h.tmp ht; exact ⟨v, by simp [resOne, h1], h2⟩
  | ld1 ht hT hp hz =>
    obtain ⟨v, h1, h2⟩ := h.tmp ht
    obtain ⟨b, o, h3, h4⟩ := h.placeP h2 hp
    obtain ⟨u, h5, h6⟩ := h4 0 _ hz
    subst h3
    exact ⟨u, by simp [resOne, h1, asAddr, run_loadVar1 hT ⟨b, o, none⟩ (by simpa using h5)], h6⟩
  | ldN ht hT hp hn =>
    rename_i n T x cs
    obtain ⟨v, h1, h2⟩ := h.tmp ht
    obtain ⟨b, o, h3, h4⟩ := h.placeP h2 hp
    obtain ⟨vs, h5, h6⟩ := place_vals (R := RepP w fz) (b := b) (cs.take n) o (fun c y hy => h4 c y (by rw [List.getElem?_take] at hy; split at hy; exact hy; cases hy))
    subst h3
    exact ⟨.agg vs.toArray, by simp [resOne, h1, asAddr, run_loadVarN hT b o vs (by rw [← h5.len, List.length_take]; omega) h6], ⟨vs, rfl, h5⟩⟩
  | lc1 ht hT hp hz =>
    obtain ⟨v, h1, h2⟩ := h.tmp ht
    obtain ⟨b, o, h3, h4⟩ := h.placeC h2 hp
    obtain ⟨u, h5, h6⟩ := h4 0 _ hz
    subst h3
    exact ⟨u, by simp [resOne, h1, asAddr, run_loadVar1 hT ⟨b, o, none⟩ (by simpa using h5)], h6.2⟩
  | lcN ht hT hp hn =>
    rename_i n T x cs
    obtain ⟨v, h1, h2⟩ := h.tmp ht
    obtain ⟨b, o, h3, h4⟩ := h.placeC h2 hp
    obtain ⟨vs, h5, h6⟩ := place_vals (R := RepC1 w fz β) (b := b) (cs.take n) o (fun c y hy => h4 c y (by rw [List.getElem?_take] at hy; split at hy; exact hy; cases hy))
    subst h3
    exact ⟨.agg vs.toArray, by simp [resOne, h1, asAddr, run_loadVarN hT b o vs (by rw [← h5.len, List.length_take]; omega) h6], ⟨vs, rfl, h5⟩⟩
theorem RepA.tv {x : TV} {v : Value} (h : RepA w fz β x.av v) : RepT w fz β x v := by cases x <;> exact h
def tupOf : List TV → AV
  | [z] => z.av
  | zs => .tup zs
theorem SR.ress (h : SR cx st a w fz β) : ∀ {rvs : List ResultVar} {zs : List TV}, All2 (fun rv (z : TV) => ResV P st rv z.av) rvs zs → ∃ vs : List Value, (rvs.mapM (resOne P a.tmps)).run P w = .ok vs w ∧ All2 (RepT w fz β) zs vs
  | _, _, .nil => ⟨[], by simp, .nil⟩
  | _, _, .cons h1 h2 => by
    obtain ⟨v, e1, e2⟩ := h.res h1
    obtain ⟨vs, e3, e4⟩ := h.ress h2
    exact ⟨v :: vs, by simp [List.mapM_cons, e1, e3], .cons e2.tv e4⟩
/-- At the end of a body: its results are these. -/
def retQ (P : Program) (fn : Func) (Q : AV → List (Nat × Ob) → Prop) : Exit → St → Prop
  | .normal, st | .ret, st => ∃ zs, All2 (fun rv (z : TV) => ResV P st rv z.av) fn.results.toList zs ∧ Q (tupOf zs) st.objs
  | _, _ => False
theorem SR.results (h : SR cx st a w fz β) {fn : Func} {zs : List TV} (hz : All2 (fun rv (z : TV) => ResV P st rv z.av) fn.results.toList zs) : ∃ v, (Go.results fn a.tmps).run P w = .ok v w ∧ RepA w fz β (tupOf zs) v := by
  obtain ⟨vs, h1, h2⟩ := h.ress hz
  have hr : (Go.results fn a.tmps).run P w = .ok (if h : vs.toArray.size = 1 then vs.toArray[0] else .tuple vs.toArray) w := by
    unfold Go.results
    have h3 : (fn.results.mapM (resOne P a.tmps)).run P w = .ok vs.toArray w := by
      rw [Array.mapM_eq_mapM_toList]; simp [h1]
    have e : (fn.results.mapM fun
      | .tmp t => pure (a.tmps.getD t undef)
      | .cell b t => do loadVar t (← asAddr (a.tmps.getD b undef))) = fn.results.mapM (resOne P a.tmps) := by
      congr 1
    rw [Sem.run_bind]
    show Result.andThen (Sem.run P (fn.results.mapM fun
      | .tmp t => pure (a.tmps.getD t undef)
      | .cell b t => do loadVar t (← asAddr (a.tmps.getD b undef))) w) _ = _
    rw [e, h3]; rfl
  refine ⟨_, hr, ?_⟩
  cases h2 with
  | nil => exact ⟨[], by simp, .nil⟩
  | cons h3 h4 =>
    cases h4 with
    | nil => simp only [List.size_toArray, List.length_singleton, dite_true]; exact h3.av
    | cons h5 h6 => rw [dif_neg (by simp)]; exact ⟨_, rfl, .cons h3 (.cons h5 h6)⟩
theorem AC.body {G : Nat → Option (List PV)} {f : Nat} {args : List AV} {os : List (Nat × Ob)} {Q : AV → List (Nat × Ob) → Prop} {fn : Func} {c : Code} (hf : P.funcs[f]? = some fn) (hb : fn.body = some c)
    (h : ∀ cx : Cx, cx.defers = [] → cx.G = G → AWp P cx c ⟨args ++ List.replicate (fn.ntmps - args.length) (.c .any), os⟩ (retQ P fn Q)) : AC P G f args os Q := by
  intro w fz β vs hβ hH hG hA
  refine calls_of_wp hf hb (wp_mono (wpIn_wide_of (h (Cx.of w fz β G) rfl rfl { tmps := vs.toArray ++ Array.replicate (fn.ntmps - vs.toArray.size) undef, defers := [] } w ⟨fz, β, DM.nil _ _ _ _ _ rfl rfl, hβ, ⟨rfl, rfl, rfl, Nat.le_refl _, fun _ _ _ _ => rfl, fun _ _ h => h, fun _ h => h, fun _ h => .inl h, fun _ _ h => h, fun _ _ h => .inl h, hG, fun _ _ h => h⟩, hH, ?_⟩)) ?_)
  · simp only [Array.toList_append, Array.toList_replicate, List.size_toArray, hA.len]
    exact hA.append (All2.replicate (RepA.any _) _)
  · rintro e a' w' ⟨st', hq, fz', β', hs⟩
    have key : (∃ zs, All2 (fun rv (z : TV) => ResV P st' rv z.av) fn.results.toList zs ∧ Q (tupOf zs) st'.objs) → a'.defers = [] ∧ ∃ v, (Go.results fn a'.tmps).run P w' = .ok v w' ∧ ∃ v_1 r os' fz' β', Ending.returned v = .returned v_1 ∧ Q r os' ∧ Rel (Cx.of w fz β G) w' fz' β' ∧ H w' fz' β' os' ∧ RepA w' fz' β' r v_1 := by
      rintro ⟨zs, h1, h2⟩
      obtain ⟨v, h3, h4⟩ := hs.results h1
      exact ⟨hs.d.lo rfl, v, h3, v, _, st'.objs, fz', β', rfl, h2, hs.rel, hs.h, h4⟩
    cases e with
    | normal => exact key hq
    | ret => exact key hq
    | exit _ => exact hq
    | goto _ => exact hq
    | panic _ => exact hq.elim
    | outgrown => exact hq.elim

theorem AC.body' {G : Nat → Option (List PV)} {f n : Nat} {args : List AV} {os : List (Nat × Ob)} {Q : AV → List (Nat × Ob) → Prop} {fn : Func} {c : Code} (hf : P.funcs[f]? = some fn) (hn : fn.ntmps = n) (hb : fn.body = some c)
    (h : ∀ cx : Cx, cx.defers = [] → cx.G = G → AWp P cx c ⟨args ++ List.replicate (n - args.length) (.c .any), os⟩ (retQ P fn Q)) : AC P G f args os Q := by
  subst hn; exact AC.body hf hb h

/-! ### Worlds behind a call -/
theorem SR.lift (h : SR cx st a w fz β) {w' : World} {fz' : Nat → Prop} (ho : w'.os = w.os) (ht : w'.tape = w.tape) (hp : w'.output = w.output) (hsz : w.heap.size ≤ w'.heap.size) (hold : ∀ b, b < w.heap.size → w'.heap[b]? = w.heap[b]?)
    (hf1 : ∀ b, fz b → fz' b) (hf2 : ∀ b, fz' b → fz b ∨ w.heap.size ≤ b) (hf3 : ∀ b, fz' b → b < w'.heap.size) : SR cx st a w' fz' β := by
  have hA : Adv fz w w' := .of (fun b hb => hold b (h.h.fzlt b hb)) (fun b s hs => (shape_eq (hold b (shape_lt hs))).trans hs)
  have hst : Stp w fz β w' fz' β := ⟨ho, ht, hp, hsz, fun b hb _ => hold b hb, hA.shp, fun b hb hf => (hf2 b hf).elim .inl (fun h => absurd h (by omega)), fun k b _ h => ⟨k, h⟩, hf1⟩
  refine ⟨h.d.stp hst, h.low, ⟨ho.trans h.rel.os, ht.trans h.rel.tape, hp.trans h.rel.output, Nat.le_trans h.rel.size hsz, fun hrr b hb hn => (hold b (Nat.lt_of_lt_of_le hb h.rel.size)).trans (h.rel.old hrr b hb hn), fun b s hs => hA.shp b s (h.rel.shp b s hs), fun b hb => hf1 b (h.rel.fzin b hb), fun b hb => ?_, h.rel.bin, h.rel.bout, fun g cs hg => (h.rel.glob g cs hg).glob_adv hA hf1, h.rel.bhi⟩, ⟨fun k b hk => Nat.lt_of_lt_of_le (h.h.lt k b hk) hsz, hf3, h.h.inj, fun b hb k hk => ?_, fun k o hk => (h.h.ob k o hk).adv hA hf1 rfl (fun b hb => hold b (h.h.lt k b hb)) (fun _ _ => rfl) hst⟩, h.t.mono fun x v hx hv => hv.adv hA hf1 (fun _ _ => rfl)⟩
  · rcases hf2 b hb with h1 | h1
    · exact h.rel.fzout b h1
    · exact .inr (Nat.le_trans h.rel.size h1)
  · rcases hf2 b hb with h1 | h1
    · exact h.h.apart b h1 k hk
    · have := h.h.lt k b hk; omega
/-- A block that is the call's own from now on. -/
theorem SR.add (h : SR cx st a w fz β) {d b0 : Nat} (hlow : d < 1000000) (hd : st.noref d = true) (ob : Ob) (hr : ob.ref d = false) (h1 : cx.w0.heap.size ≤ b0) (h2 : b0 < w.heap.size) (h3 : ¬ fz b0) (h4 : ∀ k, β k ≠ some b0)
    (hrep : ∀ β', β' d = some b0 → RepO w fz β' d ob) (hd0 : DM cx a w fz (bup β d (some b0))) (hob : ∀ k o', find st.objs k = some o' → k ≠ d → RepO w fz (bup β d (some b0)) k o') : SR cx ⟨st.tmps, upd st.objs d ob⟩ a w fz (bup β d (some b0)) := by
  refine ⟨hd0, h.low, ⟨h.rel.os, h.rel.tape, h.rel.output, h.rel.size, h.rel.old, h.rel.shp, h.rel.fzin, h.rel.fzout, ?_, ?_, h.rel.glob, fun k hk h0 => (bup_other _ _ _ (by omega)).trans (h.rel.bhi k hk h0)⟩, ⟨?_, h.h.fzlt, ?_, ?_, ?_⟩, ?_⟩
  · intro k b hk
    by_cases hkd : k = d
    · subst hkd; rw [h.low k hlow] at hk; cases hk
    · rw [bup_other _ _ _ hkd]; exact h.rel.bin k b hk
  · intro k b hk
    by_cases hkd : k = d
    · subst hkd; rw [bup_same] at hk; cases hk; exact .inr h1
    · rw [bup_other _ _ _ hkd] at hk; exact h.rel.bout k b hk
  · intro k b hk
    by_cases hkd : k = d
    · subst hkd; rw [bup_same] at hk; cases hk; exact h2
    · rw [bup_other _ _ _ hkd] at hk; exact h.h.lt k b hk
  · intro k k' b e1 e2
    by_cases hk : k = d <;> by_cases hk' : k' = d
    · exact hk.trans hk'.symm
    · rw [hk, bup_same] at e1; rw [bup_other _ _ _ hk'] at e2; cases e1; exact absurd e2 (h4 _)
    · rw [hk', bup_same] at e2; rw [bup_other _ _ _ hk] at e1; cases e2; exact absurd e1 (h4 _)
    · rw [bup_other _ _ _ hk] at e1; rw [bup_other _ _ _ hk'] at e2; exact h.h.inj _ _ _ e1 e2
  · intro b hb k hk
    by_cases hkd : k = d
    · subst hkd; rw [bup_same] at hk; cases hk; exact h3 hb
    · rw [bup_other _ _ _ hkd] at hk; exact h.h.apart b hb k hk
  · intro k o' hk
    rw [find_upd] at hk
    by_cases hkd : d = k
    · subst hkd; rw [if_pos rfl] at hk; cases hk; exact hrep _ (bup_same _ _ _)
    · rw [if_neg hkd] at hk
      exact hob k o' hk (Ne.symm hkd)
  · refine h.t.mono fun x v hx hv => hv.adv (Adv.refl _ _) (fun _ h => h) (fun j hj => bup_other _ _ _ ?_)
    intro e; subst e; rw [St.noref_t hd hx] at hj; cases hj

/-! ### Arguments -/
/-- A row of the call's own is handed on to be read. -/
def frz (st : St) (z : AV) : AV := match elems st z with
  | some xs => .c (.p (.fro xs))
  | none => z
def AV.keyless : AV → Bool
  | .c (.p _) | .c (.eptr _) | .c .any | .pag _ => true
  | .c (.fn _ caps) => caps.all fun | .val _ | .fz _ => true | .key _ => false
  | .agg cs => cs.all fun | .p _ | .eptr _ | .any => true | _ => false
  | _ => false
theorem CV.ref_p {x : CV} (h : (match x with | .p _ | .eptr _ | .any => true | _ => false) = true) (k : Nat) : x.ref k = false := by cases x <;> first | rfl | cases h
theorem AV.keyless_ref {z : AV} (h : z.keyless = true) (k : Nat) : z.ref k = false := by
  cases z with
  | c x =>
    cases x <;> first | rfl | (simp [AV.keyless] at h; done) | skip
    rename_i f caps
    simp only [AV.keyless, List.all_eq_true] at h
    simp only [AV.ref, CV.ref, List.any_eq_false]
    intro c hc
    have := h c hc
    cases c <;> simp_all [Cap.ref]
  | agg cs =>
    simp only [AV.keyless, List.all_eq_true] at h
    simp only [AV.ref, List.any_eq_false]
    intro c hc
    simp [CV.ref_p (h c hc) k]
  | pag cs => rfl
  | tup xs => cases h
/-- All blocks that the call may look at. -/
def fzAll (fz : Nat → Prop) (β : Nat → Option Nat) : Nat → Prop := fun b => fz b ∨ ∃ k, β k = some b
theorem Lies.fro {v : Value} {sz : Nat} {xs : List (List PV)} {fz' : Nat → Prop} (h : Lies w fz v sz xs) (hf : ∀ b, fz b → fz' b) (hin : ∀ b o u, w.cell? ⟨b, o, none⟩ = some u → v.ownBlock = some b → fz' b) : RepP w fz' (.fro xs) v := by
  obtain ⟨ad, cap, h1, h2, h3⟩ := h.ex
  subst h1
  by_cases h0 : xs = []
  · subst h0; exact .nil _ _
  · obtain ⟨b, o, rfl, h5, news, h6, h7⟩ := h3.resolve_left h0
    have hget : ∀ (j : Nat) (cs : List PV) (c : Nat) (x : PV), xs[j]? = some cs → cs[c]? = some x → ∃ u, news[j * sz + c]? = some u ∧ RepP w fz x u := fun j cs c x hj hc => by
      have hlt : c < sz := by have := (List.getElem?_eq_some_iff.1 hc).1; rw [h5 cs (List.mem_of_getElem? hj)] at this; exact this
      exact h6.get ((flat_get h5 hj c hlt).trans hc)
    have hb : 0 < sz → fz' b := by
        intro hs0
        cases xs with
        | nil => exact absurd rfl h0
        | cons c0 xr =>
          have hl := h5 c0 List.mem_cons_self
          obtain ⟨x0, hx0⟩ : ∃ x0, c0[0]? = some x0 := ⟨c0[0]'(by omega), List.getElem?_eq_getElem _⟩
          obtain ⟨u, hu, _⟩ := hget 0 c0 0 x0 rfl hx0
          exact hin b _ u (h7 _ u hu) rfl
    refine .fro xs b o cap sz (fun j c => (news[j * sz + c]?).getD undef) hb h2 (fun j cs hj => h5 cs (List.mem_of_getElem? hj)) (fun j cs c x hj hc => ?_) (fun j cs c x hj hc => ?_)
    · obtain ⟨u, hu, _⟩ := hget j cs c x hj hc
      simp only [hu, Option.getD_some]
      exact h7 _ u hu
    · obtain ⟨u, hu, hr⟩ := hget j cs c x hj hc
      simp only [hu, Option.getD_some]
      exact hr.adv (Adv.refl _ _) hf
end
end Go.Proofs.Vl
end
section
/- Calls: the rules at a call. -/
set_option linter.all false
namespace Go.Proofs.Vl
open Go Go.RowKit

section
variable {P : Program} {cx : Cx} {st : St} {a : Act} {w : World} {fz : Nat → Prop} {β : Nat → Option Nat}
variable {kp : Bool} {K : St → Prop} {dst : Option Tmp} {ty T T' E : TypeId} {pos : String} {af : Array Edge} {gd : Option (Nat × Bool)} {x y : Operand}

theorem elems_none_p {z : AV} (h : elems st z = none) : frz st z = z := by simp [frz, h]
theorem SR.frz (h : SR cx st a w fz β) {z : AV} {v : Value} (hz : RepA w fz β z v) (hk : (frz st z).keyless = true) : RepA w (fzAll fz β) (fun _ => none) (frz st z) v := by
  cases he : elems st z with
  | none =>
    rw [elems_none_p he] at hk ⊢
    exact hz.adv (Adv.refl _ _) (fun b hb => .inl hb) (fun k hr => by rw [AV.keyless_ref hk] at hr; cases hr)
  | some xs =>
    have hfr : Vl.frz st z = .c (.p (.fro xs)) := by simp [Vl.frz, he]
    rw [hfr]
    obtain ⟨sz, hL⟩ := h.lies hz he
    cases z with
    | c z =>
      cases z with
      | p z =>
        cases z with
        | s u' =>
          unfold elems at he
          split at he
          · simp_all
          · simp_all
          · simp_all
          · rename_i heq; cases heq; cases he; have := RepA.eq hz; subst this; exact .nil _ _
          · cases he
        | fro ys =>
          simp only [elems, Option.some.injEq] at he; subst he
          exact RepP.adv hz (Adv.refl _ _) (fun b hb => .inl hb)
      | own k sz n =>
        refine hL.fro (fun b hb => .inl hb) (fun b o u hu hb => ?_)
        rcases hz with ⟨_, _, rfl⟩ | ⟨b', cap, T, h1, rfl, _⟩
        · simp [Value.ownBlock] at hb
        · simp [Value.ownBlock] at hb; subst hb; exact .inr ⟨k, h1⟩
      | win k sz off n =>
        by_cases hn : xs = []
        · subst hn
          obtain ⟨ad, cap, h1, _⟩ := hL.ex
          subst h1; exact .nil _ _
        · refine hL.fro (fun b hb => .inl hb) (fun b o u hu hb => ?_)
          rcases hz with ⟨h0, ad, cap, h1⟩ | ⟨b', cap, h1, rfl, _⟩
          · obtain ⟨ad', cap', h2, _⟩ := hL.ex
            rw [h1] at h2
            have h3 : 0 = xs.length := by injection h2
            exact absurd (List.eq_nil_of_length_eq_zero (by omega)) hn
          · simp [Value.ownBlock] at hb; subst hb; exact .inr ⟨k, h1⟩
      | _ => simp [elems] at he
    | _ => simp [elems] at he

/-! ### What comes back -/
def PV.solid : PV → Bool
  | .s _ => true
  | .fro _ => false
def TV.solid : TV → Bool
  | .c (.p x) => x.solid
  | .c .any => true
  | .pag cs => cs.all PV.solid
  | _ => false
def AV.solid : AV → Bool
  | .c (.p x) => x.solid
  | .c .any => true
  | .pag cs => cs.all PV.solid
  | .tup xs => xs.all TV.solid
  | _ => false
def TV.keyless : TV → Bool
  | .c (.p _) | .c .any | .c (.eptr _) | .pag _ => true
  | _ => false
def AV.keyless' : AV → Bool
  | .tup xs => xs.all TV.keyless
  | z => z.keyless
/-- m: what is only read is taken over as it is; else it must hold no rows. -/
def pvOk (m : Bool) (x : PV) : Bool := m || x.solid
def avOk (m : Bool) (x : AV) : Bool := if m then x.keyless' else x.solid
def tvOk (m : Bool) (x : TV) : Bool := if m then x.keyless else x.solid
inductive Imp (m : Bool) (st : St) (os' : List (Nat × Ob)) (dst : Option Tmp) : AV → St → Prop
  | val {r : AV} (h : avOk m r = true) : Imp m st os' dst r (st.put dst r)
  | row {k' sz n d : Nat} {T : TypeId} {xs : List (List PV)} (hd : dst = some d) (hf : find os' k' = some (.row T sz xs)) (hs : ∀ cs ∈ xs, ∀ x ∈ cs, pvOk m x = true) (hlow : d < 1000000) (hn : st.noref d = true) :
      Imp m st os' dst (.c (.own k' sz n)) (St.put ⟨st.tmps, upd st.objs d (.row T sz xs)⟩ (some d) (.c (.own d sz n)))
  | ptr {k' d : Nat} {T : TypeId} {cs : List PV} (hd : dst = some d) (hf : find os' k' = some (.pcells T cs)) (hs : ∀ x ∈ cs, pvOk m x = true) (hlow : d < 1000000) (hn : st.noref d = true) :
      Imp m st os' dst (.c (.ptr k' 0)) (St.put ⟨st.tmps, upd st.objs d (.pcells T cs)⟩ (some d) (.c (.ptr d 0)))
  | row2 {k' sz n d : Nat} {T : TypeId} {xs : List (List PV)} {zs : List TV} (hd : dst = some d) (hf : find os' k' = some (.row T sz xs)) (hs : ∀ cs ∈ xs, ∀ x ∈ cs, pvOk m x = true) (hz : ∀ z ∈ zs, tvOk m z = true) (hlow : d < 1000000) (hn : st.noref d = true) :
      Imp m st os' dst (.tup (.c (.own k' sz n) :: zs)) (St.put ⟨st.tmps, upd st.objs d (.row T sz xs)⟩ (some d) (.tup (.c (.own d sz n) :: zs)))
theorem RepP.solid {w fz fz'} {x : PV} {v : Value} (h : RepP w fz x v) (hx : x.solid = true) : RepP w fz' x v := by
  cases h with
  | s v h => exact .s v h
  | _ => cases hx
section
variable {m : Bool} {fz' fz2 : Nat → Prop} {β' β2 : Nat → Option Nat}
theorem RepP.imp {x : PV} {v : Value} (h : RepP w fz' x v) (hx : pvOk m x = true) (hm : m = true → ∀ b, fz' b → fz2 b) : RepP w fz2 x v := by
  cases m with
  | true => exact h.adv (Adv.refl _ _) (hm rfl)
  | false => exact h.solid (by simpa [pvOk] using hx)
theorem RepT.imp {x : TV} {v : Value} (h : RepT w fz' β' x v) (hx : tvOk m x = true) (hm : m = true → ∀ b, fz' b → fz2 b) : RepT w fz2 β2 x v := by
  cases m with
  | true =>
    refine RepT.adv h (Adv.refl _ _) (hm rfl) (fun k hk => ?_)
    simp only [tvOk, if_true] at hx
    cases x with
    | c y => cases y <;> first | (simp [TV.keyless] at hx; done) | (simp [TV.ref, CV.ref] at hk; done)
    | agg cs => simp [TV.keyless] at hx
    | pag cs => simp [TV.ref] at hk
  | false =>
    simp only [tvOk] at hx
    cases x with
    | c y =>
      cases y with
      | p y => exact RepP.solid h (by simpa [TV.solid] using hx)
      | any => trivial
      | _ => simp [TV.solid] at hx
    | agg cs => simp [TV.solid] at hx
    | pag cs =>
      obtain ⟨vs, h1, h2⟩ := h
      simp only [TV.solid] at hx
      exact ⟨vs, h1, h2.mono fun a b ha hr => hr.solid ((List.all_eq_true.1 (by simpa using hx)) a ha)⟩
theorem RepA.imp {x : AV} {v : Value} (h : RepA w fz' β' x v) (hx : avOk m x = true) (hm : m = true → ∀ b, fz' b → fz2 b) : RepA w fz2 β2 x v := by
  cases x with
  | tup xs =>
    obtain ⟨vs, h1, h2⟩ := h
    refine ⟨vs, h1, h2.mono fun a b ha hr => RepT.imp (m := m) hr ?_ hm⟩
    cases m with
    | true => simp only [avOk, if_true, AV.keyless', List.all_eq_true] at hx; simpa [tvOk] using hx a ha
    | false => simp only [avOk, AV.solid] at hx; simpa [tvOk] using (List.all_eq_true.1 (by simpa using hx)) a ha
  | c y =>
    cases m with
    | true =>
      refine RepA.adv (x := .c y) h (Adv.refl _ _) (hm rfl) (fun k hk => ?_)
      simp only [avOk, if_true, AV.keyless'] at hx
      rw [AV.keyless_ref hx] at hk; cases hk
    | false =>
      simp only [avOk] at hx
      cases y with
      | p y => exact RepP.solid h (by simpa [AV.solid] using hx)
      | any => trivial
      | _ => simp [AV.solid] at hx
  | agg cs =>
    cases m with
    | true =>
      refine RepA.adv (x := .agg cs) h (Adv.refl _ _) (hm rfl) (fun k hk => ?_)
      simp only [avOk, if_true, AV.keyless'] at hx
      rw [AV.keyless_ref hx] at hk; cases hk
    | false => simp [avOk, AV.solid] at hx
  | pag cs =>
    cases m with
    | true => exact RepA.adv (x := .pag cs) h (Adv.refl _ _) (hm rfl) (fun k hk => by cases hk)
    | false =>
      obtain ⟨vs, h1, h2⟩ := h
      simp only [avOk, AV.solid] at hx
      exact ⟨vs, h1, h2.mono fun a b ha hr => hr.solid ((List.all_eq_true.1 (by simpa using hx)) a ha)⟩
end
/-- The state behind a call that was lent nothing. -/
theorem SR.back {m : Bool} (h : SR cx st a w fz β) {fzc fz' : Nat → Prop} {β' : Nat → Option Nat} {w' : World} {G} {os' : List (Nat × Ob)} {r : AV} {v : Value} (hfc : ∀ b, fz b → fzc b) (hm : m = true → ∀ b, fzc b → fz b)
    (hr : Rel (Cx.of w fzc (fun _ => none) G) w' fz' β') (hH : H w' fz' β' os') (hv : RepA w' fz' β' r v) {s' : St} (hi : Imp m st os' dst r s') : ∃ fz2 β2, SR cx s' (a.put dst v) w' fz2 β2 := by
  have hold : ∀ b, b < w.heap.size → w'.heap[b]? = w.heap[b]? := fun b hb => hr.old rfl b hb (fun k => by simp)
  -- what is only read from now on
  obtain ⟨fz2, e1, e2, e3, e4⟩ : ∃ fz2 : Nat → Prop, (∀ b, fz b → fz2 b) ∧ (∀ b, fz2 b → fz b ∨ w.heap.size ≤ b) ∧ (∀ b, fz2 b → b < w'.heap.size ∧ (w.heap.size ≤ b → fz' b)) ∧ (m = true → ∀ b, fz' b → fz2 b) := by
    cases m with
    | true =>
      refine ⟨fz', fun b hb => hr.fzin b (hfc b hb), fun b hb => ?_, fun b hb => ⟨hH.fzlt b hb, fun _ => hb⟩, fun _ b hb => hb⟩
      rcases hr.fzout b hb with h1 | h1
      · exact .inl (hm rfl b h1)
      · exact .inr h1
    | false => exact ⟨fz, fun b hb => hb, fun b hb => .inl hb, fun b hb => ⟨Nat.lt_of_lt_of_le (h.h.fzlt b hb) hr.size, fun hle => absurd (h.h.fzlt b hb) (by omega)⟩, fun h => by cases h⟩
  have hs := h.lift (w' := w') (fz' := fz2) hr.os hr.tape hr.output hr.size hold e1 e2 (fun b hb => (e3 b hb).1)
  have new : ∀ k' b0, β' k' = some b0 → cx.w0.heap.size ≤ b0 ∧ b0 < w'.heap.size ∧ ¬ fz2 b0 ∧ ∀ k, β k ≠ some b0 := by
    intro k' b0 hk
    have h1 : w.heap.size ≤ b0 := (hr.bout k' b0 hk).resolve_left (by simp)
    refine ⟨Nat.le_trans h.rel.size h1, hH.lt _ _ hk, fun hb => hH.apart _ ((e3 _ hb).2 h1) _ hk, fun k hk2 => ?_⟩
    have := h.h.lt _ _ hk2; omega
  have hA : ∀ (o : Ob) {d : Nat} {b0 : Nat} {k' : Nat}, β' k' = some b0 → (∀ β2, β2 d = some b0 → RepO w' fz2 β2 d o) → o.ref d = false → d < 1000000 → st.noref d = true → SR cx ⟨st.tmps, upd st.objs d o⟩ a w' fz2 (bup β d (some b0)) :=
    fun o d b0 k' hk ho hro hlow hn => by
      have hst : Stp w fz β w' fz2 (bup β d (some b0)) := ⟨hr.os, hr.tape, hr.output, hr.size, fun b hb _ => hold b hb, hr.shp, fun b hb hf => (e2 b hf).elim .inl (fun h => absurd h (by omega)), fun k b hb hk2 => by
        by_cases hkd : k = d
        · subst hkd; rw [bup_same] at hk2
          obtain rfl : b0 = b := Option.some.inj hk2
          have : w.heap.size ≤ b0 := (hr.bout k' b0 hk).resolve_left (by simp)
          omega
        · rw [bup_other _ _ _ hkd] at hk2; exact ⟨k, hk2⟩, e1⟩
      refine hs.add hlow hn o hro (new _ _ hk).1 (new _ _ hk).2.1 (new _ _ hk).2.2.1 (new _ _ hk).2.2.2 ho (h.d.stp hst) fun k o' hk2 hkd => ?_
      refine (h.h.ob k o' hk2).adv (.of (fun b hb => hold b (h.h.fzlt b hb)) hr.shp) e1 (bup_other _ _ _ hkd) (fun b hb => hold b (h.h.lt k b hb)) (fun j hj => bup_other _ _ _ ?_) hst
      intro e; subst e; rw [St.noref_o hn hk2 hkd] at hj; cases hj
  have rowK : ∀ {k' sz d : Nat} {T : TypeId} {xs : List (List PV)}, find os' k' = some (.row T sz xs) → (∀ cs ∈ xs, ∀ x ∈ cs, pvOk m x = true) → d < 1000000 → st.noref d = true →
      ∃ β2, SR cx ⟨st.tmps, upd st.objs d (.row T sz xs)⟩ a w' fz2 β2 ∧ β2 d = β' k' := by
    intro k' sz d T xs hf hso hlow hn
    rcases hH.ob _ _ hf with ⟨h1, h2⟩ | ⟨b0, vs, h1, h2, h3, h4, h5⟩
    · -- a row of no block
      subst h2
      have hsn := hs
      refine ⟨bup β d none, ⟨hs.d.stp (Stp.bupN _ _ _ _), hs.low, ⟨hs.rel.os, hs.rel.tape, hs.rel.output, hs.rel.size, hs.rel.old, hs.rel.shp, hs.rel.fzin, hs.rel.fzout, ?_, ?_, hs.rel.glob, fun k hk h0 => (bup_other _ _ _ (by omega)).trans (hs.rel.bhi k hk h0)⟩, ⟨?_, hs.h.fzlt, ?_, ?_, ?_⟩, ?_⟩, by rw [bup_same, h1]⟩
      · intro j b hj
        have : j ≠ d := fun e => by subst e; rw [hs.low j hlow] at hj; cases hj
        rw [bup_other _ _ _ this]; exact hs.rel.bin j b hj
      · intro j b hj
        by_cases hjk : j = d
        · subst hjk; rw [bup_same] at hj; cases hj
        · rw [bup_other _ _ _ hjk] at hj; exact hs.rel.bout j b hj
      · intro j b hj
        by_cases hjk : j = d
        · subst hjk; rw [bup_same] at hj; cases hj
        · rw [bup_other _ _ _ hjk] at hj; exact hs.h.lt j b hj
      · intro j j' b h3 h4
        by_cases hjk : j = d
        · subst hjk; rw [bup_same] at h3; cases h3
        · by_cases hjk' : j' = d
          · subst hjk'; rw [bup_same] at h4; cases h4
          · rw [bup_other _ _ _ hjk] at h3; rw [bup_other _ _ _ hjk'] at h4; exact hs.h.inj _ _ _ h3 h4
      · intro b hb' j hj
        by_cases hjk : j = d
        · subst hjk; rw [bup_same] at hj; cases hj
        · rw [bup_other _ _ _ hjk] at hj; exact hs.h.apart b hb' j hj
      · intro j o hj
        rw [find_upd] at hj
        by_cases hjk : d = j
        · subst hjk; rw [if_pos rfl] at hj; cases hj; exact .inl ⟨bup_same _ _ _, rfl⟩
        · rw [if_neg hjk] at hj
          refine (hs.h.ob j o hj).adv (Adv.refl _ _) (fun _ h => h) (bup_other _ _ _ (Ne.symm hjk)) (fun _ _ => rfl) (fun m hm' => bup_other _ _ _ ?_) (Stp.bupN _ _ _ _)
          intro e; subst e; rw [St.noref_o hn hj (Ne.symm hjk)] at hm'; cases hm'
      · refine hs.t.mono fun u v hu' hv' => hv'.adv (Adv.refl _ _) (fun _ h => h) (fun m hm' => bup_other _ _ _ ?_)
        intro e; subst e; rw [St.noref_t hn hu'] at hm'; cases hm'
    · refine ⟨_, hA (.row T sz xs) h1 (fun β2 hb => .inr ⟨b0, vs, hb, h2, h3, h4, h5.mono fun x v hx hr => hr.imp (m := m) ?_ e4⟩) rfl hlow hn, by rw [bup_same, h1]⟩
      obtain ⟨cs, hcs, hxc⟩ := List.mem_flatten.1 hx
      exact hso cs hcs x hxc
  have ownK : ∀ {k' d sz n : Nat} {u : Value} {β2 : Nat → Option Nat}, RepC w' fz' β' (.own k' sz n) u → β2 d = β' k' → RepC w' fz2 β2 (.own d sz n) u := by
    intro k' d sz n u β2 hu he
    rcases hu with ⟨h1, h2⟩ | ⟨b, cap, T, h1, h2⟩
    · exact .inl ⟨he.trans h1, h2⟩
    · exact .inr ⟨b, cap, T, he.trans h1, h2⟩
  cases hi with
  | val hx => exact ⟨fz2, β, hs.put (hv.imp (m := m) hx e4) dst⟩
  | row hd hf hso hlow hn =>
    rename_i k' sz n d T xs
    obtain ⟨β2, h1, h2⟩ := rowK hf hso hlow hn
    subst hd
    exact ⟨fz2, β2, h1.put (x := .c (.own d sz n)) (ownK hv h2) (some d)⟩
  | ptr hd hf hso hlow hn =>
    rename_i k' d T cs
    obtain ⟨b0, vs, h1, h2, h3⟩ := hH.ob _ _ hf
    subst hd
    have h4 := hA (.pcells T cs) h1 (fun β2 hb => ⟨b0, vs, hb, h2, h3.mono fun x v hx hr => hr.imp (m := m) (hso x hx) e4⟩) rfl hlow hn
    refine ⟨fz2, _, h4.put (x := .c (.ptr d 0)) ?_ (some d)⟩
    obtain ⟨b1, h5, h6⟩ := hv
    rw [h1] at h5; cases h5
    exact ⟨b0, bup_same _ _ _, h6⟩
  | row2 hd hf hso hz hlow hn =>
    rename_i k' sz n d T xs zs
    obtain ⟨β2, h1, h2⟩ := rowK hf hso hlow hn
    subst hd
    refine ⟨fz2, β2, h1.put (x := .tup (.c (.own d sz n) :: zs)) ?_ (some d)⟩
    obtain ⟨vs, h3, h4⟩ := hv
    cases h4 with
    | cons h5 h6 => exact ⟨_, h3, .cons (ownK h5 h2) (h6.mono fun z u hz' hr => RepT.imp (m := m) hr (hz z hz') e4)⟩

/-! ### Calls -/
def okOps (xs : List Operand) : Bool := xs.all okOp
theorem SR.glob (h : SR cx st a w fz β) : ∀ g cs, cx.G g = some cs → RepC w (fzAll fz β) (fun _ => none) (.eptr cs) (.pointer (some ⟨g, 0, none⟩)) :=
  fun g cs hg => (h.rel.glob g cs hg).glob_adv (Adv.refl _ _) (fun b hb => .inl hb)
theorem H.none {w : World} {fz : Nat → Prop} (h : ∀ b, fz b → b < w.heap.size) : H w fz (fun _ => Option.none) [] where
  lt := fun k b hk => by cases hk
  fzlt := h
  inj := fun k k' b hk => by cases hk
  apart := fun b _ k hk => by cases hk
  ob := fun k o hk => by cases hk
def isFn (P : Program) (f : Nat) : Bool := match P.funcs[f]? with
  | some fn => fn.body.isSome && !(fn.name == "runtime.NumGoroutine")
  | none => false
theorem run_callFunc {f : Nat} (hf : isFn P f = true) (args : Array Value) : (callFunc f args).run P w = .ok (.enter f args) w := by
  unfold isFn at hf
  cases h : P.funcs[f]? with
  | none => simp [h] at hf
  | some fn =>
    simp only [h, Bool.and_eq_true, Bool.not_eq_true'] at hf
    cases hb : fn.body with
    | none => simp [hb] at hf
    | some c => have h2 : ¬ fn.name = "runtime.NumGoroutine" := by simpa using hf.2
                simp [callFunc, h, h2, hb]
theorem all2_map_list {α β γ : Type} {R : β → γ → Prop} {f : α → β} {g : α → γ} : ∀ (l : List α), (∀ x ∈ l, R (f x) (g x)) → All2 R (l.map f) (l.map g)
  | [], _ => .nil
  | x :: l, h => .cons (h x (by simp)) (all2_map_list l fun y hy => h y (by simp [hy]))
/-- A function called by name; what it is handed is only read; it hands back no rows but one of its own. -/
theorem OpTo.call {f : Nat} {xs : List Operand} {args : List AV} {ats : Array TypeId} {Q : AV → List (Nat × Ob) → Prop} (hc : AC P cx.G f args [] Q) (hf : isFn P f = true) (ho : okOps xs = true) (ha : xs.map (fun x => Vl.frz st (st.op cx x)) = args) (hk : args.all AV.keyless = true)
    (hq : ∀ r os', Q r os' → ∃ s', Imp false st os' dst r s' ∧ K s') : OpTo P cx kp ⟨dst, .call { callee := .value (.func f), args := xs.toArray, argTypes := ats }, ty, pos, af, gd⟩ st K := by
  intro a w next Qx ⟨fz, β, hs⟩ hn
  subst ha
  have hA : All2 (RepA w (fzAll fz β) (fun _ => none)) (xs.map (fun x => Vl.frz st (st.op cx x))) (xs.map a.eval) :=
    all2_map_list xs fun x hx => hs.frz (hs.op x (List.all_eq_true.1 ho x hx)) (by have := List.all_eq_true.1 hk _ (List.mem_map_of_mem (f := fun x => Vl.frz st (st.op cx x)) hx); exact this)
  have hlt : ∀ b, fzAll fz β b → b < w.heap.size := fun b hb => by rcases hb with h | ⟨k, h⟩; exact hs.h.fzlt b h; exact hs.h.lt k b h
  have hcall := hc w (fzAll fz β) (fun _ => none) (xs.map a.eval) (fun _ _ => rfl) (H.none hlt) hs.glob hA
  unfold wpv
  have hrun : (execOp a.eval ⟨dst, .call { callee := .value (.func f), args := xs.toArray, argTypes := ats }, ty, pos, af, gd⟩).run P w = .ok (.enter f (xs.map a.eval).toArray) w := by
    simp [execOp, resolve, Act.eval, Deferred.ofValue, invoke, run_callFunc hf]
  rw [hrun, upv_enter]
  refine hcall.mono fun e w' ⟨v, r, os', fz', β', h1, h2, h3, h4, h5⟩ => ?_
  subst h1
  obtain ⟨s', h6, h7⟩ := hq r os' h2
  obtain ⟨fz2, β2, h8⟩ := hs.back (m := false) (fun b hb => .inl hb) (fun h => by cases h) h3 h4 h5 h6
  exact hn _ _ _ h7 ⟨fz2, β2, h8⟩ (fun _ => ⟨h3.size, fun b hb => h3.old rfl b hb (fun k => by simp)⟩)
/-- The same where nothing of the call's own is handed on: what comes back may share what was handed on. -/
def nilFro : AV → AV
  | .c (.p (.s (.slice none 0 0))) => .c (.p (.fro []))
  | z => z
theorem RepA.nilFro {z : AV} {v : Value} (h : RepA w fz β z v) : RepA w fz β (nilFro z) v := by
  unfold Vl.nilFro
  split
  · have := RepA.eq h; subst this; exact .nil _ _
  · exact h
theorem OpTo.callA {f : Nat} {xs : List Operand} {args : List AV} {ats : Array TypeId} {Q : AV → List (Nat × Ob) → Prop} (hc : AC P cx.G f args [] Q) (hf : isFn P f = true) (ho : okOps xs = true) (ha : xs.map (fun x => Vl.nilFro (st.op cx x)) = args) (hk : args.all AV.keyless = true)
    (hq : ∀ r os', Q r os' → ∃ s', Imp true st os' dst r s' ∧ K s') : OpTo P cx kp ⟨dst, .call { callee := .value (.func f), args := xs.toArray, argTypes := ats }, ty, pos, af, gd⟩ st K := by
  intro a w next Qx ⟨fz, β, hs⟩ hn
  subst ha
  have hA : All2 (RepA w fz (fun _ => none)) (xs.map (fun x => Vl.nilFro (st.op cx x))) (xs.map a.eval) :=
    all2_map_list xs fun x hx => (hs.op x (List.all_eq_true.1 ho x hx)).nilFro.adv (Adv.refl _ _) (fun _ h => h) (fun k hr => by
      have := List.all_eq_true.1 hk _ (List.mem_map_of_mem (f := fun x => Vl.nilFro (st.op cx x)) hx)
      rw [AV.keyless_ref this] at hr; cases hr)
  have hcall := hc w fz (fun _ => none) (xs.map a.eval) (fun _ _ => rfl) (H.none hs.h.fzlt) hs.rel.glob hA
  unfold wpv
  have hrun : (execOp a.eval ⟨dst, .call { callee := .value (.func f), args := xs.toArray, argTypes := ats }, ty, pos, af, gd⟩).run P w = .ok (.enter f (xs.map a.eval).toArray) w := by
    simp [execOp, resolve, Act.eval, Deferred.ofValue, invoke, run_callFunc hf]
  rw [hrun, upv_enter]
  refine hcall.mono fun e w' ⟨v, r, os', fz', β', h1, h2, h3, h4, h5⟩ => ?_
  subst h1
  obtain ⟨s', h6, h7⟩ := hq r os' h2
  obtain ⟨fz2, β2, h8⟩ := hs.back (m := true) (fun b hb => hb) (fun _ b hb => hb) h3 h4 h5 h6
  exact hn _ _ _ h7 ⟨fz2, β2, h8⟩ (fun _ => ⟨h3.size, fun b hb => h3.old rfl b hb (fun k => by simp)⟩)
end
end Go.Proofs.Vl
end
section
/- Small rules for the walk's joints. -/
set_option linter.all false
namespace Go.Proofs.Vl
open Go Go.RowKit
section
variable {P : Program} {cx : Cx} {st : St} {Q : Exit → St → Prop} {N : St → Prop}
theorem thn_n (h : N st) : thn N Q .normal st := h
theorem thn_e {i : Nat} (h : Q (.exit i) st) : thn N Q (.exit i) st := h
theorem thn_r (h : Q .ret st) : thn N Q .ret st := h
theorem inb_n {id : Nat} (h : Q .normal st) : inb id Q .normal st := h
theorem inb_r {id : Nat} (h : Q .ret st) : inb id Q .ret st := h
theorem inb_hit {id : Nat} (h : Q .normal st) : inb id Q (.exit id) st := by simp only [inb, if_true]; exact h
theorem inb_miss {id i : Nat} (hi : (i == id) = false) (h : Q (.exit i) st) : inb id Q (.exit i) st := by
  have : i ≠ id := by simpa using hi
  simp only [inb, if_neg this]; exact h
theorem AWp.cond1 {c : Operand} {x y : Code} {b : Bool} (hc : st.op cx c = .c (.p (.s (.bool b)))) (ho : okOp c = true) (he : b = true) (h : AWp P cx x st Q) : AWp P cx (.cond c x y) st Q := fun a w hs => by
  subst he
  obtain ⟨fz, β, hs'⟩ := hs
  exact Go.wpIn_cond (hs'.eq hc ho) (by simpa using h a w ⟨fz, β, hs'⟩)
theorem AWp.cond0 {c : Operand} {x y : Code} {b : Bool} (hc : st.op cx c = .c (.p (.s (.bool b)))) (ho : okOp c = true) (he : b = false) (h : AWp P cx y st Q) : AWp P cx (.cond c x y) st Q := fun a w hs => by
  subst he
  obtain ⟨fz, β, hs'⟩ := hs
  exact Go.wpIn_cond (hs'.eq hc ho) (by simpa using h a w ⟨fz, β, hs'⟩)
theorem Run.yes' {ds : List (Option Tmp)} {o : Oper} {r : List Oper} {K : St → Prop} {j d : Nat} {b b' : Bool} (hg : o.guard = some (j, b)) (hd : ds[j]? = some (some d)) (hb : st.tmps[d]? = some (.c (.p (.s (.bool b'))))) (he : b' = b)
    (h : OpTo P cx false o st (fun s => Run P cx ds r s K)) : Run P cx ds (o :: r) st K := by subst he; exact Run.yes hg hd hb h
theorem AWp.condB {c : Operand} {x y : Code} {b : Bool} (hc : st.op cx c = .c (.p (.s (.bool b)))) (ho : okOp c = true) (h1 : b = true → AWp P cx x st Q) (h0 : b = false → AWp P cx y st Q) : AWp P cx (.cond c x y) st Q := fun a w hs => by
  obtain ⟨fz, β, hs'⟩ := hs
  refine Go.wpIn_cond (hs'.eq hc ho) ?_
  cases b with
  | true => simpa using h1 rfl a w ⟨fz, β, hs'⟩
  | false => simpa using h0 rfl a w ⟨fz, β, hs'⟩
variable {K : St → Prop} {ds : List (Option Tmp)} {o : Oper} {r : List Oper}
/-- A guarded operation: both ways. -/
theorem Run.both {j d : Nat} {b b' : Bool} (hg : o.guard = some (j, b)) (hd : ds[j]? = some (some d)) (hb : st.tmps[d]? = some (.c (.p (.s (.bool b')))))
    (h1 : b' = b → OpTo P cx false o st (fun s => Run P cx ds r s K)) (h0 : b' ≠ b → Run P cx ds r (st.put o.dst (.tup [])) K) : Run P cx ds (o :: r) st K := by
  by_cases h : b' = b
  · subst h; exact Run.yes hg hd hb (h1 rfl)
  · exact Run.no hg hd hb h (h0 h)
theorem Run.bothT {j d : Nat} {b' : Bool} (hg : o.guard = some (j, true)) (hd : ds[j]? = some (some d)) (hb : st.tmps[d]? = some (.c (.p (.s (.bool b')))))
    (h1 : b' = true → OpTo P cx false o st (fun s => Run P cx ds r s K)) (h0 : b' = false → Run P cx ds r (st.put o.dst (.tup [])) K) : Run P cx ds (o :: r) st K :=
  Run.both hg hd hb h1 (fun h => h0 (by simpa using h))
theorem Run.bothF {j d : Nat} {b' : Bool} (hg : o.guard = some (j, false)) (hd : ds[j]? = some (some d)) (hb : st.tmps[d]? = some (.c (.p (.s (.bool b')))))
    (h1 : b' = false → OpTo P cx false o st (fun s => Run P cx ds r s K)) (h0 : b' = true → Run P cx ds r (st.put o.dst (.tup [])) K) : Run P cx ds (o :: r) st K :=
  Run.both hg hd hb h1 (fun h => h0 (by simpa using h))
/-- A value may be told anew. -/
theorem OpTo.same {st' : St} (h : st' = st) (k : OpTo P cx false o st' K) : OpTo P cx false o st K := h ▸ k
end
end Go.Proofs.Vl
end
section
/- Statements whose order Go leaves open: one walk serves every order. -/
set_option linter.all false
namespace Go.Proofs.Vl
open Go Go.RowKit
section
variable {P : Program} {ops : Array Oper} {Q : Exit → Act → World → Prop}
/-- Whatever order is picked from here on; an operation that is no writer lets be the blocks that were there. -/
def wpAnyO (P : Program) (ops : Array Oper) (wr : List Nat) (Q : Exit → Act → World → Prop) : Nat → Array Bool → Act → World → Prop
  | 0, listed, a, w => Region.ready .any ops listed = [] ∧ Q .normal a w
  | n + 1, listed, a, w => (Region.ready .any ops listed = [] → Q .normal a w) ∧
    ∀ i ∈ Region.ready .any ops listed, wpOpV P ops Q i (fun a' w' => ((!wr.contains i) = true → Old w w') ∧ wpAnyO P ops wr Q n (listed.setIfInBounds i true) a' w') a w
variable {wr : List Nat}
theorem wpAny_of_O {r : Option Nat} : ∀ (n : Nat) (listed : Array Bool) (a : Act) (w : World), wpAnyO P ops wr Q n listed a w → wpAnyIn (fwr r) 0 P .any ops Q n listed a w
  | 0, _, _, _, h => h
  | n + 1, _, _, _, h => ⟨h.1, fun i hi => wpOpV_in (wpOpV_mono (fun a' w' h' => wpAny_of_O n _ a' w' h'.2) (h.2 i hi))⟩
/-- pu: whether the operation's value hangs on no world. -/
def Sof (pu : Bool) (w : World) : World → Prop := fun w' => pu = true ∨ Old w w'
theorem YieldsIf.sub {S S' : World → Prop} {o : Oper} {v : Value} {a : Act} (h : YieldsIf P ops S o v a) (hs : ∀ w, S' w → S w) : YieldsIf P ops S' o v a :=
  h.imp (fun ⟨h1, h2⟩ => ⟨h1, fun w hw => h2 w (hs w hw)⟩) id
/-- An operation that may come up now may be taken first: every other one that is still to come waits for it, or touches nothing that it touches (and, if its value hangs on the world, writes nothing). -/
theorem wpAnyO_first {pu : Bool} {i : Nat} {oi : Oper} {v : Value} (hi : ops[i]? = some oi) (hsel : ∀ (j : Nat) (o : Oper) cs b, ops[j]? = some o → o.op ≠ .select cs b) (hQ : ∀ c a w, Q (.panic c) (a.put oi.dst v) w → Q (.panic c) a w) :
    ∀ (n : Nat) (listed : Array Bool) (a : Act) (w : World),
      (∀ j oj, ops[j]? = some oj → j ≠ i → listed.getD j true = false → (∀ e ∈ oj.after, Region.binds .any e = true → e.on ≠ i) → oi.apart ops oj = true ∧ (pu = true ∨ (!wr.contains j) = true)) →
      i ∈ Region.ready .any ops listed → YieldsIf P ops (Sof pu w) oi v a → wpAnyO P ops wr Q n (listed.setIfInBounds i true) (a.put oi.dst v) w → wpAnyO P ops wr Q (n + 1) listed a w := by
  intro n
  induction n with
  | zero =>
    intro listed a w _ hr hy H
    refine ⟨fun h => (by rw [h] at hr; cases hr), fun j hj => ?_⟩
    by_cases hji : j = i
    · subst hji; exact YieldsIf.wpOpV hi hy (.inr (Old.refl w)) ⟨fun _ => Old.refl w, H⟩
    · have := ready_mono hj hji
      rw [H.1] at this
      cases this
  | succ n ih =>
    intro listed a w hfree hr hy H
    refine ⟨fun h => (by rw [h] at hr; cases hr), fun j hj => ?_⟩
    by_cases hji : j = i
    · subst hji; exact YieldsIf.wpOpV hi hy (.inr (Old.refl w)) ⟨fun _ => Old.refl w, H⟩
    · have h1 := H.2 j (ready_mono hj hji)
      obtain ⟨hjun, oj, hoj, hall⟩ := mem_ready.1 hj
      have hnot : ∀ e ∈ oj.after, Region.binds .any e = true → e.on ≠ i := fun e he hb heq => by
        have h1 := hall e he hb
        have h0 := (mem_ready.1 hr).1
        rw [heq] at h1
        rcases Nat.lt_or_ge i listed.size with h' | h'
        · simp [h'] at h0 h1; rw [h0] at h1; cases h1
        · simp [Array.getElem?_eq_none h'] at h1
      have hfj := hfree j oj hoj hji hjun hnot
      have h2 := wpOpV_putIf hoj hfj.1 (fun cs b => hsel i oi cs b hi) (fun cs b => hsel j oj cs b hoj) hQ hy h1
      refine wpOpV_mono (fun a' w' h3 => ⟨h3.2.1, ih (listed.setIfInBounds j true) a' w' ?_ (ready_mono hr (Ne.symm hji)) (YieldsIf.sub h3.1 fun u hu => ?_) ?_⟩) h2
      · intro k ok hk hki hun hno
        refine hfree k ok hk hki ?_ hno
        by_cases hjk : j = k
        · subst hjk; exact hjun
        · rw [getD_set_ne true hjk] at hun; exact hun
      · rcases hu with hu | hu
        · exact .inl hu
        · rcases hfj.2 with hp | hp
          · exact .inl hp
          · exact .inr ((h3.2.1 hp).trans hu)
      · rw [Array.setIfInBounds_comm _ _ hji]
        exact h3.2.2
def freeK (ops : Array Oper) (wr : List Nat) (pu : Bool) (listed : Array Bool) (i : Nat) : Bool :=
  (List.range ops.size).all fun j =>
    match ops[i]?, ops[j]? with
    | some oi, some oj => j == i || listed.getD j true || oj.after.any (fun e => Region.binds .any e && e.on == i) || (oi.apart ops oj && (pu || !wr.contains j))
    | _, _ => true
theorem freeK_spec {pu : Bool} {listed : Array Bool} {i : Nat} {oi : Oper} (hi : ops[i]? = some oi) (h : freeK ops wr pu listed i = true) (j : Nat) (oj : Oper) (hj : ops[j]? = some oj) (hne : j ≠ i) (hun : listed.getD j true = false)
    (hno : ∀ e ∈ oj.after, Region.binds .any e = true → e.on ≠ i) : oi.apart ops oj = true ∧ (pu = true ∨ (!wr.contains j) = true) := by
  unfold freeK at h
  have hlt : j < ops.size := (Array.getElem?_eq_some_iff.1 hj).1
  have := List.all_eq_true.1 h j (List.mem_range.2 hlt)
  simp only [hi, hj, Bool.or_eq_true, Bool.and_eq_true] at this
  rcases this with ((h1 | h1) | h1) | h1
  · exact absurd (by simpa using h1) hne
  · rw [h1] at hun; cases hun
  · obtain ⟨e, he, h2⟩ := Array.any_eq_true'.1 h1
    simp only [Bool.and_eq_true, beq_iff_eq] at h2
    exact absurd h2.2 (hno e he h2.1)
  · exact h1
end

/-- From this state on, whatever order the operations that are left come up in, K holds at the end. -/
def DR (P : Program) (cx : Cx) (ops : Array Oper) (wr : List Nat) (n : Nat) (listed : Array Bool) (st : St) (K : St → Prop) : Prop :=
  ∀ a w, StRep cx st a w → wpAnyO P ops wr (fun e a' w' => e = .normal ∧ ∃ s, K s ∧ StRep cx s a' w') n listed a w
section
variable {P : Program} {cx : Cx} {st : St} {Q : Exit → St → Prop} {K : St → Prop} {ops : Array Oper} {wr : List Nat} {n : Nat} {listed : Array Bool}
theorem StRep.drew {a : Act} {w : World} (h : StRep cx st a w) : StRep cx st a { w with drawn := w.drawn + 1 } := by
  obtain ⟨fz, β, hs⟩ := h
  exact ⟨fz, β, hs.lift rfl rfl rfl (Nat.le_refl _) (fun _ _ => rfl) (fun _ h => h) (fun _ h => .inl h) hs.h.fzlt⟩
theorem AWp.draw {id : Nat} {l : List Oper} {m : Nat} (wr : List Nat) (hm : P.follows .mixedOrders = true) (hl : l.length = m) (h : DR P cx l.toArray wr m (Array.replicate m false) st (fun s => Q .normal s)) : AWp P cx (.region id l.toArray true) st Q :=
  fun a w hs => by
    subst hl
    refine wpIn_mono (wpIn_region_any hm (wpAny_of_O _ _ _ _ (h a _ hs.drew))) ?_
    rintro e a' w' ⟨rfl, s, h1, h2⟩
    exact ⟨s, h1, h2⟩
theorem DR.done (hr : Region.ready .any ops listed = []) (h : K st) : DR P cx ops wr n listed st K := fun a w hs => by
  cases n with
  | zero => exact ⟨hr, rfl, st, h, hs⟩
  | succ n => exact ⟨fun _ => ⟨rfl, st, h, hs⟩, fun i hi => by rw [hr] at hi; cases hi⟩
/-- The one that must come next. -/
theorem DR.one {i : Nat} {o : Oper} (hr : Region.ready .any ops listed = [i]) (ho : ops[i]? = some o) (hg : o.guard = none) (h : OpTo P cx (!wr.contains i) o st (fun s => DR P cx ops wr n (listed.setIfInBounds i true) s K)) : DR P cx ops wr (n + 1) listed st K := fun a w hs => by
  refine ⟨fun h0 => (by rw [hr] at h0; cases h0), fun j hj => ?_⟩
  rw [hr] at hj
  obtain rfl : j = i := by simpa using hj
  unfold wpOpV
  simp only [ho]
  rw [if_pos (by simp [Region.wanted, hg])]
  exact (h a w _ _ hs fun st' a' w' h1 h2 h3 => ⟨h3, h1 a' w' h2⟩)
/-- One that may come up is taken first. -/
theorem DR.first {pu : Bool} {x : AV} (i : Nat) {o : Oper} (ho : ops[i]? = some o) (hs : Region.noSelect ops = true) (hf : freeK ops wr pu listed i = true) (hr : (Region.ready .any ops listed).contains i = true) (hg : o.guard = none) (hy : Val P cx pu o st x)
    (h : DR P cx ops wr n (listed.setIfInBounds i true) (st.put o.dst x) K) : DR P cx ops wr (n + 1) listed st K := fun a w hst => by
  obtain ⟨fz, β, hsr⟩ := hst
  obtain ⟨v, h1, h2⟩ := hy a w fz β hsr
  exact wpAnyO_first (pu := pu) ho (Region.noSelect_spec hs) (fun c a w hp => by obtain ⟨hp, _⟩ := hp; cases hp) n listed a w (freeK_spec ho hf) (by simpa using hr) (.inl ⟨by simp [Region.wanted, hg], fun w' hw' => h2 w' hw'⟩) (h _ _ ⟨fz, β, hsr.put h1 o.dst⟩)
/-- The same of a guarded one. -/
theorem DR.firstG {pu : Bool} {x : AV} (i : Nat) {o : Oper} {j d : Nat} {b : Bool} (ho : ops[i]? = some o) (hs : Region.noSelect ops = true) (hf : freeK ops wr pu listed i = true) (hr : (Region.ready .any ops listed).contains i = true) (hg : o.guard = some (j, b)) (hd : (ops[j]?).bind (·.dst) = some d) (hb : st.tmps[d]? = some (.c (.p (.s (.bool b)))))
    (hy : Val P cx pu o st x) (h : DR P cx ops wr n (listed.setIfInBounds i true) (st.put o.dst x) K) : DR P cx ops wr (n + 1) listed st K := fun a w hst => by
  obtain ⟨fz, β, hsr⟩ := hst
  obtain ⟨v, h1, h2⟩ := hy a w fz β hsr
  have hyl : yielded ops a.tmps j = some b := by
    obtain ⟨v, h5, h6⟩ := hsr.t.get hb
    have := RepA.eq h6; subst this
    unfold yielded
    rw [hd, Option.bind_some, show a.tmps[d]? = some (.bool b) by simpa using h5]
  exact wpAnyO_first (pu := pu) ho (Region.noSelect_spec hs) (fun c a w hp => by obtain ⟨hp, _⟩ := hp; cases hp) n listed a w (freeK_spec ho hf) (by simpa using hr) (.inl ⟨by simp [Region.wanted, hg, hyl], fun w' hw' => h2 w' hw'⟩) (h _ _ ⟨fz, β, hsr.put h1 o.dst⟩)
/-- A guarded one that is left out. -/
theorem DR.firstN (i : Nat) {o : Oper} {j d : Nat} {b b' : Bool} (ho : ops[i]? = some o) (hs : Region.noSelect ops = true) (hf : freeK ops wr true listed i = true) (hr : (Region.ready .any ops listed).contains i = true) (hg : o.guard = some (j, b)) (hd : (ops[j]?).bind (·.dst) = some d) (hb : st.tmps[d]? = some (.c (.p (.s (.bool b'))))) (hne : b' ≠ b)
    (h : DR P cx ops wr n (listed.setIfInBounds i true) (st.put o.dst (.tup [])) K) : DR P cx ops wr (n + 1) listed st K := fun a w hst => by
  obtain ⟨fz, β, hsr⟩ := hst
  have hyl : yielded ops a.tmps j = some b' := by
    obtain ⟨v, h5, h6⟩ := hsr.t.get hb
    have := RepA.eq h6; subst this
    unfold yielded
    rw [hd, Option.bind_some, show a.tmps[d]? = some (.bool b') by simpa using h5]
  exact wpAnyO_first (pu := true) ho (Region.noSelect_spec hs) (fun c a w hp => by obtain ⟨hp, _⟩ := hp; cases hp) n listed a w (freeK_spec ho hf) (by simpa using hr) (.inr ⟨by simp [Region.wanted, hg, hyl, hne], rfl⟩) (h _ _ ⟨fz, β, hsr.put RepA.undef o.dst⟩)
/-- The one that must come next, guarded. -/
theorem DR.oneG {i j d : Nat} {b : Bool} {o : Oper} (hr : Region.ready .any ops listed = [i]) (ho : ops[i]? = some o) (hg : o.guard = some (j, b)) (hd : (ops[j]?).bind (·.dst) = some d) (hb : st.tmps[d]? = some (.c (.p (.s (.bool b)))))
    (h : OpTo P cx (!wr.contains i) o st (fun s => DR P cx ops wr n (listed.setIfInBounds i true) s K)) : DR P cx ops wr (n + 1) listed st K := fun a w hs => by
  refine ⟨fun h0 => (by rw [hr] at h0; cases h0), fun k hk => ?_⟩
  rw [hr] at hk
  obtain rfl : k = i := by simpa using hk
  obtain ⟨fz, β, hsr⟩ := hs
  have hyl : yielded ops a.tmps j = some b := by
    obtain ⟨v, h5, h6⟩ := hsr.t.get hb
    have := RepA.eq h6; subst this
    unfold yielded
    rw [hd, Option.bind_some, show a.tmps[d]? = some (.bool b) by simpa using h5]
  unfold wpOpV
  simp only [ho]
  rw [if_pos (by simp [Region.wanted, hg, hyl])]
  exact (h a w _ _ ⟨fz, β, hsr⟩ fun st' a' w' h1 h2 h3 => ⟨h3, h1 a' w' h2⟩)
/-- Two may come up. -/
theorem DR.two {i j : Nat} {o p : Oper} (hr : Region.ready .any ops listed = [i, j]) (ho : ops[i]? = some o) (hp : ops[j]? = some p) (hg : o.guard = none) (hg' : p.guard = none)
    (h : OpTo P cx (!wr.contains i) o st (fun s => DR P cx ops wr n (listed.setIfInBounds i true) s K)) (h' : OpTo P cx (!wr.contains j) p st (fun s => DR P cx ops wr n (listed.setIfInBounds j true) s K)) : DR P cx ops wr (n + 1) listed st K := fun a w hs => by
  refine ⟨fun h0 => (by rw [hr] at h0; cases h0), fun k hk => ?_⟩
  rw [hr] at hk
  simp only [List.mem_cons, List.not_mem_nil, or_false] at hk
  rcases hk with rfl | rfl
  · unfold wpOpV
    simp only [ho]
    rw [if_pos (by simp [Region.wanted, hg])]
    exact (h a w _ _ hs fun st' a' w' h1 h2 h3 => ⟨h3, h1 a' w' h2⟩)
  · unfold wpOpV
    simp only [hp]
    rw [if_pos (by simp [Region.wanted, hg'])]
    exact (h' a w _ _ hs fun st' a' w' h1 h2 h3 => ⟨h3, h1 a' w' h2⟩)
end
end Go.Proofs.Vl
end
section
/- Quick operations, reckoned. -/
set_option linter.all false
namespace Go.Proofs.Vl
open Go Go.RowKit
def ikEq : IntKind → IntKind → Bool
  | .i8, .i8 | .i16, .i16 | .i32, .i32 | .i64, .i64 | .u8, .u8 | .u16, .u16 | .u32, .u32 | .u64, .u64 => true
  | _, _ => false
theorem ikEq_eq {a b : IntKind} (h : ikEq a b = true) : a = b := by cases a <;> cases b <;> first | rfl | cases h
/-- A value that is known as it is. -/
def exV : AV → Option Value
  | .c (.p (.s v)) => some v
  | _ => none
theorem exV_eq {x : AV} {v : Value} (h : exV x = some v) : x = .c (.p (.s v)) := by
  unfold exV at h; split at h
  · cases h; rfl
  · cases h
def evBin (op : BinOp) (u v : Value) : Option Value := match u, v with
  | .int k a, .int j b => match op with
    | .shl => cond (decide (0 ≤ b)) (some (.int k (k.wrap (a * 2 ^ (min b.toNat k.bits))))) none
    | .shr => cond (decide (0 ≤ b)) (some (.int k (a.fdiv (2 ^ (min b.toNat k.bits))))) none
    | .quo => cond (ikEq k j && !decide (b = 0)) (some (.int k (k.wrap (a.tdiv b)))) none
    | .rem => cond (ikEq k j && !decide (b = 0)) (some (.int k (a.tmod b))) none
    | o => cond (ikEq k j) (some (iop o k a b)) none
  | _, _ => none
def evUn (op : UnOp) (u : Value) : Option Value := match op, u with
  | .not, .bool b => some (.bool !b)
  | .neg, .int k n => some (.int k (k.wrap (0 - n)))
  | _, _ => none
def tyK (P : Program) (T : TypeId) : Option IntKind := match P.underlying T with
  | some (.int k) => some k
  | _ => none
def tySl (P : Program) (T : TypeId) : Bool := match P.underlying T with
  | some (.slice _) => true
  | _ => false
def tyStr (P : Program) (T : TypeId) : Bool := match P.underlying T with
  | some .string => true
  | _ => false
def hasTy (P : Program) (T : TypeId) : Bool := (P.underlying T).isSome
def evLen (P : Program) (T : TypeId) (x : AV) : Option Value :=
  cond (tySl P T) ((lenA x).map (fun (n : Nat) => Value.int .i64 (n : Int))) (cond (tyStr P T) (match exV x with | some (.string s) => some (.int .i64 s.size) | _ => none) none)
def evMin (op : Builtin) (u v : Value) : Option Value := match op, u, v with
  | .min, .int k a, .int _ b => some (.int k (if b < a then b else a))
  | .max, .int k a, .int _ b => some (.int k (if b > a then b else a))
  | _, _, _ => none
def ev (P : Program) (cx : Cx) (st : St) : Op → Option AV
  | .move x | .assign x => cond (okOp x) (some (st.op cx x)) none
  | .pick c x y => cond (okOp c && okOp x && okOp y) (match st.op cx c with
    | .c (.p (.s (.bool b))) => some (cond b (st.op cx x) (st.op cx y))
    | _ => none) none
  | .binOp op _ x y _ => cond (okOp x && okOp y) (match exV (st.op cx x), exV (st.op cx y) with
    | some u, some v => (evBin op u v).map AV.ofV
    | _, _ => none) none
  | .unOp op _ x => cond (okOp x) (match exV (st.op cx x) with
    | some u => (evUn op u).map AV.ofV
    | none => none) none
  | .convert s d x => cond (okOp x && hasTy P s) (match exV (st.op cx x), tyK P d with
    | some (.int _ n), some k => some (AV.ofV (.int k (k.wrap n)))
    | _, _ => none) none
  | .extract x j => cond (okOp x) (match st.op cx x with
    | .tup xs => (xs[j]?).map TV.av
    | _ => none) none
  | .fieldAddr S x f => cond (okOp x && isAddr (st.op cx x)) ((fldI P S f).map (addOff (st.op cx x))) none
  | .load T x => cond (okOp x) (match tyI P T with
    | some none => match placeP st (st.op cx x) with
      | some (z :: _) => some (.c (.p z))
      | some [] => none
      | none => match placeC st (st.op cx x) with
        | some (z :: _) => some (.c z)
        | _ => none
    | _ => none) none
  | .call { callee := .builtin .len, args := ⟨[x]⟩, argTypes := ⟨[T]⟩ } => cond (okOp x) ((evLen P T (st.op cx x)).map AV.ofV) none
  | .call { callee := .builtin b, args := ⟨[x, y]⟩, .. } => cond (okOp x && okOp y) (match exV (st.op cx x), exV (st.op cx y) with
    | some u, some v => (evMin b u v).map AV.ofV
    | _, _ => none) none
  | _ => none
section
variable {P : Program} {cx : Cx} {st : St} {o : Oper}
theorem cond_some {α : Type} {b : Bool} {x : Option α} {v : α} (h : cond b x none = some v) : b = true ∧ x = some v := by cases b <;> simp_all
theorem evBin_run {op : BinOp} {u v z : Value} (h : evBin op u v = some z) (tx : TypeId) (x y : Operand) : okV z = true ∧ (∀ w, (binOp op tx u v).run P w = .ok z w) ∧ (∀ w, (eqGuard op tx x y u v).run P w = .ok () w) := by
  unfold evBin at h
  split at h
  · rename_i k a j b
    cases op <;> dsimp only at h
    case shl =>
      obtain ⟨h1, h2⟩ := cond_some h; cases h2
      exact ⟨rfl, fun w => by have := of_decide_eq_true h1; simp [binOp, Op.shift, show ¬ b < 0 by omega], fun w => eqGuard_int _ tx x y k j a b w⟩
    case shr =>
      obtain ⟨h1, h2⟩ := cond_some h; cases h2
      exact ⟨rfl, fun w => by have := of_decide_eq_true h1; simp [binOp, Op.shift, show ¬ b < 0 by omega], fun w => eqGuard_int _ tx x y k j a b w⟩
    case quo =>
      obtain ⟨h1, h2⟩ := cond_some h; cases h2
      simp only [Bool.and_eq_true, Bool.not_eq_true', decide_eq_false_iff_not] at h1
      obtain ⟨h1, h3⟩ := h1
      have := ikEq_eq h1; subst this
      exact ⟨rfl, fun w => by simp [binOp, Op.intDiv, h3], fun w => eqGuard_int _ tx x y k k a b w⟩
    case rem =>
      obtain ⟨h1, h2⟩ := cond_some h; cases h2
      simp only [Bool.and_eq_true, Bool.not_eq_true', decide_eq_false_iff_not] at h1
      obtain ⟨h1, h3⟩ := h1
      have := ikEq_eq h1; subst this
      exact ⟨rfl, fun w => by simp [binOp, Op.intDiv, h3], fun w => eqGuard_int _ tx x y k k a b w⟩
    all_goals
      obtain ⟨h1, h2⟩ := cond_some h; cases h2
      have := ikEq_eq h1; subst this
      exact ⟨okV_iop rfl _ _ _, run_iop rfl tx k a b, fun w => eqGuard_int _ tx x y k k a b w⟩
  · cases h
theorem Val.ev {x : _} (h : ev P cx st o.op = some x) : Val P cx false o st x := by
  obtain ⟨dst, op, ty, pos, af, gd⟩ := o
  dsimp only at h
  unfold Vl.ev at h
  split at h
  · obtain ⟨h1, h2⟩ := cond_some h; cases h2; exact Val.imp (Val.move h1)
  · obtain ⟨h1, h2⟩ := cond_some h; cases h2; exact Val.imp (Val.assign h1)
  · obtain ⟨h1, h2⟩ := cond_some h
    simp only [Bool.and_eq_true] at h1
    split at h2
    · rename_i b hb; cases h2
      have := Val.pick (P := P) (dst := dst) (ty := ty) (pos := pos) (af := af) (gd := gd) hb h1.1.2 h1.2 h1.1.1
      cases b <;> exact Val.imp this
    · cases h2
  · obtain ⟨h1, h2⟩ := cond_some h
    simp only [Bool.and_eq_true] at h1
    split at h2
    · rename_i u v hu hv
      obtain ⟨z, hz, rfl⟩ := Option.map_eq_some_iff.1 h2
      obtain ⟨e1, e2, e3⟩ := evBin_run (P := P) hz _ _ _
      exact Val.imp (Val.bin (exV_eq hu) (exV_eq hv) h1.1 h1.2 e1 e2 e3)
    · cases h2
  · obtain ⟨h1, h2⟩ := cond_some h
    split at h2
    · rename_i u hu
      obtain ⟨z, hz, rfl⟩ := Option.map_eq_some_iff.1 h2
      unfold evUn at hz
      split at hz
      · cases hz; exact Val.imp (Val.not (exV_eq hu) h1)
      · cases hz
        refine Val.imp (Val.pure rfl (fun a w fz β hs w' => ?_))
        have e := hs.eq (exV_eq hu) h1
        simp [execOp, e, Op.unary, Op.intArith]
      · cases hz
    · cases h2
  · obtain ⟨h1, h2⟩ := cond_some h
    simp only [Bool.and_eq_true] at h1
    split at h2
    · rename_i n k hu hk; cases h2
      obtain ⟨D, hD⟩ := Option.isSome_iff_exists.1 h1.2
      unfold tyK at hk
      split at hk
      · rename_i hd; cases hk; exact Val.imp (Val.convI (exV_eq hu) h1.1 hD hd)
      · cases hk
    · cases h2
  · obtain ⟨h1, h2⟩ := cond_some h
    split at h2
    · rename_i xs hxs
      obtain ⟨z, hz, rfl⟩ := Option.map_eq_some_iff.1 h2
      exact Val.imp (Val.extract hxs h1 hz)
    · cases h2
  · obtain ⟨h1, h2⟩ := cond_some h
    simp only [Bool.and_eq_true] at h1
    obtain ⟨z, hz, rfl⟩ := Option.map_eq_some_iff.1 h2
    exact Val.imp (Val.fld hz h1.1 h1.2)
  · obtain ⟨h1, h2⟩ := cond_some h
    split at h2
    · rename_i hT
      split at h2
      · rename_i z r hp; cases h2; exact Val.ld1 hT h1 hp rfl
      · cases h2
      · rename_i hp
        split at h2
        · rename_i z r hp; cases h2; exact Val.lc1 hT h1 hp rfl
        · cases h2
    · cases h2
  · rename_i x' T
    obtain ⟨h1, h2⟩ := cond_some h
    unfold evLen at h2
    cases hs : tySl P T with
    | true =>
      rw [hs] at h2
      dsimp only [cond_true] at h2
      unfold tySl at hs
      split at hs
      · rename_i E hE
        obtain ⟨n, hl, rfl⟩ := Option.map_eq_some_iff.1 h2
        obtain ⟨m, hm, rfl⟩ := Option.map_eq_some_iff.1 hl
        exact Val.imp (Val.len hE h1 hm)
      · cases hs
    | false =>
      rw [hs] at h2
      dsimp only [cond_false] at h2
      cases hst : tyStr P T with
      | false => rw [hst] at h2; simp at h2
      | true =>
        rw [hst] at h2
        dsimp only [cond_true] at h2
        unfold tyStr at hst
        split at hst
        · rename_i hS
          split at h2
          · rename_i s hx; simp at h2; subst h2; exact Val.imp (Val.lenS hS h1 (exV_eq hx))
          · simp at h2
        · cases hst
  · obtain ⟨h1, h2⟩ := cond_some h
    simp only [Bool.and_eq_true] at h1
    split at h2
    · rename_i u v hu hv
      obtain ⟨z, hz, rfl⟩ := Option.map_eq_some_iff.1 h2
      unfold evMin at hz
      split at hz
      · cases hz; exact Val.imp (Val.min2 (exV_eq hu) (exV_eq hv) h1.1 h1.2)
      · cases hz; exact Val.imp (Val.max2 (exV_eq hu) (exV_eq hv) h1.1 h1.2)
      · cases hz
    · cases h2
  · cases h
end
end Go.Proofs.Vl
end
section
/- Statements whose order Go leaves open, over the list of what is still to come. -/
set_option linter.all false
namespace Go.Proofs.Vl
open Go Go.RowKit
def looksD (ds : List (Option Tmp)) (o : Oper) : List Tmp :=
  (o.op.operands.toList.filterMap fun | .tmp t => some t | _ => none) ++
  (match o.guard with
   | some (g, _) => (match ds[g]? with | some (some t) => [t] | _ => [])
   | none => [])
def apartD (ds : List (Option Tmp)) (x y : Oper) : Bool :=
  (match x.dst with
   | some d => !(looksD ds y).contains d && y.dst != some d
   | none => true) &&
  (match y.dst with
   | some d => !(looksD ds x).contains d
   | none => true)
def todo (rem : List (Nat × Oper)) (i : Nat) : Bool := rem.any (fun p => p.1 == i)
def readyR (ds : List (Option Tmp)) (rem : List (Nat × Oper)) (o : Oper) : Bool := o.after.all fun e => !Region.binds .any e || (!todo rem e.on && decide (e.on < ds.length))
def freeR (ds : List (Option Tmp)) (wr : List Nat) (pu : Bool) (rem : List (Nat × Oper)) (i : Nat) (oi : Oper) : Bool :=
  rem.all fun p => p.1 == i || p.2.after.any (fun e => Region.binds .any e && e.on == i) || (apartD ds oi p.2 && (pu || !wr.contains p.1))
def onlyR (ds : List (Option Tmp)) (rem : List (Nat × Oper)) (i : Nat) : Bool := rem.all fun p => p.1 == i || p.2.after.any (fun e => Region.binds .any e && todo rem e.on)
def noSel (o : Oper) : Bool := match o.op with | .select .. => false | _ => true
/-- All that is left, whatever order it comes up in: K holds at the end. -/
structure Rest (ops : Array Oper) (ds : List (Option Tmp)) (rem : List (Nat × Oper)) (listed : Array Bool) : Prop where
  sel : Region.noSelect ops = true
  ds : ops.toList.map (·.dst) = ds
  mem : ∀ p ∈ rem, ops[p.1]? = some p.2
  size : listed.size = ops.size
  l : ∀ i, i < ops.size → listed.getD i true = !todo rem i
def DL (P : Program) (cx : Cx) (ds : List (Option Tmp)) (wr : List Nat) (rem : List (Nat × Oper)) (st : St) (K : St → Prop) : Prop :=
  ∀ ops listed, Rest ops ds rem listed → DR P cx ops wr rem.length listed st K
section
variable {P : Program} {cx : Cx} {st : St} {Q : Exit → St → Prop} {K : St → Prop} {ops : Array Oper} {wr : List Nat} {n : Nat} {listed : Array Bool} {ds : List (Option Tmp)} {rem : List (Nat × Oper)}
theorem Rest.looks (h : Rest ops ds rem listed) (o : Oper) : o.looksAt ops = looksD ds o := by
  unfold Oper.looksAt looksD
  congr 1
  cases hg : o.guard with
  | none => rfl
  | some g =>
    obtain ⟨g, b⟩ := g
    dsimp only
    rw [← h.ds, List.getElem?_map, Array.getElem?_toList]
    cases ho : ops[g]? with
    | none => rfl
    | some o' => cases hd : o'.dst <;> simp [hd]
theorem Rest.apart (h : Rest ops ds rem listed) (x y : Oper) : x.apart ops y = apartD ds x y := by
  unfold Oper.apart apartD
  rw [h.looks x, h.looks y]; rfl
theorem Rest.unl (h : Rest ops ds rem listed) {j : Nat} {oj : Oper} (hj : ops[j]? = some oj) (hun : listed.getD j true = false) : (j, oj) ∈ rem := by
  have hlt : j < ops.size := (Array.getElem?_eq_some_iff.1 hj).1
  rw [h.l j hlt] at hun
  simp only [Bool.not_eq_false', todo, List.any_eq_true, beq_iff_eq] at hun
  obtain ⟨p, hp, rfl⟩ := hun
  have := h.mem p hp
  rw [hj] at this; cases this; exact hp
theorem Rest.todo (h : Rest ops ds rem listed) {i : Nat} {o : Oper} (hm : (i, o) ∈ rem) : listed.getD i true = false := by
  rw [h.l i (Array.getElem?_eq_some_iff.1 (h.mem _ hm)).1]
  simp only [Bool.not_eq_false', Vl.todo, List.any_eq_true, beq_iff_eq]
  exact ⟨_, hm, rfl⟩
theorem Rest.ready (h : Rest ops ds rem listed) {i : Nat} {o : Oper} (hm : (i, o) ∈ rem) (hr : readyR ds rem o = true) : i ∈ Region.ready .any ops listed := by
  have hi := h.mem _ hm
  refine mem_ready.2 ⟨h.todo hm, o, hi, fun e he hb => ?_⟩
  have := Array.all_eq_true_iff_forall_mem.1 hr e he
  rw [hb] at this
  simp only [Bool.not_true, Bool.false_or, Bool.and_eq_true, decide_eq_true_eq] at this
  have hlt : e.on < ops.size := by have := this.2; rw [← h.ds] at this; simpa using this
  have h1 := h.l e.on hlt
  rw [this.1] at h1
  rw [Array.getD_eq_getD_getElem?] at h1 ⊢
  rw [Array.getElem?_eq_getElem (by rw [h.size]; exact hlt)] at h1 ⊢
  simpa using h1
theorem Rest.only (h : Rest ops ds rem listed) {i : Nat} (ho : onlyR ds rem i = true) : ∀ j ∈ Region.ready .any ops listed, j = i := by
  intro j hj
  obtain ⟨h1, o, h2, h3⟩ := mem_ready.1 hj
  have := List.all_eq_true.1 ho _ (h.unl h2 h1)
  simp only [Bool.or_eq_true, beq_iff_eq] at this
  rcases this with h4 | h4
  · exact h4
  · obtain ⟨e, he, h5⟩ := Array.any_eq_true'.1 h4
    simp only [Bool.and_eq_true] at h5
    have h6 := h3 e he h5.1
    obtain ⟨p, hp, h7⟩ := List.any_eq_true.1 h5.2
    simp only [beq_iff_eq] at h7
    have h8 := h.todo (i := p.1) (o := p.2) hp
    rw [h7] at h8
    rw [Array.getD_eq_getD_getElem?] at h6 h8
    cases hx : listed[e.on]? <;> simp [hx] at h6 h8
    rw [h6] at h8; cases h8
theorem todo_erase {rem : List (Nat × Oper)} {k i : Nat} {o : Oper} (hk : rem[k]? = some (i, o)) (hnd : (rem.map (·.1)).Nodup) (j : Nat) : Vl.todo (rem.eraseIdx k) j = (if j = i then false else Vl.todo rem j) := by
  induction rem generalizing k with
  | nil => simp at hk
  | cons p r ih =>
    simp only [List.map_cons, List.nodup_cons] at hnd
    cases k with
    | zero =>
      simp at hk; subst hk
      simp only [List.eraseIdx_cons_zero, Vl.todo, List.any_cons]
      by_cases hj : j = i
      · subst hj
        rw [if_pos rfl, List.any_eq_false]
        intro q hq
        simp only [beq_iff_eq]
        intro e; exact hnd.1 (List.mem_map.2 ⟨q, hq, e⟩)
      · rw [if_neg hj]
        have : (i == j) = false := by simpa using Ne.symm hj
        simp [this]
    | succ k =>
      simp only [List.getElem?_cons_succ] at hk
      simp only [List.eraseIdx_cons_succ, Vl.todo, List.any_cons]
      have := ih hk hnd.2
      unfold Vl.todo at this
      rw [this]
      by_cases hj : j = i
      · subst hj
        rw [if_pos rfl, if_pos rfl]
        have : p.1 ≠ j := fun e => hnd.1 (e ▸ List.mem_map.2 ⟨_, List.mem_of_getElem? hk, rfl⟩)
        have : (p.1 == j) = false := by simpa using this
        simp [this]
      · rw [if_neg hj, if_neg hj]
theorem Rest.next (h : Rest ops ds rem listed) {k i : Nat} {o : Oper} (hk : rem[k]? = some (i, o)) (hnd : (rem.map (·.1)).Nodup) : Rest ops ds (rem.eraseIdx k) (listed.setIfInBounds i true) := by
  refine ⟨h.sel, h.ds, fun p hp => h.mem p (List.mem_of_mem_eraseIdx hp), by simp [h.size], fun j hj => ?_⟩
  rw [todo_erase hk hnd]
  by_cases hji : j = i
  · subst hji
    rw [if_pos rfl, Array.getD_eq_getD_getElem?]
    simp [h.size, hj]
  · rw [if_neg hji, getD_set_ne true (Ne.symm hji)]; exact h.l j hj
/-- Numbers all unlike. -/
def nd (rem : List (Nat × Oper)) : Bool := match rem with
  | [] => true
  | p :: r => !todo r p.1 && nd r
theorem nd_nodup : ∀ {rem : List (Nat × Oper)}, nd rem = true → (rem.map (·.1)).Nodup
  | [], _ => by simp
  | p :: r, h => by
    simp only [nd, Bool.and_eq_true, Bool.not_eq_true'] at h
    rw [List.map_cons, List.nodup_cons]
    refine ⟨fun hm => ?_, nd_nodup h.2⟩
    obtain ⟨q, hq, e⟩ := List.mem_map.1 hm
    have := List.any_eq_false.1 h.1 q hq
    simp [e] at this
theorem DR.oneR {i : Nat} {o : Oper} (hr : ∀ j ∈ Region.ready .any ops listed, j = i) (hne : i ∈ Region.ready .any ops listed) (ho : ops[i]? = some o) (hw : ∀ a w, StRep cx st a w → Region.wanted o (yielded ops a.tmps) = true) (h : OpTo P cx (!wr.contains i) o st (fun s => DR P cx ops wr n (listed.setIfInBounds i true) s K)) : DR P cx ops wr (n + 1) listed st K := fun a w hs => by
  refine ⟨fun h0 => (by rw [h0] at hne; cases hne), fun j hj => ?_⟩
  obtain rfl := hr j hj
  unfold wpOpV
  simp only [ho]
  rw [if_pos (hw a w hs)]
  exact (h a w _ _ hs fun st' a' w' h1 h2 h3 => ⟨h3, h1 a' w' h2⟩)
theorem OpTo.mono {kp : Bool} {o : Oper} {K K' : St → Prop} (h : OpTo P cx kp o st K) (hk : ∀ s, K s → K' s) : OpTo P cx kp o st K' :=
  fun a w next Qx hs hn => h a w next Qx hs fun st' a' w' h1 h2 h3 => hn st' a' w' (hk _ h1) h2 h3
theorem Rest.yl (h : Rest ops ds rem listed) {a : Act} {w : World} {fz β} (hs : SR cx st a w fz β) {j d : Nat} {b : Bool} (hd : ds[j]? = some (some d)) (hb : st.tmps[d]? = some (.c (.p (.s (.bool b))))) : yielded ops a.tmps j = some b := by
  obtain ⟨v, h5, h6⟩ := hs.t.get hb
  have := RepA.eq h6; subst this
  unfold yielded
  have h0 : (ops[j]?).bind (·.dst) = some d := by
    rw [← h.ds] at hd
    simp only [List.getElem?_map, Array.getElem?_toList] at hd
    cases ho : ops[j]? with
    | none => simp [ho] at hd
    | some x => simpa [ho] using hd
  rw [h0, Option.bind_some, show a.tmps[d]? = some (.bool b) by simpa using h5]
theorem DL.done (h : K st) : DL P cx ds wr [] st K := fun ops listed hR => by
  refine DR.done ?_ h
  cases hr : Region.ready .any ops listed with
  | nil => rfl
  | cons j r =>
    obtain ⟨h1, o, h2, _⟩ := mem_ready.1 (by rw [hr]; exact List.mem_cons_self : j ∈ Region.ready .any ops listed)
    exact absurd (hR.unl h2 h1) (by simp)
theorem len_erase {rem : List (Nat × Oper)} {k : Nat} {x} (hk : rem[k]? = some x) : rem.length = (rem.eraseIdx k).length + 1 := by
  have hlt := (List.getElem?_eq_some_iff.1 hk).1
  rw [List.length_eraseIdx, if_pos hlt]; omega
/-- Number k of what is left is taken first. -/
theorem DL.take {pu : Bool} {x : AV} (k : Nat) {i : Nat} {o : Oper} (hk : rem[k]? = some (i, o)) (hc : (nd rem && readyR ds rem o && freeR ds wr pu rem i o) = true) (hg : o.guard = none) (hy : Val P cx pu o st x)
    (h : DL P cx ds wr (rem.eraseIdx k) (st.put o.dst x) K) : DL P cx ds wr rem st K := fun ops listed hR => by
  simp only [Bool.and_eq_true] at hc
  rw [len_erase hk]
  have hm := List.mem_of_getElem? hk
  intro a w hst
  obtain ⟨fz, β, hsr⟩ := hst
  obtain ⟨v, h1, h2⟩ := hy a w fz β hsr
  refine wpAnyO_first (pu := pu) (hR.mem _ hm) (Region.noSelect_spec hR.sel) (fun c a w hp => by obtain ⟨hp, _⟩ := hp; cases hp) _ listed a w ?_ (hR.ready hm hc.1.2) (.inl ⟨by simp [Region.wanted, hg], fun w' hw' => h2 w' hw'⟩) (h _ _ (hR.next hk (nd_nodup hc.1.1)) _ _ ⟨fz, β, hsr.put h1 o.dst⟩)
  intro j oj hj hne hun hno
  have := List.all_eq_true.1 hc.2 _ (hR.unl hj hun)
  simp only [Bool.or_eq_true, Bool.and_eq_true, beq_iff_eq] at this
  rcases this with (h3 | h3) | h3
  · exact absurd h3 hne
  · obtain ⟨e, he, h4⟩ := Array.any_eq_true'.1 h3
    simp only [Bool.and_eq_true, beq_iff_eq] at h4
    exact absurd h4.2 (hno e he h4.1)
  · rw [hR.apart]; exact h3
theorem DL.takeG {pu : Bool} {x : AV} (k : Nat) {i j d : Nat} {b b' : Bool} {o : Oper} (hk : rem[k]? = some (i, o)) (hc : (nd rem && readyR ds rem o && freeR ds wr pu rem i o) = true) (hg : o.guard = some (j, b)) (hd : ds[j]? = some (some d)) (hb : st.tmps[d]? = some (.c (.p (.s (.bool b'))))) (he : b' = b) (hy : Val P cx pu o st x)
    (h : DL P cx ds wr (rem.eraseIdx k) (st.put o.dst x) K) : DL P cx ds wr rem st K := fun ops listed hR => by
  subst he
  simp only [Bool.and_eq_true] at hc
  rw [len_erase hk]
  have hm := List.mem_of_getElem? hk
  intro a w hst
  obtain ⟨fz, β, hsr⟩ := hst
  obtain ⟨v, h1, h2⟩ := hy a w fz β hsr
  refine wpAnyO_first (pu := pu) (hR.mem _ hm) (Region.noSelect_spec hR.sel) (fun c a w hp => by obtain ⟨hp, _⟩ := hp; cases hp) _ listed a w ?_ (hR.ready hm hc.1.2) (.inl ⟨by simp [Region.wanted, hg, hR.yl hsr hd hb], fun w' hw' => h2 w' hw'⟩) (h _ _ (hR.next hk (nd_nodup hc.1.1)) _ _ ⟨fz, β, hsr.put h1 o.dst⟩)
  intro j oj hj hne hun hno
  have := List.all_eq_true.1 hc.2 _ (hR.unl hj hun)
  simp only [Bool.or_eq_true, Bool.and_eq_true, beq_iff_eq] at this
  rcases this with (h3 | h3) | h3
  · exact absurd h3 hne
  · obtain ⟨e, he, h4⟩ := Array.any_eq_true'.1 h3
    simp only [Bool.and_eq_true, beq_iff_eq] at h4
    exact absurd h4.2 (hno e he h4.1)
  · rw [hR.apart]; exact h3
theorem DL.takeN (k : Nat) {i j d : Nat} {b b' : Bool} {o : Oper} (hk : rem[k]? = some (i, o)) (hc : (nd rem && readyR ds rem o && freeR ds wr true rem i o) = true) (hg : o.guard = some (j, b)) (hd : ds[j]? = some (some d)) (hb : st.tmps[d]? = some (.c (.p (.s (.bool b'))))) (hne' : (b' == b) = false)
    (h : DL P cx ds wr (rem.eraseIdx k) (st.put o.dst (.tup [])) K) : DL P cx ds wr rem st K := fun ops listed hR => by
  simp only [Bool.and_eq_true] at hc
  rw [len_erase hk]
  have hm := List.mem_of_getElem? hk
  intro a w hst
  obtain ⟨fz, β, hsr⟩ := hst
  have hne2 : b' ≠ b := by simpa using hne'
  refine wpAnyO_first (pu := true) (hR.mem _ hm) (Region.noSelect_spec hR.sel) (fun c a w hp => by obtain ⟨hp, _⟩ := hp; cases hp) _ listed a w ?_ (hR.ready hm hc.1.2) (.inr ⟨by simp [Region.wanted, hg, hR.yl hsr hd hb, hne2], rfl⟩) (h _ _ (hR.next hk (nd_nodup hc.1.1)) _ _ ⟨fz, β, hsr.put RepA.undef o.dst⟩)
  intro j oj hj hne hun hno
  have := List.all_eq_true.1 hc.2 _ (hR.unl hj hun)
  simp only [Bool.or_eq_true, Bool.and_eq_true, beq_iff_eq] at this
  rcases this with (h3 | h3) | h3
  · exact absurd h3 hne
  · obtain ⟨e, he, h4⟩ := Array.any_eq_true'.1 h3
    simp only [Bool.and_eq_true, beq_iff_eq] at h4
    exact absurd h4.2 (hno e he h4.1)
  · rw [hR.apart]; exact ⟨h3.1, .inl rfl⟩
theorem DL.takeU (k : Nat) {i j d : Nat} {b : Bool} {o : Oper} (hk : rem[k]? = some (i, o)) (hc : (nd rem && readyR ds rem o && freeR ds wr true rem i o) = true) (hg : o.guard = some (j, b)) (hd : ds[j]? = some (some d)) (hb : st.tmps[d]? = some (.tup []))
    (h : DL P cx ds wr (rem.eraseIdx k) (st.put o.dst (.tup [])) K) : DL P cx ds wr rem st K := fun ops listed hR => by
  simp only [Bool.and_eq_true] at hc
  rw [len_erase hk]
  have hm := List.mem_of_getElem? hk
  intro a w hst
  obtain ⟨fz, β, hsr⟩ := hst
  have hyl : yielded ops a.tmps j = none := by
    obtain ⟨v, h5, vs, h6, h7⟩ := hsr.t.get hb
    cases h7
    unfold yielded
    rw [dst_at hR.ds hd, Option.bind_some, show a.tmps[d]? = some v by simpa using h5, h6]
  refine wpAnyO_first (pu := true) (hR.mem _ hm) (Region.noSelect_spec hR.sel) (fun c a w hp => by obtain ⟨hp, _⟩ := hp; cases hp) _ listed a w ?_ (hR.ready hm hc.1.2) (.inr ⟨by simp [Region.wanted, hg, hyl], rfl⟩) (h _ _ (hR.next hk (nd_nodup hc.1.1)) _ _ ⟨fz, β, hsr.put RepA.undef o.dst⟩)
  intro j oj hj hne hun hno
  have := List.all_eq_true.1 hc.2 _ (hR.unl hj hun)
  simp only [Bool.or_eq_true, Bool.and_eq_true, beq_iff_eq] at this
  rcases this with (h3 | h3) | h3
  · exact absurd h3 hne
  · obtain ⟨e, he, h4⟩ := Array.any_eq_true'.1 h3
    simp only [Bool.and_eq_true, beq_iff_eq] at h4
    exact absurd h4.2 (hno e he h4.1)
  · rw [hR.apart]; exact ⟨h3.1, .inl rfl⟩
/-- Number k of what is left must come next. -/
theorem DL.one (k : Nat) {i : Nat} {o : Oper} (hk : rem[k]? = some (i, o)) (hc : (nd rem && readyR ds rem o && onlyR ds rem i) = true) (hg : o.guard = none)
    (h : OpTo P cx (!wr.contains i) o st (fun s => DL P cx ds wr (rem.eraseIdx k) s K)) : DL P cx ds wr rem st K := fun ops listed hR => by
  simp only [Bool.and_eq_true] at hc
  rw [len_erase hk]
  have hm := List.mem_of_getElem? hk
  exact DR.oneR (hR.only hc.2) (hR.ready hm hc.1.2) (hR.mem _ hm) (fun a w _ => by simp [Region.wanted, hg]) (h.mono fun s hs => hs _ _ (hR.next hk (nd_nodup hc.1.1)))
theorem DL.oneG (k : Nat) {i j d : Nat} {b b' : Bool} {o : Oper} (hk : rem[k]? = some (i, o)) (hc : (nd rem && readyR ds rem o && onlyR ds rem i) = true) (hg : o.guard = some (j, b)) (hd : ds[j]? = some (some d)) (hb : st.tmps[d]? = some (.c (.p (.s (.bool b'))))) (he : b' = b)
    (h : OpTo P cx (!wr.contains i) o st (fun s => DL P cx ds wr (rem.eraseIdx k) s K)) : DL P cx ds wr rem st K := fun ops listed hR => by
  subst he
  simp only [Bool.and_eq_true] at hc
  rw [len_erase hk]
  have hm := List.mem_of_getElem? hk
  exact DR.oneR (hR.only hc.2) (hR.ready hm hc.1.2) (hR.mem _ hm) (fun a w hs => by obtain ⟨fz, β, hs⟩ := hs; simp [Region.wanted, hg, hR.yl hs hd hb]) (h.mono fun s hs => hs _ _ (hR.next hk (nd_nodup hc.1.1)))
def enum {α : Type} : Nat → List α → List (Nat × α)
  | _, [] => []
  | n, a :: l => (n, a) :: enum (n + 1) l
theorem enum_mem {α : Type} : ∀ (l : List α) (n : Nat) (p : Nat × α), p ∈ enum n l → n ≤ p.1 ∧ l[p.1 - n]? = some p.2
  | [], _, _, h => by cases h
  | a :: l, n, p, h => by
    rcases List.mem_cons.1 h with rfl | h
    · simp
    · obtain ⟨h1, h2⟩ := enum_mem l (n + 1) p h
      refine ⟨by omega, ?_⟩
      rw [show p.1 - n = (p.1 - (n + 1)) + 1 by omega]
      simpa using h2
theorem enum_any {α : Type} : ∀ (l : List α) (n i : Nat), (enum n l).any (fun p => p.1 == i) = (decide (n ≤ i) && decide (i < n + l.length))
  | [], n, i => by simp only [enum, List.any_nil, List.length_nil, Nat.add_zero]; by_cases h : n ≤ i <;> simp [h] <;> omega
  | a :: l, n, i => by
    simp only [enum, List.any_cons, enum_any l (n + 1) i, List.length_cons]
    by_cases h : n = i
    · subst h; simp
    · have : (n == i) = false := by simpa using h
      rw [this, Bool.false_or, Bool.eq_iff_iff]; simp; omega
theorem enum_len {α : Type} : ∀ (l : List α) (n : Nat), (enum n l).length = l.length
  | [], _ => rfl
  | a :: l, n => by simp [enum, enum_len l]
theorem AWp.dl {id : Nat} {l : List Oper} (wr : List Nat) (hm : P.follows .mixedOrders = true) (hs : l.all noSel = true) (hds : l.map (·.dst) = ds) (h : DL P cx ds wr (enum 0 l) st (fun s => Q .normal s)) : AWp P cx (.region id l.toArray true) st Q := by
  refine AWp.draw wr hm rfl ?_
  have := h l.toArray (Array.replicate l.length false) ⟨?_, by simpa using hds, fun p hp => ?_, by simp, fun i hi => ?_⟩
  · rwa [enum_len] at this
  · simp only [Region.noSelect, List.all_toArray]
    exact hs
  · obtain ⟨_, h2⟩ := enum_mem l 0 p hp
    simpa using h2
  · have hi' : i < l.length := by simpa using hi
    unfold Vl.todo
    rw [enum_any]
    simp [Array.getD_eq_getD_getElem?, hi']
end
end Go.Proofs.Vl
end
section
/- More rules: whole variables, rows made and cut, structs put together. -/
set_option linter.all false
namespace Go.Proofs.Vl
open Go Go.RowKit
section
variable {P : Program} {cx : Cx} {st : St} {a : Act} {w : World} {fz : Nat → Prop} {β : Nat → Option Nat}
variable {K : St → Prop} {dst : Option Tmp} {ty T T' E : TypeId} {pos : String} {af : Array Edge} {gd : Option (Nat × Bool)} {x y : Operand} {n k off : Nat} {kp : Bool}
/-! ### Whole variables -/
theorem Val.ldF {cs : List PV} (hT : tyI P T = some (some n)) (ho : okOp x = true) (hp : placeP st (st.op cx x) = some cs) (hn : cs.length = n) : Val P cx false ⟨dst, .load T x, ty, pos, af, gd⟩ st (.pag cs) := by
  have := Val.ldN (dst := dst) (ty := ty) (pos := pos) (af := af) (gd := gd) hT ho hp (Nat.le_of_eq hn.symm)
  rwa [List.take_of_length_le (Nat.le_of_eq hn)] at this
theorem Val.lcF {cs : List CV} (hT : tyI P T = some (some n)) (ho : okOp x = true) (hp : placeC st (st.op cx x) = some cs) (hn : cs.length = n) : Val P cx false ⟨dst, .load T x, ty, pos, af, gd⟩ st (.agg cs) := by
  have := Val.lcN (dst := dst) (ty := ty) (pos := pos) (af := af) (gd := gd) hT ho hp (Nat.le_of_eq hn.symm)
  rwa [List.take_of_length_le (Nat.le_of_eq hn)] at this
theorem splice_full {α : Type} (cs ys : List α) (h : ys.length = cs.length) : splice cs 0 ys = ys := by
  simp [splice, h]
theorem OpTo.stF {cs ys : List PV} (hx : st.op cx x = .c (.ptr k 0)) (h1 : okOp x = true) (hf : find st.objs k = some (.pcells T' cs)) (hy : pvs (st.op cx y) = some ys) (h2 : okOp y = true) (hT : (P.info? T).map (·.size) = some n) (hn : ys.length = n) (hl : cs.length = n)
    (kk : K ⟨st.tmps, upd st.objs k (.pcells T' ys)⟩) : OpTo P cx false ⟨none, .store T x y, ty, pos, af, gd⟩ st K := by
  refine OpTo.stP hx h1 hf hy h2 (by rw [hT, hn]) (by omega) ?_
  rw [splice_full _ _ (by omega)]; exact kk
theorem ResV.ldF {t : Nat} {cs : List PV} {z : AV} (h : st.tmps[t]? = some z) (hT : tyI P T = some (some n)) (hp : placeP st z = some cs) (hn : cs.length = n) : ResV P st (.cell t T) (.pag cs) := by
  have := ResV.ldN h hT hp (Nat.le_of_eq hn.symm)
  rwa [List.take_of_length_le (Nat.le_of_eq hn)] at this
theorem ResV.lcF {t : Nat} {cs : List CV} {z : AV} (h : st.tmps[t]? = some z) (hT : tyI P T = some (some n)) (hp : placeC st z = some cs) (hn : cs.length = n) : ResV P st (.cell t T) (.agg cs) := by
  have := ResV.lcN h hT hp (Nat.le_of_eq hn.symm)
  rwa [List.take_of_length_le (Nat.le_of_eq hn)] at this
/-! ### Rows made -/
theorem made_at (z : Array Value) (n j : Nat) (hj : j < n) : (madeCells z n).toList[j]? = some (z[j % z.size]!) := by
  simp [madeCells, hj]
theorem all2_made {w fz} {z : Value} {sz : Nat} (hz : z.cells.size = sz) (hs : 0 < sz) (hok : ∀ u ∈ z.cells.toList, u.oneCell' = true) : ∀ l N, l * sz ≤ N → All2 (RepP w fz) (List.replicate l (z.cells.toList.map PV.s)).flatten ((madeCells z.cells N).toList.take (l * sz)) := by
  intro l N hN
  have hlen : ∀ cs ∈ List.replicate l (z.cells.toList.map PV.s), cs.length = sz := fun cs h => by
    rw [List.eq_of_mem_replicate h]; simp [hz]
  refine All2.of_get (by rw [flat_len hlen]; simp [size_madeCells]; omega) fun i a b h1 h2 => ?_
  have hi : i < l * sz := by have := (List.getElem?_eq_some_iff.1 h1).1; rw [flat_len hlen] at this; simpa using this
  have hq : i / sz < l := Nat.div_lt_of_lt_mul (by rw [Nat.mul_comm]; exact hi)
  have hget : (List.replicate l (z.cells.toList.map PV.s))[i / sz]? = some (z.cells.toList.map PV.s) := by simp [hq]
  have := flat_get hlen hget (i % sz) (Nat.mod_lt _ hs)
  rw [show i / sz * sz + i % sz = i by rw [Nat.mul_comm]; exact Nat.div_add_mod i sz, h1] at this
  rw [List.getElem?_take, if_pos hi, made_at _ _ _ (by omega), hz] at h2
  have hm : i % sz < z.cells.size := by rw [hz]; exact Nat.mod_lt _ hs
  cases h2
  have h3 : z.cells[i % sz]! = z.cells[i % sz] := by simp [hm]
  rw [h3]
  simp only [List.getElem?_map] at this
  rw [List.getElem?_eq_getElem (by simpa using hm)] at this
  simp only [Option.map_some, Option.some.injEq, Array.getElem_toList] at this
  subst this
  exact .s _ (hok _ (by simp))
theorem OpTo.made2 {o : Oper} {d : Nat} {ob : Ob} {z : AV} (hdst : o.dst = some d) (hlow : d < 1000000) (hd : st.noref d = true) (hr : ob.ref d = false)
    (h : ∀ a w fz β, SR cx st a w fz β → ∃ (v : Value) (O : Obj) (w' : World), (execOp a.eval o).run P w = .ok (.value v) w' ∧ (w'.os = w.os ∧ w'.tape = w.tape ∧ w'.output = w.output) ∧ w'.heap = w.heap.push O ∧
      (∀ β', β' d = some w.heap.size → (∀ k, k ≠ d → β' k = β k) → RepO w' fz β' d ob ∧ RepA w' fz β' z v))
    (k : K (St.put ⟨st.tmps, upd st.objs d ob⟩ (some d) z)) : OpTo P cx kp o st K := OpTo.made hdst hlow hd hr h k
/-- make([]T, l, c). -/
theorem OpTo.make {d : Nat} {z : Value} {sz by_ : Nat} {kl kc : IntKind} {l c : Int} (hu : P.underlying T = some (.slice E)) (hE : tyF P E = some (some z, sz, by_)) (hzs : z.cells.size = sz) (hs0 : 0 < sz) (hok : okV z = true) (hnt : z.oneCell' = true ∨ ∃ cs, z = .agg cs)
    (hx : st.op cx x = .c (.p (.s (.int kl l)))) (hy : st.op cx y = .c (.p (.s (.int kc c)))) (h1 : okOp x = true) (h2 : okOp y = true) (h0 : 0 ≤ l) (hlc : l ≤ c) (hb : (by_ : Int) * c ≤ 281474976710656) (hm : c ≤ 9223372036854775807) (hlow : d < 1000000) (hd : st.noref d = true)
    (kk : K (St.put ⟨st.tmps, upd st.objs d (.row E sz (List.replicate l.toNat (z.cells.toList.map .s)))⟩ (some d) (.c (.own d sz l.toNat)))) : OpTo P cx kp ⟨some d, .makeSlice T x y, ty, pos, af, gd⟩ st K := by
  refine OpTo.made rfl hlow hd rfl (fun a w fz β hs => ?_) kk
  obtain ⟨i, hi, hiz, his, hib⟩ := tyF_spec hE
  have e1 := hs.eq hx h1
  have e2 := hs.eq hy h2
  have hr := run_make (P := P) w T E i z hu hi hiz kl kc l c h0 hlc (by rw [hib]; exact hb) hm
  refine ⟨.slice (some ⟨w.heap.size, 0, none⟩) l.toNat c.toNat, .cells (madeCells z.cells (c.toNat * i.size)) E, w.alloc (.cells (madeCells z.cells (c.toNat * i.size)) E), by simp [execOp, e1, e2, hr], ⟨rfl, rfl, rfl⟩, rfl, fun β' hβ _ => ?_⟩
  have hnew : (w.alloc (.cells (madeCells z.cells (c.toNat * i.size)) E)).heap[w.heap.size]? = some (.cells (madeCells z.cells (c.toNat * i.size)).toList.toArray E) := by rw [heap_alloc_new]
  have hlen : (madeCells z.cells (c.toNat * i.size)).toList.length = c.toNat * sz := by simp [size_madeCells, his]
  have hle : l.toNat * sz ≤ c.toNat * sz := Nat.mul_le_mul_right _ (by omega)
  refine ⟨.inr ⟨w.heap.size, _, hβ, hnew, by rw [hlen, List.length_replicate]; exact hle, fun cs h => by rw [List.eq_of_mem_replicate h]; simp [hzs], ?_⟩, .inr ⟨w.heap.size, c.toNat, E, hβ, rfl, by rw [shapeAt hnew, hlen], by unfold maxLen; omega, by omega⟩⟩
  rw [List.length_replicate, his]
  exact all2_made hzs hs0 (okCells hok (fun vs e => by subst e; rcases hnt with h | ⟨cs, h⟩ <;> cases h)) _ _ hle
/-! ### Put together -/
def fillA {α : Type} (place : Nat → Option (Nat × Nat)) : List α → List (Nat × Option (List α)) → Option (List α)
  | cells, [] => some cells
  | cells, (i, some us) :: r => match place i with
    | some (off, size) => cond (us.length == size && decide (off + size ≤ cells.length)) (fillA place (splice cells off us) r) none
    | none => none
  | _, (_, none) :: _ => none
theorem splice_cons {α : Type} (cs : List α) (o : Nat) (u : α) (us : List α) (h : o < cs.length) : splice (cs.set o u) (o + 1) us = splice cs o (u :: us) := by
  unfold splice
  rw [List.set_eq_take_append_cons_drop, if_pos h]
  have h1 : (cs.take o).length = o := by simp; omega
  have h2 : (cs.take o ++ u :: cs.drop (o + 1)) = (cs.take o ++ [u]) ++ cs.drop (o + 1) := by simp
  rw [h2, List.take_append_of_le_length (by simp; omega), List.take_of_length_le (by simp; omega), List.drop_append, List.drop_of_length_le (by simp; omega)]
  simp only [List.length_append, h1, List.length_cons, List.length_nil, List.nil_append, List.drop_drop, List.append_assoc, List.cons_append]
  rw [show o + 1 + (o + 1 + us.length - (o + (0 + 1))) = o + (us.length + 1) by omega]
theorem foldl_splice (off : Nat) : ∀ (us cs : List Value) (j : Nat), off + j + us.length ≤ cs.length → (us.zipIdx j).foldl (fun (c : Array Value) (p : Value × Nat) => c.setIfInBounds (off + p.2) p.1) cs.toArray = (splice cs (off + j) us).toArray
  | [], cs, j, _ => by simp [splice]
  | u :: us, cs, j, h => by
    simp only [List.zipIdx_cons, List.foldl_cons, List.setIfInBounds_toArray]
    simp only [List.length_cons] at h
    rw [foldl_splice off us _ (j + 1) (by simp; omega), ← Nat.add_assoc, splice_cons _ _ _ _ (by omega)]
theorem fill_rep {α : _} {R : α → Value → Prop} {place : Nat → Option (Nat × Nat)} : ∀ (parts : List (Nat × Option (List α))) (vals : List (Nat × Value)) (cs cs' : List α) (vcs : List Value), All2 R cs vcs →
    All2 (fun (p : Nat × Option (List α)) (q : Nat × Value) => p.1 = q.1 ∧ ∀ us, p.2 = some us → All2 R us q.2.cells.toList) parts vals → fillA place cs parts = some cs' →
    ∃ vcs' : List Value, Instr.fill place vcs.toArray vals = some vcs'.toArray ∧ All2 R cs' vcs'
  | _, _, cs, cs', vcs, h, .nil, hf => by simp only [fillA, Option.some.injEq] at hf; subst hf; exact ⟨vcs, rfl, h⟩
  | _, _, cs, cs', vcs, h, .cons (a := (i, ou)) (b := (i', v)) hp hr, hf => by
    obtain ⟨rfl, hp⟩ := hp
    dsimp only at hp
    cases ou with
    | none => simp [fillA] at hf
    | some us =>
      simp only [fillA] at hf
      cases hpl : place i with
      | none => simp [hpl] at hf
      | some os =>
        obtain ⟨off, size⟩ := os
        simp only [hpl] at hf
        obtain ⟨h1, h2⟩ := cond_some hf
        simp only [Bool.and_eq_true, beq_iff_eq, decide_eq_true_eq] at h1
        have hu := hp us rfl
        have hvs : v.cells.size = size := by rw [← h1.1, hu.len]; simp
        have hcs := h.len
        have hul := hu.len
        obtain ⟨vcs', h3, h4⟩ := fill_rep _ _ (splice cs off us) cs' (splice vcs off v.cells.toList) (h.splice hu off) hr h2
        refine ⟨vcs', ?_, h4⟩
        have hfold := foldl_splice off v.cells.toList vcs 0 (by simp at hul ⊢; omega)
        unfold Instr.fill
        simp only [hpl]
        rw [if_neg (by simp only [List.size_toArray, Bool.or_eq_true, bne_iff_ne, ne_eq, decide_eq_true_eq, not_or]; exact ⟨by omega, by omega⟩)]
        rw [← h3]
        congr 1
        simp only [Nat.add_zero] at hfold
        rw [← hfold, ← Array.foldl_toList, Array.toList_zipIdx]
end
end Go.Proofs.Vl
end
section
/- More rules: rows put together, cut; structs put together. -/
set_option linter.all false
namespace Go.Proofs.Vl
open Go Go.RowKit
section
variable {P : Program} {cx : Cx} {st : St} {a : Act} {w : World} {fz : Nat → Prop} {β : Nat → Option Nat}
variable {K : St → Prop} {dst : Option Tmp} {ty T T' E : TypeId} {pos : String} {af : Array Edge} {gd : Option (Nat × Bool)} {x y : Operand} {n k off : Nat} {kp : Bool}
def chunks {α : Type} (sz : Nat) : Nat → List α → List (List α)
  | 0, _ => []
  | n + 1, l => l.take sz :: chunks sz n (l.drop sz)
theorem chunks_flat {α : Type} (sz : Nat) : ∀ (n : Nat) (l : List α), l.length = n * sz → (chunks sz n l).flatten = l
  | 0, l, h => by simp at h; subst h; rfl
  | n + 1, l, h => by
    rw [Nat.succ_mul] at h
    rw [chunks, List.flatten_cons, chunks_flat sz n _ (by simp; omega), List.take_append_drop]
theorem chunks_len {α : Type} (sz : Nat) : ∀ (n : Nat) (l : List α), l.length = n * sz → (∀ cs ∈ chunks sz n l, cs.length = sz) ∧ (chunks sz n l).length = n
  | 0, l, h => by simp [chunks]
  | n + 1, l, h => by
    rw [Nat.succ_mul] at h
    obtain ⟨h1, h2⟩ := chunks_len sz n (l.drop sz) (by simp; omega)
    refine ⟨fun cs hcs => ?_, by simp [chunks, h2]⟩
    rcases List.mem_cons.1 hcs with rfl | hcs
    · simp; omega
    · exact h1 cs hcs
def zeros (sz : Nat) (z : Value) (n : Nat) : List PV := (List.replicate n (z.cells.toList.map PV.s)).flatten
theorem SR.parts (h : SR cx st a w fz β) : ∀ (parts : List (Nat × Operand)), parts.all (fun p => okOp p.2) = true →
    All2 (fun (p : Nat × Option (List PV)) (q : Nat × Value) => p.1 = q.1 ∧ ∀ us, p.2 = some us → All2 (RepP w fz) us q.2.cells.toList) (parts.map fun p => (p.1, pvs (st.op cx p.2))) (parts.map fun p => (p.1, a.eval p.2))
  | [], _ => .nil
  | (i, x) :: r, ho => by
    simp only [List.all_cons, Bool.and_eq_true] at ho
    refine .cons ⟨rfl, fun us hu => ?_⟩ (h.parts r ho.2)
    obtain ⟨vs, h1, h2⟩ := (h.op x ho.1).pvs hu
    dsimp only; rw [h1]; exact h2
theorem SR.partsC (h : SR cx st a w fz β) : ∀ (parts : List (Nat × Operand)), parts.all (fun p => okOp p.2) = true →
    All2 (fun (p : Nat × Option (List CV)) (q : Nat × Value) => p.1 = q.1 ∧ ∀ us, p.2 = some us → All2 (RepC1 w fz β) us q.2.cells.toList) (parts.map fun p => (p.1, cvs (st.op cx p.2))) (parts.map fun p => (p.1, a.eval p.2))
  | [], _ => .nil
  | (i, x) :: r, ho => by
    simp only [List.all_cons, Bool.and_eq_true] at ho
    refine .cons ⟨rfl, fun us hu => ?_⟩ (h.partsC r ho.2)
    obtain ⟨vs, h1, h2⟩ := (h.op x ho.1).cvs hu
    dsimp only; rw [h1]; exact h2
theorem fillA_len {α : Type} {place : Nat → Option (Nat × Nat)} : ∀ (parts : List (Nat × Option (List α))) (cs cs' : List α), fillA place cs parts = some cs' → cs'.length = cs.length
  | [], cs, cs', h => by simp only [fillA, Option.some.injEq] at h; rw [h]
  | (i, none) :: r, cs, cs', h => by simp [fillA] at h
  | (i, some us) :: r, cs, cs', h => by
    simp only [fillA] at h
    cases hp : place i with
    | none => simp [hp] at h
    | some os =>
      obtain ⟨off, size⟩ := os
      simp only [hp] at h
      obtain ⟨h1, h2⟩ := cond_some h
      simp only [Bool.and_eq_true, beq_iff_eq, decide_eq_true_eq] at h1
      rw [fillA_len r _ _ h2, splice_len (by omega)]
/-- []T{..}. -/
theorem OpTo.lit {d len : Nat} {z : Value} {sz by_ : Nat} {parts : List (Nat × Operand)} {cs : List PV} (hu : P.underlying T = some (.slice E)) (hE : tyF P E = some (some z, sz, by_)) (hzs : z.cells.size = sz) (hs0 : 0 < sz) (hok : okV z = true) (hnt : z.oneCell' = true ∨ ∃ cs, z = .agg cs)
    (hb : len * sz ≤ 16777216) (ho : parts.all (fun p => okOp p.2) = true) (hf : fillA (fun i => some (i * sz, sz)) (zeros sz z len) (parts.map fun p => (p.1, pvs (st.op cx p.2))) = some cs) (hlow : d < 1000000) (hd : st.noref d = true)
    (kk : K (St.put ⟨st.tmps, upd st.objs d (.row E sz (chunks sz len cs))⟩ (some d) (.c (.own d sz len)))) : OpTo P cx kp ⟨some d, .buildSlice T len parts.toArray, ty, pos, af, gd⟩ st K := by
  refine OpTo.made rfl hlow hd rfl (fun a w fz β hs => ?_) kk
  obtain ⟨i, hi, hiz, his, hib⟩ := tyF_spec hE
  have hok' := okCells hok (fun vs e => by subst e; rcases hnt with h | ⟨cs, h⟩ <;> cases h)
  have h0 := all2_made (w := w) (fz := fz) hzs hs0 hok' len (len * sz) (Nat.le_refl _)
  rw [List.take_of_length_le (by simp [size_madeCells])] at h0
  obtain ⟨vcs, h1, h2⟩ := fill_rep _ _ (zeros sz z len) cs _ h0 (hs.parts parts ho) hf
  have hlz : (zeros sz z len).length = len * sz := by unfold zeros; rw [flat_len (sz := sz) (fun cs h => by rw [List.eq_of_mem_replicate h]; simp [hzs])]; simp
  have hl : cs.length = len * sz := by rw [fillA_len _ _ _ hf, hlz]
  have hvl : vcs.length = len * sz := by rw [← h2.len, hl]
  have hrun : (execOp a.eval ⟨some d, .buildSlice T len parts.toArray, ty, pos, af, gd⟩).run P w = .ok (.value (.slice (some ⟨w.heap.size, 0, none⟩) len len)) (w.alloc (.cells vcs.toArray E)) := by
    have hmc : madeCells z.cells (len * sz) = (Array.range (len * sz)).map (z.cells[· % z.cells.size]!) := rfl
    simp only [Array.toArray_toList] at h1
    by_cases hz0 : len = 0
    · subst hz0
      have hm0 : madeCells z.cells (0 * sz) = #[] := by simp [madeCells]
      rw [hm0] at h1
      have hr0 : Array.map (fun _ : Nat => (default : Value)) (Array.range 0) = #[] := by simp
      simp [execOp, Instr.buildSlice, run_underlying hu, sizeOf, typeInfo, hi, his, newRow]
      rw [hr0, h1]
      simp
    · have hz1 : ¬ (len * sz = 0) := by have := Nat.mul_pos (Nat.pos_of_ne_zero hz0) hs0; omega
      have h1' : Instr.fill (fun i => some (i * sz, sz)) (Array.map (fun x => z.cells[x % z.cells.size]!) (Array.range (len * sz))) (List.map (fun p => (p.1, a.eval p.2)) parts) = some vcs.toArray := h1
      have hb' : ¬ (16777216 < len * sz) := by omega
      simp [execOp, Instr.buildSlice, run_underlying hu, sizeOf, typeInfo, zeroValue, hi, his, hiz, hz1, newRow, hb'] at h1' ⊢
      simp [h1']
  obtain ⟨c1, c2⟩ := chunks_len sz len cs hl
  have hnew : (w.alloc (.cells vcs.toArray E)).heap[w.heap.size]? = some (.cells vcs.toArray E) := heap_alloc_new w _
  have hA : Adv fz w (w.alloc (.cells vcs.toArray E)) := adv_push rfl hs.h.fzlt
  refine ⟨_, .cells vcs.toArray E, _, hrun, ⟨rfl, rfl, rfl⟩, rfl, fun β' hβ _ => ⟨.inr ⟨w.heap.size, vcs, hβ, hnew, by rw [c2, hvl]; exact Nat.le_refl _, c1, ?_⟩, .inr ⟨w.heap.size, len, E, hβ, rfl, by rw [shapeAt hnew, hvl], ?_, Nat.le_refl _⟩⟩⟩
  · rw [chunks_flat _ _ _ hl, c2, List.take_of_length_le (Nat.le_of_eq hvl)]
    exact h2.mono fun _ _ _ h => RepP.adv h hA fun _ h => h
  · have : len ≤ len * sz := Nat.le_mul_of_pos_right _ hs0
    unfold maxLen; omega
/-! ### Structs -/
def plI (P : Program) (T : TypeId) : Option (List (Nat × Nat) × List Value) :=
  match P.underlying T, tyZero P T with
  | some (.struct fs), some (.agg zc) => (fs.toList.mapM (fun f => (P.info? f.type).map fun i => (f.offset, i.size))).map fun pl => (pl, zc.toList)
  | _, _ => none
theorem run_built {pl : List (Nat × Nat)} {zc : List Value} (h : plI P T = some (pl, zc)) {parts : Array (Nat × Value)} {vs : List Value} (hf : Instr.fill (pl[·]?) zc.toArray parts.toList = some vs.toArray) : (Instr.build T parts).run P w = .ok (.agg vs.toArray) w := by
  refine run_build w T parts _ ?_
  unfold plI at h
  split at h
  · rename_i fs zc' hu hz
    obtain ⟨pl', hp, he⟩ := Option.map_eq_some_iff.1 h
    cases he
    unfold tyZero at hz
    unfold Program.built
    cases hi : P.info? T with
    | none => simp [hi] at hz
    | some i =>
      have hz' : i.zero = some (.agg zc') := by simpa [hi] using hz
      simp only [hu, hz', hp]
      simpa [Value.cells] using hf
  · cases h
theorem okZero {z : Value} : z.oneCell' = true → okV z = true := by cases z <;> simp [Value.oneCell', okV]
theorem Val.buildP {parts : List (Nat × Operand)} {pl : List (Nat × Nat)} {zc : List Value} {cs : List PV} (hp : plI P T = some (pl, zc)) (hz : zc.all (·.oneCell') = true) (ho : parts.all (fun p => okOp p.2) = true)
    (hf : fillA (pl[·]?) (zc.map .s) (parts.map fun p => (p.1, pvs (st.op cx p.2))) = some cs) : Val P cx true ⟨dst, .build T parts.toArray, ty, pos, af, gd⟩ st (.pag cs) := fun a w fz β hs => by
  obtain ⟨vcs, h1, h2⟩ := fill_rep _ _ (zc.map .s) cs zc (all2_s (w := w) (fz := fz) zc fun u hu => List.all_eq_true.1 hz u hu) (hs.parts parts ho) hf
  refine ⟨.agg vcs.toArray, ⟨vcs, rfl, h2⟩, fun w' _ => ?_⟩
  have := run_built (P := P) (w := w') (T := T) hp (parts := (parts.map fun p => (p.1, a.eval p.2)).toArray) (vs := vcs) (by simpa using h1)
  simp only [execOp, List.map_toArray, Sem.run_bind]
  rw [this]; rfl
theorem Val.buildC {parts : List (Nat × Operand)} {pl : List (Nat × Nat)} {zc : List Value} {cs : List CV} (hp : plI P T = some (pl, zc)) (hz : zc.all (·.oneCell') = true) (ho : parts.all (fun p => okOp p.2) = true)
    (hf : fillA (pl[·]?) (zc.map fun v => .p (.s v)) (parts.map fun p => (p.1, cvs (st.op cx p.2))) = some cs) : Val P cx true ⟨dst, .build T parts.toArray, ty, pos, af, gd⟩ st (.agg cs) := fun a w fz β hs => by
  have h0 : All2 (RepC1 w fz β) (zc.map fun v => CV.p (.s v)) zc := by
    have := all2_map_p (β := β) (all2_s (w := w) (fz := fz) zc fun u hu => List.all_eq_true.1 hz u hu)
    rwa [List.map_map] at this
  obtain ⟨vcs, h1, h2⟩ := fill_rep _ _ _ cs zc h0 (hs.partsC parts ho) hf
  refine ⟨.agg vcs.toArray, ⟨vcs, rfl, h2⟩, fun w' _ => ?_⟩
  have := run_built (P := P) (w := w') (T := T) hp (parts := (parts.map fun p => (p.1, a.eval p.2)).toArray) (vs := vcs) (by simpa using h1)
  simp only [execOp, List.map_toArray, Sem.run_bind]
  rw [this]; rfl
/-! ### Cuts -/
/-- A bound of a cut: left out (it is d), or a number. -/
def Bnd (cx : Cx) (st : St) (o : Option Operand) (d r : Nat) : Prop := (o = none ∧ r = d) ∨ ∃ x k v, o = some x ∧ okOp x = true ∧ st.op cx x = .c (.p (.s (.int k v))) ∧ 0 ≤ v ∧ v.toNat = r
theorem Bnd.no {d : Nat} : Bnd cx st none d d := .inl ⟨rfl, rfl⟩
theorem Bnd.at {x : Operand} {k : IntKind} {v : Int} {d : Nat} (hx : st.op cx x = .c (.p (.s (.int k v)))) (ho : okOp x = true) (h0 : 0 ≤ v) : Bnd cx st (some x) d v.toNat := .inr ⟨x, k, v, rfl, ho, hx, h0, rfl⟩
theorem run_cut (hu : P.underlying T = some (.slice E)) {i : TypeInfo} (hi : P.info? E = some i) {lo hi_ : Option Value} {l h cap n : Nat} (ad : Option Addr) (hlo : (lo = none ∧ l = 0) ∨ ∃ k v, lo = some (.int k v) ∧ 0 ≤ v ∧ v.toNat = l) (hhi : (hi_ = none ∧ h = n) ∨ ∃ k v, hi_ = some (.int k v) ∧ 0 ≤ v ∧ v.toNat = h)
    (hlh : l ≤ h) (hhc : h ≤ cap) : (Instr.sliceAt T (.slice ad n cap) lo hi_ none).run P w = .ok (.slice (if cap = l then ad else ad.map (·.add (l * i.size))) (h - l) (cap - l)) w := by
  have hb : ∀ (k : IntKind) (v : Int) (y : Nat) (code : BoundsCode), 0 ≤ v → v.toNat ≤ y → (Instr.sliceBound (.int k v) y code).run P w = .ok v.toNat w := fun k v y code h0 hy => by
    have : 0 ≤ v ∧ v ≤ (y : Int) := ⟨h0, by omega⟩
    simp [Instr.sliceBound, asIntOf, this]
  have hbs : (Instr.sliceBounds true n cap lo hi_ none).run P w = .ok (l, h, cap) w := by
    rcases hlo with ⟨rfl, rfl⟩ | ⟨k1, v1, rfl, h1, rfl⟩ <;> rcases hhi with ⟨rfl, rfl⟩ | ⟨k2, v2, rfl, h2, rfl⟩
    · simp [Instr.sliceBounds]
    · simp [Instr.sliceBounds, hb k2 v2 cap _ h2 hhc]
    · simp [Instr.sliceBounds, hb k1 v1 _ _ h1 hlh]
    · simp [Instr.sliceBounds, hb k2 v2 cap _ h2 hhc, hb k1 v1 _ _ h1 hlh]
  simp [Instr.sliceAt, Instr.slice, run_underlying hu, hbs, sizeOf, typeInfo, hi]
theorem SR.bnd {d r : Nat} (h : SR cx st a w fz β) {o : Option Operand} (hb : Bnd cx st o d r) : (o.map a.eval = none ∧ r = d) ∨ ∃ k v, o.map a.eval = some (.int k v) ∧ 0 ≤ v ∧ v.toNat = r := by
  rcases hb with ⟨rfl, rfl⟩ | ⟨x, k, v, rfl, ho, hx, h0, rfl⟩
  · exact .inl ⟨rfl, rfl⟩
  · exact .inr ⟨k, v, by simp [h.eq hx ho], h0, rfl⟩
theorem Val.cutF {xs : List (List PV)} {lo hi : Option Operand} {l h sz : Nat} (hu : P.underlying T = some (.slice E)) (hE : (P.info? E).map (·.size) = some sz) (ho : okOp x = true) (hx : st.op cx x = .c (.p (.fro xs))) (hl : Bnd cx st lo 0 l) (hh : Bnd cx st hi xs.length h) (hlh : l ≤ h) (hhn : h ≤ xs.length) (hsz : ∀ cs ∈ xs, cs.length = sz) :
    Val P cx true ⟨dst, .slice T x lo hi none, ty, pos, af, gd⟩ st (.c (.p (.fro ((xs.take h).drop l)))) := fun a w fz β hs => by
  have hX := hs.op x ho
  rw [hx] at hX
  replace hX : RepP w fz (.fro xs) (a.eval x) := hX
  generalize hv : a.eval x = v at hX
  cases hi' : P.info? E with
  | none => simp [hi'] at hE
  | some i =>
    have his : i.size = sz := by simpa [hi'] using hE
    have hbl := hs.bnd hl
    have hbh := hs.bnd hh
    have hlen : ((xs.take h).drop l).length = h - l := by simp; omega
    cases hX with
    | nil ad cap =>
      simp only [List.length_nil, Nat.le_zero_eq] at hhn hbh
      subst hhn
      obtain rfl : l = 0 := by omega
      refine ⟨_, ?_, fun w' _ => by simp only [execOp, Option.map_none, Sem.run_bind]; rw [hv, run_cut hu hi' ad hbl hbh (Nat.le_refl _) (Nat.zero_le _)]; rfl⟩
      simp only [List.take_nil, List.drop_nil]
      exact RepP.nil _ _
    | fro _ b o cap sz' val hb hcap hll hc hr =>
      refine ⟨_, ?_, fun w' _ => by simp only [execOp, Option.map_none, Sem.run_bind]; rw [hv, run_cut hu hi' _ hbl hbh hlh (Nat.le_trans hhn hcap)]; rfl⟩
      by_cases hz : h - l = 0
      · have : (xs.take h).drop l = [] := List.eq_nil_of_length_eq_zero (by rw [hlen, hz])
        rw [this, hz]; exact RepP.nil _ _
      · rw [if_neg (by omega)]
        have hs' : sz' = sz := by
          have h0 : xs[l]? = some xs[l] := List.getElem?_eq_getElem (by omega)
          rw [← hll _ _ h0]; exact hsz _ (List.mem_of_getElem? h0)
        subst hs'
        have hget : ∀ (j : Nat) cs, ((xs.take h).drop l)[j]? = some cs → xs[l + j]? = some cs := fun j cs hj => by
          rw [List.getElem?_drop, List.getElem?_take] at hj
          split at hj
          · exact hj
          · cases hj
        simp only [Option.map_some, Addr.add_lit, his, ← hlen]
        refine RepP.fro _ b (o + l * sz') _ sz' (fun j c => val (l + j) c) hb (by rw [hlen]; omega) (fun j cs hj => hll _ _ (hget j cs hj)) (fun j cs c z hj hcz => ?_) (fun j cs c z hj hcz => hr _ _ _ _ (hget j cs hj) hcz)
        have := hc _ _ _ _ (hget j cs hj) hcz
        rw [show o + l * sz' + (j * sz' + c) = o + ((l + j) * sz' + c) by rw [Nat.add_mul]; omega]; exact this
end
end Go.Proofs.Vl
end
