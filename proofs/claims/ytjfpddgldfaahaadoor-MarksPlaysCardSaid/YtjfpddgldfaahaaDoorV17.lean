/- Calls that are lent the caller's blocks, and functions that are values. -/
import Derived.Test.YtjfpddgldfaahaaDoorV16
set_option linter.all false
namespace Go.Proofs.Vl
open Go Go.RowKit

/-! ### Names as the callee has them -/
def Cap.up : Cap → Cap
  | .key k => .key (k + 1000000)
  | .val x => .val x
  | .fz cs => .fz cs
def CV.up : CV → CV
  | .own k sz n => .own (k + 1000000) sz n
  | .win k sz off n => .win (k + 1000000) sz off n
  | .ptr k off => .ptr (k + 1000000) off
  | .rptr k sz i c => .rptr (k + 1000000) sz i c
  | .fn f caps => .fn f (caps.map Cap.up)
  | .mp k => .mp (k + 1000000)
  | .p x => .p x
  | .eptr cs => .eptr cs
  | .any => .any
def TV.up : TV → TV
  | .c x => .c x.up
  | .agg cs => .agg (cs.map CV.up)
  | .pag cs => .pag cs
def AV.up : AV → AV
  | .c x => .c x.up
  | .agg cs => .agg (cs.map CV.up)
  | .pag cs => .pag cs
  | .tup xs => .tup (xs.map TV.up)
def Ob.up : Ob → Ob
  | .cells T cs => .cells T (cs.map CV.up)
  | .pcells T cs => .pcells T cs
  | .row T sz xs => .row T sz xs
  | .mapo es clock => .mapo es clock
  | .tok F J => .tok F J
  | .sav xs vs => .sav (xs.map AV.up) vs
def lend : List (Nat × Ob) → List (Nat × Ob)
  | [] => []
  | (k, o) :: r => (k + 1000000, o.up) :: lend r
def βup (β : Nat → Option Nat) : Nat → Option Nat := fun k => if k < 1000000 then none else β (k - 1000000)
theorem βup_add (β : Nat → Option Nat) (k : Nat) : βup β (k + 1000000) = β k := by
  unfold βup; rw [if_neg (by omega), Nat.add_sub_cancel]
theorem βup_low (β : Nat → Option Nat) {k : Nat} (h : k < 1000000) : βup β k = none := by unfold βup; rw [if_pos h]
section
variable {w : World} {fz : Nat → Prop} {β : Nat → Option Nat}
theorem RepCap.up {x : Cap} {v : Value} (h : RepCap w fz β x v) : RepCap w fz (βup β) x.up v := by
  cases x with
  | key k => obtain ⟨b, h1, h2⟩ := h; exact ⟨b, (βup_add β k).trans h1, h2⟩
  | val x => exact h
  | fz cs => exact h
theorem RepC.up {x : CV} {v : Value} (h : RepC w fz β x v) : RepC w fz (βup β) x.up v := by
  cases x with
  | p x => exact h
  | own k sz n =>
    rcases h with ⟨h1, h2⟩ | ⟨b, cap, T, h1, h2⟩
    · exact .inl ⟨(βup_add β k).trans h1, h2⟩
    · exact .inr ⟨b, cap, T, (βup_add β k).trans h1, h2⟩
  | win k sz off n =>
    rcases h with h | ⟨b, cap, h1, h2⟩
    · exact .inl h
    · exact .inr ⟨b, cap, (βup_add β k).trans h1, h2⟩
  | ptr k off => obtain ⟨b, h1, h2⟩ := h; exact ⟨b, (βup_add β k).trans h1, h2⟩
  | rptr k sz i c => obtain ⟨b, h1, h2⟩ := h; exact ⟨b, (βup_add β k).trans h1, h2⟩
  | mp k => obtain ⟨b, h1, h2⟩ := h; exact ⟨b, (βup_add β k).trans h1, h2⟩
  | eptr cs => exact h
  | fn f caps => obtain ⟨cv, h1, h2⟩ := h; exact ⟨cv, h1, h2.map _ fun a b h => h.up⟩
  | any => trivial
theorem RepT.up {x : TV} {v : Value} (h : RepT w fz β x v) : RepT w fz (βup β) x.up v := by
  cases x with
  | c x => exact RepC.up h
  | agg cs => obtain ⟨vs, h1, h2⟩ := h; exact ⟨vs, h1, h2.map _ fun a b h => ⟨h.1, h.2.up⟩⟩
  | pag cs => exact h
theorem RepA.up {x : AV} {v : Value} (h : RepA w fz β x v) : RepA w fz (βup β) x.up v := by
  cases x with
  | c x => exact RepC.up h
  | agg cs => obtain ⟨vs, h1, h2⟩ := h; exact ⟨vs, h1, h2.map _ fun a b h => ⟨h.1, h.2.up⟩⟩
  | pag cs => exact h
  | tup xs => obtain ⟨vs, h1, h2⟩ := h; exact ⟨vs, h1, h2.map _ fun a b h => RepT.up h⟩
theorem RepO.up {k : Nat} {o : Ob} (h : RepO w fz β k o) : RepO w fz (βup β) (k + 1000000) o.up := by
  cases o with
  | cells T cs => obtain ⟨b, vs, h1, h2, h3⟩ := h; exact ⟨b, vs, (βup_add β k).trans h1, h2, h3.map _ fun a b h => ⟨h.1, h.2.up⟩⟩
  | pcells T cs => obtain ⟨b, vs, h1, h2, h3⟩ := h; exact ⟨b, vs, (βup_add β k).trans h1, h2, h3⟩
  | row T sz xs =>
    rcases h with ⟨h1, h2⟩ | ⟨b, vs, h1, h2⟩
    · exact .inl ⟨(βup_add β k).trans h1, h2⟩
    · exact .inr ⟨b, vs, (βup_add β k).trans h1, h2⟩
  | mapo es clock => obtain ⟨b, h1, h2⟩ := h; exact ⟨b, (βup_add β k).trans h1, h2⟩
  | tok F J =>
    obtain ⟨h1, X, h2, h3⟩ := h
    exact ⟨h1, X, fun k b hk => by unfold βup at hk; split at hk; cases hk; exact h2 _ b hk, h3⟩
  | sav xs vs => exact All2.map (R := RepA w fz β) _ h fun x v hx => hx.up
theorem find_lend : ∀ {os : List (Nat × Ob)} {k' : Nat} {o' : Ob}, find (lend os) k' = some o' → ∃ k o, k' = k + 1000000 ∧ o' = o.up ∧ find os k = some o
  | [], k', o', h => by cases h
  | (j, p) :: r, k', o', h => by
    rw [lend, find_cons] at h
    by_cases hj : j + 1000000 = k'
    · rw [if_pos hj] at h; cases h
      exact ⟨j, p, hj.symm, rfl, by rw [find_cons, if_pos rfl]⟩
    · rw [if_neg hj] at h
      obtain ⟨k, o, h1, h2, h3⟩ := find_lend h
      exact ⟨k, o, h1, h2, by rw [find_cons, if_neg (by omega)]; exact h3⟩
theorem H.lend {os : List (Nat × Ob)} (h : H w fz β os) : H w fz (βup β) (lend os) where
  lt := fun k b hk => by unfold βup at hk; split at hk; cases hk; exact h.lt _ b hk
  fzlt := h.fzlt
  inj := fun k k' b h1 h2 => by
    unfold βup at h1 h2
    split at h1; cases h1
    split at h2; cases h2
    have := h.inj _ _ _ h1 h2; omega
  apart := fun b hb k hk => by unfold βup at hk; split at hk; cases hk; exact h.apart b hb _ hk
  ob := fun k' o' hk => by
    obtain ⟨k, o, rfl, rfl, h1⟩ := find_lend hk
    exact (h.ob k o h1).up
end

/-! ### And back. im: the callee's own blocks that the caller takes over, under which names -/
def look : List (Nat × Nat) → Nat → Option Nat
  | [], _ => none
  | (a, b) :: r, k => cond (a == k) (some b) (look r k)
def lookB : List (Nat × Nat) → Nat → Option Nat
  | [], _ => none
  | (a, b) :: r, j => cond (b == j) (some a) (lookB r j)
def kdn (im : List (Nat × Nat)) (k : Nat) : Option Nat :=
  if 1000000 ≤ k then match lookB im (k - 1000000) with
    | some _ => none
    | none => some (k - 1000000)
  else look im k
theorem kdn_hi {im : List (Nat × Nat)} {k j : Nat} (hk : 1000000 ≤ k) (h : kdn im k = some j) : lookB im j = none ∧ k = j + 1000000 := by
  unfold kdn at h
  rw [if_pos hk] at h
  generalize hm : k - 1000000 = m at h
  cases hb : lookB im m with
  | some x => rw [hb] at h; cases h
  | none => rw [hb] at h; cases h; exact ⟨hb, by omega⟩
theorem kdn_lo {im : List (Nat × Nat)} {k : Nat} (hk : ¬ 1000000 ≤ k) : kdn im k = look im k := by
  unfold kdn; rw [if_neg hk]
attribute [local irreducible] kdn
def imOk : List (Nat × Nat) → Bool
  | [] => true
  | (a, b) :: r => decide (a < 1000000) && decide (b < 1000000) && (look r a).isNone && (lookB r b).isNone && imOk r
def capDn (im : List (Nat × Nat)) : List Cap → Option (List Cap)
  | [] => some []
  | .val x :: r => (capDn im r).map (Cap.val x :: ·)
  | .fz cs :: r => (capDn im r).map (Cap.fz cs :: ·)
  | .key k :: r => match kdn im k with
    | some j => (capDn im r).map (Cap.key j :: ·)
    | none => none
def CV.dn (im : List (Nat × Nat)) : CV → CV
  | .own k sz n => match kdn im k with | some j => .own j sz n | none => .any
  | .win k sz off n => match kdn im k with | some j => .win j sz off n | none => .any
  | .ptr k off => match kdn im k with | some j => .ptr j off | none => .any
  | .rptr k sz i c => match kdn im k with | some j => .rptr j sz i c | none => .any
  | .fn f caps => match capDn im caps with | some cs => .fn f cs | none => .any
  | .mp k => match kdn im k with | some j => .mp j | none => .any
  | .p x => .p x
  | .eptr cs => .eptr cs
  | .any => .any
def TV.dn (im : List (Nat × Nat)) : TV → TV
  | .c x => .c (x.dn im)
  | .agg cs => .agg (cs.map (CV.dn im))
  | .pag cs => .pag cs
def AV.dn (im : List (Nat × Nat)) : AV → AV
  | .c x => .c (x.dn im)
  | .agg cs => .agg (cs.map (CV.dn im))
  | .pag cs => .pag cs
  | .tup xs => .tup (xs.map (TV.dn im))
def Ob.dn (im : List (Nat × Nat)) : Ob → Ob
  | .cells T cs => .cells T (cs.map (CV.dn im))
  | .pcells T cs => .pcells T cs
  | .row T sz xs => .row T sz xs
  | .mapo es clock => .mapo es clock
  | .tok F J => .tok F J
  | .sav xs vs => .sav (xs.map (AV.dn im)) vs
def dnO (im : List (Nat × Nat)) : List (Nat × Ob) → List (Nat × Ob)
  | [] => []
  | (k, o) :: r => match kdn im k with | some j => (j, o.dn im) :: dnO im r | none => dnO im r
theorem look_B : ∀ {im : List (Nat × Nat)} {k j : Nat}, imOk im = true → look im k = some j → lookB im j = some k ∧ k < 1000000 ∧ j < 1000000
  | [], k, j, _, h => by cases h
  | (a, b) :: r, k, j, ho, h => by
    simp only [imOk, Bool.and_eq_true, decide_eq_true_eq, Option.isNone_iff_eq_none] at ho
    obtain ⟨⟨⟨⟨h1, h2⟩, h3⟩, h4⟩, h5⟩ := ho
    unfold look at h
    unfold lookB
    cases hk : (a == k) with
    | true =>
      rw [hk] at h; cases h
      have : a = k := by simpa using hk
      subst this
      simp [h1, h2]
    | false =>
      rw [hk] at h
      obtain ⟨h6, h7⟩ := look_B h5 h
      have hb : (b == j) = false := by
        have : b ≠ j := fun e => by subst e; rw [h4] at h6; cases h6
        simpa using this
      rw [hb]; exact ⟨h6, h7⟩
theorem B_look : ∀ {im : List (Nat × Nat)} {k j : Nat}, imOk im = true → lookB im j = some k → look im k = some j ∧ k < 1000000 ∧ j < 1000000
  | [], k, j, _, h => by cases h
  | (a, b) :: r, k, j, ho, h => by
    simp only [imOk, Bool.and_eq_true, decide_eq_true_eq, Option.isNone_iff_eq_none] at ho
    obtain ⟨⟨⟨⟨h1, h2⟩, h3⟩, h4⟩, h5⟩ := ho
    unfold lookB at h
    unfold look
    cases hk : (b == j) with
    | true =>
      rw [hk] at h; cases h
      have : b = j := by simpa using hk
      subst this
      simp [h1, h2]
    | false =>
      rw [hk] at h
      obtain ⟨h6, h7⟩ := B_look h5 h
      have hb : (a == k) = false := by
        have : a ≠ k := fun e => by subst e; rw [h3] at h6; cases h6
        simpa using this
      rw [hb]; exact ⟨h6, h7⟩
def βdn (β β' : Nat → Option Nat) (im : List (Nat × Nat)) : Nat → Option Nat := fun j => match lookB im j with | some k => β' k | none => β j
section
variable {w w' : World} {fz fz' : Nat → Prop} {β β' β2 : Nat → Option Nat} {im : List (Nat × Nat)}
theorem RepCap.dn (hβ : ∀ k j, kdn im k = some j → β2 j = β' k) : ∀ {caps : List Cap} {vs : List Value} {cs : List Cap}, All2 (RepCap w fz β') caps vs → capDn im caps = some cs → All2 (RepCap w fz β2) cs vs
  | _, _, cs, .nil, h => by cases h; exact .nil
  | _, _, cs, .cons (a := .val x) h1 h2, h => by
    simp only [capDn, Option.map_eq_some_iff] at h
    obtain ⟨r, h3, rfl⟩ := h
    exact .cons h1 (RepCap.dn hβ h2 h3)
  | _, _, cs, .cons (a := .fz x) h1 h2, h => by
    simp only [capDn, Option.map_eq_some_iff] at h
    obtain ⟨r, h3, rfl⟩ := h
    exact .cons h1 (RepCap.dn hβ h2 h3)
  | _, _, cs, .cons (a := .key k) h1 h2, h => by
    simp only [capDn] at h
    split at h
    · rename_i j hj
      simp only [Option.map_eq_some_iff] at h
      obtain ⟨r, h3, rfl⟩ := h
      obtain ⟨b, h4, h5⟩ := h1
      exact .cons ⟨b, (hβ _ _ hj).trans h4, h5⟩ (RepCap.dn hβ h2 h3)
    · cases h
theorem RepC.dn (hβ : ∀ k j, kdn im k = some j → β2 j = β' k) {x : CV} {v : Value} (h : RepC w fz β' x v) : RepC w fz β2 (x.dn im) v := by
  cases x with
  | p x => exact h
  | own k sz n =>
    cases hj : kdn im k with
    | none => simp only [CV.dn, hj]; trivial
    | some j =>
      simp only [CV.dn, hj]
      rcases h with ⟨h1, h2⟩ | ⟨b, cap, T, h1, h2⟩
      · exact .inl ⟨(hβ _ _ hj).trans h1, h2⟩
      · exact .inr ⟨b, cap, T, (hβ _ _ hj).trans h1, h2⟩
  | win k sz off n =>
    cases hj : kdn im k with
    | none => simp only [CV.dn, hj]; trivial
    | some j =>
      simp only [CV.dn, hj]
      rcases h with h | ⟨b, cap, h1, h2⟩
      · exact .inl h
      · exact .inr ⟨b, cap, (hβ _ _ hj).trans h1, h2⟩
  | ptr k off =>
    cases hj : kdn im k with
    | none => simp only [CV.dn, hj]; trivial
    | some j => simp only [CV.dn, hj]; obtain ⟨b, h1, h2⟩ := h; exact ⟨b, (hβ _ _ hj).trans h1, h2⟩
  | rptr k sz i c =>
    cases hj : kdn im k with
    | none => simp only [CV.dn, hj]; trivial
    | some j => simp only [CV.dn, hj]; obtain ⟨b, h1, h2⟩ := h; exact ⟨b, (hβ _ _ hj).trans h1, h2⟩
  | mp k =>
    cases hj : kdn im k with
    | none => simp only [CV.dn, hj]; trivial
    | some j => simp only [CV.dn, hj]; obtain ⟨b, h1, h2⟩ := h; exact ⟨b, (hβ _ _ hj).trans h1, h2⟩
  | eptr cs => exact h
  | fn f caps =>
    cases hc : capDn im caps with
    | none => simp only [CV.dn, hc]; trivial
    | some cs => simp only [CV.dn, hc]; obtain ⟨cv, h1, h2⟩ := h; exact ⟨cv, h1, RepCap.dn hβ h2 hc⟩
  | any => trivial
theorem RepT.dn (hβ : ∀ k j, kdn im k = some j → β2 j = β' k) {x : TV} {v : Value} (h : RepT w fz β' x v) : RepT w fz β2 (x.dn im) v := by
  cases x with
  | c x => exact RepC.dn hβ h
  | agg cs => obtain ⟨vs, h1, h2⟩ := h; exact ⟨vs, h1, h2.map _ fun a b h => ⟨h.1, h.2.dn hβ⟩⟩
  | pag cs => exact h
theorem RepA.dn (hβ : ∀ k j, kdn im k = some j → β2 j = β' k) {x : AV} {v : Value} (h : RepA w fz β' x v) : RepA w fz β2 (x.dn im) v := by
  cases x with
  | c x => exact RepC.dn hβ h
  | agg cs => obtain ⟨vs, h1, h2⟩ := h; exact ⟨vs, h1, h2.map _ fun a b h => ⟨h.1, h.2.dn hβ⟩⟩
  | pag cs => exact h
  | tup xs => obtain ⟨vs, h1, h2⟩ := h; exact ⟨vs, h1, h2.map _ fun a b h => RepT.dn hβ h⟩
theorem RepO.dn (hβ : ∀ k j, kdn im k = some j → β2 j = β' k) (hX : ∀ j b, β2 j = some b → ∃ k, β' k = some b) {k j : Nat} (hk : kdn im k = some j) {o : Ob} (h : RepO w fz β' k o) : RepO w fz β2 j (o.dn im) := by
  cases o with
  | cells T cs => obtain ⟨b, vs, h1, h2, h3⟩ := h; exact ⟨b, vs, (hβ _ _ hk).trans h1, h2, h3.map _ fun a b h => ⟨h.1, h.2.dn hβ⟩⟩
  | pcells T cs => obtain ⟨b, vs, h1, h2, h3⟩ := h; exact ⟨b, vs, (hβ _ _ hk).trans h1, h2, h3⟩
  | row T sz xs =>
    rcases h with ⟨h1, h2⟩ | ⟨b, vs, h1, h2⟩
    · exact .inl ⟨(hβ _ _ hk).trans h1, h2⟩
    · exact .inr ⟨b, vs, (hβ _ _ hk).trans h1, h2⟩
  | mapo es clock => obtain ⟨b, h1, h2⟩ := h; exact ⟨b, (hβ _ _ hk).trans h1, h2⟩
  | tok F J =>
    obtain ⟨h1, X, h2, h3⟩ := h
    exact ⟨h1, X, fun j b hj => by obtain ⟨k', hk'⟩ := hX j b hj; exact h2 k' b hk', h3⟩
  | sav xs vs => exact All2.map (R := RepA w fz β') _ h fun x v hx => hx.dn hβ
theorem kdn_inj (ho : imOk im = true) {k k' j : Nat} (h : kdn im k = some j) (h' : kdn im k' = some j) : k = k' := by
  have key : ∀ k, kdn im k = some j → (k < 1000000 ∧ lookB im j = some k) ∨ (1000000 ≤ k ∧ lookB im j = none ∧ k = j + 1000000) := fun k h => by
    by_cases hk : 1000000 ≤ k
    · obtain ⟨h1, h2⟩ := kdn_hi hk h; exact .inr ⟨hk, h1, h2⟩
    · rw [kdn_lo hk] at h; obtain ⟨h1, h2, _⟩ := look_B ho h; exact .inl ⟨h2, h1⟩
  rcases key k h with ⟨h1, h2⟩ | ⟨h1, h2, h3⟩ <;> rcases key k' h' with ⟨g1, g2⟩ | ⟨g1, g2, g3⟩
  · rw [h2] at g2; cases g2; rfl
  · rw [h2] at g2; cases g2
  · rw [h2] at g2; cases g2
  · omega
theorem find_dnO (ho : imOk im = true) : ∀ {os : List (Nat × Ob)} {j : Nat} {o : Ob}, find (dnO im os) j = some o → ∃ k o', kdn im k = some j ∧ o = o'.dn im ∧ find os k = some o'
  | [], j, o, h => by cases h
  | (k, p) :: r, j, o, h => by
    unfold dnO at h
    split at h
    · rename_i i hi
      rw [find_cons] at h
      by_cases hij : i = j
      · subst hij; rw [if_pos rfl] at h; cases h
        exact ⟨k, p, hi, rfl, by rw [find_cons, if_pos rfl]⟩
      · rw [if_neg hij] at h
        obtain ⟨k', o', h1, h2, h3⟩ := find_dnO ho h
        refine ⟨k', o', h1, h2, ?_⟩
        rw [find_cons, if_neg (fun e => by subst e; rw [hi] at h1; cases h1; exact hij rfl)]; exact h3
    · rename_i hi
      obtain ⟨k', o', h1, h2, h3⟩ := find_dnO ho h
      refine ⟨k', o', h1, h2, ?_⟩
      rw [find_cons, if_neg (fun e => by subst e; rw [hi] at h1; cases h1)]; exact h3
end
def norefT (st : St) (im : List (Nat × Nat)) : Bool := im.all fun p => st.tmps.all fun x => !x.ref p.2
section
variable {P : Program} {cx : Cx} {st : St} {a : Act} {w : World} {fz : Nat → Prop} {β : Nat → Option Nat}
variable {kp : Bool} {K : St → Prop} {dst : Option Tmp} {ty T T' E : TypeId} {pos : String} {af : Array Edge} {gd : Option (Nat × Bool)} {x y : Operand}
theorem lookB_mem : ∀ {im : List (Nat × Nat)} {j k : Nat}, lookB im j = some k → ∃ p ∈ im, p.2 = j
  | [], j, k, h => by cases h
  | (a, b) :: r, j, k, h => by
    unfold lookB at h
    cases hb : (b == j) with
    | true => exact ⟨(a, b), by simp, by simpa using hb⟩
    | false => rw [hb] at h; obtain ⟨p, h1, h2⟩ := lookB_mem h; exact ⟨p, by simp [h1], h2⟩
theorem SR.backR (h : SR cx st a w fz β) {im : List (Nat × Nat)} (ho : imOk im = true) (hno : norefT st im = true) {fz' : Nat → Prop} {β' : Nat → Option Nat} {w' : World} {G} {os' : List (Nat × Ob)}
    (hr : Rel (Cx.of w fz (βup β) G) w' fz' β') (hH : H w' fz' β' os') : SR cx ⟨st.tmps, dnO im os'⟩ a w' fz' (βdn β β' im) ∧ ∀ k j, kdn im k = some j → βdn β β' im j = β' k := by
  have hA : Adv fz w w' := .of (fun b hb => hr.old rfl b (h.h.fzlt b hb) (fun k hk => by
    have hk : βup β k = some b := hk
    unfold βup at hk; split at hk; cases hk; exact h.h.apart b hb _ hk)) hr.shp
  have hhi : ∀ k, β' (k + 1000000) = β k := fun k => by
    have e : βup β (k + 1000000) = β k := βup_add β k
    have hm : 1000000 ≤ k + 1000000 := Nat.le_add_left _ _
    generalize k + 1000000 = m at e hm
    cases hb : β k with
    | none => rw [hb] at e; exact hr.bhi m hm e
    | some b => rw [hb] at e; exact hr.bin m b e
  have hβ : ∀ k j, kdn im k = some j → βdn β β' im j = β' k := fun k j hk => by
    by_cases hl : 1000000 ≤ k
    · obtain ⟨h1, rfl⟩ := kdn_hi hl hk
      unfold βdn; rw [h1]; exact (hhi j).symm
    · rw [kdn_lo hl] at hk; obtain ⟨h1, _⟩ := look_B ho hk; unfold βdn; rw [h1]
  have case : ∀ {j : Nat} {b : Nat}, βdn β β' im j = some b → (∃ k, lookB im j = some k ∧ k < 1000000 ∧ j < 1000000 ∧ β' k = some b ∧ w.heap.size ≤ b) ∨ (lookB im j = none ∧ β j = some b) := fun {j b} hj => by
    unfold βdn at hj
    split at hj
    · rename_i k hk
      obtain ⟨_, h2, h3⟩ := B_look ho hk
      refine .inl ⟨k, hk, h2, h3, hj, ?_⟩
      rcases hr.bout k b hj with h1 | h1
      · have h1 : βup β k = some b := h1
        rw [βup_low _ h2] at h1; cases h1
      · exact h1
    · exact .inr ⟨by assumption, hj⟩
  have hsame : ∀ {j : Nat}, lookB im j = none → βdn β β' im j = β j := fun {j} hj => by unfold βdn; rw [hj]
  have hhigh : ∀ {j : Nat}, 1000000 ≤ j → lookB im j = none := fun {j} hj => by
    cases hl : lookB im j with
    | none => rfl
    | some k => have := (B_look ho hl).2.2; omega
  have hst : Stp w fz β w' fz' (βdn β β' im) := ⟨hr.os, hr.tape, hr.output, hr.size, fun b hb hn => hr.old rfl b hb (fun k hk => by
    have hk : βup β k = some b := hk
    unfold βup at hk; split at hk; cases hk; exact hn _ hk), hr.shp, fun b hb hf => (hr.fzout b hf).elim .inl (fun h => absurd h (by have : ¬ w.heap.size ≤ b := by omega
                                                                                                                                     exact this)), fun k b hb hk => by
    rcases case hk with ⟨k', _, _, _, h1, h2⟩ | ⟨_, h1⟩
    · omega
    · exact ⟨k, h1⟩, hr.fzin⟩
  have hXd : ∀ j b, βdn β β' im j = some b → ∃ k, β' k = some b := fun j b hj => by
    rcases case hj with ⟨k', _, _, _, h1, _⟩ | ⟨_, h1⟩
    · exact ⟨k', h1⟩
    · exact ⟨j + 1000000, (hhi j).trans h1⟩
  refine ⟨⟨h.d.stp hst, h.low, ⟨hr.os.trans h.rel.os, hr.tape.trans h.rel.tape, hr.output.trans h.rel.output, Nat.le_trans h.rel.size hr.size, fun hrr b hb hn => ?_, fun b s hs => hr.shp b s (h.rel.shp b s hs), fun b hb => hr.fzin b (h.rel.fzin b hb), fun b hb => ?_, fun k b hk => ?_, fun k b hk => ?_, fun g cs hg => (h.rel.glob g cs hg).glob_adv hA hr.fzin, fun k hk h0 => (hsame (hhigh hk)).trans (h.rel.bhi k hk h0)⟩, ⟨fun k b hk => ?_, hH.fzlt, fun k k' b h1 h2 => ?_, fun b hb k hk => ?_, fun j o hj => ?_⟩, h.t.mono fun x v hx hv => hv.adv hA hr.fzin fun k hk => hsame ?_⟩, hβ⟩
  · refine (hr.old rfl b (Nat.lt_of_lt_of_le hb h.rel.size) fun k hk => ?_).trans (h.rel.old hrr b hb hn)
    have hk : βup β k = some b := hk
    unfold βup at hk; split at hk; cases hk
    rcases h.rel.bout _ _ hk with h1 | h1
    · exact hn _ h1
    · omega
  · rcases hr.fzout b hb with h1 | h1
    · exact h.rel.fzout b h1
    · exact .inr (Nat.le_trans h.rel.size h1)
  · have hkm : 1000000 ≤ k := by
      rcases Nat.lt_or_ge k 1000000 with h1 | h1
      · rw [h.low k h1] at hk; cases hk
      · exact h1
    exact (hsame (hhigh hkm)).trans (h.rel.bin k b hk)
  · rcases case hk with ⟨k', _, _, _, h1, h2⟩ | ⟨_, h1⟩
    · exact .inr (Nat.le_trans h.rel.size h2)
    · exact h.rel.bout k b h1
  · rcases case hk with ⟨k', _, _, _, h1, h2⟩ | ⟨_, h1⟩
    · exact hH.lt _ _ h1
    · exact Nat.lt_of_lt_of_le (h.h.lt _ _ h1) hr.size
  · rcases case h1 with ⟨i, e1, _, _, e2, e3⟩ | ⟨e1, e2⟩ <;> rcases case h2 with ⟨i', g1, _, _, g2, g3⟩ | ⟨g1, g2⟩
    · have := hH.inj _ _ _ e2 g2; subst this
      have a1 := (B_look ho e1).1; have a2 := (B_look ho g1).1
      rw [a1] at a2; cases a2; rfl
    · have := h.h.lt _ _ g2; omega
    · have := h.h.lt _ _ e2; omega
    · exact h.h.inj _ _ _ e2 g2
  · rcases case hk with ⟨i, e1, _, _, e2, e3⟩ | ⟨e1, e2⟩
    · exact hH.apart b hb _ e2
    · rcases hr.fzout b hb with h1 | h1
      · exact h.h.apart b h1 _ e2
      · have h1 : w.heap.size ≤ b := h1
        have := h.h.lt _ _ e2; omega
  · obtain ⟨k, o', h1, rfl, h2⟩ := find_dnO ho hj
    exact (hH.ob k o' h2).dn hβ hXd h1
  · cases hl : lookB im k with
    | none => rfl
    | some i =>
      obtain ⟨p, hp, rfl⟩ := lookB_mem hl
      simp only [norefT, List.all_eq_true, Bool.not_eq_true'] at hno
      rw [hno p hp x hx] at hk; cases hk
/-- What a function's captured things are to it. -/
def Cap.av : Cap → AV
  | .key k => .c (.ptr (k + 1000000) 0)
  | .val x => .c (.p (.s x))
  | .fz cs => .c (.eptr cs)
def capOk : Cap → Bool
  | .key _ | .fz _ => true
  | .val x => x.oneCell'
theorem RepCap.av {c : Cap} {v : Value} (h : RepCap w fz β c v) (ho : capOk c = true) : RepA w fz (βup β) c.av v := by
  cases c with
  | key k => obtain ⟨b, h1, h2⟩ := h; exact ⟨b, (βup_add β k).trans h1, h2⟩
  | val x => cases h; exact RepP.s _ ho
  | fz cs => exact h
theorem SR.argsR (hs : SR cx st a w fz β) {xs : List Operand} (ho : okOps xs = true) : All2 (RepA w fz (βup β)) (xs.map fun x => (nilFro (st.op cx x)).up) (xs.map a.eval) :=
  all2_map_list xs fun x hx => ((hs.op x (List.all_eq_true.1 ho x hx)).nilFro).up
theorem OpTo.callR {f : Nat} {xs : List Operand} {args : List AV} {os0 : List (Nat × Ob)} {ats : Array TypeId} {Q : AV → List (Nat × Ob) → Prop} (im : List (Nat × Nat)) (hc : AC P cx.G f args os0 Q) (hos : lend st.objs = os0) (hf : isFn P f = true) (ho : okOps xs = true)
    (ha : xs.map (fun x => (nilFro (st.op cx x)).up) = args) (hi : imOk im = true) (hno : norefT st im = true) (hq : ∀ r os', Q r os' → K (St.put ⟨st.tmps, dnO im os'⟩ dst (r.dn im))) :
    OpTo P cx false ⟨dst, .call { callee := .value (.func f), args := xs.toArray, argTypes := ats }, ty, pos, af, gd⟩ st K := by
  intro a w next Qx ⟨fz, β, hs⟩ hn
  subst ha hos
  have hcall := hc w fz (βup β) (xs.map a.eval) (fun k hk => βup_low _ hk) hs.h.lend hs.rel.glob (hs.argsR ho)
  unfold wpv
  have hrun : (execOp a.eval ⟨dst, .call { callee := .value (.func f), args := xs.toArray, argTypes := ats }, ty, pos, af, gd⟩).run P w = .ok (.enter f (xs.map a.eval).toArray) w := by
    simp [execOp, resolve, Act.eval, Deferred.ofValue, invoke, run_callFunc hf]
  rw [hrun, upv_enter]
  refine hcall.mono fun e w' ⟨v, r, os', fz', β', h1, h2, h3, h4, h5⟩ => ?_
  subst h1
  obtain ⟨h6, h7⟩ := hs.backR hi hno h3 h4
  exact hn _ _ _ (hq r os' h2) ⟨fz', _, h6.put (h5.dn h7) dst⟩ (fun h => by cases h)
theorem OpTo.callF {f : Nat} {g : Operand} {caps : List Cap} {xs : List Operand} {args : List AV} {os0 : List (Nat × Ob)} {ats : Array TypeId} {Q : AV → List (Nat × Ob) → Prop} (im : List (Nat × Nat)) (hc : AC P cx.G f args os0 Q) (hg : st.op cx g = .c (.fn f caps)) (hgo : okOp g = true) (hcap : caps.all capOk = true) (hos : lend st.objs = os0) (hf : isFn P f = true) (ho : okOps xs = true)
    (ha : xs.map (fun x => (nilFro (st.op cx x)).up) ++ caps.map Cap.av = args) (hi : imOk im = true) (hno : norefT st im = true) (hq : ∀ r os', Q r os' → K (St.put ⟨st.tmps, dnO im os'⟩ dst (r.dn im))) :
    OpTo P cx false ⟨dst, .call { callee := .value g, args := xs.toArray, argTypes := ats }, ty, pos, af, gd⟩ st K := by
  intro a w next Qx ⟨fz, β, hs⟩ hn
  subst ha hos
  have hG := hs.op g hgo
  rw [hg] at hG
  obtain ⟨cv, hgv, hcv⟩ := hG
  have hcv2 : All2 (RepA w fz (βup β)) (caps.map Cap.av) cv := by
    have : All2 (fun c v => RepCap w fz β c v ∧ capOk c = true) caps cv := hcv.mono fun c v hc h => ⟨h, List.all_eq_true.1 hcap c hc⟩
    exact this.map _ fun c v h => h.1.av h.2
  have hcall := hc w fz (βup β) (xs.map a.eval ++ cv) (fun k hk => βup_low _ hk) hs.h.lend hs.rel.glob ((hs.argsR ho).append hcv2)
  unfold wpv
  have hrun : (execOp a.eval ⟨dst, .call { callee := .value g, args := xs.toArray, argTypes := ats }, ty, pos, af, gd⟩).run P w = .ok (.enter f (xs.map a.eval ++ cv).toArray) w := by
    simp [execOp, resolve, hgv, Deferred.ofValue, invoke, run_callFunc hf]
  rw [hrun, upv_enter]
  refine hcall.mono fun e w' ⟨v, r, os', fz', β', h1, h2, h3, h4, h5⟩ => ?_
  subst h1
  obtain ⟨h6, h7⟩ := hs.backR hi hno h3 h4
  exact hn _ _ _ (hq r os' h2) ⟨fz', _, h6.put (h5.dn h7) dst⟩ (fun h => by cases h)
/-- A function that is made a value. -/
def capOf : AV → Option Cap
  | .c (.ptr k 0) => some (.key k)
  | .c (.p (.s v)) => some (.val v)
  | .c (.eptr cs) => some (.fz cs)
  | _ => none
theorem RepA.cap {z : AV} {v : Value} {c : Cap} (h : RepA w fz β z v) (hc : capOf z = some c) : RepCap w fz β c v := by
  unfold capOf at hc
  split at hc
  · cases hc; obtain ⟨b, h1, h2⟩ := h; exact ⟨b, h1, h2⟩
  · cases hc; exact RepA.eq h
  · cases hc; exact h
  · cases hc
def capsOf : List AV → Option (List Cap)
  | [] => some []
  | z :: r => match capOf z, capsOf r with
    | some c, some cs => some (c :: cs)
    | _, _ => none
theorem SR.caps (hs : SR cx st a w fz β) : ∀ {xs : List Operand} {cs : List Cap}, okOps xs = true → capsOf (xs.map fun x => st.op cx x) = some cs → All2 (RepCap w fz β) cs (xs.map a.eval)
  | [], cs, _, h => by cases h; exact .nil
  | x :: xs, cs, ho, h => by
    simp only [okOps, List.all_cons, Bool.and_eq_true] at ho
    simp only [List.map_cons, capsOf] at h
    split at h
    · rename_i c cs' h1 h2
      cases h
      exact .cons ((hs.op x ho.1).cap h1) (hs.caps (xs := xs) ho.2 h2)
    · cases h
theorem Val.fn {f : Nat} {xs : List Operand} {cs : List Cap} (ho : okOps xs = true) (hc : capsOf (xs.map fun x => st.op cx x) = some cs) : Val P cx true ⟨dst, .makeFunc (.func f) #[] xs.toArray, ty, pos, af, gd⟩ st (.c (.fn f cs)) := fun a w fz β hs => by
  have := hs.caps ho hc
  exact ⟨.func (.func f) #[] (xs.map a.eval).toArray, ⟨_, rfl, this⟩, fun w' _ => by simp [execOp, Instr.makeFunc]⟩
end
end Go.Proofs.Vl
