-- Words of this session: what an argument's reading as data says of the values that lie there, for slices of structs, structs and arrays by value.
import Derived.Test.YtcheokfoilcdoaaWWords
import Derived.Deep.Slices
import Derived.Deep.Fields
import Derived.OpenShut
import Derived.ChangeSame
namespace Go.Proofs.Ytcheokfoilcdoaa.Rw
open Go.RowKit Go.Deep Go.ChangeShapes Go.WideShapes Go.Proofs.YtcheokfoilcdoaaW.PrintWords

/-- Whatever reads as data of type T is of this kind. -/
def Opens (P : Program) (T : TypeId) {α : Type} (d : Kd α) (ok : α → Prop) : Prop :=
  ∀ {H : Type} {enc : TypeId × Value → H} {w : World} {base : Nat} {spare : Nat → Bool} {held : Bool} {fuel : Nat} {cs : List Value} {x : DataW H × List MemPlace},
    DataW.trod enc P w base spare held fuel T cs = some x → ∃ a, d.K w a cs ∧ ok a
section
variable {P : Program} {T e : TypeId} {α : Type} {d : Kd α} {ok : α → Prop}
theorem Opens.int {k : IntKind} (ht : P.underlying T = some (.int k)) : Opens P T (Kd.int k) (fun x => (Lit.int k x).wf = true) := fun h => by
  obtain ⟨n, hc, _, hw⟩ := DataW.trod_int ht h
  exact ⟨n, hc, hw⟩
theorem Opens.bool (ht : P.underlying T = some .bool) : Opens P T Kd.bool (fun _ => True) := fun h => by
  obtain ⟨n, hc, _⟩ := DataW.trod_bool ht h
  exact ⟨n, hc, trivial⟩
theorem Opens.string (ht : P.underlying T = some .string) : Opens P T Kd.string (fun x => x.size ≤ maxLen) := fun h => by
  obtain ⟨n, hc, _, hw⟩ := DataW.trod_string ht h
  exact ⟨n, hc, hw⟩
theorem Opens.slice (ht : P.underlying T = some (.slice e)) (hsz : P.cellsOf e = d.sz) (he : Opens P e d ok) : Opens P T (Kd.slice e d) (fun xs => xs.length ≤ maxLen ∧ ∀ x ∈ xs, ok x) := by
  intro H enc w base spare held fuel cs x h
  rcases open_slice ht h with ⟨rfl, _⟩ | ⟨a, len, cap, m, n, D, Pl, rfl, _, hl, hm, hmm, _, hi⟩
  · exact ⟨[], ⟨none, 0, rfl, Nat.le_refl _, rfl, by simp, fun h => absurd h (by simp)⟩, by simp, by simp⟩
  · have hlm : len ≤ m := by rw [hmm]; split <;> omega
    have hel : ∀ i, i < len → ∃ a', (∃ cs', cs'.length = d.sz ∧ d.K w a' cs' ∧ ∀ j u, cs'[j]? = some u → w.cell? (a.add (i * d.sz + j)) = some u) ∧ ok a' := by
      intro i hil
      obtain ⟨cs', hc, ht'⟩ := hi i (by omega)
      obtain ⟨a', hk, ho⟩ := he ht'
      obtain ⟨_, hcl, hat⟩ := World.cells?_some hc
      refine ⟨a', ⟨cs', hcl.trans hsz, hk, fun j u hu => ?_⟩, ho⟩
      have hj : j < P.cellsOf e := by rw [← hcl]; exact (List.getElem?_eq_some_iff.1 hu).1
      have := hat j hj
      rw [Go.Deep.add_add, hsz] at this
      rw [this, hu]
    rcases Nat.eq_zero_or_pos len with h0 | h0
    · subst h0
      exact ⟨[], ⟨some a, cap, rfl, Nat.zero_le _, rfl, by simp, fun h => absurd h (by simp)⟩, by simp, by simp⟩
    · obtain ⟨a0, _⟩ := hel 0 h0
      obtain ⟨f, hf⟩ : ∃ f : Nat → α, ∀ i, i < len → (∃ cs', cs'.length = d.sz ∧ d.K w (f i) cs' ∧ ∀ j u, cs'[j]? = some u → w.cell? (a.add (i * d.sz + j)) = some u) ∧ ok (f i) := by
        refine ⟨fun i => if h : i < len then (hel i h).choose else a0, fun i h => ?_⟩
        simp only [dif_pos h]
        exact (hel i h).choose_spec
      have hmax : maxLen ≤ 9223372036854775807 := by unfold maxLen; omega
      refine ⟨(List.range len).map f, ⟨some a, cap, by simp, by simp; exact hl, rfl, by simp; omega, fun _ => ⟨a, rfl, fun j p hp => ?_⟩⟩, by simp; omega, fun x hx => ?_⟩
      · rw [List.getElem?_map] at hp
        obtain ⟨i, hi', rfl⟩ := Option.map_eq_some_iff.1 hp
        obtain ⟨hlt, rfl⟩ := List.getElem?_eq_some_iff.1 hi'
        simp only [List.length_range] at hlt
        simp only [List.getElem_range]
        obtain ⟨⟨cs', h1, h2, h3⟩, _⟩ := hf j hlt
        exact ⟨cs', h1, h2, h3⟩
      · obtain ⟨i, hi', rfl⟩ := List.mem_map.1 hx
        exact (hf i (List.mem_range.1 hi')).2
theorem okWide_array {w : World} {r : Reach} {b0 n : Nat} {v : Value} (ht : P.underlying T = some (.array n e)) (h : Value.okWide P w r b0 T v) : ∃ cs, v = .agg cs ∧ cs.size = P.cellsOf T := by
  simp only [Value.okWide, ht] at h
  obtain ⟨cs, h1, h2, _⟩ := h
  exact ⟨cs, h1, h2⟩
end
theorem list1 {cs : List Value} (h : cs.length = 1) : ∃ a, cs = [a] := by match cs, h with | [a], _ => exact ⟨a, rfl⟩
theorem list2 {cs : List Value} (h : cs.length = 2) : ∃ a b, cs = [a, b] := by match cs, h with | [a, b], _ => exact ⟨a, b, rfl⟩
theorem list3 {cs : List Value} (h : cs.length = 3) : ∃ a b c, cs = [a, b, c] := by match cs, h with | [a, b, c], _ => exact ⟨a, b, c, rfl⟩
theorem list4 {cs : List Value} (h : cs.length = 4) : ∃ a b c d, cs = [a, b, c, d] := by match cs, h with | [a, b, c, d], _ => exact ⟨a, b, c, d, rfl⟩
theorem list5 {cs : List Value} (h : cs.length = 5) : ∃ a b c d e, cs = [a, b, c, d, e] := by match cs, h with | [a, b, c, d, e], _ => exact ⟨a, b, c, d, e, rfl⟩
theorem list6 {cs : List Value} (h : cs.length = 6) : ∃ a b c d e f, cs = [a, b, c, d, e, f] := by match cs, h with | [a, b, c, d, e, f], _ => exact ⟨a, b, c, d, e, f, rfl⟩
theorem list7 {cs : List Value} (h : cs.length = 7) : ∃ a b c d e f g, cs = [a, b, c, d, e, f, g] := by match cs, h with | [a, b, c, d, e, f, g], _ => exact ⟨a, b, c, d, e, f, g, rfl⟩
end Go.Proofs.Ytcheokfoilcdoaa.Rw
