/- The package variable of math/bits, as the world lays it. -/
import Derived.Test.YtlegdnmebgfjbaaDoorSD4
import Derived.Test.YtlegdnmebgfjbaaDoorRows
import Derived.ProofKit
import Derived.LaidMore
import Derived.OpenShut
import Derived.Stop.Joined
set_option linter.all false
namespace Go.Proofs.Vl
open Go Go.RowKit Go.ChangeShapes Go.WideShapes Go.ChangeAt
theorem wf64 {n : Int} (h : (Lit.int .u64 n).wf = true) : 0 ≤ n ∧ n < 18446744073709551616 := by
  have h1 : IntKind.u64.min = 0 := rfl
  have h2 : IntKind.u64.max = 18446744073709551615 := rfl
  simp only [Lit.wf, Bool.and_eq_true, decide_eq_true_eq] at h
  omega
def ok64 (c : Int) : Prop := -9223372036854775808 ≤ c ∧ c < 9223372036854775808
theorem wfi {n : Int} (h : (Lit.int .i64 n).wf = true) : ok64 n := by
  have h1 : IntKind.i64.min = -9223372036854775808 := rfl
  have h2 : IntKind.i64.max = 9223372036854775807 := rfl
  simp only [Lit.wf, Bool.and_eq_true, decide_eq_true_eq] at h
  unfold ok64
  omega
/-- At the top, over package variables that are told. -/
theorem AC.topG {P : Program} {G : Nat → Option (List PV)} {f : Nat} {args : List AV} {w : World} {vs : List Value} {v : Value} (h : AC P G f args [] (fun r _ => r = .c (.p (.s v)))) (hA : All2 (RepA w (Elder w) (fun _ => none)) args vs)
    (hG : ∀ g cs, G g = some cs → RepC w (Elder w) (fun _ => none) (.eptr cs) (.pointer (some ⟨g, 0, none⟩))) :
    Calls P f vs.toArray w fun e w' => e = .returned v ∧ Below w.heap.size w w' := by
  refine (h w (Elder w) (fun _ => none) vs (fun _ _ => rfl) (H.none fun b hb => hb) hG hA).mono ?_
  rintro e w' ⟨v', r, os', fz', β', he, rfl, hR, hH, hv⟩
  have := RepA.eq hv; subst this
  exact ⟨he, ⟨hR.os, hR.tape, hR.output, hR.size, fun b hb => hR.old rfl b hb (fun k => by simp)⟩⟩
theorem trod_arr {H : Type} {enc : TypeId × Value → H} {P : Program} {w : World} {base fuel : Nat} {spare held} {t e : TypeId} {n : Nat} {cs : List Value} {x : DataW H × List MemPlace} (ht : P.underlying t = some (.array n e)) (h : DataW.trod enc P w base spare held fuel t cs = some x) :
    ∃ (xs : List (DataW H × List MemPlace)) (m : Nat), x = (.agg (xs.map (·.1)), xs.flatMap (·.2)) ∧ cs.length = P.cellsOf t ∧ xs.length = n ∧
      ∀ i, i < n → DataW.trod enc P w base spare held m e ((cs.drop (i * P.cellsOf e)).take (P.cellsOf e)) = xs[i]? := by
  cases fuel with
  | zero => simp [DataW.trod] at h
  | succ m =>
    unfold DataW.trod at h
    rw [ht] at h
    split at h <;> simp_all
    obtain ⟨hl, xs, hp, hd⟩ := h
    refine ⟨xs, hd.symm, by simpa using mapM_some_length hp, m, fun i hi => ?_⟩
    have := mapM_some_get hp i i (by simp [hi])
    exact this
theorem arr_cells {H : Type} {enc : TypeId × Value → H} {P : Program} {w : World} {base fuel : Nat} {spare held} {t e : TypeId} {n : Nat} {k : IntKind} {cs : List Value} {ns : List Int} {p : List MemPlace} (ht : P.underlying t = some (.array n e)) (he : P.underlying e = some (.int k)) (hc : P.cellsOf e = 1) (hct : P.cellsOf t = n)
    (h : DataW.trod enc P w base spare held fuel t cs = some (.agg (ns.map fun m => .lit (.int k m)), p)) : cs = ns.map fun m => .int k m := by
  obtain ⟨xs, m, hx, hl, hn, hel⟩ := trod_arr ht h
  simp only [Prod.mk.injEq, DataW.agg.injEq] at hx
  have hlen : ns.length = xs.length := by have := congrArg List.length hx.1; simpa using this
  refine List.ext_getElem (by simp; omega) fun i h1 h2 => ?_
  have hi : i < n := by omega
  have h3 := hel i hi
  rw [hc, Nat.mul_one] at h3
  have h4 : (cs.drop i).take 1 = [cs[i]] := by
    rw [List.take_one, List.head?_drop, List.getElem?_eq_getElem h1]; rfl
  rw [h4, List.getElem?_eq_getElem (by omega)] at h3
  obtain ⟨v, e1, e2, _⟩ := DataW.trod_int he h3
  have h5 := congrArg (fun l => l[i]?) hx.1
  simp only [List.getElem?_map] at h5
  rw [List.getElem?_eq_getElem (by omega), List.getElem?_eq_getElem (by omega : i < xs.length), e2] at h5
  simp only [Option.map_some, Option.some.injEq, DataW.lit.injEq, Lit.int.injEq, true_and] at h5
  simp only [List.cons.injEq, and_true] at e1
  rw [e1, List.getElem_map, h5]
theorem rep_ints {W : World} {g : Nat} {k : IntKind} {ns : List Int} (h : ∀ (i : Nat) (h : i < ns.length), W.cell? ⟨g, i, none⟩ = some (.int k ns[i])) : RepC W (Elder W) (fun _ => none) (.eptr (ns.map fun m => .s (.int k m))) (.pointer (some ⟨g, 0, none⟩)) := by
  refine ⟨g, 0, rfl, fun hne => ?_, fun c x hc => ?_⟩
  · cases ns with
    | nil => exact absurd rfl hne
    | cons a l => exact World.block_lt_of_cell? W _ (h 0 (by simp))
  · obtain ⟨hlt, hx⟩ := List.getElem?_eq_some_iff.1 hc
    rw [List.getElem_map] at hx
    subst hx
    rw [List.length_map] at hlt
    exact ⟨_, by rw [Nat.zero_add]; exact h c hlt, .s _ rfl⟩
abbrev laidL : List (String × DataW Unit) := [("math/bits.deBruijn64tab", Go.Proofs.YtlegdnmebgfjbaaDoor.Rows.laid_math_bits_deBruijn64tab)]
theorem gTz : Tryd.prog.globalNamed "math/bits.deBruijn64tab" = some 0 := by kernel_rfl
theorem tTz : (Tryd.prog.globals[0]?).map (·.type) = some 117 := by kernel_rfl
theorem laid_tz {H : Type} : (Go.Proofs.YtlegdnmebgfjbaaDoor.Rows.laid_math_bits_deBruijn64tab : DataW H) = .agg ((tzT.map fun (x : Nat) => (x : Int)).map fun m => .lit (.int .u8 m)) := rfl
theorem door_glob {W : World} (h : laidMetH Tryd.prog laidL W) : ∀ g cs, GL g = some cs → RepC W (Elder W) (fun _ => none) (.eptr cs) (.pointer (some ⟨g, 0, none⟩)) := by
  rw [MakeChecks.laidMetH_plain _ _ _ (by kernel_rfl)] at h
  obtain ⟨ps, ⟨g0, t0, cs0, f0, p0, q0, hg0, ht0, hv0, hd0, _, _⟩, _, _⟩ := h
  obtain rfl := Option.some.inj (gTz.symm.trans hg0)
  obtain rfl := Option.some.inj (tTz.symm.trans ht0)
  rw [laid_tz] at hd0
  have k0 := arr_cells Tryd.underlying117 Tryd.underlying5 (by kernel_rfl) (by kernel_rfl) hd0
  obtain ⟨l0⟩ := cs0
  dsimp only at k0
  subst k0
  have a0 := World.var?_cell hg0 hv0
  intro g cs hg
  unfold GL at hg
  split at hg
  · cases hg
    have := rep_ints (W := W) (g := 0) (k := .u8) (ns := tzT.map fun (x : Nat) => (x : Int)) (fun i hi => by
      have hi' : i < tzT.length := by simpa using hi
      rw [a0 i]
      simp [List.getElem?_eq_getElem hi'])
    have e : ((tzT.map fun (x : Nat) => (x : Int)).map fun m => PV.s (.int .u8 m)) = tzP := by unfold tzP; rw [List.map_map]; rfl
    rw [e] at this
    exact this
  · cases hg
/-- The door's own heap meets the condition. -/
theorem door_met (os : Os) (args : Array Value) : laidMetH Tryd.prog laidL ((World.doorLaid Tryd.prog 400 os).forCall (fun _ _ => 0) ⟨#[], args, []⟩).memory :=
  laidMetH_of_parts3 (fuel := 8) (laidMet_of_run' 8 (by kernel_rfl) (by kernel_rfl)) (by kernel_rfl) (by kernel_rfl)
end Go.Proofs.Vl
