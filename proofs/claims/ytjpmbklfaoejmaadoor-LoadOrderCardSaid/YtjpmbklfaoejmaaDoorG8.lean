/- The package variables of load, as the world lays them. -/
import Derived.Test.YtjpmbklfaoejmaaDoorG7
import Derived.Test.YtjpmbklfaoejmaaDoorRows
import Derived.ProofKit
import Derived.LaidMore
import Derived.OpenShut
import Derived.Stop.Joined
set_option linter.all false
namespace Go.Proofs.Vl
open Go Go.RowKit Go.ChangeShapes Go.WideShapes Go.ChangeAt
theorem wf64 {n : Int} (h : (Lit.int .u64 n).wf = true) : 0 ≤ n ∧ n < 18446744073709551616 := by
  have h1 : IntKind.u64.min = 0 := rfl
  have h2 : IntKind.u64.max = 18446744073709551615 := rfl
  simp only [Lit.wf, Bool.and_eq_true, decide_eq_true_eq] at h
  omega
/-- At the top, over package variables that are told. -/
theorem AC.topG {P : Program} {G : Nat → Option (List PV)} {f : Nat} {args : List AV} {w : World} {vs : List Value} {v : Value} (h : AC P G f args [] (fun r _ => r = .c (.p (.s v)))) (hA : All2 (RepA w (Elder w) (fun _ => none)) args vs)
    (hG : ∀ g cs, G g = some cs → RepC w (Elder w) (fun _ => none) (.eptr cs) (.pointer (some ⟨g, 0, none⟩))) :
    Calls P f vs.toArray w fun e w' => e = .returned v ∧ Below w.heap.size w w' := by
  refine (h w (Elder w) (fun _ => none) vs (fun _ _ => rfl) (H.none fun b hb => hb) hG hA).mono ?_
  rintro e w' ⟨v', r, os', fz', β', he, rfl, hR, hH, hv⟩
  have := RepA.eq hv; subst this
  exact ⟨he, ⟨hR.os, hR.tape, hR.output, hR.size, fun b hb => hR.old b hb (fun k => by simp)⟩⟩
abbrev laidL : List (String × DataW Unit) := [("cadency/load.none", Go.Proofs.YtjpmbklfaoejmaaDoor.Rows.laid_cadency_load_none), ("cadency/load.nothing", Go.Proofs.YtjpmbklfaoejmaaDoor.Rows.laid_cadency_load_nothing)]
theorem gNone : Tryd.prog.globalNamed "cadency/load.none" = some 0 := by kernel_rfl
theorem gNothing : Tryd.prog.globalNamed "cadency/load.nothing" = some 1 := by kernel_rfl
theorem tNone : (Tryd.prog.globals[0]?).map (·.type) = some 24 := by kernel_rfl
theorem tNothing : (Tryd.prog.globals[1]?).map (·.type) = some 24 := by kernel_rfl
theorem frac_cells {H : Type} {enc : TypeId × Value → H} {W : World} {base fuel : Nat} {spare held} {cs : List Value} {a b : Int} {p : List MemPlace} (h : DataW.trod enc Tryd.prog W base spare held fuel 24 cs = some (.agg [.lit (.int .u64 a), .lit (.int .u64 b)], p)) : cs = [.int .u64 a, .int .u64 b] := by
  obtain ⟨xs, n, rfl, hx, hlen, hn, hel⟩ := DataW.trod_struct Tryd.underlying24 h
  have c24 : Tryd.prog.cellsOf 24 = 2 := by kernel_rfl
  have c22 : Tryd.prog.cellsOf 22 = 1 := by kernel_rfl
  have h0 : DataW.trod enc Tryd.prog W base spare held n 22 ((cs.drop 0).take (Tryd.prog.cellsOf 22)) = xs[0]? := hel 0 _ rfl
  have h1 : DataW.trod enc Tryd.prog W base spare held n 22 ((cs.drop 1).take (Tryd.prog.cellsOf 22)) = xs[1]? := hel 1 _ rfl
  rw [c22] at h0 h1
  rw [c24] at hlen
  match cs, hlen with
  | [u, v], _ =>
    match xs, hn with
    | [x, y], _ =>
      simp only [Prod.mk.injEq, List.map_cons, List.map_nil, DataW.agg.injEq, List.cons.injEq, and_true] at hx
      obtain ⟨k0, e1, e2, _⟩ := DataW.trod_int Tryd.underlying22 (show DataW.trod enc Tryd.prog W base spare held n 22 [u] = some x from h0)
      obtain ⟨k1, e3, e4, _⟩ := DataW.trod_int Tryd.underlying22 (show DataW.trod enc Tryd.prog W base spare held n 22 [v] = some y from h1)
      cases e1
      cases e3
      subst e2 e4
      obtain ⟨⟨q1, q2⟩, _⟩ := hx
      cases q1
      cases q2
      rfl
theorem rep_glob {W : World} {g : Nat} {a b : Nat} (h0 : W.cell? ⟨g, 0, none⟩ = some (.int .u64 a)) (h1 : W.cell? ⟨g, 1, none⟩ = some (.int .u64 b)) : RepC W (Elder W) (fun _ => none) (.eptr (ldP (a, b))) (.pointer (some ⟨g, 0, none⟩)) := by
  refine ⟨g, 0, rfl, fun _ => World.block_lt_of_cell? W _ h0, fun c x hc => ?_⟩
  match c, hc with
  | 0, hc => cases hc; exact ⟨_, h0, RepP.s _ rfl⟩
  | 1, hc => cases hc; exact ⟨_, h1, RepP.s _ rfl⟩
theorem door_glob {W : World} (h : laidMetH Tryd.prog laidL W) : ∀ g cs, GL g = some cs → RepC W (Elder W) (fun _ => none) (.eptr cs) (.pointer (some ⟨g, 0, none⟩)) := by
  rw [MakeChecks.laidMetH_plain _ _ _ (by kernel_rfl)] at h
  obtain ⟨ps, ⟨g0, t0, cs0, f0, p0, q0, hg0, ht0, hv0, hd0, ⟨g1, t1, cs1, f1, p1, q1, hg1, ht1, hv1, hd1, _, _⟩, _⟩, _, _⟩ := h
  obtain rfl := Option.some.inj (gNone.symm.trans hg0)
  obtain rfl := Option.some.inj (gNothing.symm.trans hg1)
  obtain rfl := Option.some.inj (tNone.symm.trans ht0)
  obtain rfl := Option.some.inj (tNothing.symm.trans ht1)
  have k0 := frac_cells hd0
  have k1 := frac_cells hd1
  obtain ⟨l0⟩ := cs0
  obtain ⟨l1⟩ := cs1
  dsimp only at k0 k1
  subst k0 k1
  have a0 := World.var?_cell hg0 hv0 0
  have a1 := World.var?_cell hg0 hv0 1
  have b0 := World.var?_cell hg1 hv1 0
  have b1 := World.var?_cell hg1 hv1 1
  intro g cs hg
  unfold GL at hg
  split at hg
  · cases hg; exact rep_glob (a := 0) (b := 0) a0 a1
  · cases hg; exact rep_glob (a := 0) (b := 1) b0 b1
  · cases hg
theorem opLd : Opens Tryd.prog 24 ldP lOk :=
  Opens.iso (Opens.struct (l := [(22, 1), (22, 1)]) Tryd.underlying24 (by kernel_rfl) (by kernel_rfl)
    (OpensFs.cons (Opens.int Tryd.underlying22) (OpensFs.cons (Opens.int Tryd.underlying22) OpensFs.nil)))
    (fun p => (p.1.toNat, p.2.1.toNat)) (fun a h => by
      obtain ⟨h1, h2, _⟩ := h
      have k1 := wf64 h1
      have k2 := wf64 h2
      show [PV.s (.int .u64 _), PV.s (.int .u64 _)] = [PV.s (.int .u64 _), PV.s (.int .u64 _)]
      rw [Int.toNat_of_nonneg k1.1, Int.toNat_of_nonneg k2.1]) (fun a h => by
      obtain ⟨h1, h2, _⟩ := h
      have k1 := wf64 h1
      have k2 := wf64 h2
      exact ⟨by dsimp only; omega, by dsimp only; omega⟩)
/-- The door's own heap meets the condition. -/
theorem door_met (os : Os) (args : Array Value) : laidMetH Tryd.prog laidL ((World.doorLaid Tryd.prog 400 os).forCall (fun _ _ => 0) ⟨#[], args, []⟩).memory :=
  laidMetH_of_parts3 (fuel := 8) (laidMet_of_run' 8 (by kernel_rfl) (by kernel_rfl)) (by kernel_rfl) (by kernel_rfl)
end Go.Proofs.Vl
