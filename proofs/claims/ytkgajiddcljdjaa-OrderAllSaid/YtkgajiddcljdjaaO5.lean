/- Chapter 18: tasks made urgent by an order. -/
import Derived.Test.YtkgajiddcljdjaaO4
set_option linter.all false
set_option maxRecDepth 2000
set_option maxHeartbeats 8000000
namespace Go.Proofs.Vl
open Go Go.RowKit
attribute [local irreducible] AWp OpTo Run DL Val UN DR AC Le thn inb nog
def setPr (out : List Tk) (x v : Int) : List Tk := match out[x.toNat]? with
  | some t => out.set x.toNat { t with p := v }
  | none => out
def appG : Nat → List Tk → List Int → List Tk
  | _, out, [] => out
  | k, out, x :: xs => appG (k + 1) (setPr out x (k + 1)) xs
def appL (l : List Tk) (p : List Int) : List Tk := appG 0 l p
theorem setPr_len (out : List Tk) (x v : Int) : (setPr out x v).length = out.length := by
  unfold setPr; split <;> simp
theorem appG_len : ∀ (xs : List Int) (k : Nat) (out : List Tk), (appG k out xs).length = out.length
  | [], _, _ => rfl
  | x :: xs, k, out => by rw [appG, appG_len xs, setPr_len]
theorem apply_ac (G) (l : List Tk) (p : List Int) (hl : l.length ≤ 1000) (hpl : p.length = l.length) (hv : vB p = true) (hp : ∀ x ∈ p, 0 ≤ x ∧ x < (l.length : Int)) : AC Try.prog G 23 [fro tkP l, fro (pvI .i64) p] [] (fun r os => r = .tup [.c (.own 20 7 (appL l p).length), .c (.p (.s (.int .i64 0)))] ∧ find os 20 = some (.row 66 7 ((appL l p).map tkP))) := by
  refine AC.body' Try.func23 Try.ntmps23 rfl ?_
  intro cx hd hG
  refine nrmL (k := ?_)
  repeat refine w1 (k := ?_)
  obtain ⟨w0, fz0, β0, df, G0⟩ := cx
  obtain rfl : G0 = G := hG
  simp only [List.length_map, hpl, bne_self_eq_false]
  repeat refine w1 (k := ?_)
  refine callN (hc := by exact valid_ac _ p (by omega)) (h := ?_)
  repeat refine w1 (k := ?_)
  rw [hv]
  repeat refine w1 (k := ?_)
  refine callRowN (hc := by exact clone_ac _ l hl ) (hso := by exact  tkP_ok _ _) (h := ?_)
  refine nrm (k := ?_)
  repeat refine w1 (k := ?_)
  refine loopN [(7, 2), (24, 11)] (α := Nat × List Tk) (fun y => [(6, .c (.own 20 7 l.length)), (23, vi (y.1 : Int))]) (fun y => [(20, .row 66 7 (y.2.map tkP))]) (fun y => p.length - y.1) (fun y => y.1 ≤ p.length ∧ y.2.length = l.length ∧ appG y.1 y.2 (p.drop y.1) = appL l p) (x0 := (0, l)) (h0 := by exact ⟨Nat.zero_le _, rfl, rfl⟩) (hr := ?_)
  intro y hI
  refine nrmL (k := ?_)
  obtain ⟨i, out⟩ := y
  obtain ⟨h1, h2, h3⟩ := hI
  dsimp only at h1 h2 h3
  repeat refine w1 (k := ?_)
  refine condN (h1 := fun h => ?_) (h0 := fun h => ?_)
  ·
    have hi : i < p.length := by omega
    rw [List.drop_eq_getElem_cons hi, appG] at h3
    have hx := hp _ (List.getElem_mem hi)
    obtain ⟨k, hk⟩ := Int.eq_ofNat_of_zero_le hx.1
    have hkl : k < out.length := by omega
    rw [hk, setPr, Int.toNat_natCast, List.getElem?_eq_getElem hkl] at h3
    repeat refine w1 (k := ?_)
    simp only [hk]
    repeat refine w1 (k := ?_)
    refine OpTo.stRN (sz := 7) (j := k) (c := 6) (f := tkP) (l := out) { out[k] with p := (i : Int) + 1 } rfl rfl rfl hkl rfl rfl (by kernel_rfl) (Nat.le_of_ble_eq_true rfl) rfl ?_
    refine nrm (k := ?_)
    repeat refine w1 (k := ?_)
    refine ⟨(i + 1, out.set k { out[k] with p := (i : Int) + 1 }), by omega, by exact ⟨by dsimp only; omega, by simp [h2], h3⟩, frg⟩
  ·
    repeat refine w1 (k := ?_)
    have : i = p.length := by omega
    subst this
    rw [List.drop_length, appG] at h3
    rw [← h3, h2]
    exact ⟨[.c _, .c _], .cons (.tmp rfl) (.cons (.tmp rfl) .nil), rfl, rfl⟩
theorem apply_len_ac (G) (l : List Tk) (p : List Int) (hl : l.length ≤ 1000) (hpl : p.length ≠ l.length) (hp : p.length ≤ 1000) : AC Try.prog G 23 [fro tkP l, fro (pvI .i64) p] [] (fun r _ => r = .tup [.c (.p (.s (.slice none 0 0))), .c (.p (.s (.int .i64 1)))]) := by
  refine AC.body' Try.func23 Try.ntmps23 rfl ?_
  intro cx hd hG
  refine nrmL (k := ?_)
  repeat refine w1 (k := ?_)
  obtain ⟨w0, fz0, β0, df, G0⟩ := cx
  obtain rfl : G0 = G := hG
  simp only [List.length_map]
  exact ⟨[.c _, .c _], .cons (.tmp rfl) (.cons (.tmp rfl) .nil), rfl⟩
theorem apply_no_ac (G) (l : List Tk) (p : List Int) (hl : l.length ≤ 1000) (hpl : p.length = l.length) (hv : vB p = false) : AC Try.prog G 23 [fro tkP l, fro (pvI .i64) p] [] (fun r _ => r = .tup [.c (.p (.s (.slice none 0 0))), .c (.p (.s (.int .i64 1)))]) := by
  refine AC.body' Try.func23 Try.ntmps23 rfl ?_
  intro cx hd hG
  refine nrmL (k := ?_)
  repeat refine w1 (k := ?_)
  obtain ⟨w0, fz0, β0, df, G0⟩ := cx
  obtain rfl : G0 = G := hG
  simp only [List.length_map, hpl, bne_self_eq_false]
  repeat refine w1 (k := ?_)
  refine callN (hc := by exact valid_ac _ p (by omega)) (h := ?_)
  repeat refine w1 (k := ?_)
  rw [hv]
  repeat refine w1 (k := ?_)
  exact ⟨[.c _, .c _], .cons (.tmp rfl) (.cons (.tmp rfl) .nil), rfl⟩
theorem applyR_ac (G) (l : List Tk) (p : List Int) (hl : l.length ≤ 1000) (hpl : p.length = l.length) (hp : ∀ x ∈ p, 0 ≤ x ∧ x < (l.length : Int)) : AC Try.prog G 25 [fro tkP l, fro (pvI .i64) p] [] (fun r os => r = .c (.own 7 7 (appL l p).length) ∧ find os 7 = some (.row 66 7 ((appL l p).map tkP))) := by
  refine AC.body' Try.func25 Try.ntmps25 rfl ?_
  intro cx hd hG
  refine nrmL (k := ?_)
  repeat refine w1 (k := ?_)
  obtain ⟨w0, fz0, β0, df, G0⟩ := cx
  obtain rfl : G0 = G := hG
  refine litA tkP [] (h := ?_)
  repeat refine w1 (k := ?_)
  refine appA 7 64 tkP [] l (h := ?_)
  repeat refine w1 (k := ?_)
  refine loopN [(10, 15)] (α := Nat × List Tk) (fun y => [(5, .c (.own 7 7 l.length)), (6, vi (y.1 : Int))]) (fun y => [(7, .row 66 7 (y.2.map tkP))]) (fun y => p.length - y.1) (fun y => y.1 ≤ p.length ∧ y.2.length = l.length ∧ appG y.1 y.2 (p.drop y.1) = appL l p) (x0 := (0, l)) (h0 := by exact ⟨Nat.zero_le _, rfl, rfl⟩) (hr := ?_)
  intro y hI
  refine nrmL (k := ?_)
  obtain ⟨i, out⟩ := y
  obtain ⟨h1, h2, h3⟩ := hI
  dsimp only at h1 h2 h3
  repeat refine w1 (k := ?_)
  refine condN (h1 := fun h => ?_) (h0 := fun h => ?_)
  ·
    have hi : i < p.length := by omega
    rw [List.drop_eq_getElem_cons hi, appG] at h3
    have hx := hp _ (List.getElem_mem hi)
    obtain ⟨k, hk⟩ := Int.eq_ofNat_of_zero_le hx.1
    have hkl : k < out.length := by omega
    rw [hk, setPr, Int.toNat_natCast, List.getElem?_eq_getElem hkl] at h3
    repeat refine w1 (k := ?_)
    simp only [hk]
    repeat refine w1 (k := ?_)
    refine OpTo.stRN (sz := 7) (j := k) (c := 6) (f := tkP) (l := out) { out[k] with p := (i : Int) + 1 } rfl rfl rfl hkl rfl rfl (by kernel_rfl) (Nat.le_of_ble_eq_true rfl) rfl ?_
    refine nrm (k := ?_)
    repeat refine w1 (k := ?_)
    refine ⟨(i + 1, out.set k { out[k] with p := (i : Int) + 1 }), by omega, by exact ⟨by dsimp only; omega, by simp [h2], h3⟩, frg⟩
  ·
    repeat refine w1 (k := ?_)
    have : i = p.length := by omega
    subst this
    rw [List.drop_length, appG] at h3
    rw [← h3, h2]
    exact ⟨[.c _], .cons (.tmp rfl) .nil, rfl, rfl⟩
