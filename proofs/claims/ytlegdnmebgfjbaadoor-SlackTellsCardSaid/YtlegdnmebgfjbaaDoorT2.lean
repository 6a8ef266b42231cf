/- What the readings of tasks, of plain numbers for tasks, and of rows of numbers say. -/
import Derived.Test.YtlegdnmebgfjbaaDoorT1
import Derived.Test.YtlegdnmebgfjbaaDoorVC
set_option linter.all false
set_option maxRecDepth 2000
set_option maxHeartbeats 8000000
namespace Go.Proofs.Vl
open Go Go.RowKit
attribute [local irreducible] AWp OpTo Run DL Val UN DR AC Le thn inb nog
abbrev wfI (n : Int) : Prop := (Lit.int .i64 n).wf = true
theorem wfI_b {n : Int} (h : wfI n) : -9223372036854775808 ≤ n ∧ n ≤ 9223372036854775807 := by
  have h1 : IntKind.i64.min = -9223372036854775808 := rfl
  have h2 : IntKind.i64.max = 9223372036854775807 := rfl
  simp only [wfI, Lit.wf, Bool.and_eq_true, decide_eq_true_eq] at h
  omega
structure TkOk (x : Tk) : Prop where
  nm : x.nm.size ≤ maxLen
  c : wfI x.c
  t : wfI x.t
  d : wfI x.d
  j : wfI x.j
  q : wfI x.q
  p : wfI x.p
structure SpOk (x : Sp) : Prop where
  c : wfI x.c
  d : wfI x.d
  j : wfI x.j
  q : wfI x.q
  t : wfI x.t
theorem opInt : Opens Tryd.prog 3 (pvI .i64) wfI := Opens.int Tryd.underlying3
theorem opInt64 : Opens Tryd.prog 2 (pvI .i64) wfI := Opens.int Tryd.underlying2
theorem opTk : Opens Tryd.prog 27 tkP TkOk :=
  Opens.iso (Opens.struct (l := [(9, 1), (2, 1), (2, 1), (2, 1), (2, 1), (2, 1), (3, 1)]) Tryd.underlying27 (by kernel_rfl) (by kernel_rfl)
    (OpensFs.cons (Opens.string Tryd.underlying9) (OpensFs.cons opInt64 (OpensFs.cons opInt64 (OpensFs.cons opInt64 (OpensFs.cons opInt64 (OpensFs.cons opInt64 (OpensFs.cons opInt OpensFs.nil))))))))
    (fun p => ⟨p.1, p.2.1, p.2.2.1, p.2.2.2.1, p.2.2.2.2.1, p.2.2.2.2.2.1, p.2.2.2.2.2.2.1⟩) (fun a _ => rfl) (fun a h => ⟨h.1, h.2.1, h.2.2.1, h.2.2.2.1, h.2.2.2.2.1, h.2.2.2.2.2.1, h.2.2.2.2.2.2.1⟩)
theorem opSp : Opens Tryd.prog 42 spP SpOk :=
  Opens.iso (Opens.struct (l := [(3, 1), (3, 1), (3, 1), (3, 1), (3, 1)]) Tryd.underlying42 (by kernel_rfl) (by kernel_rfl)
    (OpensFs.cons opInt (OpensFs.cons opInt (OpensFs.cons opInt (OpensFs.cons opInt (OpensFs.cons opInt OpensFs.nil))))))
    (fun p => ⟨p.1, p.2.1, p.2.2.1, p.2.2.2.1, p.2.2.2.2.1⟩) (fun a _ => rfl) (fun a h => ⟨h.1, h.2.1, h.2.2.1, h.2.2.2.1, h.2.2.2.2.1⟩)
def intsP (l : List Int) : List PV := (l.map (pvI .i64)).flatten
def IntsOk (n : Nat) (l : List Int) : Prop := l.length = n ∧ ∀ x ∈ l, wfI x
theorem opInts {T : TypeId} {n : Nat} (ht : (Tryd.prog).underlying T = some (.array n 3)) (hs : (Tryd.prog).cellsOf 3 = 1) (hc : (Tryd.prog).cellsOf T = n * 1) : Opens Tryd.prog T intsP (IntsOk n) := Opens.array ht hs hc opInt
theorem flat_ints (l : List Int) : (l.map (pvI .i64)).flatten = l.map (fun n => PV.s (.int .i64 n)) := flat_pvI l
theorem five {l : List Int} (h : l.length = 5) : ∃ a b c d e, l = [a, b, c, d, e] := by
  match l, h with
  | [a, b, c, d, e], _ => exact ⟨a, b, c, d, e, rfl⟩
theorem four_ {l : List Int} (h : l.length = 4) : ∃ a b c d, l = [a, b, c, d] := by
  match l, h with
  | [a, b, c, d], _ => exact ⟨a, b, c, d, rfl⟩
theorem three_ {l : List Int} (h : l.length = 3) : ∃ a b c, l = [a, b, c] := by
  match l, h with
  | [a, b, c], _ => exact ⟨a, b, c, rfl⟩
theorem two_ {l : List Int} (h : l.length = 2) : ∃ a b, l = [a, b] := by
  match l, h with
  | [a, b], _ => exact ⟨a, b, rfl⟩
end Go.Proofs.Vl
