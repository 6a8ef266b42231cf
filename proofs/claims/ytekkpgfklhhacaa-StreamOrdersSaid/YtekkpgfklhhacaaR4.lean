/- Raw numbers, few of them. -/
import Derived.Test.YtekkpgfklhhacaaR3
import Derived.Test.YtekkpgfklhhacaaE5
import Derived.Test.YtekkpgfklhhacaaT2
set_option linter.all false
set_option maxRecDepth 2000
set_option maxHeartbeats 8000000
namespace Go.Proofs.Vl
open Go Go.RowKit
attribute [local irreducible] AWp OpTo Run DL Val UN DR AC Le thn inb nog
structure Raw where
  t : Int
  g : Int
  l : Int
  w : Int
  c : List Int
def rawP (r : Raw) : List PV := [.s (.int .i64 r.t), .s (.int .i64 r.g), .s (.int .i64 r.l), .s (.int .i64 r.w), .fro (r.c.map (pvI .i64))]
structure RawOk (x : Raw) : Prop where
  c : x.c.length ≤ maxLen
theorem opRaw : Opens Try.prog 83 rawP RawOk :=
  Opens.iso (Opens.struct (l := [(3, 1), (3, 1), (3, 1), (3, 1), (40, 1)]) Try.underlying83 (by kernel_rfl) (by kernel_rfl)
    (OpensFs.cons opInt (OpensFs.cons opInt (OpensFs.cons opInt (OpensFs.cons opInt (OpensFs.cons (Opens.slice (sz := 1) Try.underlying40 (by kernel_rfl) (fun _ => rfl) (by decide) (Opens.int Try.underlying3)) OpensFs.nil))))))
    (fun p => ⟨p.1, p.2.1, p.2.2.1, p.2.2.2.1, p.2.2.2.2.1⟩) (fun a _ => rfl) (fun a h => ⟨h.2.2.2.2.1.1⟩)
def fR (r : Raw) : Raw := { r with g := r.g % 12, c := r.c.take 5 }
theorem rest8_ac (G) (a b : Int) (hb : 0 < b) (hb2 : b < 4611686018427387904) : AC Try.prog G 36 [vi a, vi b] [] (fun r _ => r = vi (a % b)) := by
  refine AC.body' Try.func36 Try.ntmps36 rfl ?_
  intro cx hd hG
  refine nrmL (k := ?_)
  repeat refine w1 (k := ?_)
  first | refine ofN (hv := by exact Val.rem rfl rfl rfl rfl (by omega)) (h := ?_) | refine dlN (hv := by exact Val.rem rfl rfl rfl rfl (by omega)) (h := ?_) | refine dlgN (hv := by exact Val.rem rfl rfl rfl rfl (by omega)) (h := ?_) | refine ofN (hv := by exact Val.rem rfl rfl rfl rfl (by omega)) (h := ?_)
  repeat refine w1 (k := ?_)
  first | refine ofN (hv := by exact Val.rem rfl rfl rfl rfl (by omega)) (h := ?_) | refine dlN (hv := by exact Val.rem rfl rfl rfl rfl (by omega)) (h := ?_) | refine dlgN (hv := by exact Val.rem rfl rfl rfl rfl (by omega)) (h := ?_) | refine ofN (hv := by exact Val.rem rfl rfl rfl rfl (by omega)) (h := ?_)
  repeat refine w1 (k := ?_)
  refine ⟨[.c _], .cons (.tmp rfl) .nil, ?_⟩
  rw [rest_w a b hb hb2]
  rfl
theorem rawP_ok {m : Bool} (h : m = true) (l : List Raw) : ∀ cs ∈ l.map rawP, ∀ x ∈ cs, pvOk m x = true := by
  subst h; intro cs _ x _; rfl
theorem fewR_ac (G) (raw : List Raw) (hl : raw.length ≤ maxLen) (hc : ∀ r ∈ raw, r.c.length ≤ maxLen) : AC Try.prog G 20 [fro rawP raw, vi 12] [] (fun r os => r = .c (.own 55 5 ((raw.take 12).map fR).length) ∧ find os 55 = some (.row 83 5 (((raw.take 12).map fR).map rawP))) := by
  refine AC.body' Try.func20 Try.ntmps20 rfl ?_
  intro cx hd hG
  refine nrmL (k := ?_)
  repeat refine w1 (k := ?_)
  obtain ⟨w0, fz0, β0, df, G0⟩ := cx
  obtain rfl : G0 = G := hG
  obtain ⟨m, hm⟩ : ∃ m, m = (raw.take 12).map fR := ⟨_, rfl⟩
  have hml : m.length = min 12 raw.length := by rw [hm, List.length_map, List.length_take]
  rw [← hm]
  refine seedA 5 55 5 83 (h := ?_)
  refine loopN [(7, 32)] (α := Nat) (fun i => [(5, .c (.own 55 5 (m.take i).length)), (6, vi (i : Int))]) (fun i => [(55, .row 83 5 ((m.take i).map rawP))]) (fun i => 12 - i) (fun i => i ≤ m.length) (x0 := 0) (h0 := by first | omega | simp | (refine ⟨?_, ?_⟩ <;> first | omega | simp)) (hr := ?_)
  intro i hI
  refine nrmL (k := ?_)
  repeat refine w1 (k := ?_)
  first | refine bothTN (h1 := fun h => ?_) (h0 := fun h => ?_) | refine bothFN (h1 := fun h => ?_) (h0 := fun h => ?_)
  all_goals repeat refine w1 (k := ?_)
  ·
    refine condN (h1 := fun h2 => ?_) (h0 := fun h2 => ?_)
    ·
      have hi : i < raw.length := by omega
      have him : i < m.length := by omega
      have eg : m[i] = fR raw[i] := by subst hm; simp
      have hcl := hc _ (List.getElem_mem hi)
      repeat refine w1 (k := ?_)
      refine callN (hc := by exact rest8_ac _ _ 12 (by decide) (by decide)) (h := ?_)
      repeat refine w1 (k := ?_)
      refine cutNN [(31, 4)] (α := Unit) (fun u => []) (fun u => [(55, .row 83 5 ((m.take i).map rawP)), (7, .pcells 83 (rawP m[i]))]) (fun u => True) ?_ (fun u hI => ?_)
      ·
        refine condN (h1 := fun h3 => ?_) (h0 := fun h3 => ?_)
        ·
          have h4 : 5 < raw[i].c.length := by omega
          repeat refine w1 (k := ?_)
          first | refine ofN (hv := by exact Val.cutN (f := pvI .i64) (l := raw[i].c) (a := 0) (b := 5) rfl rfl rfl Bnd.no (Bnd.at (v := 5) (k := .i64) rfl rfl (by decide)) (by decide) (by omega) (fun _ => rfl)) (h := ?_) | refine dlN (hv := by exact Val.cutN (f := pvI .i64) (l := raw[i].c) (a := 0) (b := 5) rfl rfl rfl Bnd.no (Bnd.at (v := 5) (k := .i64) rfl rfl (by decide)) (by decide) (by omega) (fun _ => rfl)) (h := ?_) | refine dlgN (hv := by exact Val.cutN (f := pvI .i64) (l := raw[i].c) (a := 0) (b := 5) rfl rfl rfl Bnd.no (Bnd.at (v := 5) (k := .i64) rfl rfl (by decide)) (by decide) (by omega) (fun _ => rfl)) (h := ?_) | refine ofN (hv := by exact Val.cutN (f := pvI .i64) (l := raw[i].c) (a := 0) (b := 5) rfl rfl rfl Bnd.no (Bnd.at (v := 5) (k := .i64) rfl rfl (by decide)) (by decide) (by omega) (fun _ => rfl)) (h := ?_)
          repeat refine w1 (k := ?_)
          rw [eg]
          refine ⟨(), by first | rfl | omega | trivial | (refine ⟨?_, ?_⟩ <;> first | rfl | omega), frg⟩
        ·
          have h4 : raw[i].c.length ≤ 5 := by omega
          repeat refine w1 (k := ?_)
          rw [eg, show rawP (fR raw[i]) = [.s (.int .i64 raw[i].t), .s (.int .i64 (raw[i].g % 12)), .s (.int .i64 raw[i].l), .s (.int .i64 raw[i].w), .fro (raw[i].c.map (pvI .i64))] by simp only [rawP, fR, List.take_of_length_le h4]]
          refine ⟨(), by first | rfl | omega | trivial | (refine ⟨?_, ?_⟩ <;> first | rfl | omega), frg⟩
      refine nrmL (k := ?_)
      repeat refine w1 (k := ?_)
      refine litA rawP [m[i]] (h := ?_)
      repeat refine w1 (k := ?_)
      have hl2 : (m.take i).length = i := by simp; omega
      refine appA 55 56 rawP (m.take i) [m[i]] (hb := by rw [hl2]; simp; omega) (hm := by rw [hl2]; simp; omega) (h := ?_)
      repeat refine w1 (k := ?_)
      rw [show m.take i ++ [m[i]] = m.take (i + 1) by rw [List.take_succ_eq_append_getElem him]]
      refine ⟨i + 1, by omega, by first | omega | (refine ⟨?_, ?_⟩ <;> omega), frg⟩
    ·
      repeat refine w1 (k := ?_)
      have : i = m.length := by omega
      subst this
      rw [List.take_length]
      exact ⟨[.c _], .cons (.tmp rfl) .nil, rfl, rfl⟩
  ·
    repeat refine w1 (k := ?_)
    have : i = m.length := by omega
    subst this
    rw [List.take_length]
    exact ⟨[.c _], .cons (.tmp rfl) .nil, rfl, rfl⟩
