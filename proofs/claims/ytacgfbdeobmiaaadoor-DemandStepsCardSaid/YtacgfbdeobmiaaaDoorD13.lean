/- DemandTells. -/
import Derived.Test.YtacgfbdeobmiaaaDoorD12
set_option linter.all false
set_option maxRecDepth 2000
set_option maxHeartbeats 8000000
namespace Go.Proofs.Vl
open Go Go.RowKit
attribute [local irreducible] AWp OpTo Run DL Val UN DR AC Le thn inb nog
attribute [local irreducible] els nxO
theorem set_len (l : List Sp) (most turn : Int) : (setL l most turn).length = min most.toNat (sp0 l turn).length := by simp [setL]
theorem set_nm (l : List Sp) (most turn : Int) : ∀ t ∈ setL l most turn, t.nm.size = 2 := by
  intro t h
  obtain ⟨i, hi, rfl⟩ := List.getElem_of_mem h
  simp only [setL, List.getElem_mapIdx, mkT]
  rw [bsOf_size]; rfl
theorem set_nm2 (l : List Sp) (most turn : Int) : ∀ t ∈ setL l most turn, t.nm.size ≤ maxLen := fun t ht => by rw [set_nm l most turn t ht]; decide
theorem set_b (l : List Sp) (most turn : Int) (hl : l.length ≤ maxLen) (hm : 1 ≤ most) : 1 ≤ (setL l most turn).length ∧ ((setL l most turn).length : Int) ≤ most := by
  have := set_len l most turn
  have := (sp0_len l turn hl).1
  omega
theorem emod_b (a b : Int) (h : 0 < b) : 0 ≤ a % b ∧ a % b < b := ⟨Int.emod_nonneg a (by omega), Int.emod_lt_of_pos a h⟩
theorem mkT_small (i : Nat) (s : Sp) (p : Int) : Small { mkT i s with p := p } := by
  have h1 := emod_b s.c 4 (by decide)
  have h2 := emod_b s.d 11 (by decide)
  have h3 := emod_b s.t 7 (by decide)
  have h4 := emod_b s.q (1 + s.c % 4) (by omega)
  have h5 := emod_b s.j (1 + s.c % 4 + s.d % 11 - (1 + s.c % 4) + 1) (by omega)
  exact ⟨by simp only [mkT]; omega, by simp only [mkT]; omega, by simp only [mkT]; omega, by simp only [mkT]; omega, by simp only [mkT]; omega⟩
theorem set_small (l : List Sp) (most turn : Int) : ∀ t ∈ setL l most turn, Small t := by
  intro t h
  obtain ⟨i, hi, rfl⟩ := List.getElem_of_mem h
  simp only [setL, List.getElem_mapIdx]
  exact mkT_small _ _ _
theorem and6 (w : Nat) (hw : w < 18446744073709551616) : bits .and .u64 (w : Int) 63 = ((w % 64 : Nat) : Int) := by
  have h := bits_and_u64_nat w 63 hw (by omega)
  have e : w &&& 63 = w % 64 := Nat.and_two_pow_sub_one_eq_mod w 6
  rw [e] at h
  exact h
theorem shr24 (n : Nat) : ((n : Int).fdiv (2 ^ min 24 IntKind.u64.bits)) = ((n / 16777216 : Nat) : Int) := by
  rw [show min 24 IntKind.u64.bits = 24 from rfl, Int.fdiv_eq_ediv_of_nonneg _ (by decide)]; rfl
abbrev arP (x : Int × Nat) : List PV := [.s (.int .i64 x.1), .s (.int .u64 (x.2 : Int))]
theorem bigL_nm {l : List Tk} (n : Int) (h : ∀ t ∈ l, t.nm.size ≤ maxLen) : ∀ t ∈ bigL l n, t.nm.size ≤ maxLen := by
  intro t ht
  obtain ⟨u, hu, rfl⟩ := List.mem_map.1 ht
  exact h u hu
theorem bigL_len (l : List Tk) (n : Int) : (bigL l n).length = l.length := by simp [bigL]
theorem dtells_ac (sp : List Sp) (raw : List Tk) (n : Int) (w : Nat) (hl : sp.length ≤ maxLen) (hr1 : raw.length ≤ maxLen) (hr2 : ∀ t ∈ raw, t.nm.size ≤ maxLen) (hw : w < 18446744073709551616) : AC Tryd.prog GL 3 [fro spP sp, fro tkP raw, .pag (arP (n, w))] [] (fun r _ => r = vb true) := by
  refine AC.body' Tryd.func3 Tryd.ntmps3 rfl ?_
  intro cx hd hG
  refine nrmL (k := ?_)
  repeat refine w1 (k := ?_)
  have hm : raw.length ≤ 9223372036854775807 := hr1
  obtain ⟨w0, fz0, β0, df, G0⟩ := cx
  obtain rfl : G0 = GL := hG
  refine callN (hc := by exact awake_ac) (h := ?_)
  repeat refine w1 (k := ?_)
  refine cutNN [(11, 5)] (α := List Tk) (fun rw => [(1, fro tkP rw)]) (fun rw => [(5, .pcells 26 (arP (n, w)))]) (fun rw => (∀ t ∈ rw, t.nm.size ≤ maxLen) ∧ rw.length ≤ maxLen) ?_ (fun rw hI => ?_)
  ·
    refine condN (h1 := fun h => ?_) (h0 := fun h => ?_)
    ·
      repeat refine w1 (k := ?_)
      first | refine ofN (hv := by exact Val.cutN (f := tkP) (l := raw) (a := 0) (b := 4) rfl rfl rfl Bnd.no (Bnd.at (v := 4) (k := .i64) rfl rfl (by decide)) (by decide) (by omega) (fun _ => rfl)) (h := ?_) | refine dlN (hv := by exact Val.cutN (f := tkP) (l := raw) (a := 0) (b := 4) rfl rfl rfl Bnd.no (Bnd.at (v := 4) (k := .i64) rfl rfl (by decide)) (by decide) (by omega) (fun _ => rfl)) (h := ?_) | refine dlgN (hv := by exact Val.cutN (f := tkP) (l := raw) (a := 0) (b := 4) rfl rfl rfl Bnd.no (Bnd.at (v := 4) (k := .i64) rfl rfl (by decide)) (by decide) (by omega) (fun _ => rfl)) (h := ?_) | refine ofN (hv := by exact Val.cutN (f := tkP) (l := raw) (a := 0) (b := 4) rfl rfl rfl Bnd.no (Bnd.at (v := 4) (k := .i64) rfl rfl (by decide)) (by decide) (by omega) (fun _ => rfl)) (h := ?_)
      repeat refine w1 (k := ?_)
      refine ⟨(raw.take 4).drop 0, by exact ⟨fun t ht => hr2 t (List.mem_of_mem_take (List.mem_of_mem_drop ht)), by simp [maxLen]; omega⟩, frg⟩
    ·
      repeat refine w1 (k := ?_)
      refine ⟨raw, by exact ⟨hr2, hr1⟩, frg⟩
  refine nrmL (k := ?_)
  obtain ⟨hw1, hw2⟩ := hI
  repeat refine w1 (k := ?_)
  refine OpTo.callO (by rfl) (by rfl) (by rfl) (by rfl) (set_ac _ sp 6 n hl (by decide) (by decide)) ?_
  rintro r os' ⟨rfl, hf⟩
  refine ⟨_, .row rfl hf (tkP_ok _ _) (by decide) rfl, ?_⟩
  have s1 := set_b sp 6 n hl (by decide)
  have s2 := set_nm2 sp 6 n
  have s4 := set_small sp 6 n
  generalize setL sp 6 n = s at s1 s2 s4 ⊢
  have s3 : s.length ≤ maxLen := by rw [maxLen]; omega
  refine nrm (k := ?_)
  repeat refine w1 (k := ?_)
  first | refine zA 19 (h := ?_) | refine zO 19 (h := ?_) | refine zL 19 (h := ?_) | refine zL3 19 (h := ?_)
  refine nrm (k := ?_)
  repeat refine w1 (k := ?_)
  have g := emod_b n ((s.length : Int) + 2) (by omega)
  have b1 := bigL_nm n s2
  have b2 := bigL_len s n
  have w6 : w % 64 < 18446744073709551616 := by omega
  refine callN (hc := by exact rest13_ac _ _ _ (by omega) (by omega)) (h := ?_)
  repeat refine w1 (k := ?_)
  refine callN (hc := by exact tells_ac s _ w hw s2 s3) (h := ?_)
  repeat refine w1 (k := ?_)
  rw [and6 w hw]
  refine callN (hc := by exact tells_ac s _ (w % 64) w6 s2 s3) (h := ?_)
  repeat refine w1 (k := ?_)
  refine callRowN (hc := by exact great_ac _ s n s4 (by omega) ) (hso := by exact  tkP_ok _ _) (h := ?_)
  repeat refine w1 (k := ?_)
  first | refine zA 47 (h := ?_) | refine zO 47 (h := ?_) | refine zL 47 (h := ?_) | refine zL3 47 (h := ?_)
  refine nrm (k := ?_)
  refine callN (hc := by exact tells_ac (bigL s n) _ w hw b1 (by omega)) (h := ?_)
  repeat refine w1 (k := ?_)
  refine callRowN (hc := by exact great_ac _ s n s4 (by omega) ) (hso := by exact  tkP_ok _ _) (h := ?_)
  repeat refine w1 (k := ?_)
  first | refine zA 57 (h := ?_) | refine zO 57 (h := ?_) | refine zL 57 (h := ?_) | refine zL3 57 (h := ?_)
  refine nrm (k := ?_)
  repeat refine w1 (k := ?_)
  rw [shr24]
  refine callN (hc := by exact tells_ac (bigL s n) _ (w / 16777216) (by omega) b1 (by omega)) (h := ?_)
  repeat refine w1 (k := ?_)
  refine callN (hc := by exact tells_ac rw n w hw hw1 hw2) (h := ?_)
  repeat refine w1 (k := ?_)
  rw [and6 w hw]
  refine callN (hc := by exact tells_ac rw _ (w % 64) w6 hw1 hw2) (h := ?_)
  repeat refine w1 (k := ?_)
  refine callN (hc := by exact tells_ac s n w hw s2 s3) (h := ?_)
  repeat refine w1 (k := ?_)
  exact ⟨[.c _], .cons (.tmp rfl) .nil, rfl⟩
theorem opAr : Opens Tryd.prog 26 arP (fun x => x.2 < 18446744073709551616) :=
  Opens.iso (Opens.struct (l := [(3, 1), (24, 1)]) Tryd.underlying26 (by kernel_rfl) (by kernel_rfl)
    (OpensFs.cons opInt (OpensFs.cons (Opens.int Tryd.underlying24) OpensFs.nil)))
    (fun p => (p.1, p.2.1.toNat)) (fun a h => by
      have := wf64 h.2.1
      have e : ((a.2.1.toNat : Nat) : Int) = a.2.1 := by omega
      simp only [arP, e]; rfl) (fun a h => by have := wf64 h.2.1; dsimp only; omega)
