/- DemandSteps. -/
import Derived.Test.YtacgfbdeobmiaaaDoorD23
set_option linter.all false
set_option maxRecDepth 2000
set_option maxHeartbeats 8000000
namespace Go.Proofs.Vl
open Go Go.RowKit
attribute [local irreducible] AWp OpTo Run DL Val UN DR AC Le thn inb nog
attribute [local irreducible] els nxO
theorem pvW_ok (l : List Nat) : ∀ cs ∈ l.map pvW, ∀ x ∈ cs, pvOk false x = true := by
  intro cs hcs x hx
  obtain ⟨a, _, rfl⟩ := List.mem_map.1 hcs
  simp only [pvI, List.mem_singleton] at hx
  subst hx
  rfl
theorem dsteps_ac (sp : List Sp) (x y z : Int) (hl : sp.length ≤ maxLen) : AC Tryd.prog GL 8 [fro spP sp, .pag (intsP [x, y, z])] [] (fun r _ => r = vb true) := by
  refine AC.bodyM Tryd.func8 Tryd.ntmps8 rfl ?_
  intro cx hd hG hrd hml hbs
  obtain ⟨w0, fz0, β0, df, G0, rd, rr, ml, bs⟩ := cx
  dsimp only at hd hG hrd hml hbs
  subst hd hG hrd hml hbs
  refine nrmL (k := ?_)
  repeat refine w1 (k := ?_)
  refine callN (hc := by exact awake_ac) (h := ?_)
  repeat refine w1 (k := ?_)
  repeat refine w1 (k := ?_)
  refine OpTo.callO (by rfl) (by rfl) (by rfl) (by rfl) (set_ac _ sp 6 x hl (by decide) (by decide)) ?_
  rintro r os' ⟨rfl, hf⟩
  refine ⟨_, .row rfl hf (tkP_ok _ _) (by decide) rfl, ?_⟩
  have s1 := set_b sp 6 x hl (by decide)
  have s2 := set_nm2 sp 6 x
  have s4 := set_sml sp 6 x hl (by decide)
  generalize setL sp 6 x = s at s1 s2 s4 ⊢
  have s3 : s.length ≤ maxLen := by rw [maxLen]; omega
  refine nrm (k := ?_)
  repeat refine w1 (k := ?_)
  first | refine zA 19 (h := ?_) | refine zO 19 (h := ?_) | refine zL 19 (h := ?_) | refine zL3 19 (h := ?_)
  refine nrm (k := ?_)
  repeat refine w1 (k := ?_)
  have gx := emod_b x ((s.length : Int) + 2) (by omega)
  refine callN (hc := by exact rest13_ac _ _ _ (by omega) (by omega)) (h := ?_)
  repeat refine w1 (k := ?_)
  repeat refine w1 (k := ?_)
  generalize x % ((s.length : Int) + 2) - 1 = i
  refine callN (hc := by exact rest13_ac _ _ _ (by omega) (by omega)) (h := ?_)
  repeat refine w1 (k := ?_)
  have gy := emod_b y 81 (by omega)
  obtain ⟨most, em⟩ := Int.eq_ofNat_of_zero_le gy.1
  rw [em]
  repeat refine w1 (k := ?_)
  have hm80 : most < 1000 := by omega
  have h6 : s.length ≤ 6 := by omega
  refine callRowN (hc := by exact rsteps_ac _ s i most hm80 s2 s3 ) (hso := by exact  pvW_ok _) (h := ?_)
  repeat refine w1 (k := ?_)
  first | refine zA 34 (h := ?_) | refine zO 34 (h := ?_) | refine zL 34 (h := ?_) | refine zL3 34 (h := ?_)
  refine nrm (k := ?_)
  repeat refine w1 (k := ?_)
  have hit := steps_it s i most hm80 s4 h6 s2
  have hL := stpF_len s i (most + 1)
  refine callAN (hc := by exact steps_ac _ s i most) (h := ?_)
  refine nrm (k := ?_)
  repeat refine w1 (k := ?_)
  generalize stpF s i (most + 1) = L at *
  first | refine ofN (hv := by exact Val.fnNil rfl rfl Tryd.underlying46) (h := ?_) | refine dlN (hv := by exact Val.fnNil rfl rfl Tryd.underlying46) (h := ?_) | refine dlgN (hv := by exact Val.fnNil rfl rfl Tryd.underlying46) (h := ?_) | refine ofN (hv := by exact Val.fnNil rfl rfl Tryd.underlying46) (h := ?_)
  repeat refine w1 (k := ?_)
  refine AWp.rangeF (α := Nat) (fun n => [(3, .pcells 42 (intsP [x, y, z])), (4, .pcells 4 [.s (.bool false)]), (9, .pcells 43 [.fro (L.map pvW)]), (11, .pcells 3 [.s (.int .i64 (n : Int))])]) (fun i n => n = i) 0 0 [] (by first | rfl | assumption) (by first | rfl | assumption) (by first | rfl | assumption) rfl rfl rfl rfl (hit) (by simp [yW, YV.len]) (by decide) (.inl (by simp [yW])) (.inl rfl) (fun _ => rfl) (by rfl) (by intro k o; (try dsimp only []); repeat (first | exact id | exact find_none | refine find_keep ?_ | refine find_skip rfl ?_)) ?_ ?_
  ·
    intro cx' sv i' y' n hG' hd' hy hI
    obtain ⟨hi', rfl⟩ := yW_get hy
    obtain rfl := hI
    refine rst0 (k := ?_)
    repeat refine w1 (k := ?_)
    refine ⟨rfl, rfl, fun cx'' hG2 hd2 => ?_⟩
    repeat refine w1 (k := ?_)
    simp only [bne_self_eq_false]
    repeat refine w1 (k := ?_)
    exact ⟨n + 1, rfl, (by intro k o; (try dsimp only []); repeat (first | exact id | exact find_none | refine find_keep ?_ | refine find_skip rfl ?_)), rfl⟩
  ·
    rintro n rfl
    rw [yW_len]
    refine rend (k := ?_)
    repeat refine w1 (k := ?_)
    have gz := emod_b z 20 (by omega)
    refine callN (hc := by exact rest13_ac _ _ _ (by omega) (by omega)) (h := ?_)
    repeat refine w1 (k := ?_)
    obtain ⟨kn, hk⟩ := Int.eq_ofNat_of_zero_le gz.1
    rw [hk]
    repeat refine w1 (k := ?_)
    refine cutIN [] (α := Nat) (fun g => []) (fun g => [(3, .pcells 42 (intsP [x, y, z])), (4, .pcells 4 [.s (.bool false)]), (9, .pcells 43 [.fro (L.map pvW)]), (11, .pcells 3 [.s (.int .i64 (L.length : Int))]), (13, .pcells 3 [.s (.int .i64 (kn : Int))]), (14, .pcells 3 [.s (.int .i64 (g : Int))])]) (fun g => g = min kn L.length) ?_ (fun g hI => ?_)
    ·
      refine AWp.rangeF (α := Nat) (fun n => [(3, .pcells 42 (intsP [x, y, z])), (4, .pcells 4 [.s (.bool false)]), (9, .pcells 43 [.fro (L.map pvW)]), (11, .pcells 3 [.s (.int .i64 (L.length : Int))]), (13, .pcells 3 [.s (.int .i64 (kn : Int))]), (14, .pcells 3 [.s (.int .i64 (n : Int))])]) (fun i n => n = i ∧ i ≤ kn) 0 0 [] (by first | rfl | assumption) (by first | rfl | assumption) (by first | rfl | assumption) rfl rfl rfl rfl (hit) (by simp [yW, YV.len]) (by decide) (.inl (by simp [yW])) (.inl rfl) (fun _ => rfl) (by exact ⟨rfl, by omega⟩) (by intro k o; (try dsimp only []); repeat (first | exact id | exact find_none | refine find_keep ?_ | refine find_skip rfl ?_)) ?_ ?_
      ·
        intro cx' sv i' y' n hG' hd' hy hI
        obtain ⟨hi', rfl⟩ := yW_get hy
        obtain ⟨rfl, hI2⟩ := hI
        refine rst0 (k := ?_)
        repeat refine w1 (k := ?_)
        refine ⟨rfl, rfl, fun cx'' hG2 hd2 => ?_⟩
        repeat refine w1 (k := ?_)
        refine condN (h1 := fun h => ?_) (h0 := fun h => ?_)
        ·
          repeat refine w1 (k := ?_)
          refine ⟨?_, rfl, rfl⟩
          refine rend (k := ?_)
          repeat refine w1 (k := ?_)
          refine ⟨n, by omega, frg⟩
        ·
          repeat refine w1 (k := ?_)
          exact ⟨n + 1, ⟨rfl, by omega⟩, (by intro k o; (try dsimp only []); repeat (first | exact id | exact find_none | refine find_keep ?_ | refine find_skip rfl ?_)), rfl⟩
      ·
        rintro n ⟨rfl, hk2⟩
        rw [yW_len] at hk2 ⊢
        refine rend (k := ?_)
        repeat refine w1 (k := ?_)
        refine ⟨L.length, by omega, frg⟩
    ·
      refine nrmL (k := ?_)
      repeat refine w1 (k := ?_)
      simp only [List.length_map, beq_self_eq_true]
      repeat refine w1 (k := ?_)
      rw [show ((g : Int) == if (L.length : Int) < (kn : Int) then (L.length : Int) else (kn : Int)) = true by subst hI; rw [beq_iff_eq]; split <;> omega]
      exact ⟨rfl, [.c _], .cons (.ld1 rfl rfl rfl rfl) .nil, rfl⟩
theorem dsteps_top (sp : List Sp) (q : List Int) (hl : sp.length ≤ maxLen) (hq : q.length = 3) : AC Tryd.prog GL 8 [fro spP sp, .pag (intsP q)] [] (fun r _ => r = vb true) := by
  match q, hq with
  | [x, y, z], _ => exact dsteps_ac sp x y z hl
