/- MarksStops. -/
import Derived.Test.YtjfpddgldfaahaaDoorM8
set_option linter.all false
set_option maxHeartbeats 8000000
namespace Go.Proofs.Vl
open Go Go.RowKit
attribute [local irreducible] AWp OpTo Run DL Val UN DR AC Le thn inb nog
attribute [local irreducible] els nxO
theorem tm50 (x : Int) : ∃ k : Nat, k < 50 ∧ (IntKind.i64.wrap (x.tmod 50 + 50)).tmod 50 = (k : Int) := by
  have h1 : -50 < x.tmod 50 := Int.lt_tmod_of_pos x (by decide)
  have h2 : x.tmod 50 < 50 := Int.tmod_lt_of_pos x (by decide)
  rw [show IntKind.i64.wrap (x.tmod 50 + 50) = x.tmod 50 + 50 by rw [IntKind.wrap_i64]; omega]
  have h4 : (x.tmod 50 + 50).tmod 50 < 50 := Int.tmod_lt_of_pos _ (by decide)
  have h5 : 0 ≤ (x.tmod 50 + 50).tmod 50 := Int.tmod_nonneg _ (by omega)
  exact ⟨((x.tmod 50 + 50).tmod 50).toNat, by omega, by omega⟩
theorem pvI_ok {k : IntKind} (l : List Int) : ∀ cs ∈ l.map (pvI k), ∀ x ∈ cs, pvOk false x = true := by
  intro cs hcs x hx
  obtain ⟨a, _, rfl⟩ := List.mem_map.1 hcs
  simp only [pvI, List.mem_singleton] at hx
  subst hx
  rfl
theorem marksStops_ac (l : List Int) (m : Int) (hl : l.length ≤ maxLen) : AC Tryd.prog GL 4 [.c (.p (.fro (l.map (pvI .i64)))), vi m] [] (fun r _ => r = vb true) := by
  refine AC.bodyM Tryd.func4 Tryd.ntmps4 rfl ?_
  intro cx hd hG hrd hml hbs
  obtain ⟨w0, fz0, β0, df, G0, rd, rr, ml, bs⟩ := cx
  dsimp only at hd hG hrd hml hbs
  subst hd hG hrd hml hbs
  refine nrmL (k := ?_)
  repeat refine w1 (k := ?_)
  refine callN (hc := by exact awake_ac) (h := ?_)
  repeat refine w1 (k := ?_)
  refine callRowN (hc := by exact some_ac _ l hl ) (hso := by exact  pvI_ok _) (h := ?_)
  repeat refine w1 (k := ?_)
  first | refine zA 15 (h := ?_) | refine zO 15 (h := ?_) | refine zL 15 (h := ?_) | refine zL3 15 (h := ?_)
  have hsl := someL_len l
  refine callN (hc := by exact of_ac _ (someL l) (by omega)) (h := ?_)
  repeat refine w1 (k := ?_)
  obtain ⟨kn, hk, ek⟩ := tm50 m
  rw [ek]
  generalize ofL (someL l) = s
  refine callAN (hc := by exact all_ac _ s) (h := ?_)
  refine nrm (k := ?_)
  repeat refine w1 (k := ?_)
  first | refine ofN (hv := by exact Val.fnNil rfl rfl Tryd.underlying33) (h := ?_) | refine dlN (hv := by exact Val.fnNil rfl rfl Tryd.underlying33) (h := ?_) | refine dlgN (hv := by exact Val.fnNil rfl rfl Tryd.underlying33) (h := ?_) | refine ofN (hv := by exact Val.fnNil rfl rfl Tryd.underlying33) (h := ?_)
  repeat refine w1 (k := ?_)
  refine callN (hc := by exact first_ac s) (h := ?_)
  repeat refine w1 (k := ?_)
  refine cutIN [] (α := Nat) (fun g => []) (fun g => [(4, .pcells 4 [.s (.bool false)]), (6, .pcells 26 (setP s)), (7, .pcells 3 [.s (.int .i64 (kn : Int))]), (11, .pcells 3 [.s (.int .i64 (g : Int))])]) (fun g => g = min kn (els s).length) ?_ (fun g hI => ?_)
  ·
    refine AWp.rangeF (α := Nat) (fun n => [(4, .pcells 4 [.s (.bool false)]), (6, .pcells 26 (setP s)), (7, .pcells 3 [.s (.int .i64 (kn : Int))]), (9, .pcells 3 [.s (.int .i64 (((els s)[n]?.getD 0 : Nat) : Int))]), (10, .pcells 4 [.s (.bool (els s)[n]?.isSome)]), (11, .pcells 3 [.s (.int .i64 (n : Int))])]) (fun i n => n = i ∧ i ≤ kn) 0 0 [] (by first | rfl | assumption) (by first | rfl | assumption) (by first | rfl | assumption) rfl rfl rfl rfl (all_it s) (by simp [yN, YV.len]) (by decide) (.inl (by simp [yN])) (.inl rfl) (fun _ => rfl) (by exact ⟨rfl, by omega⟩) (by intro k o; (try dsimp only []); repeat (first | exact id | exact find_none | refine find_keep ?_ | refine find_skip rfl ?_)) ?_ ?_
    ·
      intro cx' sv i y n hG' hd' hy hI
      obtain ⟨hi, rfl⟩ := yN_get hy
      obtain ⟨rfl, hI2⟩ := hI
      have hle := els_len s
      have he : (els s)[n] < 1024 := (els_mem.1 (List.getElem_mem hi)).1
      rw [List.getElem?_eq_getElem hi]
      dsimp only [Option.getD_some, Option.isSome_some]
      refine rst0 (k := ?_)
      repeat refine w1 (k := ?_)
      refine ⟨rfl, rfl, fun cx'' hG2 hd2 => ?_⟩
      obtain ⟨w0, fz0, β0, df, G0, rd, rr, ml, bs⟩ := cx''
      dsimp only at hG2 hd2
      subst hG2 hd2
      repeat refine w1 (k := ?_)
      refine condN (h1 := fun h => ?_) (h0 := fun h => ?_)
      ·
        repeat refine w1 (k := ?_)
        refine ⟨?_, rfl, rfl⟩
        refine rend (k := ?_)
        repeat refine w1 (k := ?_)
        refine ⟨n, by omega, frg⟩
      ·
        repeat refine w1 (k := ?_)
        simp only [bne_self_eq_false, Bool.not_true, cond_false]
        repeat refine w1 (k := ?_)
        refine callN (hc := by exact next_ac s ((els s)[n] : Int) (by omega)) (h := ?_)
        repeat refine w1 (k := ?_)
        rw [show fromN ((els s)[n] : Int) = (els s)[n] + 1 by unfold fromN; omega, nxO_succ s n hi]
        repeat refine w1 (k := ?_)
        exact ⟨n + 1, ⟨rfl, by omega⟩, (by intro k o; (try dsimp only []); repeat (first | exact id | exact find_none | refine find_keep ?_ | refine find_skip rfl ?_)), rfl⟩
    ·
      rintro n ⟨rfl, hk2⟩
      rw [yN_len] at hk2 ⊢
      refine rend (k := ?_)
      repeat refine w1 (k := ?_)
      refine ⟨(els s).length, by omega, frg⟩
  ·
    have hle := els_len s
    refine nrmL (k := ?_)
    repeat refine w1 (k := ?_)
    refine callN (hc := by exact len_ac s) (h := ?_)
    repeat refine w1 (k := ?_)
    rw [show ((g : Int) == if ((els s).length : Int) < (kn : Int) then ((els s).length : Int) else (kn : Int)) = true by subst hI; rw [beq_iff_eq]; split <;> omega]
    exact ⟨rfl, [.c _], .cons (.ld1 rfl rfl rfl rfl) .nil, rfl⟩
