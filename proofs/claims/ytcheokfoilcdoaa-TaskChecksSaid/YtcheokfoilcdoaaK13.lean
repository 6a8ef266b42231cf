/- TaskChecks answers true. -/
import Derived.Test.YtcheokfoilcdoaaK12
import Derived.Test.YtcheokfoilcdoaaV23
set_option linter.all false
set_option maxHeartbeats 8000000
namespace Go.Proofs.Vl
open Go Go.RowKit
attribute [local irreducible] AWp OpTo Run DL Val UN DR AC Le thn inb nog
theorem set_len (l : List Sp) (most turn : Int) : (setL l most turn).length = min most.toNat (sp0 l turn).length := by simp [setL]
theorem set_nm (l : List Sp) (most turn : Int) : ∀ t ∈ setL l most turn, t.nm.size = 2 := by
  intro t h
  obtain ⟨i, hi, rfl⟩ := List.getElem_of_mem h
  simp only [setL, List.getElem_mapIdx, mkT]
  rw [bsOf_size]; rfl
theorem turn_nm {l : List Tk} (hl : ∀ t ∈ l, t.nm.size ≤ maxLen) (a b n : Int) : ∀ t ∈ turnL l a b n, t.nm.size ≤ maxLen := by
  cases l with
  | nil => intro t h; simp [turnL] at h
  | cons t0 r =>
    intro t h
    simp only [turnL] at h
    rcases List.mem_or_eq_of_mem_set h with h | rfl
    · exact hl t h
    · have h1 : ∀ (i : Nat), ((t0 :: r).getD i t0).nm.size ≤ maxLen := by
        intro i
        rw [List.getD_eq_getElem?_getD]
        cases hg : (t0 :: r)[i]? with
        | none => exact hl t0 List.mem_cons_self
        | some u => exact hl u (List.mem_of_getElem? hg)
      unfold turnT
      have h0 := hl t0 List.mem_cons_self
      repeat' split
      all_goals first | exact h1 _ | exact h0
theorem turn_len (l : List Tk) (a b n : Int) : (turnL l a b n).length = l.length := by
  cases l with
  | nil => rfl
  | cons t0 r => simp [turnL]
theorem ex_cons {α : Type} {l : List α} (h : 0 < l.length) : ∃ a r, l = a :: r := by
  cases l with
  | nil => simp at h
  | cons a r => exact ⟨a, r, rfl⟩
theorem tchecks_ac (G) (raw : List Tk) (l : List Sp) (q0 q1 q2 q3 q4 : Int) (hraw : ∀ t ∈ raw, t.nm.size ≤ maxLen) (hr : raw.length ≤ maxLen) (hl : l.length ≤ maxLen) : AC Try.prog G 5 [fro tkP raw, fro spP l, .pag [.s (.int .i64 q0), .s (.int .i64 q1), .s (.int .i64 q2), .s (.int .i64 q3), .s (.int .i64 q4)]] [] (fun r _ => r = vb true) := by
  refine AC.body' Try.func5 Try.ntmps5 rfl ?_
  intro cx hd hG
  refine nrmL (k := ?_)
  repeat refine w1 (k := ?_)
  have hm : raw.length ≤ 9223372036854775807 := hr
  refine callN (hc := by exact awake_ac _) (h := ?_)
  repeat refine w1 (k := ?_)
  refine cutNN [(11, 5)] (α := List Tk) (fun rw => [(0, fro tkP rw)]) (fun rw => [(5, .pcells 35 [.s (.int .i64 q0), .s (.int .i64 q1), .s (.int .i64 q2), .s (.int .i64 q3), .s (.int .i64 q4)])]) (fun rw => (∀ t ∈ rw, t.nm.size ≤ maxLen) ∧ rw.length ≤ maxLen) ?_ (fun rw hI => ?_)
  ·
    refine condN (h1 := fun h => ?_) (h0 := fun h => ?_)
    ·
      repeat refine w1 (k := ?_)
      first | refine ofN (hv := by exact Val.cutN (f := tkP) (l := raw) (a := 0) (b := 6) rfl rfl rfl Bnd.no (Bnd.at (v := 6) (k := .i64) rfl rfl (by decide)) (by decide) (by omega) (fun _ => rfl)) (h := ?_) | refine dlN (hv := by exact Val.cutN (f := tkP) (l := raw) (a := 0) (b := 6) rfl rfl rfl Bnd.no (Bnd.at (v := 6) (k := .i64) rfl rfl (by decide)) (by decide) (by omega) (fun _ => rfl)) (h := ?_) | refine dlgN (hv := by exact Val.cutN (f := tkP) (l := raw) (a := 0) (b := 6) rfl rfl rfl Bnd.no (Bnd.at (v := 6) (k := .i64) rfl rfl (by decide)) (by decide) (by omega) (fun _ => rfl)) (h := ?_) | refine ofN (hv := by exact Val.cutN (f := tkP) (l := raw) (a := 0) (b := 6) rfl rfl rfl Bnd.no (Bnd.at (v := 6) (k := .i64) rfl rfl (by decide)) (by decide) (by omega) (fun _ => rfl)) (h := ?_)
      repeat refine w1 (k := ?_)
      refine ⟨(raw.take 6).drop 0, by exact ⟨fun t ht => hraw t (List.mem_of_mem_take (List.mem_of_mem_drop ht)), by simp [maxLen]; omega⟩, frg⟩
    ·
      repeat refine w1 (k := ?_)
      refine ⟨raw, by exact ⟨hraw, hr⟩, frg⟩
  refine nrmL (k := ?_)
  obtain ⟨hw1, hw2⟩ := hI
  repeat refine w1 (k := ?_)
  refine OpTo.callO (by rfl) (by rfl) (by rfl) (by rfl) (set_ac _ l 8 q0 hl (by decide) (by decide)) ?_
  rintro r os' ⟨rfl, hf⟩
  refine ⟨_, .row rfl hf (tkP_ok _ _) (by decide) rfl, ?_⟩
  obtain ⟨s, hs⟩ : ∃ s, s = setL l 8 q0 := ⟨_, rfl⟩
  have s1 : 0 < s.length ∧ s.length ≤ 8 := by
    have := set_len l 8 q0
    have := (sp0_len l q0 hl).1
    rw [hs]; omega
  have s2 : ∀ t ∈ s, t.nm.size ≤ maxLen := fun t ht => by rw [hs] at ht; rw [set_nm l 8 q0 t ht]; decide
  have s3 : s.length ≤ maxLen := Nat.le_trans s1.2 (by decide)
  rw [← hs]
  refine nrm (k := ?_)
  repeat refine w1 (k := ?_)
  first | refine zA 19 (h := ?_) | refine zO 19 (h := ?_) | refine zL 19 (h := ?_) | refine zL3 19 (h := ?_)
  obtain ⟨a0, r0, he⟩ := ex_cons s1.1
  refine OpTo.callO (by rfl) (by rfl) (by rfl) (by rfl) (turned_ac _ s a0 r0 he q1 q2 q3 s3 (by omega)) ?_
  rintro r os'' ⟨rfl, hf2⟩
  refine ⟨_, .row rfl hf2 (tkP_ok _ _) (by decide) rfl, ?_⟩
  obtain ⟨u, hu⟩ : ∃ u, u = turnL s q1 q2 q3 := ⟨_, rfl⟩
  have u1 : u.length = s.length := by rw [hu, turn_len]
  have u2 : ∀ t ∈ u, t.nm.size ≤ maxLen := by rw [hu]; exact turn_nm s2 _ _ _
  rw [← hu]
  refine nrm (k := ?_)
  repeat refine w1 (k := ?_)
  first | refine zA 27 (h := ?_) | refine zO 27 (h := ?_) | refine zL 27 (h := ?_) | refine zL3 27 (h := ?_)
  refine callN (hc := by exact checks_ac _ rw hw1 hw2) (h := ?_)
  repeat refine w1 (k := ?_)
  refine callN (hc := by exact checks_ac _ s s2 s3) (h := ?_)
  repeat refine w1 (k := ?_)
  refine callN (hc := by exact checks_ac _ u u2 (by rw [u1]; exact s3)) (h := ?_)
  repeat refine w1 (k := ?_)
  obtain ⟨a1, r1, he1⟩ := ex_cons (l := u) (by omega)
  refine OpTo.callO (by rfl) (by rfl) (by rfl) (by rfl) (turned_ac _ u a1 r1 he1 q2 q1 q4 (by rw [u1]; exact s3) (by omega)) ?_
  rintro r os3 ⟨rfl, hf3⟩
  refine ⟨_, .row rfl hf3 (tkP_ok _ _) (by decide) rfl, ?_⟩
  obtain ⟨x, hx⟩ : ∃ x, x = turnL u q2 q1 q4 := ⟨_, rfl⟩
  have x1 : x.length = s.length := by rw [hx, turn_len, u1]
  have x2 : ∀ t ∈ x, t.nm.size ≤ maxLen := by rw [hx]; exact turn_nm u2 _ _ _
  rw [← hx]
  refine nrm (k := ?_)
  repeat refine w1 (k := ?_)
  first | refine zA 49 (h := ?_) | refine zO 49 (h := ?_) | refine zL 49 (h := ?_) | refine zL3 49 (h := ?_)
  refine callN (hc := by exact checks_ac _ x x2 (by rw [x1]; exact s3)) (h := ?_)
  repeat refine w1 (k := ?_)
  refine callN (hc := by exact checks_ac _ [] (fun t h => by cases h) (by decide)) (h := ?_)
  repeat refine w1 (k := ?_)
  refine ⟨[.c _], .cons (.tmp rfl) .nil, ?_⟩
  rfl
end Go.Proofs.Vl
