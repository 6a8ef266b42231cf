/- Orders are told to be, ranked, and their swaps counted, as the document's answer says, of every list of whole numbers: the law OrderTells answers true at every input. -/
import Derived.Test.YtkgajiddcljdjaaPAllx16
import Derived.Test.YtkgajiddcljdjaaLema
namespace Go.Proofs.Ytkgajiddcljdjaa.Pure
open Go.RowKit Go.Proofs.Ytkgajiddcljdjaa.PAll Go.Proofs.YtkgajiddcljdjaaW.PrintWords Go.Proofs.YtkgajiddcljdjaaW.PrintLast Go.Proofs.YtkgajiddcljdjaaW.PrintMore
open Go.Proofs.Ytkgajiddcljdjaa.Lema

theorem OrderTells : cadencylaw18_OrderTells.Pure := by
  intro l a hl hl2 hw ha
  have hn0 := Int.emod_nonneg a (show (23 : Int) ≠ 0 by omega)
  have hn1 := Int.emod_lt_of_pos a (show (0 : Int) < 23 by omega)
  obtain ⟨n, hn⟩ := Int.eq_ofNat_of_zero_le hn0
  have part (s : List Int) (hs : s.length ≤ 24) : ∃ q r : List Int, Ev fun k => cadencylaw18_tells.f k s = some true ∧ cadencylaw18_few.f k s = some q ∧ cadencylaw18_tells.f k q = some true ∧ cadencyref18_Made.f k n s = some r ∧ cadencylaw18_tells.f k r = some true ∧ cadencylaw18_tells.f k [] = some true ∧ cadencylaw18_awake.f k = some true := by
    obtain ⟨q, hq, he⟩ := few_f s
    obtain ⟨r, hr, hm⟩ := made_f n (by omega) s
    have hrl : r.length = n := by rw [hr.length_eq, first_len]
    exact ⟨q, r, (tells_f s (by omega)).and (he.and ((tells_f q (by omega)).and (hm.and ((tells_f r (by omega)).and ((tells_f [] (by simp)).and awake)))))⟩
  by_cases h : (l.length : Int) > 24
  · obtain ⟨q, r, he⟩ := part (l.take 24) (by rw [List.length_take]; omega)
    obtain ⟨k, h1, h2, h3, h4, h5, h6, h7⟩ := he.ex
    refine ⟨k, ?_⟩
    rw [cadencylaw18_OrderTells.f, h7]
    simp only [Option.bind_some, if_true]
    rw [if_pos h, if_pos (by omega), h1]
    simp only [Option.bind_some, if_true]
    rw [h2]
    simp only [Option.bind_some]
    rw [h3]
    simp only [Option.bind_some, if_true]
    rw [rest_f _ _ (by omega) (by omega), hn]
    simp only [Option.bind_some]
    rw [h4]
    simp only [Option.bind_some]
    rw [h5]
    simp only [Option.bind_some, if_true]
    rw [h6]
    rfl
  · obtain ⟨q, r, he⟩ := part l (by omega)
    obtain ⟨k, h1, h2, h3, h4, h5, h6, h7⟩ := he.ex
    refine ⟨k, ?_⟩
    rw [cadencylaw18_OrderTells.f, h7]
    simp only [Option.bind_some, if_true]
    rw [if_neg h, h1]
    simp only [Option.bind_some, if_true]
    rw [h2]
    simp only [Option.bind_some]
    rw [h3]
    simp only [Option.bind_some, if_true]
    rw [rest_f _ _ (by omega) (by omega), hn]
    simp only [Option.bind_some]
    rw [h4]
    simp only [Option.bind_some]
    rw [h5]
    simp only [Option.bind_some, if_true]
    rw [h6]
    rfl
end Go.Proofs.Ytkgajiddcljdjaa.Pure
