/- Groundwork for rounds: an operation walked as everywhere is walked so in a round's frame. -/
import Derived.OrdersHeld
import Derived.CallsIn
import Derived.OrdersIn
import Derived.Sort.LoopGhostIn
import Derived.Scope
set_option linter.all false
namespace Go.Proofs.Vl
open Go
/-- The wide fence, in a round or not. -/
def fwr (r : Option Nat) : Fence := { Fence.wide with round := r }
section
variable {P : Program} {r : Option Nat} {n : Nat}
theorem fwr_none : fwr none = Fence.wide := rfl
theorem callsIn_fwr {f : FuncId} {args : Array Value} {w : World} {R : Ending → World → Prop} (h : Calls P f args w R) : CallsIn (fwr r) n P f args w R := (callsIn_wide (n := n)).2 h
theorem wpIn_of_value {o : Oper} {a : Act} {w w' : World} {v : Value} {next : Act → World → Prop} {Q : Exit → Act → World → Prop} (hnd : ∀ c, o.op ≠ .defer c) (h : (execOp a.eval o).run P w = .ok (.value v) w') (hn : next (a.put o.dst v) w') : o.wpIn (fwr r) n P a w next Q :=
  ⟨fun _ _ => trivial, by rw [Oper.semAt_eq _ _ _ hnd, h]; exact hn⟩
theorem wpIn_of_skip {o : Oper} {a : Act} {w w' : World} {next : Act → World → Prop} {Q : Exit → Act → World → Prop} (hnd : ∀ c, o.op ≠ .defer c) (h : (execOp a.eval o).run P w = .ok .skip w') (hn : next (a.put o.dst undef) w') : o.wpIn (fwr r) n P a w next Q :=
  ⟨fun _ _ => trivial, by rw [Oper.semAt_eq _ _ _ hnd, h]; exact hn⟩
theorem wpIn_of_enter {o : Oper} {a : Act} {w w' : World} {f : FuncId} {args : Array Value} {next : Act → World → Prop} {Q : Exit → Act → World → Prop} (hnd : ∀ c, o.op ≠ .defer c) (h : (execOp a.eval o).run P w = .ok (.enter f args) w')
    (hc : Calls P f args w' fun | .returned v, w'' => next (a.put o.dst v) w'' | .panicked chain, w'' => Q (.panic chain) a w'' | .outgrown, _ => LetsOut Q) : o.wpIn (fwr r) n P a w next Q :=
  ⟨fun _ _ => trivial, by rw [Oper.semAt_eq _ _ _ hnd, h]; exact ⟨fun h => (by cases h), callsIn_fwr hc⟩⟩
section
variable {b : Frame} {a : Act} {k : List Item} {cs : List Frame} {w : World}
theorem stepR_scope {c : Code} : step P (lone (b.atR a (.code (.scope c) :: k)) cs w) = .next (lone (b.atR a (.code c :: .inScope c :: k)) cs w) :=
  step_lone_go (by simp [stepG, stepG.exec, Frame.atR])
theorem stepR_inScope {c : Code} : step P (lone (b.atR a (.inScope c :: k)) cs w) = .next (lone (b.atR a k) cs w) :=
  step_lone_go (by simp [stepG, stepG.exec, Frame.atR])
end
/-- A scope without a jump, in a round or not. -/
theorem wpIn_scope {F : Fence} {Q : Exit → Act → World → Prop} {a : Act} {w : World} {c : Code} (h : c.wpIn F n P (Exit.noGoto Q) a w) : (Code.scope c).wpIn F n P Q a w := by
  intro b k cs hro hb hr
  have h0 : (lone (b.atR a (.code (.scope c) :: k)) cs w).fenced P F := fenced_calm hb hr rfl
  obtain ⟨e, a₁, w₁, hq, harr⟩ := h b (.inScope c :: k) cs hro hb hr
  cases e with
  | normal => exact ⟨.normal, a₁, w₁, hq, .head h0 stepR_scope (StepsIn.trans harr (.one (fenced_calm hb hr rfl) stepR_inScope))⟩
  | exit id =>
    have hx : exitTo id (.inScope c :: k) = exitTo id k := by simp [exitTo]
    exact ⟨_, a₁, w₁, hq, fun k' hk => .head h0 stepR_scope (harr.1 k' (by rw [hx]; exact hk)),
      fun hr' hk => let ⟨k₁, h1, h2⟩ := harr.2 hr' (by rw [hx]; exact hk); ⟨k₁, h1, .head h0 stepR_scope h2⟩⟩
  | goto l => exact hq.elim
  | ret => exact ⟨_, a₁, w₁, hq, .of_steps (.one h0 stepR_scope) harr⟩
  | panic ch => exact ⟨_, a₁, w₁, hq, .of_steps (.one h0 stepR_scope) harr⟩
  | outgrown => exact ⟨_, a₁, w₁, hq, .of_steps (.one h0 stepR_scope) harr⟩
theorem wpIn_wide_of {c : Code} {Q : Exit → Act → World → Prop} {a : Act} {w : World} (h : c.wpIn (fwr none) n P Q a w) : c.wp P Q a w := wpIn_wide.1 h
end

/-! ### Operations, in a round or not -/
def upv (P : Program) (o : Oper) (a : Act) (next : Act → World → Prop) (Q : Exit → Act → World → Prop) : Result Next → Prop
  | .ok (.value v) w' => next (a.put o.dst v) w'
  | .ok .skip w' => next (a.put o.dst undef) w'
  | .ok (.enter f args) w' => Calls P f args w' fun
      | .returned v, w'' => next (a.put o.dst v) w''
      | .panicked chain, w'' => Q (.panic chain) a w''
      | .outgrown, _ => LetsOut Q
  | .ok (.round l f tmps assign body) w' => RoundIn (fwr none) 0 P l f tmps assign body w' fun
      | .returned v, w'' => next (a.put o.dst v) w''
      | .panicked chain, w'' => Q (.panic chain) a w''
      | .outgrown, _ => LetsOut Q
  | .halt (.panic v) w' => Q (.panic [{ v, recovered := false }]) a w'
  | _ => False
def wpv (P : Program) (o : Oper) (a : Act) (w : World) (next : Act → World → Prop) (Q : Exit → Act → World → Prop) : Prop := upv P o a next Q ((execOp a.eval o).run P w)
section
variable {P : Program} {o : Oper} {a : Act} {next : Act → World → Prop} {Q : Exit → Act → World → Prop} {w : World}
theorem upv_enter {f : FuncId} {args : Array Value} : upv P o a next Q (.ok (.enter f args) w) = Calls P f args w fun
    | .returned v, w'' => next (a.put o.dst v) w''
    | .panicked chain, w'' => Q (.panic chain) a w''
    | .outgrown, _ => LetsOut Q := rfl
theorem upv_value {v : Value} : upv P o a next Q (.ok (.value v) w) = next (a.put o.dst v) w := rfl
theorem upv_skip : upv P o a next Q (.ok .skip w) = next (a.put o.dst undef) w := rfl
theorem upv_mono {next' : Act → World → Prop} (hn : ∀ a w, next a w → next' a w) {r : Result Next} (h : upv P o a next Q r) : upv P o a next' Q r := by
  cases r with
  | ok x w' =>
    cases x <;> simp only [upv] at h ⊢ <;> first
      | exact hn _ _ h
      | exact Calls.mono h (fun e w'' he => by cases e <;> first | exact hn _ _ he | exact he)
      | exact RoundIn.mono h (fun e w'' he => by cases e <;> first | exact hn _ _ he | exact he)
  | halt x w' => cases x <;> simp only [upv] at h ⊢ <;> exact h
theorem wpv_mono {next' : Act → World → Prop} (hn : ∀ a w, next a w → next' a w) (h : wpv P o a w next Q) : wpv P o a w next' Q := upv_mono hn h
theorem roundIn_fwr {r : Option Nat} {n l : Nat} {f : FuncId} {tmps : Array Value} {assign body : Code} {R : Ending → World → Prop} (h : RoundIn (fwr none) 0 P l f tmps assign body w R) : RoundIn (fwr r) n P l f tmps assign body w R :=
  ⟨h.1, fun c cs _ => h.2 c cs (fun d hd => by cases hd)⟩
theorem wpv_in {r : Option Nat} {n : Nat} (h : wpv P o a w next Q) : o.wpIn (fwr r) n P a w next Q := by
  refine ⟨fun _ _ => trivial, ?_⟩
  by_cases hd : ∃ c, o.op = .defer c
  · obtain ⟨c, hc⟩ := hd
    unfold wpv at h
    have e : execOp a.eval o = (do pure (.defer (← resolve a.eval c o.type))) := by unfold execOp; rw [hc]
    rw [e, Sem.run_bind] at h
    cases hr : (resolve a.eval c o.type).run P w with
    | ok d w' => rw [hr] at h; exact h.elim
    | halt x w' =>
      rw [hr] at h
      have e2 : (o.semAt (fwr r).round a.eval).run P w = .halt x w' := by
        cases r with
        | none => show (execOp a.eval o).run P w = _; rw [e, Sem.run_bind, hr]; rfl
        | some l => unfold Oper.semAt; rw [hc]; show (do Instr.deferInRound l (← resolve a.eval c o.type); pure Next.skip : Sem Next).run P w = _; rw [Sem.run_bind, hr]; rfl
      rw [e2]
      cases x <;> first | exact h | exact h.elim
  · rw [Oper.semAt_eq _ _ _ (fun c hc => hd ⟨c, hc⟩)]
    unfold wpv at h
    generalize (execOp a.eval o).run P w = rr at h
    cases rr with
    | ok x w' =>
      cases x <;> simp only [upv] at h <;> first
        | exact h.elim
        | exact h
        | exact ⟨fun h => (by cases h), callsIn_fwr h⟩
        | exact ⟨fun h => (by cases h), roundIn_fwr h⟩
    | halt x w' => cases x <;> simp only [upv] at h <;> first | exact h | exact h.elim
end
def wpOpV (P : Program) (ops : Array Oper) (Q : Exit → Act → World → Prop) (i : Nat) (K : Act → World → Prop) (a : Act) (w : World) : Prop :=
  match ops[i]? with
  | none => K a w
  | some o => if Region.wanted o (yielded ops a.tmps) then wpv P o a w K Q else K (a.put o.dst undef) w
def wpListV (P : Program) (ops : Array Oper) (Q : Exit → Act → World → Prop) : List Oper → Act → World → Prop
  | [], a, w => Q .normal a w
  | o :: rest, a, w => if Region.wanted o (yielded ops a.tmps) then wpv P o a w (wpListV P ops Q rest) Q else wpListV P ops Q rest (a.put o.dst undef) w
section
variable {P : Program} {ops : Array Oper} {Q : Exit → Act → World → Prop} {S : World → Prop} {r : Option Nat} {n : Nat}
theorem wpListV_in : ∀ (l : List Oper) (k : Nat), (∀ j, l[j]? = ops[k + j]?) → ∀ a w, wpListV P ops Q l a w → wpOpsIn (fwr r) n P ops Q (List.range' k l.length) a w
  | [], k, _, a, w, h => by simpa [wpOpsIn, wpListV] using h
  | o :: l, k, hl, a, w, h => by
    have h0 : ops[k]? = some o := by simpa using (hl 0).symm
    have ih := fun a w => wpListV_in l (k + 1) (fun j => by have := hl (j + 1); simpa [Nat.add_assoc, Nat.add_comm 1 j] using this) a w
    simp only [List.length_cons, List.range'_succ, wpOpsIn, h0]
    unfold wpListV at h
    split
    · rename_i hw; rw [if_pos hw] at h; exact wpv_in (wpv_mono ih h)
    · rename_i hw; rw [if_neg hw] at h; exact ⟨fun _ _ => trivial, ih _ _ h⟩
theorem wpIn_regionV {id : Nat} {l : List Oper} {a : Act} {w : World} (h : wpListV P l.toArray Q l a w) : (Code.region id l.toArray false).wpIn (fwr r) n P Q a w := by
  refine wpIn_region ?_
  have := wpListV_in (ops := l.toArray) (Q := Q) (r := r) (n := n) l 0 (fun j => by simp) a w h
  rw [List.range_eq_range']
  simpa using this
theorem wpListV_step {o : Oper} {rest : List Oper} {a : Act} {w : World} (h : ∀ K' : Act → World → Prop, (∀ a w, wpListV P ops Q rest a w → K' a w) → if Region.wanted o (yielded ops a.tmps) then wpv P o a w K' Q else K' (a.put o.dst undef) w) : wpListV P ops Q (o :: rest) a w := by
  unfold wpListV; exact h _ fun _ _ h => h
theorem wpListV_plain {o : Oper} {rest : List Oper} {a : Act} {w : World} (hg : o.guard = none) (h : ∀ K' : Act → World → Prop, (∀ a w, wpListV P ops Q rest a w → K' a w) → wpv P o a w K' Q) : wpListV P ops Q (o :: rest) a w := by
  unfold wpListV; rw [if_pos (by simp [Region.wanted, hg])]; exact h _ fun _ _ h => h
theorem wpOpV_mono {i : Nat} {a : Act} {w : World} {K K' : Act → World → Prop} (h : ∀ a w, K a w → K' a w) (hh : wpOpV P ops Q i K a w) : wpOpV P ops Q i K' a w := by
  unfold wpOpV at *
  split
  · exact h _ _ (by simpa [*] using hh)
  · rename_i o ho
    simp only [ho] at hh
    split
    · rename_i hw; simp only [hw, if_true] at hh; exact wpv_mono h hh
    · rename_i hw; simp only [hw] at hh; exact h _ _ hh
theorem YieldsIf.wpOpV {i : Nat} {o : Oper} {v : Value} {a : Act} (hi : ops[i]? = some o) (hy : YieldsIf P ops S o v a) {K : Act → World → Prop} {w : World} (hS : S w) (h : K (a.put o.dst v) w) : Vl.wpOpV P ops Q i K a w := by
  unfold Vl.wpOpV
  simp only [hi]
  rcases hy with ⟨hw, hv⟩ | ⟨hw, rfl⟩
  · simp only [hw, if_true, wpv, hv w hS, upv]; exact h
  · simp only [hw, Bool.false_eq_true, if_false]; exact h
theorem wpOpV_putIf {j : Nat} {oi oj : Oper} {v : Value} (hj : ops[j]? = some oj) (hap : oi.apart ops oj = true)
    (hsi : ∀ cs b, oi.op ≠ .select cs b) (hsj : ∀ cs b, oj.op ≠ .select cs b)
    (hQ : ∀ c a w, Q (.panic c) (a.put oi.dst v) w → Q (.panic c) a w) {K : Act → World → Prop} {a : Act} {w : World}
    (hy : YieldsIf P ops S oi v a) (h : wpOpV P ops Q j K (a.put oi.dst v) w) :
    wpOpV P ops Q j (fun a' w' => YieldsIf P ops S oi v a' ∧ K (a'.put oi.dst v) w') a w := by
  obtain ⟨h1, h2, h3⟩ := Oper.apart_spec hap
  have keep : ∀ (a : Act), YieldsIf P ops S oi v a → ∀ u, YieldsIf P ops S oi v (a.put oj.dst u) := fun a hy u =>
    hy.of_same (execOp_put oi hsi a oj.dst u h3) (wanted_put oi a oj.dst u h3)
  unfold wpOpV at *
  simp only [hj] at *
  rw [wanted_put oj a oi.dst v h1] at h
  split
  · rename_i hw
    simp only [hw, if_true] at h
    unfold wpv at *
    rw [execOp_put oj hsj a oi.dst v h1] at h
    generalize (execOp a.eval oj).run P w = r at *
    cases r with
    | ok n w' =>
      cases n <;> simp only [upv] at h ⊢
      case value u => exact ⟨keep a hy u, by rw [← Act.put_comm a v u h2]; exact h⟩
      case skip => exact ⟨keep a hy _, by rw [← Act.put_comm a v undef h2]; exact h⟩
      case enter f args =>
        refine Calls.mono h fun e w'' he => ?_
        cases e with
        | returned u => exact ⟨keep a hy u, by rw [← Act.put_comm a v u h2]; exact he⟩
        | panicked c => exact hQ _ _ _ he
        | outgrown => exact he
      case round l f tmps assign body =>
        refine RoundIn.mono h fun e w'' he => ?_
        cases e with
        | returned u => exact ⟨keep a hy u, by rw [← Act.put_comm a v u h2]; exact he⟩
        | panicked c => exact hQ _ _ _ he
        | outgrown => exact he
    | halt x w' =>
      cases x <;> simp only [upv] at h ⊢
      case panic u => exact hQ _ _ _ h
  · rename_i hw
    simp only [hw] at h
    exact ⟨keep a hy _, by rw [← Act.put_comm a v undef h2]; exact h⟩
theorem wpOpV_in {i : Nat} {K : Act → World → Prop} {a : Act} {w : World} (h : wpOpV P ops Q i K a w) : wpOpIn (fwr r) n P ops Q i K a w := by
  unfold wpOpV at h
  unfold wpOpIn
  split
  · rename_i hn; simp only [hn] at h; exact h
  · rename_i o ho
    simp only [ho] at h
    split
    · rename_i hw; rw [if_pos hw] at h; exact wpv_in h
    · rename_i hw; rw [if_neg hw] at h; exact ⟨fun _ _ => trivial, h⟩
end
end Go.Proofs.Vl
