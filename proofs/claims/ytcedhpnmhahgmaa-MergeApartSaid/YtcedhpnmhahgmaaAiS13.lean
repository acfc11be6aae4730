/- Part of a proof for one law: an interpreter over what is known of values, and that it is right. -/
import Derived.Test.YtcedhpnmhahgmaaAiS12
import Derived.RangeFuncRecord
set_option linter.unusedSimpArgs false
set_option linter.unusedVariables false
set_option linter.constructorNameAsVariable false
namespace Go.AI
variable (P : Program) (ρ : Nat → Value)

/-! ## moves -/
section moves
variable {P} {b : Frame} {a : Act} {k : List Item} {cs : List Frame} {w : World} {ops : Array Oper}
theorem stepR_scope {c : Code} : step P (lone (b.atR a (.code (.scope c) :: k)) cs w) = .next (lone (b.atR a (.code c :: .inScope c :: k)) cs w) :=
  step_lone_go (by simp [stepG, stepG.exec, Frame.atR])
theorem stepR_inScope {c : Code} : step P (lone (b.atR a (.inScope c :: k)) cs w) = .next (lone (b.atR a k) cs w) :=
  step_lone_go (by simp [stepG, stepG.exec, Frame.atR])
theorem stepR_op_value {i : Nat} {rest : List Nat} {o : Oper} (ho : ops[i]? = some o) (hw : Region.wanted o (yielded ops a.tmps) = true) {v : Value} {w' : World}
    (hr : (o.semAt b.roundOf a.eval).run P w = .ok (.value v) w') :
    step P (lone (b.atR a (.inRegion ops (i :: rest) :: k)) cs w) = .next (lone (b.atR (a.put o.dst v) (.inRegion ops rest :: k)) cs w') := by
  have hf := Frame.finish_atR b a ops i rest k v
  simp only [ho, Option.bind_some] at hf
  rw [← hf]
  exact step_lone_go (by rw [stepGR_op ho hw]; simp [stepG.apply, Sem.runT_eq, hr])
theorem stepR_op_skipped {i : Nat} {rest : List Nat} {o : Oper} (ho : ops[i]? = some o) (hw : Region.wanted o (yielded ops a.tmps) = true) {w' : World}
    (hr : (o.semAt b.roundOf a.eval).run P w = .ok .skip w') :
    step P (lone (b.atR a (.inRegion ops (i :: rest) :: k)) cs w) = .next (lone (b.atR (a.put o.dst undef) (.inRegion ops rest :: k)) cs w') := by
  have hf := Frame.finish_atR b a ops i rest k undef
  simp only [ho, Option.bind_some] at hf
  rw [← hf]
  exact step_lone_go (by rw [stepGR_op ho hw]; simp [stepG.apply, Sem.runT_eq, hr])
/-- what a call leads to: a frame -/
def NextFr (P : Program) : Next → Option Frame
  | .enter f args => some (Frame.enter P f args .normal)
  | .round l f tmps a b => some (Frame.round l f tmps a b .normal)
  | _ => none
theorem stepR_op_call {i : Nat} {rest : List Nat} {o : Oper} (ho : ops[i]? = some o) (hw : Region.wanted o (yielded ops a.tmps) = true) {nx : Next} {fr : Frame} {w' : World}
    (hr : (o.semAt b.roundOf a.eval).run P w = .ok nx w') (hn : NextFr P nx = some fr) :
    step P (lone (b.atR a (.inRegion ops (i :: rest) :: k)) cs w) = .next (lone fr (b.atR a (.inRegion ops (i :: rest) :: k) :: cs) w') := by
  refine step_lone_go ?_
  rw [stepGR_op ho hw]
  cases nx <;> simp [NextFr] at hn
  · subst hn; simp [stepG.apply, Sem.runT_eq, hr, Frame.atR]
  · subst hn; simp [stepG.apply, Sem.runT_eq, hr, Frame.atR]
theorem stepR_rangeF {g : Operand} {ps : Array Tmp} {assign body : Code} {l : Nat} {mark : List Deferred} {w₁ w₁' w₂ : World} {d : Deferred} {nx : Next} {fr : Frame}
    (he : (Instr.enterLoop b.fn a.tmps ps assign body b.roundOf).run P w = .ok (l, mark) w₁)
    (hres : (resolve a.eval (rangeCall g l) 0).run P w₁ = .ok d w₁') (hinv : (invoke d.target d.args).run P w₁' = .ok nx w₂) (hn : NextFr P nx = some fr) :
    step P (lone (b.atR a (.code (.rangeFunc g ps assign body) :: k)) cs w) =
      .next (lone fr (b.atR { a with defers := mark ++ a.defers } (.inRangeFunc l :: k) :: cs) w₂) :=
  step_lone_go (by
    have hev := Frame.eval_atR b { a with defers := mark ++ a.defers } (.inRangeFunc l :: k)
    simp only [Frame.atR] at hev
    have hres' : Sem.run P (resolve ({ tmps := a.tmps, defers := mark ++ a.defers } : Act).eval { callee := .value g, args := #[.const (.func (.yield l) #[] #[])], argTypes := #[] } 0) w₁ = .ok d w₁' := hres
    cases nx <;> simp [NextFr] at hn
    · subst hn; simp [stepG, stepG.exec, Frame.atR, Sem.runT_eq, he, GStep.bare_after, stepG.apply, hev, Sem.run_bind, hres', hinv, Result.andThen]
    · subst hn; simp [stepG, stepG.exec, Frame.atR, Sem.runT_eq, he, GStep.bare_after, stepG.apply, hev, Sem.run_bind, hres', hinv, Result.andThen])
end moves
theorem Act_eval (a : Act) : a.eval = evC a.tmps := by funext x; cases x <;> rfl

/-! ## states -/
structure St (β : Bm) (h : AHeap) (w : World) : Prop where
  hr : HR P ρ β h w
  wf : HWF h
  dom : ∀ b, β b ≠ none → b.toNat < h.next.toNat
def DR (β : Bm) : List Pos → List Deferred → Prop
  | [], l => l = []
  | d :: ds, l => ∃ i l', β d = some i ∧ l = { target := .collected i.cb, args := #[] } :: l' ∧ DR β ds l'
section
variable {P} {ρ} {β β' : Bm} {h h' : AHeap} {w w' : World}
theorem St.fresh (s : St P ρ β h w) (h' : AHeap) : Fresh β h h' := by
  intro b h1 _
  by_cases e : β b = none
  · exact e
  · have := s.dom b e; omega
theorem St.freshNext (s : St P ρ β h w) : β h.next = none := by
  by_cases e : β h.next = none
  · exact e
  · have := s.dom _ e; omega
theorem St.step (s : St P ρ β h w) (hr : HR P ρ β' h' w') (hw : HWF h') (x : Ext β β' h h' w w') : St P ρ β' h' w' where
  hr := hr
  wf := hw
  dom := by
    intro b hb
    by_cases e : β b = none
    · exact (x.out b e hb).2
    · have := s.dom b e
      have := x.next
      omega
theorem DR.mono (hb : β.le β') : ∀ {ds : List Pos} {l : List Deferred}, DR β ds l → DR β' ds l
  | [], _, h => h
  | d :: ds, l, h => by
    obtain ⟨i, l', h1, h2, h3⟩ := h
    exact ⟨i, l', hb _ _ h1, h2, DR.mono hb h3⟩
end

/-! ## what a call does -/
def CallOk (β : Bm) (h : AHeap) (w : World) (s : Sem Next) (v : AVal) (h' : AHeap) : Prop :=
  ∃ nx fr, s.run P w = .ok nx w ∧ NextFr P nx = some fr ∧ ∀ c cs, ∃ β' v' w', VR ρ β' v v' ∧ St P ρ β' h' w' ∧ Ext β β' h h' w w' ∧
    Steps P (lone fr (c :: cs) w) (lone (c.finish v') cs w')
def LeaveOk (β : Bm) (h : AHeap) (w : World) (f : FuncId) (args : Array Value) (v : AVal) (h' : AHeap) : Prop :=
  ∀ cs, ∃ β' v' w' fr, VR ρ β' v v' ∧ St P ρ β' h' w' ∧ Ext β β' h h' w w' ∧ Steps P (lone (Frame.enter P f args .normal) cs w) (lone fr cs w') ∧ fr.fn = f ∧ fr.leaving P w' (.returned v')
def HasBody (f : FuncId) : Prop := ∃ fn c, P.funcs[f]? = some fn ∧ fn.name ≠ "runtime.NumGoroutine" ∧ fn.body = some c
def GoalOk (β : Bm) (h : AHeap) (w : World) (v : AVal) (h' : AHeap) : Goal → Prop
  | .fn f args => HasBody P f.toNat ∧ ∀ vs : Array Value, VRs ρ β args vs.toList → LeaveOk P ρ β h w f.toNat vs v h'
  | .yield l args => ∀ (vs : Array Value) i, VRs ρ β args vs.toList → β l = some i → CallOk P ρ β h w (Instr.yield i.cb vs) v h'
def CallSound (call : Goal → AHeap → ORes) : Prop :=
  ∀ g h v h', call g h = .ok v h' → ∀ β w, St P ρ β h w → GoalOk P ρ β h w v h' g
section
variable {P} {ρ} {β β' : Bm} {h h' : AHeap} {w w' : World} {call : Goal → AHeap → ORes}
theorem run_callFunc {f : FuncId} (hb : HasBody P f) (args : Array Value) (w : World) : (callFunc f args).run P w = .ok (.enter f args) w := by
  obtain ⟨fn, c, h1, h2, h3⟩ := hb
  simp [callFunc, h1, h2, h3]
theorem callO_run (hc : CallSound P ρ call) (hs : St P ρ β h w) {f : AVal} {vf : Value} {args : List AVal} {vs : Array Value} (hf : VR ρ β f vf) (ha : VRs ρ β args vs.toList) {v : AVal}
    (he : callO call f args h = .ok v h') : CallOk P ρ β h w (do let d ← Deferred.ofValue vf vs; invoke d.target d.args) v h' := by
  unfold callO at he
  cases f <;> simp [goalOf] at he
  case fn f a c =>
    simp only [VR] at hf
    obtain ⟨a', c', rfl, g1, g2⟩ := hf
    obtain ⟨hb, hl⟩ := hc _ _ _ _ he β w hs
    have hl := hl (a' ++ vs ++ c') (by simpa using g1.append (ha.append g2))
    refine ⟨.enter f.toNat (a' ++ vs ++ c'), _, ?_, rfl, fun c cs => ?_⟩
    · simp [Deferred.ofValue, invoke, run_callFunc hb]
    · obtain ⟨β', v', w', fr, q1, q2, q3, q4, q5, q6⟩ := hl (c :: cs)
      exact ⟨β', v', w', q1, q2, q3, q4.trans (.one (step_leave_returned q6))⟩
  case yield l =>
    simp only [VR] at hf
    obtain ⟨i, g1, rfl⟩ := hf
    have := hc _ _ _ _ he β w hs vs i ha g1
    obtain ⟨nx, fr, q1, q2, q3⟩ := this
    exact ⟨nx, fr, by simpa [Deferred.ofValue, invoke] using q1, q2, q3⟩
end
end Go.AI
