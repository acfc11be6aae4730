/- Part of a proof for one law: an interpreter over what is known of values, and that it is right. -/
import Derived.Test.YtcedhpnmhahgmaaAiS14
set_option linter.unusedSimpArgs false
set_option linter.unusedVariables false
set_option linter.constructorNameAsVariable false
namespace Go.AI
variable (P : Program) (ρ : Nat → Value)
section
variable {P} {ρ} {E : Env} (hE : EnvOk P ρ E) {β β' : Bm} {h h' : AHeap} {w w' : World} {call : Goal → AHeap → ORes} {tm tm' : PT AVal} {tmps : Array Value} {N : Nat}

theorem mapO_drop {α γ : Type} {f : α → Option γ} {x : α} {l : List α} {r : List γ} (h : mapO f (x :: l) = some r) : ∃ y ys, f x = some y ∧ mapO f l = some ys ∧ r = y :: ys := by
  simp only [mapO] at h
  cases hx : f x <;> simp [hx] at h
  cases hl : mapO f l <;> simp [hl] at h
  exact ⟨_, _, rfl, rfl, h.symm⟩
theorem reg_run (hE : EnvOk P ρ E) (hc : CallSound P ρ call) {b : Frame} {ops : Array Oper} (k : List Item) (cs : List Frame) :
    ∀ (n i : Nat) (l : List AIns) (β : Bm) (tm : PT AVal) (h : AHeap) (w : World) (a : Act), i + n = ops.size → mapO (cIns P N ops) (ops.toList.drop i) = some l →
      St P ρ β h w → TR ρ β tm a.tmps → N ≤ a.tmps.size → regRun E call l tm h = .ok tm' h' →
      InsDoes P ρ b N (lone (b.atR a (.inRegion ops (List.range' i n) :: k)) cs w) β h w a ops [] k cs tm' h' := by
  intro n
  induction n with
  | zero =>
    intro i l β tm h w a hi hl hs ht hN he
    rw [List.drop_of_length_le (by simp; omega)] at hl
    simp [mapO] at hl; subst hl
    simp only [regRun, IRes.ok.injEq] at he
    obtain ⟨rfl, rfl⟩ := he
    exact ⟨β, a, w, hs, ht, rfl, rfl, .refl .., .refl ..⟩
  | succ n ih =>
    intro i l β tm h w a hi hl hs ht hN he
    have hlt : i < ops.size := by omega
    rw [List.drop_eq_getElem_cons (by simpa using hlt)] at hl
    obtain ⟨y, ys, h1, h2, rfl⟩ := mapO_drop hl
    simp only [regRun] at he
    cases hi1 : insRun E call tm h y <;> rw [hi1] at he <;> simp at he
    rw [List.range'_succ]
    have ho : ops[i]? = some ops[i] := by simp [hlt]
    simp only [Array.getElem_toList] at h1
    obtain ⟨β₁, a₁, w₁, q1, q2, q3, q4, q5, q6⟩ := ins_run hE hc ho h1 hs ht hN hi1 (List.range' (i + 1) n) k cs (b := b)
    obtain ⟨β₂, a₂, w₂, r1, r2, r3, r4, r5, r6⟩ := ih (i + 1) ys β₁ _ _ w₁ a₁ (by omega) h2 q1 q2 (by omega) he
    exact ⟨β₂, a₂, w₂, r1, r2, r3.trans q3, r4.trans q4, q5.trans r5, q6.trans r6⟩

/-! ## code -/
def Arr (P : Program) (b : Frame) (cs : List Frame) (m : Machine) (k : List Item) (a : Act) (w : World) : AExit → Prop
  | .normal => Steps P m (lone (b.atR a k) cs w)
  | .exit id => ∃ kk, exitTo id kk = exitTo id k ∧ Steps P m (lone (b.atR a (.code (.exit id) :: kk)) cs w)
  | .ret => ∃ kk, Steps P m (lone (b.atR a (.code .ret :: kk)) cs w)
def Does (P : Program) (ρ : Nat → Value) (b : Frame) (k : List Item) (cs : List Frame) (N : Nat) (m : Machine) (β : Bm) (h : AHeap) (w : World) (e : AExit) (tm' : PT AVal) (ds' : List Pos) (h' : AHeap) : Prop :=
  ∃ β' a' w', St P ρ β' h' w' ∧ TR ρ β' tm' a'.tmps ∧ DR β' ds' a'.defers ∧ N ≤ a'.tmps.size ∧ Ext β β' h h' w w' ∧ Arr P b cs m k a' w' e
theorem Arr.head {b : Frame} {cs : List Frame} {m m' : Machine} {k : List Item} {a : Act} {e : AExit} (hs : Steps P m m') (h : Arr P b cs m' k a w e) : Arr P b cs m k a w e := by
  cases e with
  | normal => exact hs.trans h
  | exit id => obtain ⟨kk, h1, h2⟩ := h; exact ⟨kk, h1, hs.trans h2⟩
  | ret => obtain ⟨kk, h2⟩ := h; exact ⟨kk, hs.trans h2⟩
theorem Does.head {b : Frame} {k : List Item} {cs : List Frame} {m m' : Machine} {e : AExit} {ds' : List Pos} (hs : Steps P m m') (h1 : Does P ρ b k cs N m' β h w e tm' ds' h') : Does P ρ b k cs N m β h w e tm' ds' h' := by
  obtain ⟨β', a', w', q1, q2, q3, q4, q5, q6⟩ := h1
  exact ⟨β', a', w', q1, q2, q3, q4, q5, q6.head hs⟩
theorem Does.ext {b : Frame} {k : List Item} {cs : List Frame} {m : Machine} {e : AExit} {ds' : List Pos} {β₁ : Bm} {h₁ : AHeap} {w₁ : World} (hx : Ext β β₁ h h₁ w w₁) (h1 : Does P ρ b k cs N m β₁ h₁ w₁ e tm' ds' h') :
    Does P ρ b k cs N m β h w e tm' ds' h' := by
  obtain ⟨β', a', w', q1, q2, q3, q4, q5, q6⟩ := h1
  exact ⟨β', a', w', q1, q2, q3, q4, hx.trans q5, q6⟩
/-- the items between are left by an exit, a return -/
theorem Does.drop {b : Frame} {k k' : List Item} {cs : List Frame} {m : Machine} {e : AExit} {ds' : List Pos} (hn : e ≠ .normal) (hk : ∀ id, e = .exit id → exitTo id k' = exitTo id k)
    (h1 : Does P ρ b k' cs N m β h w e tm' ds' h') : Does P ρ b k cs N m β h w e tm' ds' h' := by
  obtain ⟨β', a', w', q1, q2, q3, q4, q5, q6⟩ := h1
  refine ⟨β', a', w', q1, q2, q3, q4, q5, ?_⟩
  cases e with
  | normal => exact absurd rfl hn
  | exit id => obtain ⟨kk, h1, h2⟩ := q6; exact ⟨kk, h1.trans (hk id rfl), h2⟩
  | ret => exact q6
/-- in which round we are -/
def RdOk (β : Bm) (b : Frame) : Option Pos → Prop
  | none => b.roundOf = none
  | some l => ∃ i, β l = some i ∧ b.roundOf = some i.cb
theorem RdOk.mono {b : Frame} {rd : Option Pos} (hb : β.le β') (h : RdOk β b rd) : RdOk β' b rd := by
  cases rd with
  | none => exact h
  | some l => obtain ⟨i, h1, h2⟩ := h; exact ⟨i, hb _ _ h1, h2⟩
/-- a drawn region (to be shown) -/
def DrawSound (P : Program) (ρ : Nat → Value) (E : Env) (call : Goal → AHeap → ORes) : Prop :=
  ∀ (N id : Nat) (ops : Array Oper) (ph : List Phase), cDraw P N ops = some (.draw ph) → ∀ (β : Bm) (tm tm' : PT AVal) (h h' : AHeap) (w : World) (a : Act), St P ρ β h w → TR ρ β tm a.tmps → N ≤ a.tmps.size →
    drawRun E call 0 ph [] tm h = .ok tm' h' → ∀ (b : Frame) (k : List Item) (cs : List Frame),
    InsDoes P ρ b N (lone (b.atR a (.code (.region id ops true) :: k)) cs w) β h w a ops [] k cs tm' h'
/-- a range over a function (shown below) -/
def CodeSound (P : Program) (ρ : Nat → Value) (N : Nat) (c : Code) (run : PT AVal → List Pos → AHeap → Res) (rd : Option Pos) : Prop :=
  ∀ (β : Bm) (tm tm' : PT AVal) (ds ds' : List Pos) (h h' : AHeap) (w : World) (a : Act) (e : AExit) (b : Frame), RdOk β b rd → St P ρ β h w → TR ρ β tm a.tmps → DR β ds a.defers → N ≤ a.tmps.size →
    run tm ds h = .ok e tm' ds' h' → ∀ (k : List Item) (cs : List Frame), Does P ρ b k cs N (lone (b.atR a (.code c :: k)) cs w) β h w e tm' ds' h'
theorem exitTo_skip {id : Nat} {x : Item} {k : List Item} (h : ∀ j, x ≠ .inBlock j) : exitTo id (x :: k) = exitTo id k := by
  cases x <;> simp [exitTo]
  rename_i j; exact absurd rfl (h j)
theorem loop_run {rd : Option Pos} {c : Code} {body : PT AVal → List Pos → AHeap → Res} (hb : CodeSound P ρ N c body rd) :
    ∀ (n : Nat) (β : Bm) (tm tm' : PT AVal) (ds ds' : List Pos) (h h' : AHeap) (w : World) (a : Act) (e : AExit) (b : Frame), RdOk β b rd → St P ρ β h w → TR ρ β tm a.tmps → DR β ds a.defers → N ≤ a.tmps.size →
    loopN body n tm ds h = .ok e tm' ds' h' → ∀ (k : List Item) (cs : List Frame), Does P ρ b k cs N (lone (b.atR a (.code c :: .inLoop c :: k)) cs w) β h w e tm' ds' h' := by
  intro n
  induction n with
  | zero => intro β tm tm' ds ds' h h' w a e b _ _ _ _ _ he; simp [loopN] at he
  | succ n ih =>
    intro β tm tm' ds ds' h h' w a e b hrd hs ht hd hN he k cs
    simp only [loopN] at he
    cases hr : body tm ds h with
    | fail => rw [hr] at he; simp at he
    | ok e₁ tm₁ ds₁ h₁ =>
      rw [hr] at he
      have hbo := hb β tm tm₁ ds ds₁ h h₁ w a e₁ b hrd hs ht hd hN hr (.inLoop c :: k) cs
      cases e₁ with
      | normal =>
        simp only at he
        obtain ⟨β₁, a₁, w₁, q1, q2, q3, q4, q5, q6⟩ := hbo
        have := ih β₁ tm₁ tm' ds₁ ds' h₁ h' w₁ a₁ e b (hrd.mono q5.le) q1 q2 q3 q4 he k cs
        exact (this.ext q5).head (Steps.trans q6 (.one stepR_inLoop))
      | exit id =>
        simp only [Res.ok.injEq] at he
        obtain ⟨rfl, rfl, rfl, rfl⟩ := he
        exact hbo.drop (by simp) (fun id' _ => exitTo_skip (by simp))
      | ret =>
        simp only [Res.ok.injEq] at he
        obtain ⟨rfl, rfl, rfl, rfl⟩ := he
        exact hbo.drop (by simp) (fun id' _ => exitTo_skip (by simp))
theorem alloc_block (hs : St P ρ β h w) {o : AObj} {c : Obj} (sz : Nat) (hrel : o.isDead = false → ORel P ρ (β.put h.next ⟨w.heap.size, 0, sz⟩) ⟨w.heap.size, 0, sz⟩ o c) :
    St P ρ (β.put h.next ⟨w.heap.size, 0, sz⟩) (h.new o) (w.alloc c) ∧ Ext β (β.put h.next ⟨w.heap.size, 0, sz⟩) h (h.new o) w (w.alloc c) := by
  obtain ⟨r1, r2, r3⟩ := new_block hs.hr hs.wf hs.freshNext (i := ⟨w.heap.size, 0, sz⟩) rfl (w' := w.alloc c) (c := c) (World.alloc_heap_new w c) (World.size_alloc ..)
    (fun k hk => by show (w.heap.push c)[k]? = _; simp [Array.getElem?_push_lt, hk]) hrel ⟨rfl, rfl, rfl⟩
  exact ⟨hs.step r1 r2 r3, r3⟩
theorem run_enterLoop_inner {l : Nat} {r : Loop} (hl : w.heap[l]? = some (.loop r)) (fn : FuncId) (tmps : Array Value) (ps : Array Tmp) (assign body : Code) :
    (Instr.enterLoop fn tmps ps assign body (some l)).run P w =
      .ok (w.heap.size, []) (w.alloc (.loop { state := .ready, pending := none, fn, tmps, params := ps, assign, body, defers := r.defers })) := by
  unfold Instr.enterLoop
  simp only [Sem.run_bind, run_getLoop hl, run_newObj_alloc, Result.andThen, Sem.run_pure, World.size_alloc]
theorem enter_run (hc : CallSound P ρ call) {f : Operand} {params : Array Tmp} {assign body : Code} {f' : AOpd} {as bd : ACode} (hf : cOpd f = some f') (hp : ∀ p ∈ params.toList, p < N)
    (ha : cCode P N assign = some as) (hb : cCode P N body = some bd) {a : Act} {b : Frame} {ds ds' : List Pos} {e : AExit} (hs : St P ρ β h w) (ht : TR ρ β tm a.tmps) (hN : N ≤ a.tmps.size) {w₁ : World} {mark : List Deferred} {dl : Nat}
    (hel : (Instr.enterLoop b.fn a.tmps params assign body b.roundOf).run P w =
      .ok (w₁.heap.size, mark) (w₁.alloc (.loop { state := .ready, pending := none, fn := b.fn, tmps := a.tmps, params := params, assign, body, defers := dl })))
    {β₁ : Bm} {h₁ : AHeap} (s1 : St P ρ β₁ h₁ w₁) (x1 : Ext β β₁ h h₁ w w₁) (hd : DR β₁ ds (mark ++ a.defers))
    (he : enterR call f' (params.toList.map Pos.ofNat) as bd tm ds h₁ = .ok e tm' ds' h') (k : List Item) (cs : List Frame) :
    Does P ρ b k cs N (lone (b.atR a (.code (.rangeFunc f params assign body) :: k)) cs w) β h w e tm' ds' h' := by
  unfold enterR at he
  obtain ⟨s2, x2⟩ := alloc_block s1 (o := .loop ⟨.ready, .normal, tm, params.toList.map Pos.ofNat, as, bd⟩) (c := .loop { state := .ready, pending := none, fn := b.fn, tmps := a.tmps, params := params, assign, body, defers := dl }) 0
    (fun _ => ⟨_, rfl, rfl, rfl, TR.mono ρ (Bm.le_trans x1.le (β₁.le_put s1.freshNext)) ht, rfl, N, hN, hp, ha, hb⟩)
  have ht2 : TR ρ (β₁.put h₁.next ⟨w₁.heap.size, 0, 0⟩) tm a.tmps := TR.mono ρ (Bm.le_trans x1.le x2.le) ht
  cases hr : callO call (evO tm f') [.yield h₁.next] (h₁.new (.loop ⟨.ready, .normal, tm, params.toList.map Pos.ofNat, as, bd⟩)) with
  | fail => rw [hr] at he; simp at he
  | ok v h₃ =>
    rw [hr] at he
    simp only at he
    obtain ⟨nx, fr, q1, q2, q3⟩ := callO_run hc s2 (cOpd_rel ht2 hf) (vs := #[.func (.yield w₁.heap.size) #[] #[]]) (.cons (by simp only [VR]; exact ⟨_, Bm.put_self .., rfl⟩) .nil) hr
    rw [Sem.run_bind] at q1
    obtain ⟨β₃, v', w₃, r1, r2, r3, r4⟩ := q3 (b.atR { a with defers := mark ++ a.defers } (.inRangeFunc w₁.heap.size :: k)) cs
    rw [finish_atR_inRangeFunc] at r4
    unfold endLoop at he
    split at he
    · rename_i al st pd t ps as' bd' hg
      have hm := r3.le _ _ (Bm.put_self β₁ h₁.next ⟨w₁.heap.size, 0, 0⟩)
      obtain ⟨c, g1, g2⟩ := r2.hr.rel _ _ _ hm hg rfl
      obtain ⟨L, rfl, g3, g4, g5⟩ := g2
      simp only at g1 g3 g4 g5
      have hbusy : L.state ≠ .busy ∧ e = pd ∧ tm' = tm ∧ ds' = ds ∧ h' = h₃.set h₁.next (.loop ⟨.gone, pd, t, ps, as', bd'⟩) := by
        cases st <;> simp [LStR] at g3 he <;> (obtain ⟨rfl, rfl, rfl, rfl⟩ := he; exact ⟨by rw [g3]; simp, rfl, rfl, rfl, rfl⟩)
      obtain ⟨hbusy, rfl, rfl, rfl, rfl⟩ := hbusy
      have hend := run_endLoop (P := P) g1 hbusy
      have hlt : w₁.heap.size < w₃.heap.size := by
        have := (Array.getElem?_eq_some_iff.1 g1).1; exact this
      obtain ⟨u1, u2, u3⟩ := upd_block r2.hr r2.wf hm hg rfl (o' := .loop ⟨.gone, e, t, ps, as', bd'⟩) (w' := w₃.putObj w₁.heap.size (.loop { L with state := .exhausted })) (c' := .loop { L with state := .exhausted })
        (World.putObj_heap_same hlt) (by simp) (fun k hk => World.putObj_heap_other hk) ⟨_, rfl, rfl, g4, g5⟩ ⟨rfl, rfl, rfl⟩
      have hxx := x1.trans (x2.trans (r3.trans u3))
      refine ⟨β₃, { a with defers := mark ++ a.defers }, _, r2.step u1 u2 u3, TR.mono ρ hxx.le ht, hd.mono (Bm.le_trans x2.le r3.le), hN, hxx, ?_⟩
      have hstep : ∀ j, L.pending = j → Steps P (lone (b.atR a (.code (.rangeFunc f params assign body) :: k)) cs w)
          (lone (b.atR { a with defers := mark ++ a.defers } ((j.map Item.code).toList ++ k)) cs (w₃.putObj w₁.heap.size (.loop { L with state := .exhausted }))) := by
        rintro _ rfl
        have hof : ∃ d, (Deferred.ofValue (evC a.tmps f) #[.func (.yield w₁.heap.size) #[] #[]]).run P (w₁.alloc (.loop { state := .ready, pending := none, fn := b.fn, tmps := a.tmps, params := params, assign, body, defers := dl })) = .ok d (w₁.alloc (.loop { state := .ready, pending := none, fn := b.fn, tmps := a.tmps, params := params, assign, body, defers := dl })) := by
          cases hfv : evC a.tmps f with
          | func fn first cap => exact ⟨_, rfl⟩
          | nilFunc => exact ⟨_, rfl⟩
          | _ => rw [hfv] at q1; simp [Deferred.ofValue, Result.andThen] at q1
        obtain ⟨d, hof⟩ := hof
        rw [hof] at q1
        simp only [Result.andThen] at q1
        refine .head (stepR_rangeF hel (d := d) ?_ q1 q2) (Steps.trans r4 (.one (stepR_endRangeFunc hend)))
        simp only [resolve, rangeCall, Act_eval]
        simpa [evC] using hof
      cases e with
      | normal => exact hstep none g4
      | exit id => exact ⟨k, rfl, hstep _ g4⟩
      | ret => exact ⟨k, hstep _ g4⟩
    · simp at he
theorem range_run (hc : CallSound P ρ call) {rd : Option Pos} {f : Operand} {params : Array Tmp} {assign body : Code} {f' : AOpd} {as bd : ACode} (hf : cOpd f = some f') (hp : ∀ p ∈ params.toList, p < N)
    (ha : cCode P N assign = some as) (hb : cCode P N body = some bd) :
    CodeSound P ρ N (.rangeFunc f params assign body) (rangeR call rd f' (params.toList.map Pos.ofNat) as bd) rd := by
  intro β tm tm' ds ds' h h' w a e b hrd hs ht hd hN he k cs
  cases rd with
  | none =>
    simp only [rangeR] at he
    obtain ⟨s1, x1⟩ := alloc_block hs (o := .defd false) (c := .deferred (some [])) 0 (fun _ => by simp [ORel])
    have hrd : b.roundOf = none := hrd
    refine enter_run hc hf hp ha hb hs ht hN (dl := w.heap.size) (mark := [{ target := .collected w.heap.size, args := #[] }]) ?_ s1 x1 ?_ he k cs
    · rw [hrd, run_enterLoop_outer, World.size_alloc]
    · exact ⟨_, _, Bm.put_self .., rfl, hd.mono x1.le⟩
  | some l =>
    obtain ⟨i, h1, h2⟩ := hrd
    simp only [rangeR] at he
    split at he
    · rename_i hl
      unfold isLoop at hl
      split at hl
      · rename_i al hg
        obtain ⟨c, g1, g2⟩ := hs.hr.rel l i _ h1 hg rfl
        obtain ⟨L, rfl, g3⟩ := g2
        refine enter_run hc hf hp ha hb hs ht hN (dl := L.defers) ?_ hs (.refl ..) (mark := []) hd he k cs
        rw [h2]
        exact run_enterLoop_inner g1 ..
      · simp at hl
    · simp at he
theorem exec_run (hE : EnvOk P ρ E) (hc : CallSound P ρ call) (hdr : DrawSound P ρ E call) (fuel : Nat) (rd : Option Pos) : ∀ (c : Code) (ac : ACode), cCode P N c = some ac → CodeSound P ρ N c (exec E call fuel rd ac) rd := by
  intro c
  induction c with
  | skip =>
    intro ac hac β tm tm' ds ds' h h' w a e b hrd hs ht hd hN he k cs
    simp only [cCode, Option.some.injEq] at hac; subst hac
    simp only [exec, Res.ok.injEq] at he
    obtain ⟨rfl, rfl, rfl, rfl⟩ := he
    exact ⟨β, a, w, hs, ht, hd, hN, .refl .., .one stepR_skip⟩
  | label l =>
    intro ac hac β tm tm' ds ds' h h' w a e b hrd hs ht hd hN he k cs
    simp only [cCode, Option.some.injEq] at hac; subst hac
    simp only [exec, Res.ok.injEq] at he
    obtain ⟨rfl, rfl, rfl, rfl⟩ := he
    exact ⟨β, a, w, hs, ht, hd, hN, .refl .., .one stepR_label⟩
  | exit id =>
    intro ac hac β tm tm' ds ds' h h' w a e b hrd hs ht hd hN he k cs
    simp only [cCode, Option.some.injEq] at hac; subst hac
    simp only [exec, Res.ok.injEq] at he
    obtain ⟨rfl, rfl, rfl, rfl⟩ := he
    exact ⟨β, a, w, hs, ht, hd, hN, .refl .., k, rfl, .refl ..⟩
  | ret =>
    intro ac hac β tm tm' ds ds' h h' w a e b hrd hs ht hd hN he k cs
    simp only [cCode, Option.some.injEq] at hac; subst hac
    simp only [exec, Res.ok.injEq] at he
    obtain ⟨rfl, rfl, rfl, rfl⟩ := he
    exact ⟨β, a, w, hs, ht, hd, hN, .refl .., k, .refl ..⟩
  | goto l => intro ac hac; simp [cCode] at hac
  | refuse s => intro ac hac; simp [cCode] at hac
  | scope c ih =>
    intro ac hac β tm tm' ds ds' h h' w a e b hrd hs ht hd hN he k cs
    simp only [cCode] at hac
    have hbo := ih ac hac β tm tm' ds ds' h h' w a e b hrd hs ht hd hN he (.inScope c :: k) cs
    refine Does.head (.one stepR_scope) ?_
    cases e with
    | normal =>
      obtain ⟨β₁, a₁, w₁, q1, q2, q3, q4, q5, q6⟩ := hbo
      exact ⟨β₁, a₁, w₁, q1, q2, q3, q4, q5, Steps.trans q6 (.one stepR_inScope)⟩
    | exit id => exact hbo.drop (by simp) (fun id' _ => exitTo_skip (by simp))
    | ret => exact hbo.drop (by simp) (fun id' _ => exitTo_skip (by simp))
  | seq x y ihx ihy =>
    intro ac hac β tm tm' ds ds' h h' w a e b hrd hs ht hd hN he k cs
    simp only [cCode] at hac
    split at hac
    · rename_i ax ay hx hy
      simp only [Option.some.injEq] at hac; subst hac
      simp only [exec] at he
      refine Does.head (.one stepR_seq) ?_
      cases hr : exec E call fuel rd ax tm ds h with
      | fail => rw [hr] at he; simp [thenR] at he
      | ok e₁ tm₁ ds₁ h₁ =>
        rw [hr] at he
        have hbo := ihx ax hx β tm tm₁ ds ds₁ h h₁ w a e₁ b hrd hs ht hd hN hr (.code y :: k) cs
        cases e₁ with
        | normal =>
          simp only [thenR] at he
          obtain ⟨β₁, a₁, w₁, q1, q2, q3, q4, q5, q6⟩ := hbo
          exact ((ihy ay hy β₁ tm₁ tm' ds₁ ds' h₁ h' w₁ a₁ e b (hrd.mono q5.le) q1 q2 q3 q4 he k cs).ext q5).head q6
        | exit id =>
          simp only [thenR, Res.ok.injEq] at he
          obtain ⟨rfl, rfl, rfl, rfl⟩ := he
          exact hbo.drop (by simp) (fun id' _ => exitTo_skip (by simp))
        | ret =>
          simp only [thenR, Res.ok.injEq] at he
          obtain ⟨rfl, rfl, rfl, rfl⟩ := he
          exact hbo.drop (by simp) (fun id' _ => exitTo_skip (by simp))
    · simp at hac
  | cond o x y ihx ihy =>
    intro ac hac β tm tm' ds ds' h h' w a e b hrd hs ht hd hN he k cs
    simp only [cCode] at hac
    split at hac
    · rename_i ao ax ay ho hx hy
      simp only [Option.some.injEq] at hac; subst hac
      simp only [exec] at he
      have hv := cOpd_rel ht ho
      cases hb : evO tm ao with
      | bool t =>
        rw [hb] at he hv
        simp only [VR] at hv
        have hst := stepR_cond (P := P) (b := b) (k := k) (cs := cs) (w := w) (x := x) (y := y) (c := o) (t := t) (a := a) (by rw [Act_eval]; exact hv)
        cases t with
        | true =>
          simp only [condR] at he
          exact (ihx ax hx β tm tm' ds ds' h h' w a e b hrd hs ht hd hN he k cs).head (.one hst)
        | false =>
          simp only [condR] at he
          exact (ihy ay hy β tm tm' ds ds' h h' w a e b hrd hs ht hd hN he k cs).head (.one hst)
      | _ => rw [hb] at he; simp [condR] at he
    · simp at hac
  | block id c ih =>
    intro ac hac β tm tm' ds ds' h h' w a e b hrd hs ht hd hN he k cs
    simp only [cCode] at hac
    cases hc' : cCode P N c <;> simp [hc'] at hac
    rename_i ac'
    subst hac
    simp only [exec] at he
    refine Does.head (.one stepR_block) ?_
    cases hr : exec E call fuel rd ac' tm ds h with
    | fail => rw [hr] at he; simp [blockR] at he
    | ok e₁ tm₁ ds₁ h₁ =>
      rw [hr] at he
      have hbo := ih ac' hc' β tm tm₁ ds ds₁ h h₁ w a e₁ b hrd hs ht hd hN hr (.inBlock id :: k) cs
      cases e₁ with
      | normal =>
        simp only [blockR, Res.ok.injEq] at he
        obtain ⟨rfl, rfl, rfl, rfl⟩ := he
        obtain ⟨β₁, a₁, w₁, q1, q2, q3, q4, q5, q6⟩ := hbo
        exact ⟨β₁, a₁, w₁, q1, q2, q3, q4, q5, Steps.trans q6 (.one stepR_inBlock)⟩
      | exit j =>
        simp only [blockR] at he
        by_cases hj : j = id
        · subst hj
          simp only [Nat.beq_refl, Res.ok.injEq] at he
          obtain ⟨rfl, rfl, rfl, rfl⟩ := he
          obtain ⟨β₁, a₁, w₁, q1, q2, q3, q4, q5, kk, q6, q7⟩ := hbo
          exact ⟨β₁, a₁, w₁, q1, q2, q3, q4, q5, Steps.trans q7 (.one (stepR_exit (by rw [q6]; simp [exitTo])))⟩
        · have hj' : Nat.beq j id = false := by
            cases hb : Nat.beq j id with
            | false => rfl
            | true => exact absurd (Nat.eq_of_beq_eq_true hb) hj
          simp only [hj', Res.ok.injEq] at he
          obtain ⟨rfl, rfl, rfl, rfl⟩ := he
          exact hbo.drop (by simp) (fun id' e => by cases e; simp [exitTo, Ne.symm hj])
      | ret =>
        simp only [blockR, Res.ok.injEq] at he
        obtain ⟨rfl, rfl, rfl, rfl⟩ := he
        exact hbo.drop (by simp) (fun id' e => by cases e)
  | loop c ih =>
    intro ac hac β tm tm' ds ds' h h' w a e b hrd hs ht hd hN he k cs
    simp only [cCode] at hac
    cases hc' : cCode P N c <;> simp [hc'] at hac
    rename_i ac'
    subst hac
    simp only [exec] at he
    exact (loop_run (ih ac' hc') fuel β tm tm' ds ds' h h' w a e b hrd hs ht hd hN he k cs).head (.one stepR_loop)
  | region id ops draw =>
    intro ac hac β tm tm' ds ds' h h' w a e b hrd hs ht hd hN he k cs
    have fin : ∀ {tm₁ h₁}, InsDoes P ρ b N (lone (b.atR a (.code (.region id ops draw) :: k)) cs w) β h w a ops [] k cs tm₁ h₁ → Res.ok AExit.normal tm₁ ds h₁ = .ok e tm' ds' h' →
        Does P ρ b k cs N (lone (b.atR a (.code (.region id ops draw) :: k)) cs w) β h w e tm' ds' h' := by
      rintro tm₁ h₁ ⟨β₁, a₁, w₁, q1, q2, q3, q4, q5, q6⟩ he
      simp only [Res.ok.injEq] at he
      obtain ⟨rfl, rfl, rfl, rfl⟩ := he
      exact ⟨β₁, a₁, w₁, q1, q2, by rw [q3]; exact hd.mono q5.le, by omega, q5, Steps.trans q6 (.one stepR_region_end)⟩
    cases draw with
    | false =>
      simp only [cCode] at hac
      cases hl : mapO (cIns P N ops) ops.toList <;> simp [hl] at hac
      subst hac
      simp only [exec] at he
      rename_i l
      cases hr : regRun E call l tm h with
      | fail => rw [hr] at he; simp [ofI] at he
      | ok tm₁ h₁ =>
        rw [hr] at he
        refine fin ?_ he
        obtain ⟨β₁, a₁, w₁, q1, q2, q3, q4, q5, q6⟩ := reg_run hE hc (b := b) k cs ops.size 0 l β tm h w a (Nat.zero_add _) (by simpa using hl) hs ht hN hr
        exact ⟨β₁, a₁, w₁, q1, q2, q3, q4, q5, .head stepR_region (by rw [List.range_eq_range']; exact q6)⟩
    | true =>
      simp only [cCode] at hac
      obtain ⟨ph, rfl⟩ : ∃ ph, ac = .draw ph := by
        unfold cDraw at hac
        split at hac
        · simp at hac
        · simp only at hac
          split at hac
          · simp only [Option.some.injEq] at hac
            exact ⟨_, hac.symm⟩
          · simp at hac
      simp only [exec] at he
      cases hr : drawRun E call 0 ph [] tm h with
      | fail => rw [hr] at he; simp [ofI] at he
      | ok tm₁ h₁ =>
        rw [hr] at he
        exact fin (hdr N id ops _ hac β tm tm₁ h h₁ w a hs ht hN hr b k cs) he
  | rangeFunc f params assign body iha ihb =>
    intro ac hac
    simp only [cCode] at hac
    split at hac
    · rename_i f' as bd hp hf ha hb
      simp only [Option.some.injEq] at hac; subst hac
      refine range_run hc hf ?_ ha hb
      intro p hp'
      have := List.all_eq_true.1 hp p hp'
      simpa [Nat.blt_eq] using this
    · simp at hac
end
end Go.AI
