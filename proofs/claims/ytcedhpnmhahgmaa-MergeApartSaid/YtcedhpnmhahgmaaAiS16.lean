/- Part of a proof for one law: an interpreter over what is known of values, and that it is right. -/
import Derived.Test.YtcedhpnmhahgmaaAiS15
set_option linter.unusedSimpArgs false
set_option linter.unusedVariables false
set_option linter.constructorNameAsVariable false
namespace Go.AI
variable (P : Program) (ρ : Nat → Value)
section
variable {P} {ρ} {E : Env} (hE : EnvOk P ρ E) {β β' : Bm} {h h' : AHeap} {w w' : World} {call : Goal → AHeap → ORes} {tm tm' : PT AVal} {tmps : Array Value} {N : Nat}

/-! ## the way out -/
theorem takeD_run {fr : Frame} {cs : List Frame} (hm : fr.mode = .returning) : ∀ (ds : List Pos) (l : List Deferred) (β : Bm) (h : AHeap) (w : World), fr.defers = l → DR β ds l → St P ρ β h w → takeD ds h = some h' →
    ∃ w', St P ρ β h' w' ∧ Ext β β h h' w w' ∧ Steps P (lone fr cs w) (lone { fr with defers := [] } cs w') := by
  intro ds
  induction ds generalizing fr with
  | nil =>
    intro l β h w hfr hd hs he
    simp only [takeD, Option.some.injEq] at he; subst he
    have hd : l = [] := hd
    subst hd
    exact ⟨w, hs, .refl .., by rw [← hfr]; exact .refl ..⟩
  | cons d ds ih =>
    intro l β h w hfr hd hs he
    obtain ⟨i, l', h1, rfl, h3⟩ := hd
    simp only [takeD] at he
    split at he
    · rename_i hg
      obtain ⟨c, g1, g2⟩ := hs.hr.rel _ _ _ h1 hg rfl
      have g2 : c = .deferred (some []) := by simpa [ORel] using g2
      subst g2
      have htake := run_takeDeferred (P := P) g1
      have hlt := hs.hr.lt _ _ h1
      obtain ⟨u1, u2, u3⟩ := upd_block hs.hr hs.wf h1 hg rfl (o' := .defd true) (w' := w.putObj i.cb (.deferred none)) (c' := .deferred none)
        (World.putObj_heap_same hlt) (by simp) (fun k hk => World.putObj_heap_other hk) (by simp [ORel]) ⟨rfl, rfl, rfl⟩
      have hst := step_collected (P := P) (fr := fr) (cs := cs) (by rw [hm]; simp) hfr rfl htake
      obtain ⟨w', r1, r2, r3⟩ := ih (fr := { fr with defers := [] ++ l' }) hm l' β _ _ rfl h3 (hs.step u1 u2 u3) he
      exact ⟨w', r1, u3.trans r2, .head hst r3⟩
    · simp at he

/-! ## results -/
theorem loadVar_run {t : TypeId} {a : AVal} {x : Value} (hs : HR P ρ β h w) (hv : VR ρ β a x) {v : AVal} (he : (∃ n, isAggT P t = some true ∧ sizeT P t = some n ∧ rLoadA h a n = some v) ∨ (isAggT P t = some false ∧ rLoadC h a = some v)) :
    ∃ v', (do loadVar t (← asAddr x) : Sem Value).run P w = .ok v' w ∧ VR ρ β v v' := by
  have hp : ∃ ad, x = .pointer (some ad) := by
    rcases he with ⟨n, _, _, he⟩ | ⟨_, he⟩
    · unfold rLoadA at he
      split at he
      · simp only [VR] at hv
        obtain ⟨i, _, rfl⟩ := hv
        exact ⟨_, rfl⟩
      · simp at he
    · unfold rLoadC at he
      split at he
      · simp only [VR] at hv
        obtain ⟨i, _, rfl⟩ := hv
        exact ⟨_, rfl⟩
      · simp at he
  obtain ⟨ad, rfl⟩ := hp
  have hl : ∀ v', (Instr.loadAt t (.pointer (some ad))).run P w = .ok v' w → (do loadVar t (← asAddr (.pointer (some ad))) : Sem Value).run P w = .ok v' w := by
    intro v' h1
    simpa [Instr.loadAt, Instr.sureAddr, asAddr] using h1
  rcases he with ⟨n, h1, h2, he⟩ | ⟨h1, he⟩
  · obtain ⟨v', q1, q2⟩ := rLoadA_run hs hv he h1 h2
    exact ⟨v', hl _ q1, q2⟩
  · obtain ⟨v', q1, q2, _⟩ := rLoadC_run hs hv he h1
    exact ⟨v', hl _ q1, q2⟩
theorem res_run (ht : TR ρ β tm tmps) (hs : HR P ρ β h w) : ∀ (l : List ResultVar) (rs : List ARes) (vs : List AVal), cRes P l = some rs → resAll tm h rs = some vs →
    ∃ vs', (l.mapM (m := Sem) fun | .tmp t => pure (tmps.getD t undef) | .cell a t => do loadVar t (← asAddr (tmps.getD a undef))).run P w = .ok vs' w ∧ VRs ρ β vs vs' := by
  intro l
  induction l with
  | nil =>
    intro rs vs hc he
    simp [cRes] at hc; subst hc
    simp [resAll] at he; subst he
    exact ⟨[], by simp, .nil⟩
  | cons r l ih =>
    intro rs vs hc he
    have go : ∀ r' rs', rs = r' :: rs' → cRes P l = some rs' → (∀ v, resOne tm h r' = some v → ∃ v', (match r with | .tmp t => pure (tmps.getD t undef) | .cell a t => do loadVar t (← asAddr (tmps.getD a undef)) : Sem Value).run P w = .ok v' w ∧ VR ρ β v v') →
        ∃ vs', ((r :: l).mapM (m := Sem) fun | .tmp t => pure (tmps.getD t undef) | .cell a t => do loadVar t (← asAddr (tmps.getD a undef))).run P w = .ok vs' w ∧ VRs ρ β vs vs' := by
      rintro r' rs' rfl h1 h2
      simp only [resAll] at he
      cases hr : resOne tm h r' <;> rw [hr] at he <;> simp at he
      rename_i v
      cases hrs : resAll tm h rs' <;> rw [hrs] at he <;> simp at he
      rename_i vs1
      subst he
      obtain ⟨v', q1, q2⟩ := h2 v hr
      obtain ⟨vs', r1, r2⟩ := ih rs' vs1 h1 hrs
      refine ⟨v' :: vs', ?_, .cons q2 r2⟩
      simp only [List.mapM_cons, Sem.run_bind, q1, r1, Result.andThen, Sem.run_pure]
    cases r with
    | tmp t =>
      simp only [cRes] at hc
      cases hl : cRes P l <;> simp [hl] at hc
      refine go _ _ hc.symm hl (fun v hv => ⟨tmps.getD t undef, rfl, ?_⟩)
      simp only [resOne, Option.some.injEq] at hv; subst hv
      have := ht (.ofNat t)
      simpa using this
    | cell a t =>
      simp only [cRes] at hc
      have hva := ht (.ofNat a)
      simp only [Pos.toNat_ofNat] at hva
      split at hc
      · rename_i n h1 h2
        cases hl : cRes P l <;> simp [hl] at hc
        exact go _ _ hc.symm hl (fun v hv => loadVar_run hs hva (.inl ⟨n, h1, h2, hv⟩))
      · rename_i h1
        cases hl : cRes P l <;> simp [hl] at hc
        exact go _ _ hc.symm hl (fun v hv => loadVar_run hs hva (.inr ⟨h1, hv⟩))
      · simp at hc
theorem resVal_rel {vs : List AVal} {vs' : Array Value} (hv : VRs ρ β vs vs'.toList) : VR ρ β (resVal vs) (if h : vs'.size = 1 then vs'[0] else .tuple vs') := by
  have hl := hv.length
  have tup : vs.length ≠ 1 → VR ρ β (.tuple vs) (if h : vs'.size = 1 then vs'[0] else .tuple vs') := by
    intro h
    rw [dif_neg (by simp at hl; omega)]
    simp only [VR]
    exact ⟨_, rfl, hv⟩
  cases vs with
  | nil => exact tup (by simp)
  | cons x xs => cases xs with
    | nil =>
      have h1 : vs'.size = 1 := by simpa using hl
      rw [dif_pos h1]
      obtain ⟨y, q1, q2⟩ := hv.get 0 x (by simp)
      simp only [resVal]
      simp at q1
      obtain ⟨_, q1⟩ := Array.getElem?_eq_some_iff.1 q1
      rw [q1]; exact q2
    | cons y ys => exact tup (by simp)
theorem results_run (ht : TR ρ β tm tmps) (hs : HR P ρ β h w) {fn : Func} {rs : List ARes} {vs : List AVal} (hc : cRes P fn.results.toList = some rs) (he : resAll tm h rs = some vs) :
    ∃ v, (results fn tmps).run P w = .ok v w ∧ VR ρ β (resVal vs) v := by
  obtain ⟨vs', q1, q2⟩ := res_run ht hs _ _ _ hc he
  unfold results
  rw [Array.mapM_eq_mapM_toList]
  refine ⟨_, ?_, resVal_rel (vs' := vs'.toArray) (by simpa using q2)⟩
  simp only [Sem.run_bind, Sem.run_map, Result.andThen, Sem.run_pure]
  erw [q1]

/-! ## functions -/
theorem setAll_get : ∀ (vs : List AVal) (p : Pos) (tm : PT AVal) (q : Pos), (setAll p vs tm).get q = if p.toNat ≤ q.toNat ∧ q.toNat < p.toNat + vs.length then vs[q.toNat - p.toNat]? else tm.get q
  | [], p, tm, q => by simp [setAll]; omega
  | v :: vs, p, tm, q => by
    simp only [setAll]
    rw [setAll_get vs p.succ _ q, Pos.toNat_succ, PT.get_set]
    by_cases e : q = p
    · subst e; simp; intros; omega
    · have hne : q.toNat ≠ p.toNat := fun h => e (Pos.toNat_inj h)
      rw [if_neg e]
      by_cases h1 : p.toNat ≤ q.toNat ∧ q.toNat < p.toNat + (v :: vs).length
      · rw [if_pos (by simp at h1; omega), if_pos h1]
        rw [show q.toNat - p.toNat = (q.toNat - (p.toNat + 1)) + 1 by omega]
        simp
      · rw [if_neg (by simp at h1; omega), if_neg h1]
theorem TR.args {args : List AVal} {vs : Array Value} (ha : VRs ρ β args vs.toList) (n : Nat) : TR ρ β (setAll .h args .lf) (vs ++ Array.replicate n undef) := by
  intro p
  have hl := ha.length
  simp only [evO, setAll_get]
  simp only [Pos.toNat, Nat.zero_add, Nat.zero_le, true_and, Nat.sub_zero, PT.get_lf]
  simp only [Array.getD_eq_getD_getElem?]
  by_cases hp : p.toNat < args.length
  · rw [if_pos hp]
    obtain ⟨y, q1, q2⟩ := ha.get p.toNat args[p.toNat] (by simp)
    simp only [List.getElem?_eq_getElem hp]
    rw [Array.getElem?_append_left (by simp at hl; omega)]
    simp at q1
    rw [q1]; exact q2
  · rw [if_neg hp]
    rw [Array.getElem?_append_right (by simp at hl; omega)]
    have : ((Array.replicate n undef)[p.toNat - vs.size]?).getD undef = undef := by
      simp [Array.getElem?_replicate]
      split <;> rfl
    rw [this]; exact VR.undef ρ
theorem fn_run (hE : EnvOk P ρ E) (hc : CallSound P ρ call) (hdr : DrawSound P ρ E call) (fuel : Nat) {f : FuncId} {fn : Func} {cc : Code} {c : ACode} {rs : List ARes} (hf : P.funcs[f]? = some fn) (hb : fn.body = some cc)
    (hcc : cCode P fn.ntmps cc = some c) (hrs : cRes P fn.results.toList = some rs) {args : List AVal} {v : AVal} (he : runFn rs (exec E call fuel none c (setAll .h args .lf) [] h) = .ok v h')
    (hs : St P ρ β h w) {vs : Array Value} (ha : VRs ρ β args vs.toList) : LeaveOk P ρ β h w f vs v h' := by
  intro cs
  let b : Frame := { (default : Frame) with fn := f, kind := .normal, roundOf := none }
  have henter : Frame.enter P f vs .normal = b.atR { tmps := vs ++ Array.replicate (fn.ntmps - vs.size) undef, defers := [] } [.code cc] := by
    simp [Frame.enter, Frame.atR, hf, hb, b]
  rw [henter]
  cases hr : exec E call fuel none c (setAll .h args .lf) [] h with
  | fail => rw [hr] at he; simp [runFn] at he
  | ok e tm₁ ds₁ h₁ =>
    rw [hr] at he
    obtain ⟨β₁, a₁, w₁, q1, q2, q3, q4, q5, q6⟩ := exec_run hE hc hdr fuel none cc c hcc β _ tm₁ [] ds₁ h h₁ w { tmps := vs ++ Array.replicate (fn.ntmps - vs.size) undef, defers := [] } e b rfl hs (TR.args ha _) rfl (by simp; omega) hr [] cs
    have leave : ∀ todo : List Item, Steps P (lone (b.atR { tmps := vs ++ Array.replicate (fn.ntmps - vs.size) undef, defers := [] } [.code cc]) cs w) (lone { b.atR a₁ todo with mode := .returning } cs w₁) → retOf rs tm₁ ds₁ h₁ = .ok v h' →
        ∃ β' v' w' fr, VR ρ β' v v' ∧ St P ρ β' h' w' ∧ Ext β β' h h' w w' ∧ Steps P (lone (b.atR { tmps := vs ++ Array.replicate (fn.ntmps - vs.size) undef, defers := [] } [.code cc]) cs w) (lone fr cs w') ∧ fr.fn = f ∧ fr.leaving P w' (.returned v') := by
      intro todo hst hret
      unfold retOf at hret
      cases htk : takeD ds₁ h₁ with
      | none => rw [htk] at hret; simp at hret
      | some h₂ =>
        rw [htk] at hret
        simp only at hret
        cases hra : resAll tm₁ h₂ rs with
        | none => rw [hra] at hret; simp at hret
        | some vs₂ =>
          rw [hra] at hret
          simp only [ORes.ok.injEq] at hret
          obtain ⟨rfl, rfl⟩ := hret
          obtain ⟨w₂, r1, r2, r3⟩ := takeD_run (fr := { b.atR a₁ todo with mode := .returning }) (cs := cs) rfl ds₁ a₁.defers β₁ h₁ w₁ rfl q3 q1 htk
          obtain ⟨v', s1, s2⟩ := results_run q2 r1.hr hrs hra
          exact ⟨β₁, v', w₂, _, s2, r1, q5.trans r2, hst.trans r3, rfl, rfl, rfl, rfl, fn, hf, s1⟩
    cases e with
    | normal => exact leave [] (Steps.trans q6 (.one (stepR_end rfl))) he
    | ret =>
      obtain ⟨kk, q6⟩ := q6
      exact leave (.code .ret :: kk) (q6.trans (.one (stepR_ret rfl))) he
    | exit id => simp [runFn] at he

/-! ## rounds -/
theorem setPs_rel : ∀ (ps : List Nat) (args : List AVal) (vs : List Value) (tm : PT AVal) (tmps : Array Value), (∀ p ∈ ps, p < N) → N ≤ tmps.size → VRs ρ β args vs → args.length = ps.length → TR ρ β tm tmps →
    TR ρ β (setPs (ps.map Pos.ofNat) args tm) ((ps.zip vs).foldl (fun tmps (t, a) => tmps.setIfInBounds t a) tmps) ∧ ((ps.zip vs).foldl (fun tmps (t, a) => tmps.setIfInBounds t a) tmps).size = tmps.size
  | [], args, vs, tm, tmps, _, _, ha, hl, ht => by
    simp at hl; subst hl
    exact ⟨by simpa [setPs] using ht, by simp⟩
  | p :: ps, args, vs, tm, tmps, hp, hN, ha, hl, ht => by
    cases args with
    | nil => simp at hl
    | cons x xs =>
      obtain ⟨y, ys, rfl, g1, g2⟩ := VRs.cons_inv ha
      have h1 := TR.put ht (d := some p) (by simpa [dstOk, Nat.blt_eq] using hp p (by simp)) hN g1 []
      simp only [Option.map, putT, Act.put] at h1
      have := setPs_rel ps xs ys (tm.set (.ofNat p) x) (tmps.setIfInBounds p y) (fun q hq => hp q (by simp [hq])) (by simpa using hN) g2 (by simpa using hl) h1
      simp only [List.map_cons, setPs, List.zip_cons_cons, List.foldl_cons]
      exact ⟨this.1, by rw [this.2]; simp⟩
theorem round_run (hE : EnvOk P ρ E) (hc : CallSound P ρ call) (hdr : DrawSound P ρ E call) (fuel : Nat) {l : Pos} {args : List AVal} {v : AVal} (he : roundR E call fuel l args h = .ok v h') (hs : St P ρ β h w)
    {vs : Array Value} {i : BInfo} (ha : VRs ρ β args vs.toList) (hl : β l = some i) : CallOk P ρ β h w (Instr.yield i.cb vs) v h' := by
  unfold roundR at he
  split at he
  · rename_i st pd t ps as bd hg
    split at he
    · simp at he
    · rename_i hlen
      have hlen := Nat.eq_of_beq_eq_true hlen
      rw [lenL_eq, lenP_eq] at hlen
      obtain ⟨c, g1, g2⟩ := hs.hr.rel _ _ _ hl hg rfl
      obtain ⟨L, rfl, g3, g4, g5, g6, N, g7, g8, g9, g10⟩ := g2
      simp only at g1 g3 g4 g5 g6 g9 g10
      have hsz := ha.length
      have hy := run_yield (P := P) g1 (args := vs) (by rw [g6] at hlen; simp at hlen hsz; omega)
      rw [g6] at he
      have hps := setPs_rel (N := N) L.params.toList args vs.toList t L.tmps g8 g7 ha (by rw [g6] at hlen; simpa using hlen) g5
      have hfold : (L.params.zip vs).foldl (fun tmps (t, a) => tmps.setIfInBounds t a) L.tmps = (L.params.toList.zip vs.toList).foldl (fun tmps (t, a) => tmps.setIfInBounds t a) L.tmps := by
        rw [← Array.foldl_toList, Array.toList_zip]
      rw [hfold] at hy
      have hNz : N ≤ ((L.params.toList.zip vs.toList).foldl (fun tmps (t, a) => tmps.setIfInBounds t a) L.tmps).size := by rw [hps.2]; exact g7
      refine ⟨_, _, hy, rfl, fun cf cs => ?_⟩
      let b : Frame := { (default : Frame) with fn := L.fn, kind := .normal, roundOf := some i.cb }
      have hb0 : ∀ tm0, Frame.round i.cb L.fn tm0 L.assign L.body .normal = b.atR { tmps := tm0, defers := [] } [.code L.assign, .beginRound, .code L.body] := by
        intro tm0; simp [Frame.round, Frame.atR, b]
      rw [hb0]
      split at he
      · rename_i tm₁ ds₁ h₁ hx
        obtain ⟨β₁, a₁, w₁, q1, q2, q3, q4, q5, q6⟩ := exec_run hE hc hdr fuel (some l) L.assign as g9 β _ tm₁ [] ds₁ h h₁ w { tmps := (L.params.toList.zip vs.toList).foldl (fun tmps (t, a) => tmps.setIfInBounds t a) L.tmps, defers := [] } .normal b ⟨i, hl, rfl⟩ hs hps.1 rfl hNz hx [.beginRound, .code L.body] (cf :: cs)
        unfold beginRound at he
        split at he
        · simp at he
        · rename_i h₂ hbr
          split at hbr
          · rename_i pd₁ t₁ ps₁ as₁ bd₁ hg₁
            simp only [Option.some.injEq] at hbr; subst hbr
            have hl₁ := q5.le _ _ hl
            obtain ⟨c, u1, u2⟩ := q1.hr.rel _ _ _ hl₁ hg₁ rfl
            obtain ⟨L₁, rfl, u3, u4, u5⟩ := u2
            simp only [LStR] at u1 u3 u4 u5
            have hlt := q1.hr.lt _ _ hl₁
            have hbegin := run_beginRound (P := P) u1 u3
            obtain ⟨x1, x2, x3⟩ := upd_block q1.hr q1.wf hl₁ hg₁ rfl (o' := .loop ⟨.busy, pd₁, t₁, ps₁, as₁, bd₁⟩) (w' := w₁.putObj i.cb (.loop { L₁ with state := .busy })) (c' := .loop { L₁ with state := .busy })
              (World.putObj_heap_same hlt) (by simp) (fun k hk => World.putObj_heap_other hk) ⟨_, rfl, rfl, u4, u5⟩ ⟨rfl, rfl, rfl⟩
            have s2 := q1.step x1 x2 x3
            split at he
            · rename_i e tm₃ ds₃ h₃ hx₃
              obtain ⟨β₃, a₃, w₃, r1, r2, r3, r4, r5, r6⟩ := exec_run hE hc hdr fuel (some l) L.body bd g10 β₁ tm₁ tm₃ ds₁ ds₃ _ h₃ _ a₁ e b ⟨i, hl₁, rfl⟩ s2 q2 q3 q4 hx₃ [] (cf :: cs)
              have hl₃ := r5.le _ _ hl₁
              unfold endRound at he
              split at he
              · rename_i st₃ pd₃ t₃ ps₃ as₃ bd₃ hg₃
                obtain ⟨c, y1, y2⟩ := r1.hr.rel _ _ _ hl₃ hg₃ rfl
                obtain ⟨L₃, rfl, y3, y4, y5⟩ := y2
                simp only at y1 y3 y4 y5
                have hlt₃ := r1.hr.lt _ _ hl₃
                have fin : ∀ (jump : Option Code) (st' : LSt), JumpR e jump → LStR st' (if jump.isNone then .ready else .done) → v = .bool jump.isNone → h' = h₃.set l (.loop ⟨st', e, t₃, ps₃, as₃, bd₃⟩) →
                    (∀ w', (Instr.endRound i.cb jump).run P w₃ = .ok (.bool jump.isNone) w' →
                      Steps P (lone (b.atR { tmps := (L.params.toList.zip vs.toList).foldl (fun tmps (t, a) => tmps.setIfInBounds t a) L.tmps, defers := [] } [.code L.assign, .beginRound, .code L.body]) (cf :: cs) w) (lone (cf.finish (.bool jump.isNone)) cs w')) →
                    ∃ β' v' w', VR ρ β' v v' ∧ St P ρ β' h' w' ∧ Ext β β' h h' w w' ∧
                      Steps P (lone (b.atR { tmps := (L.params.toList.zip vs.toList).foldl (fun tmps (t, a) => tmps.setIfInBounds t a) L.tmps, defers := [] } [.code L.assign, .beginRound, .code L.body]) (cf :: cs) w) (lone (cf.finish v') cs w') := by
                  rintro jump st' hj hst' rfl rfl hsteps
                  have hend := run_endRound (P := P) jump y1
                  obtain ⟨z1, z2, z3⟩ := upd_block r1.hr r1.wf hl₃ hg₃ rfl (o' := .loop ⟨st', e, t₃, ps₃, as₃, bd₃⟩) (w' := w₃.putObj i.cb (.loop { L₃ with state := if jump.isNone then .ready else .done, pending := jump }))
                    (c' := .loop { L₃ with state := if jump.isNone then .ready else .done, pending := jump })
                    (World.putObj_heap_same hlt₃) (by simp) (fun k hk => World.putObj_heap_other hk) ⟨_, rfl, hst', hj, y5⟩ ⟨rfl, rfl, rfl⟩
                  exact ⟨β₃, .bool jump.isNone, _, by simp [VR], r1.step z1 z2 z3, q5.trans (x3.trans (r5.trans z3)), hsteps _ hend⟩
                have front := Steps.trans q6 (.one (stepR_beginRound (b := b) (a := a₁) (k := [.code L.body]) (cs := cf :: cs) rfl hbegin))
                cases e with
                | normal =>
                  simp only [ORes.ok.injEq] at he
                  obtain ⟨rfl, rfl⟩ := he
                  refine fin none .ready rfl rfl rfl rfl (fun w' hend => ?_)
                  exact front.trans (Steps.trans r6 (.one (stepR_round_end rfl rfl hend)))
                | exit id =>
                  simp only [ORes.ok.injEq] at he
                  obtain ⟨rfl, rfl⟩ := he
                  refine fin (some (.exit id)) .done rfl rfl rfl rfl (fun w' hend => ?_)
                  obtain ⟨kk, k1, k2⟩ := r6
                  exact front.trans (k2.trans (.one (stepR_round_exit rfl rfl (by rw [k1]; rfl) hend)))
                | ret =>
                  simp only [ORes.ok.injEq] at he
                  obtain ⟨rfl, rfl⟩ := he
                  refine fin (some .ret) .done rfl rfl rfl rfl (fun w' hend => ?_)
                  obtain ⟨kk, k2⟩ := r6
                  exact front.trans (k2.trans (.one (stepR_round_ret rfl rfl hend)))
              · simp at he
            · simp at he
          · simp at hbr
      · simp at he
  · simp at he

/-! ## the whole -/
/-- an intrinsic answers for its function -/
def IntrOk (P : Program) (ρ : Nat → Value) (f : FuncId) (k : List AVal → AHeap → ORes) : Prop :=
  ∀ args h v h', k args h = .ok v h' → ∀ β w, St P ρ β h w → ∀ vs : Array Value, VRs ρ β args vs.toList → LeaveOk P ρ β h w f vs v h'
def FnsOk (P : Program) (ρ : Nat → Value) (E : Env) : Prop := ∀ f x, E.fns.get f = some x → match x with
  | .code c rs => cFunc P f.toNat = some (.code c rs)
  | .intr k => HasBody P f.toNat ∧ IntrOk P ρ f.toNat k
theorem cFunc_inv {f : FuncId} {c : ACode} {rs : List ARes} (hc : cFunc P f = some (.code c rs)) : ∃ fn cc, P.funcs[f]? = some fn ∧ fn.name ≠ "runtime.NumGoroutine" ∧ fn.body = some cc ∧ cCode P fn.ntmps cc = some c ∧ cRes P fn.results.toList = some rs := by
  unfold cFunc at hc
  split at hc
  · simp at hc
  · rename_i fn hf
    split at hc
    · simp at hc
    · rename_i hn
      split at hc
      · simp at hc
      · rename_i cc hb
        split at hc
        · rename_i c' rs' h1 h2
          simp only [Option.some.injEq, AFunc.code.injEq] at hc
          obtain ⟨rfl, rfl⟩ := hc
          exact ⟨fn, cc, hf, hn, hb, h1, h2⟩
        · simp at hc
theorem call_sound (hE : EnvOk P ρ E) (hF : FnsOk P ρ E) (hdr : ∀ call, CallSound P ρ call → DrawSound P ρ E call) (fuel : Nat) : ∀ n, CallSound P ρ (callA E fuel n) := by
  intro n
  induction n with
  | zero => intro g h v h' he; simp [callA] at he
  | succ n ih =>
    intro g h v h' he β w hs
    simp only [callA, goalRun] at he
    cases g with
    | fn f args =>
      simp only at he
      cases hx : E.fns.get f with
      | none => rw [hx] at he; simp at he
      | some x =>
        rw [hx] at he
        have hf := hF f x hx
        cases x with
        | code c rs =>
          obtain ⟨fn, cc, h1, h2, h3, h4, h5⟩ := cFunc_inv hf
          exact ⟨⟨fn, cc, h1, h2, h3⟩, fun vs ha => fn_run hE ih (hdr _ ih) fuel h1 h3 h4 h5 he hs ha⟩
        | intr k => exact ⟨hf.1, fun vs ha => hf.2 args h v h' he β w hs vs ha⟩
    | yield l args => exact fun vs i ha hl => round_run hE ih (hdr _ ih) fuel he hs ha hl
end
end Go.AI
