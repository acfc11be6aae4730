/- Part of a proof for one law: an interpreter over what is known of values, and that it is right. -/
import Derived.Test.YtcedhpnmhahgmaaAiS13
set_option linter.unusedSimpArgs false
set_option linter.unusedVariables false
set_option linter.constructorNameAsVariable false
namespace Go.AI
variable (P : Program) (ρ : Nat → Value)
section
variable {P} {ρ} {E : Env} (hE : EnvOk P ρ E) {β β' : Bm} {h h' : AHeap} {w w' : World} {call : Goal → AHeap → ORes} {tm tm' : PT AVal} {tmps : Array Value} {N : Nat}

/-! ## guards, temporaries -/
theorem VR_bool (hs : SymOk ρ) {x : AVal} {b : Bool} (h : VR ρ β x (.bool b)) : x = .bool b := by
  cases x <;> simp [VR] at h
  · rw [h]
  · rename_i i
    obtain ⟨k, n, e⟩ := hs i
    rw [e] at h; cases h
theorem wanted_run (hs : SymOk ρ) (ht : TR ρ β tm tmps) {ops : Array Oper} {o : Oper} {g : Option (Pos × Bool)} (hg : cGuard ops o = some g) {b : Bool} (hw : wantedA tm g = some b) :
    Region.wanted o (yielded ops tmps) = b := by
  unfold cGuard at hg
  unfold Region.wanted
  cases ho : o.guard with
  | none =>
    simp [ho] at hg; subst hg
    simp [wantedA] at hw; subst hw; rfl
  | some jw =>
    obtain ⟨j, want⟩ := jw
    simp only [ho] at hg ⊢
    cases hd : (ops[j]?).bind (·.dst) with
    | none => simp [hd] at hg
    | some t =>
      simp [hd] at hg; subst hg
      have hv := ht (.ofNat t)
      simp only [Pos.toNat_ofNat] at hv
      unfold wantedA at hw
      simp only [evO] at hv
      have hy : yielded ops tmps j = match tmps[t]? with | some (.bool b) => some b | _ => none := by
        unfold yielded; rw [hd]; rfl
      cases hm : tm.get (.ofNat t) with
      | none =>
        simp [hm] at hw; subst hw
        simp only [hm, AVal.undef, VR] at hv
        obtain ⟨vs', e, hvs⟩ := hv
        rw [hy]
        have : ∀ c, tmps[t]? ≠ some (.bool c) := by
          intro c e'
          simp [Array.getD_eq_getD_getElem?, e'] at e
        split
        · rename_i c e'; exact absurd e' (this c)
        · simp
      | some x =>
        simp only [hm] at hw hv
        by_cases hb : ∃ c, x = .bool c
        · obtain ⟨c, rfl⟩ := hb
          simp only [VR] at hv
          have : tmps[t]? = some (.bool c) := by
            simp only [Array.getD_eq_getD_getElem?] at hv
            cases e : tmps[t]? with
            | none => simp [e, undef] at hv
            | some y => simp [e] at hv; rw [hv]
          rw [hy, this]
          cases want <;> cases c <;> simp at hw <;> subst hw <;> rfl
        · have hb' : b = false := by
            cases x <;> simp at hw
            · exact absurd ⟨_, rfl⟩ hb
            all_goals exact hw
          subst hb'
          rw [hy]
          split
          · rename_i c e'
            exfalso
            simp [Array.getD_eq_getD_getElem?, e'] at hv
            exact hb ⟨c, VR_bool hs hv⟩
          · simp
theorem TR.put (ht : TR ρ β tm tmps) {d : Option Nat} (hd : dstOk N d = true) (hN : N ≤ tmps.size) {v : AVal} {v' : Value} (hv : VR ρ β v v') (ds : List Deferred) :
    TR ρ β (putT (d.map Pos.ofNat) v tm) ((Act.mk tmps ds).put d v').tmps := by
  cases d with
  | none => exact ht
  | some d =>
    have hd : d < N := by simpa [dstOk, Nat.blt_eq] using hd
    intro p
    simp only [Option.map, putT, evO, PT.get_set, Act.put]
    by_cases e : p = .ofNat d
    · subst e
      simp only [if_true]
      simp [Array.getD_eq_getD_getElem?, Array.getElem?_setIfInBounds, show d < tmps.size by omega]
      exact hv
    · rw [if_neg e]
      have hp := ht p
      simp only [evO] at hp
      rw [Array.getD_eq_getD_getElem?, Array.getElem?_setIfInBounds_ne, ← Array.getD_eq_getD_getElem?]
      · exact hp
      · intro e'; apply e; rw [e']; exact (Pos.ofNat_toNat p).symm
theorem Act.put_size (a : Act) (d : Option Nat) (v : Value) : (a.put d v).tmps.size = a.tmps.size := by cases d <;> simp [Act.put]
theorem Act.put_defers (a : Act) (d : Option Nat) (v : Value) : (a.put d v).defers = a.defers := by cases d <;> simp [Act.put]

theorem cEq_not_c {neg : Bool} {t : TypeId} {x y : Operand} {f : AOpd} {as : List AOpd} : cEq P neg t x y ≠ some (.c f as) := by
  intro h
  unfold cEq at h
  split at h
  · simp at h
  · split at h <;> simp at h
theorem cBuiltin_not_c {bi : Builtin} {l : List AOpd} {t0 t1 : Option TypeDesc} {f : AOpd} {as : List AOpd} : cBuiltin P bi l t0 t1 ≠ some (.c f as) := by
  intro h
  unfold cBuiltin at h
  repeat' split at h
  all_goals simp at h
theorem cOp_call {op : Op} {f : AOpd} {as : List AOpd} (h : cOp P op = some (.c f as)) :
    ∃ c fv, op = .call c ∧ c.callee = .value fv ∧ cOpd fv = some f ∧ cOpds c.args.toList = some as := by
  cases op
  case call c =>
    obtain ⟨callee, args, ats⟩ := c
    simp only [cOp] at h
    split at h
    · simp at h
    · rename_i as' hs
      split at h
      · exact absurd h cBuiltin_not_c
      · rename_i fv
        cases hf : cOpd fv <;> simp [hf] at h
        obtain ⟨rfl, rfl⟩ := h
        exact ⟨_, fv, rfl, rfl, hf, hs⟩
      · simp at h
  case binOp op t x y z =>
    simp only [cOp] at h
    split at h
    · exact absurd h cEq_not_c
    · exact absurd h cEq_not_c
    · split at h <;> simp at h
  all_goals
    exfalso
    simp only [cOp] at h
    try (repeat' split at h)
    all_goals first | contradiction | simp at h
/-- one operation: where it goes -/
def InsDoes (P : Program) (ρ : Nat → Value) (b : Frame) (N : Nat) (m : Machine) (β : Bm) (h : AHeap) (w : World) (a : Act) (ops : Array Oper) (rest : List Nat) (k : List Item) (cs : List Frame) (tm' : PT AVal) (h' : AHeap) : Prop :=
  ∃ β' a' w', St P ρ β' h' w' ∧ TR ρ β' tm' a'.tmps ∧ a'.defers = a.defers ∧ a'.tmps.size = a.tmps.size ∧ Ext β β' h h' w w' ∧ Steps P m (lone (b.atR a' (.inRegion ops rest :: k)) cs w')
theorem ins_run (hE : EnvOk P ρ E) (hc : CallSound P ρ call) {b : Frame} {a : Act} {ops : Array Oper} {i : Nat} {o : Oper} (ho : ops[i]? = some o) {x : AIns} (hx : cIns P N ops o = some x)
    (hs : St P ρ β h w) (ht : TR ρ β tm a.tmps) (hN : N ≤ a.tmps.size) (he : insRun E call tm h x = .ok tm' h') (rest : List Nat) (k : List Item) (cs : List Frame) :
    InsDoes P ρ b N (lone (b.atR a (.inRegion ops (i :: rest) :: k)) cs w) β h w a ops rest k cs tm' h' := by
  have hsy := hE.sym
  unfold cIns at hx
  simp only at hx
  split at hx
  · simp at hx
  rename_i hd
  have hd : dstOk N o.dst = true := by simpa using hd
  split at hx
  · simp at hx
  rename_i g hg
  have skip : ∀ {r : IRes}, wantedA tm g = some false → guardI (o.dst.map Pos.ofNat) g tm h r = .ok tm' h' →
      InsDoes P ρ b N (lone (b.atR a (.inRegion ops (i :: rest) :: k)) cs w) β h w a ops rest k cs tm' h' := by
    intro r hw hr
    simp only [guardI, hw, IRes.ok.injEq] at hr
    obtain ⟨rfl, rfl⟩ := hr
    have hwt := wanted_run hsy ht hg hw
    refine ⟨β, a.put o.dst undef, w, hs, TR.put ht hd hN (VR.undef ρ) a.defers, Act.put_defers .., Act.put_size .., .refl .., .one ?_⟩
    have := stepR_op_skip (P := P) (b := b) (a := a) (k := k) (cs := cs) (w := w) (ops := ops) (i := i) (rest := rest) (by simp [ho, hwt])
    simpa [ho] using this
  cases hop : cOp P o.op with
  | none =>
    simp [hop] at hx; subst hx
    simp only [insRun] at he
    cases hw : wantedA tm g with
    | none => simp [guardI, hw] at he
    | some t =>
      cases t with
      | false => exact skip hw he
      | true => simp [guardI, hw, pRun, bindP] at he
  | some q =>
    have hnd : ∀ c, o.op ≠ .defer c := by
      intro c e; rw [e] at hop; simp [cOp] at hop
    have hsem : o.semAt b.roundOf a.eval = execOp (evC a.tmps) o := by rw [Oper.semAt_eq _ _ _ hnd, Act_eval]
    have wok : ∀ {v : AVal}, wantedA tm g = some true → WOK P ρ β h w (execOp (evC a.tmps) o) v h' → tm' = putT (o.dst.map Pos.ofNat) v tm →
      InsDoes P ρ b N (lone (b.atR a (.inRegion ops (i :: rest) :: k)) cs w) β h w a ops rest k cs tm' h' := by
      rintro v hw ⟨β', v', w', n, q1, q2, q3, q4, q5, q6⟩ rfl
      have hwt := wanted_run hsy ht hg hw
      refine ⟨β', a.put o.dst v', w', hs.step q4 q5 q6, TR.put (TR.mono ρ q6.le ht) hd hN q3 a.defers, Act.put_defers .., Act.put_size .., q6, .one ?_⟩
      rcases q2 with rfl | ⟨rfl, rfl⟩
      · exact stepR_op_value ho hwt (by rw [hsem]; exact q1)
      · exact stepR_op_skipped ho hwt (by rw [hsem]; exact q1)
    cases q with
    | p op =>
      simp [hop] at hx; subst hx
      simp only [insRun] at he
      cases hw : wantedA tm g with
      | none => simp [guardI, hw] at he
      | some t =>
        cases t with
        | false => exact skip hw he
        | true =>
          simp only [guardI, hw] at he
          have := pure_sound hE ht o hop w
          cases hp : pRun E tm op <;> rw [hp] at he this <;> simp [bindP] at he
          · obtain ⟨rfl, rfl⟩ := he
            obtain ⟨v', q1, q2⟩ := this
            exact wok hw ⟨β, v', w, _, q1, .inl rfl, q2, hs.hr, hs.wf, .refl ..⟩ rfl
          · obtain ⟨rfl, rfl⟩ := he
            obtain ⟨c, mk, sz, q1, q2, q3⟩ := this
            have hlive := hs.freshNext
            obtain ⟨r1, r2, r3⟩ := new_block hs.hr hs.wf hlive (i := ⟨w.heap.size, 0, sz⟩) rfl (w' := { w with heap := w.heap.push c }) (c := c) (by simp) (by simp)
              (fun k hk => by simp [Array.getElem?_push_lt, hk]) (fun _ => ORel.mono P ρ (β.le_put hlive) q3) ⟨rfl, rfl, rfl⟩
            exact wok hw ⟨_, _, _, _, q1, .inl rfl, q2 _ _ (Bm.put_self ..), r1, r2, r3⟩ rfl
    | r op =>
      simp [hop] at hx; subst hx
      simp only [insRun] at he
      cases hw : wantedA tm g with
      | none => simp [guardI, hw] at he
      | some t =>
        cases t with
        | false => exact skip hw he
        | true =>
          simp only [guardI, hw] at he
          cases hp : rRun E tm h op <;> rw [hp] at he <;> simp [bindR] at he
          obtain ⟨rfl, rfl⟩ := he
          obtain ⟨v', q1, q2⟩ := read_sound hE ht hs.hr o hop hp
          exact wok hw ⟨β, v', w, _, q1, .inl rfl, q2, hs.hr, hs.wf, .refl ..⟩ rfl
    | h op =>
      simp [hop] at hx; subst hx
      simp only [insRun] at he
      cases hw : wantedA tm g with
      | none => simp [guardI, hw] at he
      | some t =>
        cases t with
        | false => exact skip hw he
        | true =>
          simp only [guardI, hw] at he
          cases hp : hRun E tm h op <;> rw [hp] at he <;> simp [bindO] at he
          obtain ⟨rfl, rfl⟩ := he
          exact wok hw (write_sound hE ht hs.hr hs.wf o hop hp (hs.fresh _)) rfl
    | c f args =>
      simp [hop] at hx; subst hx
      simp only [insRun] at he
      cases hw : wantedA tm g with
      | none => simp [guardI, hw] at he
      | some t =>
        cases t with
        | false => exact skip hw he
        | true =>
          simp only [guardI, hw] at he
          cases hp : callO call (evO tm f) (evs tm args) h <;> rw [hp] at he <;> simp [bindO] at he
          obtain ⟨rfl, rfl⟩ := he
          have hwt := wanted_run hsy ht hg hw
          have key : ∃ vf vs, VR ρ β (evO tm f) vf ∧ VRs ρ β (evs tm args) vs ∧ execOp (evC a.tmps) o = (do let d ← Deferred.ofValue vf vs.toArray; invoke d.target d.args) := by
              obtain ⟨cl, fv, e1, e2, e3, e4⟩ := cOp_call hop
              exact ⟨_, _, cOpd_rel ht e3, cOpds_rel ht e4, by
                have hm : (cl.args.toList.map (evC a.tmps)).toArray = cl.args.map (evC a.tmps) := by simp [← Array.toList_map]
                rw [hm]; simp [execOp, e1, resolve, e2]⟩
          obtain ⟨vf, vs, g1, g2, g3⟩ := key
          obtain ⟨nx, fr, q1, q2, q3⟩ := callO_run hc hs (vs := vs.toArray) g1 (by simpa using g2) hp
          obtain ⟨β', v', w', r1, r2, r3, r4⟩ := q3 (b.atR a (.inRegion ops (i :: rest) :: k)) cs
          have hf := Frame.finish_atR b a ops i rest k v'
          simp only [ho, Option.bind_some] at hf
          rw [hf] at r4
          exact ⟨β', a.put o.dst v', w', r2, TR.put (TR.mono ρ r3.le ht) hd hN r1 a.defers, Act.put_defers .., Act.put_size .., r3,
            .head (stepR_op_call ho hwt (by rw [hsem, g3]; exact q1) q2) r4⟩
end
end Go.AI
