/- Part of a proof for one law: an interpreter over what is known of values, and that it is right. -/
import Derived.Test.YtcedhpnmhahgmaaAiS5
set_option linter.unusedSimpArgs false
set_option linter.unusedVariables false
set_option linter.constructorNameAsVariable false
namespace Go.AI
variable (P : Program) (ρ : Nat → Value)
section
variable {P} {ρ} {E : Env} (hE : EnvOk P ρ E) {β : Bm} {w : World} {tm : PT AVal} {tmps : Array Value}

theorem run_val {s : Sem Value} {v : Value} {w w' : World} (h : s.run P w = .ok v w') : (do pure (Next.value (← s)) : Sem Next).run P w = .ok (.value v) w' := by simp [h]
theorem POK.ofOpt {s : Sem Next} {r : Option AVal} (h : ∀ x, r = some x → ∃ v', s.run P w = .ok (.value v') w ∧ VR ρ β x v') : POK P ρ β w s (ofOpt r) := by
  cases r with
  | none => trivial
  | some x => exact h x rfl
theorem rep_rel {z : List AVal} {zc : List Value} (hz : VRs ρ β z zc) : ∀ n, VRs ρ β (rep z n) ((List.replicate n zc).flatten)
  | 0 => by simp [rep, VRs]
  | n + 1 => by simp only [rep, List.replicate_succ, List.flatten_cons]; exact hz.append (rep_rel hz n)
theorem flatten_rep_get (zc : List Value) : ∀ (n i : Nat), i < n * zc.length → ((List.replicate n zc).flatten)[i]? = zc[i % zc.length]?
  | 0, i, h => by simp at h
  | n + 1, i, h => by
    simp only [List.replicate_succ, List.flatten_cons]
    by_cases hi : i < zc.length
    · rw [List.getElem?_append_left hi, Nat.mod_eq_of_lt hi]
    · have hz : 0 < zc.length := by
        rcases Nat.eq_zero_or_pos zc.length with e | e
        · rw [e] at h; simp at h
        · exact e
      rw [List.getElem?_append_right (by omega), flatten_rep_get zc n (i - zc.length) (by rw [Nat.succ_mul] at h; omega)]
      congr 1
      exact (Nat.mod_eq_sub_mod (by omega)).symm
theorem range_rep (zc : Array Value) (len : Nat) (hz : zc.size ≠ 0) : ((Array.range (len * zc.size)).map (zc[· % zc.size]!)).toList = (List.replicate len zc.toList).flatten := by
  apply List.ext_getElem?
  intro i
  by_cases hi : i < len * zc.size
  · rw [flatten_rep_get zc.toList len i (by simpa using hi)]
    have h2 : i % zc.size < zc.size := Nat.mod_lt _ (by omega)
    simp [hi, h2]
  · rw [List.getElem?_eq_none (by simp; omega), List.getElem?_eq_none (by simp; omega)]
theorem flatten_rep_mem {zc : List Value} {n : Nat} {y : Value} (h : y ∈ (List.replicate n zc).flatten) : y ∈ zc := by
  obtain ⟨l, hl, hy⟩ := List.mem_flatten.1 h
  rw [(List.mem_replicate.1 hl).2] at hy; exact hy
theorem placesT_run : ∀ {fs : List Field} {pl : List (Nat × Nat)}, placesT P fs = some pl → ∀ w : World, (fs.mapM fun (f : Field) => (do pure (f.offset, ← sizeOf f.type) : Sem (Nat × Nat))).run P w = .ok pl w
  | [], pl, h, w => by simp [placesT] at h; subst h; simp
  | f :: fs, pl, h, w => by
    simp only [placesT] at h
    split at h
    · simp at h
    · rename_i n hn
      cases hr : placesT P fs with
      | none => simp [hr] at h
      | some pl' =>
        simp [hr] at h; subst h
        simp only [List.mapM_cons, Sem.run_bind, sizeT_run P hn w, Result.andThen_ok, Sem.run_pure, placesT_run hr w]
theorem oFld_rel {x : AVal} {vx : Value} (hx : VR ρ β x vx) {t : TypeId} {off : Nat} {agg : Option Nat}
    (hag : match agg with | some n => isAggT P t = some true ∧ sizeT P t = some n | none => isAggT P t = some false) (w : World) :
    ∀ v, oFld x off agg = .val v → ∃ cs, vx = .agg cs ∧ ∃ v', (part t cs off).run P w = .ok v' w ∧ VR ρ β v v' := by
  intro v h
  unfold oFld at h
  split at h
  · rename_i cs
    simp only [VR] at hx
    obtain ⟨cs', rfl, hr, h1⟩ := hx
    refine ⟨cs', rfl, ?_⟩
    cases agg with
    | some n =>
      simp only at hag h
      simp only [PRes.val.injEq] at h; subst h
      refine ⟨.agg (cs'.extract off (off + n)), by simp [part, isAgg_run P hag.1 w, sizeT_run P hag.2 w], ?_⟩
      simp only [VR, takeL_eq, dropL_eq]
      refine ⟨_, rfl, ?_, ?_⟩
      · have : (cs'.extract off (off + n)).toList = (cs'.toList.drop off).take n := by
          simp [List.extract_eq_take_drop]
        rw [this]; exact (hr.drop off).take n
      · intro y hy
        have : y ∈ (cs'.toList.drop off).take n := by simpa [List.extract_eq_take_drop] using hy
        exact h1 y (List.mem_of_mem_drop (List.mem_of_mem_take this))
    | none =>
      simp only at hag h
      rw [nth_eq] at h
      cases hn : cs[off]? with
      | none => rw [hn] at h; simp [ofOpt] at h
      | some x =>
        rw [hn] at h; simp [ofOpt] at h; subst h
        obtain ⟨y, hy, hry⟩ := hr.get off x hn
        refine ⟨y, ?_, hry⟩
        have : cs'[off]? = some y := by simpa using hy
        simp [part, isAgg_run P hag w, this]
  · simp at h
theorem maxA_run {isMax : Bool} : ∀ (xs : List AVal) (x : AVal) {v : AVal}, maxA isMax x xs = .val v → ∀ {vx : Value} {vs : List Value}, VR ρ β x vx → VRs ρ β xs vs →
    ∀ w : World, ∃ v', (vs.foldlM (if isMax then Builtin.max2 else Builtin.min2) vx).run P w = .ok v' w ∧ VR ρ β v v'
  | [], x, v, h, vx, vs, hx, hv, w => by
    simp [maxA] at h; subst h
    rw [VRs.nil_inv hv]
    exact ⟨vx, by simp, hx⟩
  | y :: xs, x, v, h, vx, vs, hx, hv, w => by
    obtain ⟨vy, vs, rfl, hy, hvs⟩ := VRs.cons_inv hv
    simp only [maxA] at h
    split at h
    · rename_i k a
      split at h
      · rename_i k' b
        split at h
        · rename_i hk
          have ek := eqK_eq hk
          simp only [VR] at hx hy; subst hx hy
          subst ek
          have key : ((if isMax then Builtin.max2 else Builtin.min2) (.int k a) (.int k b)).run P w = .ok (.int k (pickI isMax a b)) w := by
            cases isMax with
            | true =>
              simp only [if_true, Builtin.max2, pickI, ltI_iff]
              by_cases e : a < b
              · simp [e]
              · simp [e]
            | false =>
              simp only [Bool.false_eq_true, if_false, Builtin.min2, pickI, ltI_iff]
              by_cases e : b < a
              · simp [e]
              · simp [e]
          obtain ⟨v', h1, h2⟩ := maxA_run xs _ h (vx := .int k (pickI isMax a b)) (by simp [VR]) hvs w
          exact ⟨v', by simp only [List.foldlM_cons, Sem.run_bind, key, Result.andThen_ok, h1], h2⟩
        · simp at h
      · simp at h
    · simp at h

def okV : Value → Bool
  | .float .. | .complex .. | .chan _ | .iface .. | .nilIface => false
  | _ => true
theorem okV_of (hs : SymOk ρ) {x : AVal} {v : Value} (h : VR ρ β x v) : okV v = true := by
  cases x <;> simp only [VR] at h
  case bool => subst h; rfl
  case int => subst h; rfl
  case str => subst h; rfl
  case pnil => subst h; rfl
  case ptr => obtain ⟨_, _, rfl⟩ := h; rfl
  case snil => subst h; rfl
  case slice => obtain ⟨_, _, _, _, rfl, _⟩ := h; rfl
  case mnil => subst h; rfl
  case map => obtain ⟨_, _, rfl⟩ := h; rfl
  case fn => obtain ⟨_, _, rfl, _⟩ := h; rfl
  case yield => obtain ⟨_, _, rfl⟩ := h; rfl
  case fnil => subst h; rfl
  case agg => obtain ⟨_, rfl, _⟩ := h; rfl
  case tuple => obtain ⟨_, rfl, _⟩ := h; rfl
  case sym i => obtain ⟨k, n, e⟩ := hs i; rw [h, e]; rfl
theorem binOp_eql_plain (t : TypeId) (vx vy : Value) (hx : okV vx = true) (hi : ∀ k a k' a', ¬ (vx = .int k a ∧ vy = .int k' a')) (hs : ∀ s, vx ≠ .string s) :
    Go.binOp .eql t vx vy = (do pure (.bool (← Op.equal t vx vy))) ∧ Go.binOp .neq t vx vy = (do pure (.bool (!(← Op.equal t vx vy)))) := by
  cases vx <;> simp [okV] at hx
  case string s => exact absurd rfl (hs s)
  case int k a => cases vy <;> first | (exact ⟨rfl, rfl⟩) | exact absurd ⟨rfl, rfl⟩ (hi _ _ _ _)
  all_goals cases vy <;> exact ⟨rfl, rfl⟩
include hE
theorem oEq_run {neg : Bool} {t : TypeId} {et : ET} (hg : P.eqGuardType P.depth t = false) (hl : leavesT P t = some et) (hm : sizeT P t ≠ some 0) {x y : AVal} {vx vy : Value} (hx : VR ρ β x vx) (hy : VR ρ β y vy)
    (X Y : Operand) (w : World) : ∀ v, oEq E neg et x y = .val v →
    ∃ v', (do eqGuard (if neg then .neq else .eql) t X Y vx vy; Go.binOp (if neg then .neq else .eql) t vx vy).run P w = .ok v' w ∧ VR ρ β v v' := by
  intro v h
  unfold oEq at h
  split at h
  · rename_i b hb
    simp only [PRes.val.injEq] at h; subst h
    have he := eqA_run hE hl hm hb hx hy w
    have hnn : vx ≠ .nilIface := by
      intro e; subst e
      cases x <;> simp only [VR] at hx <;> (try (first | (cases hx; done) | (obtain ⟨_, _, h⟩ := hx; cases h; done) | (obtain ⟨_, h, _⟩ := hx; cases h; done) | (obtain ⟨_, _, h, _⟩ := hx; cases h; done) | (obtain ⟨_, _, _, _, h, _⟩ := hx; cases h; done)))
      case sym i => obtain ⟨k, n, e⟩ := hE.sym i; rw [e] at hx; cases hx
    have hguard : ∀ op, (eqGuard op t X Y vx vy).run P w = .ok () w := by
      intro op
      have hok := okV_of hE.sym hx
      cases vx <;> simp [okV] at hok
      case agg => cases vy <;> simp [eqGuard, hg]
      all_goals simp [eqGuard]
    have hbin : ∀ op, (op = .eql ∨ op = .neq) → (Go.binOp op t vx vy).run P w = .ok (.bool (if op = .neq then !b else b)) w := by
      intro op hop
      by_cases hii : ∃ k a k' a', vx = .int k a ∧ vy = .int k' a'
      · obtain ⟨k, a, k', a', rfl, rfl⟩ := hii
        -- the row of ints
        have : k = k' ∧ b = (a == a') := by
          unfold Op.equal at he
          unfold leavesT at hl
          split at hl
          · cases hlf : leavesF P 12 t 0 with
            | none => simp [hlf] at hl
            | some l =>
              simp [hlf] at hl; subst hl
              simp only [eqA] at hb
              split at hb
              · split at hb
                · simp only [VR] at hx; obtain ⟨_, hx, _⟩ := hx; cases hx
                · simp at hb
              · simp at hb
          · cases hc : cellT P t with
            | none => simp [hc] at hl
            | some c =>
              have hu : ∃ d, P.underlying t = some d := by
                unfold cellT at hc
                cases hu : P.underlying t with
                | none => simp [hu] at hc
                | some d => exact ⟨d, rfl⟩
              obtain ⟨d, hu⟩ := hu
              rw [show Op.maxDepth = 9999 + 1 from rfl] at he
              generalize 9999 = N at he
              simp only [Op.equalIn, Sem.run_bind, run_underlying hu, Result.andThen_ok] at he
              cases d <;> simp at he
              split at he
              · rename_i hk; simp at he; exact ⟨hk, by first | exact he.symm | exact he⟩
              · simp at he
          · simp at hl
        obtain ⟨rfl, rfl⟩ := this
        rcases hop with rfl | rfl
        · simp [Go.binOp, Op.intCmp]
        · simp [Go.binOp, Op.intCmp]; rfl
      · have hs : ∀ s, vx ≠ .string s := by
          rintro s rfl
          unfold leavesT at hl
          split at hl
          · cases hlf : leavesF P 12 t 0 with
            | none => simp [hlf] at hl
            | some l =>
              simp [hlf] at hl; subst hl
              simp only [eqA] at hb
              split at hb
              · split at hb
                · simp only [VR] at hx; obtain ⟨_, hx, _⟩ := hx; cases hx
                · simp at hb
              · simp at hb
          · cases hc : cellT P t with
            | none => simp [hc] at hl
            | some c =>
              simp [hc] at hl; subst hl
              simp only [eqA] at hb
              have he' := cellEq_run hE hc hb hx hy 0 (w := w)
              have hu : ∃ d, P.underlying t = some d ∧ d ≠ .string := by
                unfold cellT at hc
                cases hu : P.underlying t with
                | none => simp [hu] at hc
                | some d => exact ⟨d, rfl, by rintro rfl; simp [hu] at hc⟩
              obtain ⟨d, hu, hds⟩ := hu
              simp only [Op.equalIn, Sem.run_bind, run_underlying hu, Result.andThen_ok] at he'
              cases d <;> simp at he' hds <;> (cases vy <;> simp at he')
          · simp at hl
        have hno : (∀ k a k' a', ¬ (vx = .int k a ∧ vy = .int k' a')) := fun k a k' a' h => hii ⟨k, a, k', a', h.1, h.2⟩
        have hp := binOp_eql_plain t vx vy (okV_of hE.sym hx) hno (fun s e => hs s e)
        rcases hop with rfl | rfl
        · rw [hp.1]; simp [he]
        · rw [hp.2]; simp [he]
    cases neg with
    | true =>
      refine ⟨.bool (!b), ?_, by cases b <;> simp [VR]⟩
      simp only [if_true, Sem.run_bind, hguard, Result.andThen_ok, hbin .neq (.inr rfl)]
    | false =>
      refine ⟨.bool b, ?_, by simp [VR]⟩
      simp only [Bool.false_eq_true, if_false, Sem.run_bind, hguard, Result.andThen_ok, hbin .eql (.inl rfl)]
      simp
  · simp at h
end
end Go.AI
