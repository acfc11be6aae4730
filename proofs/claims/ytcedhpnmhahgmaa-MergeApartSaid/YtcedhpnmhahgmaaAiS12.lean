/- Part of a proof for one law: an interpreter over what is known of values, and that it is right. -/
import Derived.Test.YtcedhpnmhahgmaaAiS11
set_option linter.unusedSimpArgs false
set_option linter.unusedVariables false
set_option linter.constructorNameAsVariable false
namespace Go.AI
variable (P : Program) (ρ : Nat → Value)
section
variable {P} {ρ} {E : Env} (hE : EnvOk P ρ E) {β : Bm} {tm : PT AVal} {tmps : Array Value} {h : AHeap} {w : World}

theorem minN_eq (a b : Nat) : minN a b = Nat.min a b := by
  unfold minN
  split
  · rename_i hq; have := Nat.le_of_ble_eq_true hq; simp [Nat.min_def, this]
  · rename_i hq
    have : ¬ a ≤ b := by intro e'; rw [Nat.ble_eq_true_of_le e'] at hq; simp at hq
    simp [Nat.min_def, this]
theorem wStore_run (hr : HR P ρ β h w) (hw : HWF h) (hs : SymOk ρ) {a v : AVal} {va vv : Value} (ha : VR ρ β a va) (hv : VR ρ β v vv) {t : TypeId} {n : Nat} (hn : sizeT P t = some n) {r : AVal} {h' : AHeap}
    (he : wStore h a v n = .ok r h') : ∃ w', (Instr.storeAt t va vv).run P w = .ok () w' ∧ r = .undef ∧ HR P ρ β h' w' ∧ HWF h' ∧ Ext β β h h' w w' := by
  unfold wStore at he
  split at he
  · rename_i b o
    simp only [VR] at ha
    obtain ⟨i, hb, rfl⟩ := ha
    split at he
    · simp at he
    · rename_i cs hcs
      split at he
      · rename_i hl
        have hl := Nat.eq_of_beq_eq_true hl
        rw [lenL_eq] at hl
        unfold ofH at he
        split at he
        · simp at he
        · rename_i h2 hst
          simp only [ORes.ok.injEq] at he; obtain ⟨rfl, rfl⟩ := he
          obtain ⟨q1, q2⟩ := cellsC_rel ρ hs hcs hv
          obtain ⟨w', s1, s2, s3, s4⟩ := storeA_run hr hw hb hst q1 q2
          refine ⟨w', ?_, rfl, s2, s3, s4⟩
          have hsz : vv.cells.size = n := by have := q1.length; simp at this; omega
          simp [Instr.storeAt, Instr.sureAddr, storeVar, sizeT_run P hn w, hsz, s1]
      · simp at he
  · simp at he
theorem wCopy_run (hr : HR P ρ β h w) (hw : HWF h) {ts : Array TypeId} {t0 t1 e e1 : TypeId} (h0 : ts[0]? = some t0) (hu0 : P.underlying t0 = some (.slice e))
    {size : Nat} (hsz : sizeT P e = some size) (ty : TypeId) {d s : AVal} {vd vs : Value} (hd : VR ρ β d vd) (hs : VR ρ β s vs) {r : AVal} {h' : AHeap} (he : wCopy h size d s = .ok r h') :
    ∃ v' w', (Builtin.copy_ ts ty #[vd, vs]).run P w = .ok v' w' ∧ VR ρ β r v' ∧ HR P ρ β h' w' ∧ HWF h' ∧ Ext β β h h' w w' := by
  unfold wCopy at he
  split at he
  · simp at he
  · rename_i dl hdl
    split at he
    · simp at he
    · rename_i sl hsl
      obtain ⟨e1, a1, C1, rfl, hC1⟩ := lenA_rel hdl hd
      obtain ⟨e2, a2, C2, rfl, hC2⟩ := lenA_rel hsl hs
      simp only [minN_eq] at he
      have hle1 : Nat.min sl dl ≤ sl := Nat.min_le_left _ _
      have hle2 : Nat.min sl dl ≤ dl := Nat.min_le_right _ _
      generalize hn : Nat.min sl dl = n at *
      split at he
      · simp at he
      · rename_i cs hcs
        obtain ⟨l, l1, l2, l3, l4⟩ := cellsA_run hr hs hcs hsl hle1
        split at he
        · rename_i b o len cap es
          unfold ofH at he
          split at he
          · simp at he
          · rename_i h2 hst
            simp only [ORes.ok.injEq] at he; obtain ⟨rfl, rfl⟩ := he
            simp only [VR] at hd
            obtain ⟨i, off, C, hb, hvd, g1, g2, g3, g4, g5⟩ := hd
            cases hvd
            by_cases hn0 : n = 0
            · -- nothing is copied
              subst hn0
              have hcs0 : l = [] := List.eq_nil_of_length_eq_zero (by simpa using l2)
              subst hcs0
              have hcs1 : cs = [] := List.eq_nil_of_length_eq_zero (by have := l3.length; simpa using this.symm)
              subst hcs1
              obtain ⟨w', s1, s2, s3, s4⟩ := storeA_run hr hw hb hst VRs.nil (by simp)
              have ew : w' = w := by simp [storeCells] at s1; exact s1.symm
              subst ew
              refine ⟨goInt (0 : Nat), w', ?_, by simp [VR, goInt], s2, s3, s4⟩
              simp [Builtin.copy_, h0, run_underlying hu0, e2, hn, sizeT_run P hsz w', l1, storeCells]
            · have hoff := g4 (by
                simp only [lenA, Option.some.injEq] at hdl
                omega)
              obtain ⟨w', s1, s2, s3, s4⟩ := storeA_run hr hw hb hst l3 l4
              rw [← hoff] at s1
              refine ⟨goInt n, w', ?_, by simp [VR, goInt], s2, s3, s4⟩
              simp [Builtin.copy_, h0, run_underlying hu0, e2, hn, sizeT_run P hsz w, l1, s1]
        · rename_i hns
          simp only [ORes.ok.injEq] at he; obtain ⟨rfl, rfl⟩ := he
          unfold lenA at hdl
          split at hdl
          · simp only [Option.some.injEq] at hdl; subst hdl
            simp only [VR] at hd
            simp only [Value.slice.injEq] at hd
            obtain ⟨rfl, _, rfl⟩ := hd
            have hn0 : n = 0 := by omega
            subst hn0
            have hcs0 : l = [] := List.eq_nil_of_length_eq_zero (by simpa using l2)
            subst hcs0
            refine ⟨goInt (0 : Nat), w, ?_, by simp [VR, goInt], hr, hw, Ext.refl _ _ _⟩
            simp [Builtin.copy_, h0, run_underlying hu0, e2, hn, sizeT_run P hsz w, l1]
          · exact absurd rfl (hns _ _ _ _ _)
          · simp at hdl
theorem wClear_run (hr : HR P ρ β h w) (hw : HWF h) (hs : SymOk ρ) {ts : Array TypeId} {t0 e : TypeId} (h0 : ts[0]? = some t0) (hu0 : P.underlying t0 = some (.slice e))
    {size : Nat} (hsz : sizeT P e = some size) {z : List AVal} (hz : zeroCT P e = some z) (hzl : lenL z = size) (ty : TypeId) {x : AVal} {vx : Value} (hx : VR ρ β x vx) {r : AVal} {h' : AHeap} (he : wClear h z x = .ok r h') :
    ∃ w', (Builtin.clear_ ts ty #[vx]).run P w = .ok (.tuple #[]) w' ∧ r = .tuple [] ∧ HR P ρ β h' w' ∧ HWF h' ∧ Ext β β h h' w w' := by
  unfold wClear at he
  split at he
  · simp only [ORes.ok.injEq] at he; obtain ⟨rfl, rfl⟩ := he
    simp only [VR] at hx; subst hx
    exact ⟨w, by simp [Builtin.clear_, h0, run_underlying hu0], rfl, hr, hw, Ext.refl _ _ _⟩
  · rename_i b o len cap es
    simp only [VR] at hx
    obtain ⟨i, off, C, hb, rfl, g1, g2, g3, g4, g5⟩ := hx
    split at he
    · simp only [ORes.ok.injEq] at he; obtain ⟨rfl, rfl⟩ := he
      exact ⟨w, by simp [Builtin.clear_, h0, run_underlying hu0], rfl, hr, hw, Ext.refl _ _ _⟩
    · rename_i n
      unfold ofH at he
      split at he
      · simp at he
      · rename_i h2 hst
        simp only [ORes.ok.injEq] at he; obtain ⟨rfl, rfl⟩ := he
        obtain ⟨zv, z1, z2, z3⟩ := zeroCT_run P ρ hs hz β w
        have hrr := rep_rel z2 (n + 1)
        have hoff := g4 (by omega)
        have hone : ∀ y ∈ (List.replicate (n + 1) zv.cells.toList).flatten, y.oneCell' = true := fun y hy => z3 y (flatten_rep_mem hy)
        obtain ⟨w', s1, s2, s3, s4⟩ := storeA_run hr hw hb hst hrr hone
        rw [← hoff] at s1
        refine ⟨w', ?_, rfl, s2, s3, s4⟩
        have hzc : (Builtin.zeroCells zv.cells (n + 1)).toList = (List.replicate (n + 1) zv.cells.toList).flatten := by
          by_cases h00 : zv.cells.size = 0
          · have : zv.cells.toList = [] := by
              apply List.eq_nil_of_length_eq_zero; simpa using h00
            simp [Builtin.zeroCells, h00, this]
          · exact range_rep zv.cells (n + 1) h00
        simp [Builtin.clear_, h0, run_underlying hu0, z1, hzc, s1]
  · simp at he
theorem write_sound (hE : EnvOk P ρ E) (ht : TR ρ β tm tmps) (hr : HR P ρ β h w) (hw : HWF h) (o : Oper) {hop : HOp} (hc : cOp P o.op = some (.h hop)) {v : AVal} {h' : AHeap} (he : hRun E tm h hop = .ok v h') (hf : Fresh β h h') :
    WOK P ρ β h w (execOp (evC tmps) o) v h' := by
  have hs := hE.sym
  cases ho : o.op <;> rw [ho] at hc
  case store t a x =>
    simp only [cOp] at hc
    split at hc
    · rename_i n a' x' hn ha hx
      simp only [Option.some.injEq, AOp.h.injEq] at hc; subst hc
      obtain ⟨w', q1, q2, q3, q4, q5⟩ := wStore_run hr hw hs (cOpd_rel ht ha) (cOpd_rel ht hx) hn he
      subst q2
      exact ⟨β, undef, w', .skip, by simp only [execOp, ho]; exact run_skip q1, .inr ⟨rfl, rfl⟩, VR.undef ρ, q3, q4, q5⟩
    · simp at hc
  case mapUpdate t m k x =>
    simp only [cOp] at hc
    split at hc
    · rename_i kt et m' k' x' hu hm hk hx
      cases hkt : keyT P kt with
      | none => simp [hkt] at hc
      | some ka =>
        simp [hkt] at hc; subst hc
        obtain ⟨w', q1, q2, q3, q4, q5⟩ := wMset_run hE hr hw (cOpd_rel ht hm) (cOpd_rel ht hk) (cOpd_rel ht hx) hu hkt he
        subst q2
        exact ⟨β, undef, w', .skip, by simp only [execOp, ho]; exact run_skip q1, .inr ⟨rfl, rfl⟩, VR.undef ρ, q3, q4, q5⟩
    · simp at hc
  case insert t m k x =>
    simp only [cOp] at hc
    split at hc
    · rename_i kt et m' k' x' hu hm hk hx
      cases hkt : keyT P kt with
      | none => simp [hkt] at hc
      | some ka =>
        simp [hkt] at hc; subst hc
        obtain ⟨w', q1, q2, q3, q4, q5⟩ := wMset_run hE hr hw (cOpd_rel ht hm) (cOpd_rel ht hk) (cOpd_rel ht hx) hu hkt he
        subst q2
        exact ⟨β, undef, w', .skip, by simp only [execOp, ho]; exact run_skip q1, .inr ⟨rfl, rfl⟩, VR.undef ρ, q3, q4, q5⟩
    · simp at hc
  case mapEntry t m k =>
    simp only [cOp] at hc
    split at hc
    · rename_i kt et m' k' hu hm hk
      split at hc
      · rename_i ka z hkt hz
        simp only [Option.some.injEq, AOp.h.injEq] at hc; subst hc
        obtain ⟨v', w', q1, q2, q3, q4, q5⟩ := wMent_run hE hr hw (cOpd_rel ht hm) (cOpd_rel ht hk) hu hkt hz he
        exact ⟨β, v', w', .value v', by simp only [execOp, ho]; exact run_val q1, .inl rfl, q2, q3, q4, q5⟩
      · simp at hc
    · simp at hc
  case entryStore t m s x =>
    simp only [cOp] at hc
    split at hc
    · rename_i m' s' x' hm hss hx
      simp only [Option.some.injEq, AOp.h.injEq] at hc; subst hc
      obtain ⟨w', q1, q2, q3, q4, q5⟩ := wMstore_run hr hw (cOpd_rel ht hm) (cOpd_rel ht hss) (cOpd_rel ht hx) t he
      subst q2
      exact ⟨β, undef, w', .skip, by simp only [execOp, ho]; exact run_skip q1, .inr ⟨rfl, rfl⟩, VR.undef ρ, q3, q4, q5⟩
    · simp at hc
  case call c =>
    obtain ⟨callee, args, argTypes⟩ := c
    simp only [cOp] at hc
    split at hc
    · simp at hc
    · rename_i xs hxs
      have hrl := cOpds_rel ht hxs
      cases callee with
      | value f =>
        simp only at hc
        cases hf : cOpd f <;> simp [hf] at hc
      | invoke r m => simp at hc
      | builtin b =>
        have hargs : (args.map (evC tmps)).toList = args.toList.map (evC tmps) := by simp
        have hrun : ∀ (s : Sem Value) v w', (∀ cs, builtin b argTypes o.type cs (args.map (evC tmps)) = (do pure (Next.value (← s)))) → s.run P w = .ok v w' →
            (execOp (evC tmps) o).run P w = .ok (.value v) w' := by
          intro s v w' e h
          simp only [execOp, ho, resolve, Sem.run_bind, Sem.run_pure, Result.andThen_ok, invoke]
          rw [e]
          exact run_val h
        have two : ∀ {x y : AOpd}, xs = [x, y] → ∃ v1 v2, args.map (evC tmps) = #[v1, v2] ∧ VR ρ β (evO tm x) v1 ∧ VR ρ β (evO tm y) v2 := by
          rintro x y rfl
          obtain ⟨v1, vs, hvs, hv1, hr2⟩ := VRs.cons_inv hrl
          obtain ⟨v2, vs', hvs', hv2, hr3⟩ := VRs.cons_inv hr2
          have := VRs.nil_inv hr3
          subst this; subst hvs'
          exact ⟨v1, v2, by apply Array.ext'; rw [hargs, hvs], hv1, hv2⟩
        simp only at hc
        unfold cBuiltin at hc
        have tyOf : ∀ {j : Nat} {d : TypeDesc}, (argTypes[j]?).bind (fun x => P.underlying x) = some d → ∃ t, argTypes[j]? = some t ∧ P.underlying t = some d := by
          intro j d hh
          cases ha : argTypes[j]? with
          | none => simp [ha] at hh
          | some t => simp [ha] at hh; exact ⟨t, rfl, hh⟩
        split at hc
        case h_7 =>
          rename_i s x elem ht0
          split at hc
          · rename_i e1 ht1
            split at hc
            · rename_i n z hn hz
              split at hc
              · rename_i hcond
                simp only [Option.some.injEq, AOp.h.injEq] at hc; subst hc
                obtain ⟨t0, g0, u0⟩ := tyOf ht0
                obtain ⟨t1, g1, u1⟩ := tyOf ht1
                obtain ⟨v1, v2, ea, r1, r2⟩ := two rfl
                obtain ⟨β', v', w', q1, q2, q3, q4, q5⟩ := wAppend_run hr hw g0 g1 u0 u1 hs hn hz hcond.1 hcond.2 o.type r1 r2 he hf
                exact ⟨β', v', w', .value v', hrun _ _ _ (fun cs => rfl) (by rw [ea]; exact q1), .inl rfl, q2, q3, q4, q5⟩
              · simp at hc
            · simp at hc
          · simp at hc
        case h_8 =>
          rename_i d s elem ht0
          split at hc
          · rename_i e1 ht1
            cases hn : sizeT P elem with
            | none => simp [hn] at hc
            | some n =>
              simp [hn] at hc; subst hc
              obtain ⟨t0, g0, u0⟩ := tyOf ht0
              obtain ⟨v1, v2, ea, r1, r2⟩ := two rfl
              obtain ⟨v', w', q1, q2, q3, q4, q5⟩ := wCopy_run hr hw (t1 := 0) (e1 := 0) g0 u0 hn o.type r1 r2 he
              exact ⟨β, v', w', .value v', hrun _ _ _ (fun cs => rfl) (by rw [ea]; exact q1), .inl rfl, q2, q3, q4, q5⟩
          · simp at hc
        case h_9 =>
          rename_i x elem ht0
          split at hc
          · rename_i n z hn hz
            split at hc
            · rename_i hzl
              simp only [Option.some.injEq, AOp.h.injEq] at hc; subst hc
              obtain ⟨t0, g0, u0⟩ := tyOf ht0
              obtain ⟨v1, vs, hvs, hv1, hr2⟩ := VRs.cons_inv hrl
              have := VRs.nil_inv hr2
              subst this
              have ea : args.map (evC tmps) = #[v1] := by apply Array.ext'; rw [hargs, hvs]
              obtain ⟨w', q1, q2, q3, q4, q5⟩ := wClear_run hr hw hs g0 u0 hn hz hzl o.type hv1 he
              subst q2
              exact ⟨β, .tuple #[], w', .value (.tuple #[]), hrun _ _ _ (fun cs => rfl) (by rw [ea]; exact q1), .inl rfl, by simp [VR, VRs], q3, q4, q5⟩
            · simp at hc
          · simp at hc
        case h_10 =>
          rename_i m k kt et ht0
          cases hkt : keyT P kt with
          | none => simp [hkt] at hc
          | some ka =>
            simp [hkt] at hc; subst hc
            obtain ⟨t0, g0, u0⟩ := tyOf ht0
            obtain ⟨v1, v2, ea, r1, r2⟩ := two rfl
            obtain ⟨w', q1, q2, q3, q4, q5⟩ := wDelete_run hE hr hw r1 r2 u0 hkt he argTypes g0 o.type
            subst q2
            exact ⟨β, .tuple #[], w', .value (.tuple #[]), hrun _ _ _ (fun cs => rfl) (by rw [ea]; exact q1), .inl rfl, by simp [VR, VRs], q3, q4, q5⟩
        all_goals (first | (simp at hc; done) | (repeat' (split at hc <;> try (simp at hc; done))))
  case makeMap t r => exfalso; cases r <;> simp [cOp] at hc
  case binOp op t x y yt =>
    exfalso
    cases op <;> simp only [cOp] at hc <;> (try unfold cEq at hc) <;> (repeat' (split at hc <;> try (simp at hc; done))) <;> simp at hc
  all_goals (exfalso; simp only [cOp] at hc; first | (simp at hc; done) | (repeat' (split at hc <;> try (simp at hc; done))))
end
end Go.AI
