/- Part of a proof for one law: an interpreter over what is known of values, and that it is right. -/
import Derived.Test.YtcedhpnmhahgmaaAiS6
set_option linter.unusedSimpArgs false
set_option linter.unusedVariables false
set_option linter.constructorNameAsVariable false
namespace Go.AI
variable (P : Program) (ρ : Nat → Value)
section
variable {P} {ρ} {E : Env} (hE : EnvOk P ρ E) {β : Bm} {tm : PT AVal} {tmps : Array Value}
theorem wrap_nat {n : Nat} (h : n < 9223372036854775808) : IntKind.i64.wrap (n : Int) = n := by
  show IntKind.i64.wrap (Int.ofNat n) = Int.ofNat n
  rw [← wrapF_eq]
  simp only [wrapF]
  rw [if_pos (by rw [Nat.blt_eq]; exact h)]
theorem maxA_new (isMax : Bool) : ∀ (xs : List AVal) (x : AVal) o k, maxA isMax x xs ≠ .new o k
  | [], x, o, k => by simp [maxA]
  | y :: xs, x, o, k => by
    simp only [maxA]
    split
    · split
      · split
        · exact maxA_new isMax xs _ o k
        · simp
      · simp
    · simp
include hE

theorem pure_sound (ht : TR ρ β tm tmps) (o : Oper) {pop : POp} (hc : cOp P o.op = some (.p pop)) (w : World) :
    POK P ρ β w (execOp (evC tmps) o) (pRun E tm pop) := by
  have hs := hE.sym
  cases hop : o.op <;> rw [hop] at hc
  case move x =>
    simp only [cOp] at hc
    cases hx : cOpd x <;> simp [hx] at hc
    subst hc
    exact ⟨_, by simp [execOp, hop], cOpd_rel ht hx⟩
  case assign x =>
    simp only [cOp] at hc
    cases hx : cOpd x <;> simp [hx] at hc
    subst hc
    exact ⟨_, by simp [execOp, hop], cOpd_rel ht hx⟩
  case pick c a b =>
    simp only [cOp] at hc
    split at hc
    · rename_i c' a' b' h1 h2 h3
      simp at hc; subst hc
      simp only [pRun]
      unfold oPick
      have hc := cOpd_rel ht h1
      split
      · rename_i e
        rw [e] at hc; simp only [VR] at hc
        exact ⟨_, by simp [execOp, hop, hc, asBool], cOpd_rel ht h2⟩
      · rename_i e
        rw [e] at hc; simp only [VR] at hc
        exact ⟨_, by simp [execOp, hop, hc, asBool], cOpd_rel ht h3⟩
      · trivial
    · simp at hc
  case alloc t =>
    simp only [cOp] at hc
    cases hz : zeroCT P t <;> simp [hz] at hc
    subst hc
    obtain ⟨v, h1, h2, h3⟩ := zeroCT_run P ρ hs hz β w
    simp only [pRun]
    refine new_cells P ρ (c := v.cells) h2 h3 _ (fun n => .pointer (some ⟨n, 0, none⟩)) ?_ fun β' id h => VR_ptr0 ρ h
    simp [execOp, hop, Instr.alloc, h1, newVar, newRow]
  case box t x =>
    simp only [cOp] at hc
    cases hx : cOpd x <;> simp [hx] at hc
    subst hc
    simp only [pRun, oBox]
    split
    · rename_i cs hcs
      obtain ⟨r1, r2⟩ := cellsC_rel ρ hs hcs (cOpd_rel ht hx)
      refine new_cells P ρ (c := (evC tmps x).cells) r1 r2 _ (fun n => .pointer (some ⟨n, 0, none⟩)) ?_ fun β' id h => VR_ptr0 ρ h
      simp [execOp, hop, Instr.box, newVar, newRow]
    · trivial
  case build t parts =>
    simp only [cOp] at hc
    split at hc
    · simp at hc
    · rename_i z hz
      obtain ⟨zv, h1, h2, h3⟩ := zeroCT_run P ρ hs hz β w
      split at hc
      · rename_i fields hu
        split at hc
        · simp at hc
        · rename_i pl hpl
          cases hps : cParts (fun i => pl[i]?) parts.toList with
          | none => simp [hps] at hc
          | some ps =>
            simp [hps] at hc; subst hc
            simp only [pRun, oBuild]
            split
            · rename_i cs hcs
              obtain ⟨c', e1, e2, e3⟩ := fill_rel ρ hs ht _ parts.toList ps hps z zv.cells cs h2 h3 hcs
              refine ⟨.agg c', ?_, by simp only [VR]; exact ⟨c', rfl, e2, e3⟩⟩
              have hm := placesT_run hpl w
              have hm' : (fields.mapM fun (f : Field) => (do pure (f.offset, ← sizeOf f.type) : Sem (Nat × Nat))).run P w = .ok pl.toArray w := by
                rw [Array.mapM_eq_mapM_toList]
                simp only [Sem.run_bind, Sem.run_map, hm, Result.andThen_ok, Sem.run_pure]
              simp only [execOp, hop]
              apply run_val
              simp only [Instr.build, Sem.run_bind, h1, Result.andThen_ok, run_underlying hu, hm']
              rw [show (parts.map fun x => (x.1, evC tmps x.2)).toList = parts.toList.map fun x => (x.1, evC tmps x.2) by simp]
              rw [show (fun (x : Nat) => pl.toArray[x]?) = (fun i => pl[i]?) by funext i; simp, e1]
              simp
            · trivial
      · rename_i len elem hu
        split at hc
        · simp at hc
        · rename_i n hn
          cases hps : cParts (fun i => some (i * n, n)) parts.toList with
          | none => simp [hps] at hc
          | some ps =>
            simp [hps] at hc; subst hc
            simp only [pRun, oBuild]
            split
            · rename_i cs hcs
              obtain ⟨c', e1, e2, e3⟩ := fill_rel ρ hs ht _ parts.toList ps hps z zv.cells cs h2 h3 hcs
              refine ⟨.agg c', ?_, by simp only [VR]; exact ⟨c', rfl, e2, e3⟩⟩
              simp only [execOp, hop]
              apply run_val
              simp only [Instr.build, Sem.run_bind, h1, Result.andThen_ok, run_underlying hu, sizeT_run P hn w]
              rw [show (parts.map fun x => (x.1, evC tmps x.2)).toList = parts.toList.map fun x => (x.1, evC tmps x.2) by simp, e1]
              simp
            · trivial
      · simp at hc
  case buildSlice t len parts =>
    simp only [cOp] at hc
    split at hc
    · rename_i elem hu
      split at hc
      · rename_i n z hn hz
        split at hc
        · simp at hc
        · rename_i hcond
          have c1 : len * n ≤ 16777216 := by
            rcases Nat.lt_or_ge 16777216 (len * n) with e | e
            · exact absurd (.inl e) hcond
            · exact e
          have c2 : z.length = n := by
            rw [← lenL_eq]
            rcases Nat.lt_trichotomy (lenL z) n with e | e | e
            · exact absurd (.inr (.inl (by omega))) hcond
            · exact e
            · exact absurd (.inr (.inl (by omega))) hcond
          have c3 : n ≠ 0 := fun e => hcond (.inr (.inr e))
          cases hps : cParts (fun i => some (i * n, n)) parts.toList with
          | none => simp [hps] at hc
          | some ps =>
            simp [hps] at hc; subst hc
            obtain ⟨zv, h1, h2, h3⟩ := zeroCT_run P ρ hs hz β w
            have hzl : zv.cells.size = n := by have := h2.length; simpa [c2] using this
            simp only [pRun, oBslice]
            split
            · rename_i cs hcs
              have hr := rep_rel h2 len
              rw [show (List.replicate len zv.cells.toList).flatten = ((Array.range (len * zv.cells.size)).map (zv.cells[· % zv.cells.size]!)).toList from (range_rep zv.cells len (by omega)).symm] at hr
              have hone : ∀ y ∈ ((Array.range (len * zv.cells.size)).map (zv.cells[· % zv.cells.size]!)).toList, y.oneCell' = true := by
                rw [range_rep zv.cells len (by omega)]
                intro y hy; exact h3 y (flatten_rep_mem hy)
              obtain ⟨c', e1, e2, e3⟩ := fill_rel ρ hs ht _ parts.toList ps hps _ _ cs hr hone hcs
              refine new_cells P ρ (c := c') e2 e3 _ (fun n => .slice (some ⟨n, 0, none⟩) len len) ?_ fun β' id h => VR_slice0 ρ h (Nat.le_refl _)
              simp only [execOp, hop]
              apply run_val
              have hne : ¬ len * n > 2 ^ 24 := by omega
              simp only [Instr.buildSlice, Sem.run_bind, run_underlying hu, Result.andThen_ok, sizeT_run P hn w, Sem.run_ite, if_neg hne, Sem.run_pure]
              rw [show (parts.map fun x => (x.1, evC tmps x.2)).toList = parts.toList.map fun x => (x.1, evC tmps x.2) by simp]
              by_cases h0 : len * n = 0
              · have hl0 : len = 0 := by
                  rcases Nat.mul_eq_zero.1 h0 with e | e
                  · exact e
                  · exact absurd e c3
                subst hl0
                rw [Nat.zero_mul] at e1
                simp only [Nat.zero_mul, if_true, Result.andThen_ok, Sem.run_pure]
                rw [show ((Array.range 0).map fun x => (#[] : Array Value)[x % (#[] : Array Value).size]!) = ((Array.range 0).map fun x => zv.cells[x % zv.cells.size]!) by simp, e1]
                simp [newRow]
              · simp only [if_neg h0, Sem.run_bind, h1, Result.andThen_ok, Sem.run_pure]
                rw [hzl] at e1
                rw [hzl, e1]
                simp [newRow]
            · trivial
      · simp at hc
    · simp at hc
  case nilCheck x =>
    simp only [cOp] at hc
    cases hx : cOpd x <;> simp [hx] at hc
    subst hc
    have hr := cOpd_rel ht hx
    simp only [pRun]
    unfold oNil
    split
    · rename_i b o e
      rw [e] at hr
      have hr' := hr
      simp only [VR] at hr; obtain ⟨i, _, hv⟩ := hr
      exact ⟨_, by simp [execOp, hop, hv], hr'⟩
    · rename_i f a c e
      rw [e] at hr
      have hr' := hr
      simp only [VR] at hr; obtain ⟨_, _, hv, _⟩ := hr
      exact ⟨_, by simp [execOp, hop, hv], hr'⟩
    · rename_i l e
      rw [e] at hr
      have hr' := hr
      simp only [VR] at hr; obtain ⟨_, _, hv⟩ := hr
      exact ⟨_, by simp [execOp, hop, hv], hr'⟩
    · trivial
  case binOp op t x y yt =>
    have eqc : ∀ neg, cEq P neg t x y = some (.p pop) → op = (if neg then .neq else .eql) → POK P ρ β w (execOp (evC tmps) o) (pRun E tm pop) := by
      intro neg h hopn
      unfold cEq at h
      split at h
      · simp at h
      · rename_i hg
        simp at hg
        split at h
        · rename_i et x' y' hl hx hy
          simp only [Option.some.injEq, AOp.p.injEq] at h; subst h
          simp only [pRun]
          cases hr : oEq E neg et (evO tm x') (evO tm y') with
          | fail => trivial
          | new _ _ => unfold oEq at hr; split at hr <;> simp at hr
          | val v =>
            obtain ⟨v', h1, h2⟩ := oEq_run hE hg.1 hl hg.2 (cOpd_rel ht hx) (cOpd_rel ht hy) x y w v hr
            refine ⟨v', ?_, h2⟩
            simp only [execOp, hop]
            rw [hopn]
            exact run_val h1
        · simp at h
    have binc : (match cOpd x, cOpd y with
      | some x, some y => some (AOp.p (.bin op x y))
      | _, _ => none) = some (.p pop) → op ≠ .eql → op ≠ .neq → POK P ρ β w (execOp (evC tmps) o) (pRun E tm pop) := by
      intro h h1 h2
      split at h
      · rename_i x' y' hx hy
        simp only [Option.some.injEq, AOp.p.injEq] at h; subst h
        simp only [pRun]
        refine POK.ofOpt fun r hr => ?_
        obtain ⟨r', e1, e2⟩ := binA_run hE hr (cOpd_rel ht hx) (cOpd_rel ht hy) t w
        refine ⟨r', ?_, e2⟩
        simp only [execOp, hop]
        apply run_val
        have : (eqGuard op t x y (evC tmps x) (evC tmps y)).run P w = .ok () w := by
          cases op <;> simp [eqGuard] <;> contradiction
        simp only [Sem.run_bind, this, Result.andThen_ok, e1]
      · simp at h
    cases op <;> simp only [cOp] at hc <;> first
      | exact eqc false hc rfl
      | exact eqc true hc rfl
      | exact binc hc (by simp) (by simp)
  case unOp op t x =>
    simp only [cOp] at hc
    cases hx : cOpd x <;> simp [hx] at hc
    subst hc
    have hr := cOpd_rel ht hx
    simp only [pRun]
    refine POK.ofOpt fun r h => ?_
    unfold unA at h
    split at h
    · rename_i b e
      rw [e] at hr; simp only [VR] at hr
      split at h
      · simp only [Option.some.injEq] at h; subst h
        refine ⟨.bool !b, ?_, by cases b <;> simp [VR]⟩
        simp only [execOp, hop]
        exact run_val (by simp [Op.unary, hr])
      · simp at h
    · rename_i k n e
      rw [e] at hr; simp only [VR] at hr
      split at h
      · simp only [Option.some.injEq] at h; subst h
        refine ⟨.int k (k.wrap (0 - n)), ?_, by simp only [VR, wrapF_eq]; rfl⟩
        simp only [execOp, hop]
        exact run_val (by simp [Op.unary, hr, Op.intArith])
      · simp at h
    · simp at h
  case convert src dst x =>
    simp only [cOp] at hc
    split at hc
    · rename_i ks k x' h1 h2 h3
      simp only [Option.some.injEq, AOp.p.injEq] at hc; subst hc
      have hr := cOpd_rel ht h3
      simp only [pRun]
      refine POK.ofOpt fun r h => ?_
      have conv : ∀ q n, evC tmps x = .int q n → (Go.convert src dst (evC tmps x)).run P w = .ok (.int k (k.wrap n)) w := by
        intro q n e
        simp [Go.convert, run_underlying h1, run_underlying h2, e, Conv.intToInt]
      unfold convA at h
      split at h
      · rename_i q n e
        rw [e] at hr; simp only [VR] at hr
        simp only [Option.some.injEq] at h; subst h
        refine ⟨.int k (k.wrap n), ?_, by simp [VR, wrapF_eq]⟩
        simp only [execOp, hop]
        exact run_val (conv q n hr)
      · rename_i i e
        rw [e] at hr; simp only [VR] at hr
        obtain ⟨q, n, e1, e2⟩ := hE.conv _ _ _ h
        refine ⟨.int k (k.wrap n), ?_, e2 β⟩
        simp only [execOp, hop]
        exact run_val (conv q n (by rw [hr, e1]))
      · simp at h
    · simp at hc
  case makeFunc fn first captured =>
    simp only [cOp] at hc
    split at hc
    · rename_i f a c h1 h2
      simp only [Option.some.injEq, AOp.p.injEq] at hc; subst hc
      refine ⟨_, by simp only [execOp, hop]; exact run_val (by simp only [Instr.makeFunc]; rfl), ?_⟩
      simp only [VR]
      exact ⟨first.map (evC tmps), captured.map (evC tmps), by simp, by simpa using cOpds_rel ht h1, by simpa using cOpds_rel ht h2⟩
    · simp at hc
  case makeMap t r =>
    cases r with
    | some r => simp [cOp] at hc
    | none =>
      simp only [cOp, Option.some.injEq, AOp.p.injEq] at hc; subst hc
      refine ⟨.map #[] 0, fun n => .map (some n), 0, ?_, fun β' id h => by simp only [VR]; exact ⟨_, h, rfl⟩, ⟨#[], rfl, by simp [EntR]⟩⟩
      simp only [execOp, hop]
      exact run_val (by simp [Instr.makeMap])
  case makeSlice t l c =>
    simp only [cOp] at hc
    split at hc
    · rename_i elem hu
      split at hc
      · rename_i n z l' c' hn hz hl hcc
        split at hc
        · simp at hc
        · rename_i hcond
          simp only [Option.some.injEq, AOp.p.injEq] at hc; subst hc
          have c2 : z.length = n := by
            rw [← lenL_eq]
            rcases Nat.lt_trichotomy (lenL z) n with e | e | e
            · exact absurd (.inl (by omega)) hcond
            · exact e
            · exact absurd (.inl (by omega)) hcond
          have c3 : n ≠ 0 := fun e => hcond (.inr e)
          simp only [pRun]
          unfold oMkslice
          split
          · rename_i ln hln
            split
            · rename_i cn hcn
              split
              · rename_i hle
                split
                · rename_i hle2
                  split
                  · rename_i hle3
                    have q1 := Nat.le_of_ble_eq_true hle
                    have q2 := Nat.le_of_ble_eq_true hle2
                    have q3 : cn * P.bytesOf elem ≤ 1099511627776 := Nat.le_of_ble_eq_true hle3
                    obtain ⟨kl, hvl⟩ := asNat_rel (β := β) (ρ := ρ) hln (cOpd_rel ht hl)
                    obtain ⟨kc, hvc⟩ := asNat_rel (β := β) (ρ := ρ) hcn (cOpd_rel ht hcc)
                    obtain ⟨zv, h1, h2, h3⟩ := zeroCT_run P ρ hs hz β w
                    have hzl : zv.cells.size = n := by have := h2.length; simpa [c2] using this
                    have hr := rep_rel h2 cn
                    rw [← range_rep zv.cells cn (by omega)] at hr
                    have hone : ∀ y ∈ ((Array.range (cn * zv.cells.size)).map (zv.cells[· % zv.cells.size]!)).toList, y.oneCell' = true := by
                      rw [range_rep zv.cells cn (by omega)]
                      intro y hy; exact h3 y (flatten_rep_mem hy)
                    refine new_cells P ρ (c := (Array.range (cn * zv.cells.size)).map (zv.cells[· % zv.cells.size]!)) hr hone _ (fun n => .slice (some ⟨n, 0, none⟩) ln cn) ?_ fun β' id h => VR_slice0 ρ h q1
                    simp only [execOp, hop]
                    apply run_val
                    obtain ⟨inf, hinf⟩ : ∃ inf, P.info? elem = some inf := by
                      unfold sizeT at hn
                      cases hi : P.info? elem with
                      | none => simp [hi] at hn
                      | some i => exact ⟨i, rfl⟩
                    have hby : P.bytesOf elem = inf.bytes := by simp [Program.bytesOf, hinf]
                    have w1 : IntKind.i64.wrap (cn : Int) = cn := wrap_nat (by omega)
                    have w2 : IntKind.i64.wrap (ln : Int) = ln := wrap_nat (by omega)
                    have b1 : ¬ ((inf.bytes : Int) * (cn : Int) > 2 ^ 48) := by
                      rw [hby] at q3
                      have e : (inf.bytes : Int) * (cn : Int) = ((cn * inf.bytes : Nat) : Int) := by rw [Int.natCast_mul, Int.mul_comm]
                      rw [e]
                      generalize cn * inf.bytes = q at q3
                      omega
                    have b2 : ¬ ((cn : Int) < 0) := by omega
                    have b3 : ¬ ((ln : Int) < 0) := by omega
                    have b4 : ¬ ((ln : Int) > (cn : Int)) := by omega
                    simp only [Instr.makeSlice, Sem.run_bind, run_underlying hu, Result.andThen_ok, hvl, hvc, asInt, asIntOf, Sem.run_pure, typeInfo, run_program, hinf, w1, w2]
                    simp only [b1, b2, b3, b4, decide_false, Bool.or_self, Bool.false_eq_true, if_false, run_askRoom, Result.andThen_ok, sizeT_run P hn w, Sem.run_bind, Int.toNat_natCast]
                    by_cases h0 : cn * n = 0
                    · have hl0 : cn = 0 := by
                        rcases Nat.mul_eq_zero.1 h0 with e | e
                        · exact e
                        · exact absurd e c3
                      subst hl0
                      have r0 : Array.range 0 = #[] := rfl
                      simp [newRow, r0]
                    · simp only [if_neg h0, Sem.run_bind, h1, Result.andThen_ok, Sem.run_pure]
                      rw [hzl]
                      simp [newRow]
                  · trivial
                · trivial
              · trivial
            · trivial
          · trivial
      · simp at hc
    · simp at hc
  case slice t x lo hi mx =>
    simp only [cOp] at hc
    split at hc
    · rename_i elem hu
      split at hc
      · rename_i n x' lo' hi' mx' hn h1 h2 h3 h4
        split at hc
        · simp at hc
        · rename_i hcond
          simp only [Option.some.injEq, AOp.p.injEq] at hc; subst hc
          simp only [pRun]
          cases hr : oSlc n (evO tm x') (evOpt tm lo') (evOpt tm hi') (evOpt tm mx') with
          | fail => trivial
          | new _ _ =>
            exfalso
            unfold oSlc at hr
            repeat' (split at hr <;> try (simp at hr; done))
          | val v =>
            obtain ⟨v', e1, e2⟩ := oSlc_run (P := P) hr (cOpd_rel ht h1) (cOptO_rel ht h2) (cOptO_rel ht h3) (cOptO_rel ht h4) hu hn
              (by
                intro e
                cases mx' with
                | none => simp [evOpt] at e
                | some _ =>
                  cases hi' with
                  | none => simp at hcond
                  | some _ => simp [evOpt]) w v rfl
            exact ⟨v', by simp only [execOp, hop]; exact run_val e1, e2⟩
      · simp at hc
    · simp at hc
  case fieldAddr s x f =>
    simp only [cOp] at hc
    split at hc
    · rename_i fd x' h1 h2
      split at hc
      · rename_i m hm
        simp only [Option.some.injEq, AOp.p.injEq] at hc; subst hc
        have hr := cOpd_rel ht h2
        simp only [pRun]
        unfold oFaddr
        split
        · rename_i b off e
          rw [e] at hr
          simp only [VR] at hr
          obtain ⟨i, hb, hv⟩ := hr
          refine ⟨.pointer (some ⟨i.cb, i.base + off + fd.offset, none⟩), ?_, by simp only [VR]; exact ⟨i, hb, by simp only [Nat.add_assoc]; rfl⟩⟩
          simp only [execOp, hop]
          apply run_val
          unfold fieldT at h1
          split at h1
          · rename_i fields hu
            have hadd : (⟨i.cb, i.base + off, none⟩ : Addr).add fd.offset = ⟨i.cb, i.base + off + fd.offset, none⟩ := by
              unfold Addr.add; split <;> simp_all
            simp [Instr.fieldAt, run_underlying hu, h1, hv, Instr.sureAddr, fieldPlace, sizeT_run P hm w, hadd]
          · simp at h1
        · trivial
      · simp at hc
    · simp at hc
  case field t x f =>
    simp only [cOp] at hc
    split at hc
    · rename_i fd x' h1 h2
      have main : ∀ agg, (match agg with | some n => isAggT P fd.type = some true ∧ sizeT P fd.type = some n | none => isAggT P fd.type = some false) → pop = .fld x' fd.offset agg →
          POK P ρ β w (execOp (evC tmps) o) (pRun E tm pop) := by
        intro agg hag hp; subst hp
        simp only [pRun]
        cases hr : oFld (evO tm x') fd.offset agg with
        | fail => trivial
        | new _ _ => exfalso; unfold oFld at hr; (repeat' (split at hr <;> try (simp at hr; done))); unfold ofOpt at hr; split at hr <;> simp at hr
        | val v =>
          obtain ⟨cs, hv, v', e1, e2⟩ := oFld_rel (P := P) (cOpd_rel ht h2) hag w v hr
          refine ⟨v', ?_, e2⟩
          simp only [execOp, hop]
          apply run_val
          unfold fieldT at h1
          split at h1
          · rename_i fields hu
            simp [Instr.field, run_underlying hu, h1, hv, asAgg, e1]
          · simp at h1
      split at hc
      · rename_i n ha hn
        simp only [Option.some.injEq, AOp.p.injEq] at hc
        exact main (some n) ⟨ha, hn⟩ hc.symm
      · rename_i ha
        simp only [Option.some.injEq, AOp.p.injEq] at hc
        exact main none ha hc.symm
      · simp at hc
    · simp at hc
  case extract t ix =>
    simp only [cOp] at hc
    cases hx : cOpd t <;> simp [hx] at hc
    subst hc
    have hr := cOpd_rel ht hx
    simp only [pRun]
    unfold oExtr
    split
    · rename_i vs e
      rw [e] at hr; simp only [VR] at hr
      obtain ⟨vs', hv, hr⟩ := hr
      refine POK.ofOpt fun r h => ?_
      rw [nth_eq] at h
      obtain ⟨y, hy, hry⟩ := hr.get ix r h
      refine ⟨y, ?_, hry⟩
      simp only [execOp, hop]
      apply run_val
      have : vs'[ix]? = some y := by simpa using hy
      simp [Instr.extract, hv, this]
    · trivial
  case indexAddr t x ix =>
    simp only [cOp] at hc
    split at hc
    · rename_i elem x' ix' hu h1 h2
      cases hn : sizeT P elem with
      | none => simp [hn] at hc
      | some n =>
        simp [hn] at hc; subst hc
        have hx := cOpd_rel ht h1
        have hi := cOpd_rel ht h2
        simp only [pRun]
        unfold oIaddr
        split
        · rename_i b off len cap es e
          rw [e] at hx; simp only [VR] at hx
          obtain ⟨i, off', C, hb, hv, q1, q2, q3, q4, q5⟩ := hx
          split
          · rename_i k hk
            split
            · rename_i hlt
              have hlt' : k < len := by rwa [Nat.blt_eq] at hlt
              obtain ⟨kk, hvi⟩ := asNat_rel hk hi
              have hoff := q4 (by omega)
              refine ⟨.pointer (some ⟨i.cb, off' + k * n, none⟩), ?_, by simp only [VR]; exact ⟨i, hb, by rw [hoff, Nat.add_assoc]; rfl⟩⟩
              simp only [execOp, hop]
              apply run_val
              have hadd : (⟨i.cb, off', none⟩ : Addr).add (k * n) = ⟨i.cb, off' + k * n, none⟩ := by
                unfold Addr.add; split <;> simp_all
              have c1 : (0 : Int) ≤ k ∧ (k : Int) < len := by omega
              simp [Instr.indexAt, hvi, asIntOf, run_underlying hu, hv, c1, sizeT_run P hn w, hadd, hlt']
            · trivial
          · trivial
        · trivial
    · rename_i len elem x' ix' hu h1 h2
      cases hn : sizeT P elem with
      | none => simp [hn] at hc
      | some n =>
        simp [hn] at hc; subst hc
        have hx := cOpd_rel ht h1
        have hi := cOpd_rel ht h2
        simp only [pRun]
        unfold oIaddrA
        split
        · rename_i b off e
          rw [e] at hx; simp only [VR] at hx
          obtain ⟨i, hb, hv⟩ := hx
          split
          · rename_i k hk
            split
            · rename_i hlt
              have hlt' : k < len := by rwa [Nat.blt_eq] at hlt
              obtain ⟨kk, hvi⟩ := asNat_rel hk hi
              refine ⟨.pointer (some ⟨i.cb, i.base + off + k * n, none⟩), ?_, by simp only [VR]; exact ⟨i, hb, by rw [Nat.add_assoc]; rfl⟩⟩
              simp only [execOp, hop]
              apply run_val
              have hadd : (⟨i.cb, i.base + off, none⟩ : Addr).add (k * n) = ⟨i.cb, i.base + off + k * n, none⟩ := by
                unfold Addr.add; split <;> simp_all
              have c1 : (0 : Int) ≤ k ∧ (k : Int) < len := by omega
              simp [Instr.indexAt, hvi, asIntOf, run_underlying hu, hv, Instr.sureAddr, c1, sizeT_run P hn w, hadd, hlt']
            · trivial
          · trivial
        · trivial
    · simp at hc
  case index t x ix =>
    simp only [cOp] at hc
    split at hc
    · rename_i len elem x' ix' hu h1 h2
      split at hc
      · rename_i n b hn ha
        simp only [Option.some.injEq, AOp.p.injEq] at hc; subst hc
        have hx := cOpd_rel ht h1
        have hi := cOpd_rel ht h2
        simp only [pRun]
        unfold oIdxA
        split
        · rename_i cs e
          split
          · rename_i k hk
            split
            · rename_i hlt
              have hlt' : k < len := by rwa [Nat.blt_eq] at hlt
              obtain ⟨kk, hvi⟩ := asNat_rel hk hi
              have c1 : (0 : Int) ≤ k ∧ (k : Int) < len := by omega
              have fin : ∀ agg v, (match agg with | some n => isAggT P elem = some true ∧ sizeT P elem = some n | none => isAggT P elem = some false) →
                  oFld (evO tm x') (k * n) agg = .val v → ∃ v', (execOp (evC tmps) o).run P w = .ok (.value v') w ∧ VR ρ β v v' := by
                intro agg v hag hr
                obtain ⟨cs', hv, v', e1, e2⟩ := oFld_rel (P := P) hx hag w v hr
                refine ⟨v', ?_, e2⟩
                simp only [execOp, hop]
                apply run_val
                simp [Instr.index, hvi, asIntOf, run_underlying hu, hv, c1, sizeT_run P hn w, e1, hlt']
              cases b with
              | true =>
                exact fin (some n) _ ⟨ha, hn⟩ (by rw [e]; rfl)
              | false =>
                simp only
                cases hnth : nth cs (k * n) with
                | none => simp only [Nat.mul_eq, hnth, ofOpt]; trivial
                | some v =>
                  simp only [Nat.mul_eq, hnth, ofOpt]
                  exact fin none v ha (by rw [e]; simp [oFld, hnth, ofOpt])
            · trivial
          · trivial
        · trivial
      · simp at hc
    · rename_i x' ix' hu h1 h2
      simp only [Option.some.injEq, AOp.p.injEq] at hc; subst hc
      have hx := cOpd_rel ht h1
      have hi := cOpd_rel ht h2
      simp only [pRun]
      unfold oIdxS
      split
      · rename_i s e
        rw [e] at hx; simp only [VR] at hx
        split
        · rename_i k hk
          split
          · rename_i c hcn
            rw [nth_eq] at hcn
            obtain ⟨kk, hvi⟩ := asNat_rel hk hi
            refine ⟨.int .u8 (.ofNat c.toNat), ?_, by simp [VR]⟩
            simp only [execOp, hop]
            apply run_val
            have hsz : k < s.size := by
              have := (List.getElem?_eq_some_iff.1 hcn).1
              simpa using this
            have hget : s[k]? = some c := by
              rw [getElem?_pos s k hsz]
              have := (List.getElem?_eq_some_iff.1 hcn).2
              congr 1
            simp [Instr.index, hvi, asIntOf, run_underlying hu, hx, hget]
          · trivial
        · trivial
      · trivial
    · simp at hc
  case call c =>
    obtain ⟨callee, args, argTypes⟩ := c
    simp only [cOp] at hc
    split at hc
    · simp at hc
    · rename_i xs hxs
      have hr := cOpds_rel ht hxs
      cases callee with
      | value f =>
        simp only at hc
        cases hf : cOpd f <;> simp [hf] at hc
      | invoke r m => simp at hc
      | builtin b =>
        have hrun : ∀ (s : Sem Value) v, (∀ cs, builtin b argTypes o.type cs (args.map (evC tmps)) = (do pure (Next.value (← s)))) → s.run P w = .ok v w →
            (execOp (evC tmps) o).run P w = .ok (.value v) w := by
          intro s v e h
          simp only [execOp, hop, resolve, Sem.run_bind, Sem.run_pure, Result.andThen_ok, invoke]
          rw [e]
          exact run_val h
        simp only at hc
        unfold cBuiltin at hc
        have hargs : (args.map (evC tmps)).toList = args.toList.map (evC tmps) := by simp
        split at hc
        · -- len of a slice
          rename_i x e ht0
          simp only [Option.some.injEq, AOp.p.injEq] at hc; subst hc
          obtain ⟨v, vs, hvs, hv, hnil⟩ := VRs.cons_inv hr
          have hnil := VRs.nil_inv hnil
          subst hnil
          have e0 : args.map (evC tmps) = #[v] := by apply Array.ext'; rw [hargs, hvs]
          cases ha : argTypes[0]? with
          | none => simp [ha] at ht0
          | some t0 =>
            simp [ha] at ht0
            simp only [pRun]
            unfold oLen
            split
            · rename_i b' o' n cap es e1
              rw [e1] at hv; simp only [VR] at hv
              obtain ⟨i, off, C, _, rfl, _⟩ := hv
              exact ⟨.int .i64 n, hrun _ _ (fun _ => rfl) (by simp [Builtin.len_, ha, e0, run_underlying ht0, goInt]), by simp [VR]⟩
            · rename_i e1
              rw [e1] at hv; simp only [VR] at hv; subst hv
              exact ⟨.int .i64 0, hrun _ _ (fun _ => rfl) (by simp [Builtin.len_, ha, e0, run_underlying ht0, goInt]), by simp [VR]⟩
            · trivial
        · -- len of an array
          rename_i x n e ht0
          simp only [Option.some.injEq, AOp.p.injEq] at hc; subst hc
          obtain ⟨v, vs, hvs, hv, hnil⟩ := VRs.cons_inv hr
          have hnil := VRs.nil_inv hnil
          subst hnil
          have e0 : args.map (evC tmps) = #[v] := by apply Array.ext'; rw [hargs, hvs]
          cases ha : argTypes[0]? with
          | none => simp [ha] at ht0
          | some t0 =>
            simp [ha] at ht0
            exact ⟨.int .i64 n, hrun _ _ (fun _ => rfl) (by simp [Builtin.len_, ha, e0, run_underlying ht0, goInt]), by simp [VR]⟩
        · simp at hc
        · -- cap
          rename_i x e ht0
          simp only [Option.some.injEq, AOp.p.injEq] at hc; subst hc
          obtain ⟨v, vs, hvs, hv, hnil⟩ := VRs.cons_inv hr
          have hnil := VRs.nil_inv hnil
          subst hnil
          have e0 : args.map (evC tmps) = #[v] := by apply Array.ext'; rw [hargs, hvs]
          cases ha : argTypes[0]? with
          | none => simp [ha] at ht0
          | some t0 =>
            simp [ha] at ht0
            simp only [pRun]
            unfold oCap
            split
            · rename_i b' o' n cap e1
              rw [e1] at hv; simp only [VR] at hv
              obtain ⟨i, off, C, _, rfl, _, _, hC, _⟩ := hv
              have := hC trivial
              subst this
              exact ⟨.int .i64 C, hrun _ _ (fun _ => rfl) (by simp [Builtin.cap_, ha, e0, run_underlying ht0, goInt]), by simp [VR]⟩
            · rename_i e1
              rw [e1] at hv; simp only [VR] at hv; subst hv
              exact ⟨.int .i64 0, hrun _ _ (fun _ => rfl) (by simp [Builtin.cap_, ha, e0, run_underlying ht0, goInt]), by simp [VR]⟩
            · trivial
        · -- max
          rename_i x xs' 
          simp only [Option.some.injEq, AOp.p.injEq] at hc; subst hc
          obtain ⟨v, vs, hvs, hv, hrest⟩ := VRs.cons_inv hr
          simp only [pRun]
          cases hm : maxA true (evO tm x) (evs tm xs') with
          | fail => trivial
          | new _ _ => exact absurd hm (maxA_new _ _ _ _ _)
          | val r =>
            obtain ⟨v', e1, e2⟩ := maxA_run (P := P) (evs tm xs') _ hm hv hrest w
            refine ⟨v', hrun _ _ (fun _ => rfl) ?_, e2⟩
            simp only [Builtin.max_, hargs, hvs]
            exact e1
        · rename_i x xs' 
          simp only [Option.some.injEq, AOp.p.injEq] at hc; subst hc
          obtain ⟨v, vs, hvs, hv, hrest⟩ := VRs.cons_inv hr
          simp only [pRun]
          cases hm : maxA false (evO tm x) (evs tm xs') with
          | fail => trivial
          | new _ _ => exact absurd hm (maxA_new _ _ _ _ _)
          | val r =>
            obtain ⟨v', e1, e2⟩ := maxA_run (P := P) (evs tm xs') _ hm hv hrest w
            refine ⟨v', hrun _ _ (fun _ => rfl) ?_, e2⟩
            simp only [Builtin.min_, hargs, hvs]
            exact e1
        all_goals (first | (simp at hc; done) | (repeat' (split at hc <;> try (simp at hc; done))))
  all_goals (exfalso; simp only [cOp] at hc; first | (simp at hc; done) | (repeat' (split at hc <;> try (simp at hc; done))))

end
end Go.AI
