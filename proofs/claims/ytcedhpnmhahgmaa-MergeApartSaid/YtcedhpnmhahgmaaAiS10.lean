/- Part of a proof for one law: an interpreter over what is known of values, and that it is right. -/
import Derived.Test.YtcedhpnmhahgmaaAiS9
set_option linter.unusedSimpArgs false
set_option linter.unusedVariables false
set_option linter.constructorNameAsVariable false
namespace Go.AI
variable (P : Program) (ρ : Nat → Value)

/-- what an operation with effects comes to -/
def WOK (β : Bm) (h : AHeap) (w : World) (s : Sem Next) (v : AVal) (h' : AHeap) : Prop :=
  ∃ β' v' w' n, s.run P w = .ok n w' ∧ (n = .value v' ∨ (n = .skip ∧ v' = undef)) ∧ VR ρ β' v v' ∧ HR P ρ β' h' w' ∧ HWF h' ∧ Ext β β' h h' w w'
section
variable {P} {ρ} {E : Env} (hE : EnvOk P ρ E) {β : Bm} {tm : PT AVal} {tmps : Array Value} {h : AHeap} {w : World}

theorem run_skip {s : Sem Unit} {w w' : World} (h : s.run P w = .ok () w') : (do s; pure Next.skip : Sem Next).run P w = .ok .skip w' := by simp [h]
theorem setObj_map {r : Nat} {es : Array MapEntry} {c : Nat} (h : w.heap[r]? = some (.map es c)) (o : Obj) :
    (setObj r o).run P w = .ok () { w with heap := w.heap.setIfInBounds r o } := by
  simp [setObj, Sem.run, h]
theorem upd_map (hr : HR P ρ β h w) (hw : HWF h) {b : Pos} {i : BInfo} (hb : β b = some i) {es : List AEntry} {clock : Nat} (hg : h.get b = some (.map es clock))
    {es2 : List AEntry} {clock2 : Nat} {es2' : Array MapEntry} (hrel : EntR ρ β es2 es2'.toList) :
    HR P ρ β (h.set b (.map es2 clock2)) { w with heap := w.heap.setIfInBounds i.cb (.map es2' clock2) } ∧ HWF (h.set b (.map es2 clock2)) ∧
    Ext β β h (h.set b (.map es2 clock2)) w { w with heap := w.heap.setIfInBounds i.cb (.map es2' clock2) } := by
  have hlt := hr.lt b i hb
  refine upd_block hr hw hb hg rfl (c' := .map es2' clock2) ?_ ?_ ?_ ⟨es2', rfl, hrel⟩ ⟨rfl, rfl, rfl⟩
  · simp [hlt]
  · simp
  · intro k hk
    simp only [Array.getElem?_setIfInBounds]
    rw [if_neg (by omega)]
theorem EntR.get : ∀ {es : List AEntry} {l : List MapEntry}, EntR ρ β es l → ∀ (i : Nat) (e : AEntry), es[i]? = some e → ∃ m : MapEntry, l[i]? = some m ∧ VR ρ β e.key m.key ∧ VR ρ β e.val m.val ∧ e.born = m.born
  | [], l, h, i, e, he => by simp at he
  | a :: es, l, h, i, e, he => by
    obtain ⟨m, ms, rfl, h1, h2, h3, h4⟩ := h
    cases i with
    | zero => simp at he; subst he; exact ⟨m, by simp, h1, h2, h3⟩
    | succ i => simp at he; obtain ⟨m', q, r⟩ := EntR.get h4 i e he; exact ⟨m', by simpa using q, r⟩
theorem EntR.append : ∀ {es es2 : List AEntry} {l l2 : List MapEntry}, EntR ρ β es l → EntR ρ β es2 l2 → EntR ρ β (es ++ es2) (l ++ l2)
  | [], es2, l, l2, h, h' => by simp only [EntR] at h; subst h; exact h'
  | a :: es, es2, l, l2, h, h' => by
    obtain ⟨m, ms, rfl, h1, h2, h3, h4⟩ := h
    exact ⟨m, ms ++ l2, rfl, h1, h2, h3, EntR.append h4 h'⟩
theorem EntR.upd {f : AEntry → AEntry} {g : MapEntry → MapEntry} (hfg : ∀ (e : AEntry) (m : MapEntry), VR ρ β e.key m.key → VR ρ β e.val m.val → e.born = m.born → VR ρ β (f e).key (g m).key ∧ VR ρ β (f e).val (g m).val ∧ (f e).born = (g m).born) :
    ∀ {es : List AEntry} {l : List MapEntry}, EntR ρ β es l → ∀ i, EntR ρ β (AI.upd f es i) (l.modify i g)
  | [], l, h, i => by simp only [EntR] at h; subst h; simp [AI.upd, EntR]
  | a :: es, l, h, 0 => by
    obtain ⟨m, ms, rfl, h1, h2, h3, h4⟩ := h
    simp only [AI.upd, List.modify_zero_cons]
    obtain ⟨q1, q2, q3⟩ := hfg a m h1 h2 h3
    exact ⟨_, _, rfl, q1, q2, q3, h4⟩
  | a :: es, l, h, i + 1 => by
    obtain ⟨m, ms, rfl, h1, h2, h3, h4⟩ := h
    simp only [AI.upd, List.modify_succ_cons]
    exact ⟨_, _, rfl, h1, h2, h3, EntR.upd hfg h4 i⟩
theorem EntR.erase : ∀ {es : List AEntry} {l : List MapEntry}, EntR ρ β es l → ∀ i, EntR ρ β (eraseAt es i) (l.eraseIdx i)
  | [], l, h, i => by simp only [EntR] at h; subst h; simp [eraseAt, EntR]
  | a :: es, l, h, 0 => by
    obtain ⟨m, ms, rfl, h1, h2, h3, h4⟩ := h
    simpa [eraseAt] using h4
  | a :: es, l, h, i + 1 => by
    obtain ⟨m, ms, rfl, h1, h2, h3, h4⟩ := h
    simp only [eraseAt, List.eraseIdx_cons_succ]
    exact ⟨_, _, rfl, h1, h2, h3, EntR.erase h4 i⟩
theorem findIn_index {kt : KT} {x : AVal} : ∀ (es : List AEntry) i j v, findIn E kt x es i = some (some (j, v)) → i ≤ j ∧ ∃ e, es[j - i]? = some e ∧ e.val = v ∧ keyA E kt x e.key = some true
  | [], i, j, v, h => by simp [findIn] at h
  | e :: es, i, j, v, h => by
    simp only [findIn] at h
    split at h
    · rename_i hq; simp at h; obtain ⟨rfl, rfl⟩ := h; exact ⟨Nat.le_refl _, e, by simp, rfl, hq⟩
    · obtain ⟨h1, e', h2, h3, h4⟩ := findIn_index es (i + 1) j v h
      refine ⟨by omega, e', ?_, h3, h4⟩
      rw [show j - i = (j - (i + 1)) + 1 by omega]; simpa using h2
    · simp at h
/-- two values whose cells are whole numbers or bools -/
def BI (v : Value) : Prop := (∃ k n, v = .int k n) ∨ ∃ b, v = .bool b
theorem sameBits_cell {v u : Value} (h : (∃ k n, v = .int k n ∧ u = .int k n) ∨ ∃ b, v = .bool b ∧ u = .bool b) (n : Nat) : Instr.sameBits n v u = true := by
  rcases h with ⟨k, m, rfl, rfl⟩ | ⟨b, rfl, rfl⟩ <;> unfold Instr.sameBits <;> simp
theorem cellEq_same (hE : EnvOk P ρ E) {c : CT} (hc : keyCT c = true) {x y : AVal} (h : cellEq E c x y = some true) {vx vy : Value} (hx : VR ρ β x vx) (hy : VR ρ β y vy) :
    (∃ k n, vx = .int k n ∧ vy = .int k n) ∨ ∃ b, vx = .bool b ∧ vy = .bool b := by
  cases c <;> simp [keyCT] at hc
  · unfold cellEq at h
    simp only at h
    split at h
    · split at h
      · rename_i a b
        simp only [VR] at hx hy; subst hx hy
        simp only [Option.some.injEq, eqB_eq, beq_iff_eq] at h
        exact .inr ⟨_, rfl, by rw [h]⟩
      · simp at h
    · simp at h
  · have fin : ∀ k a a', vx = .int k a → vy = .int k a' → true = (a == a') → (∃ k n, vx = .int k n ∧ vy = .int k n) ∨ ∃ b, vx = .bool b ∧ vy = .bool b := by
      intro k a a' e1 e2 e3
      have : a = a' := by simpa using e3.symm
      exact .inl ⟨k, a, e1, by rw [this, e2]⟩
    unfold cellEq at h
    simp only at h
    split at h
    · rename_i k a
      split at h
      · rename_i k' a'
        split at h
        · rename_i hk
          simp only [VR] at hx hy
          simp only [Option.some.injEq] at h
          exact fin k a a' hx (by rw [hy, eqK_eq hk]) (by rw [← eqI_iff]; exact h.symm)
        · simp at h
      · obtain ⟨k, a, a', e1, e2, e3⟩ := symEq_run hE (default : World) h hx hy
        exact fin k a a' e1 e2 e3
    · obtain ⟨k, a, a', e1, e2, e3⟩ := symEq_run hE (default : World) h hx hy
      exact fin k a a' e1 e2 e3
theorem keyA_sameBits (hE : EnvOk P ρ E) {t : TypeId} {kt : KT} (hk : keyT P t = some kt) {x y : AVal} (h : keyA E kt x y = some true) {vx vy : Value} (hx : VR ρ β x vx) (hy : VR ρ β y vy) : Instr.sameBits 10000 vy vx = true := by
  have sym : ∀ n v u, Instr.sameBits n v u = true → ((∃ k n, v = .int k n ∧ u = .int k n) ∨ ∃ b, v = .bool b ∧ u = .bool b) → Instr.sameBits n u v = true := by
    intro n v u _ hh
    rcases hh with ⟨k, m, rfl, rfl⟩ | ⟨b, rfl, rfl⟩ <;> unfold Instr.sameBits <;> simp
  unfold keyT at hk
  split at hk
  · rename_i n ha hn
    split at hk
    · rename_i l hl
      split at hk
      · rename_i hcond
        simp only [Option.some.injEq] at hk; subst hk
        obtain ⟨c1, c2, c3⟩ := hcond
        simp only [keyA] at h
        split at h
        · split at h
          · rename_i xs _ ys
            simp only [VR] at hx hy
            obtain ⟨X, rfl, hX, _⟩ := hx
            obtain ⟨Y, rfl, hY, _⟩ := hy
            have hts : ∀ c ∈ l.map (·.2), keyCT c = true := by
              intro c hc
              obtain ⟨p, hp, rfl⟩ := List.mem_map.1 hc
              exact (List.all_eq_true.1 c2) p hp
            -- both ways round
            have both : ∀ (ts : List CT) (xs ys : List AVal) (X Y : List Value), (∀ c ∈ ts, keyCT c = true) → keyCells E ts xs ys = some true → VRs ρ β xs X → VRs ρ β ys Y →
                X.length = Y.length ∧ ∀ n, ((Y.zip X).all fun (x, y) => Instr.sameBits n x y) = true := by
              intro ts
              induction ts with
              | nil =>
                intro xs ys X Y _ h hX hY
                cases xs <;> cases ys <;> simp [keyCells] at h
                rw [hX.nil_inv, hY.nil_inv]; simp
              | cons t ts ih =>
                intro xs ys X Y hts h hX hY
                cases xs with
                | nil => simp [keyCells] at h
                | cons x xs =>
                  cases ys with
                  | nil => simp [keyCells] at h
                  | cons y ys =>
                    obtain ⟨vx, X, rfl, h1, hX⟩ := hX.cons_inv
                    obtain ⟨vy, Y, rfl, h2, hY⟩ := hY.cons_inv
                    simp only [keyCells] at h
                    split at h
                    · simp at h
                    · rename_i hc
                      obtain ⟨q1, q2⟩ := ih xs ys X Y (fun c hc => hts c (by simp [hc])) h hX hY
                      have := cellEq_same hE (hts t (by simp)) hc h1 h2
                      refine ⟨by simp [q1], fun n => ?_⟩
                      simp only [List.zip_cons_cons, List.all_cons, q2 n, sym n _ _ (sameBits_cell this n) this, Bool.and_self]
                    · simp at h
            obtain ⟨q1, q2⟩ := both _ xs ys _ _ hts h hX hY
            unfold Instr.sameBits
            simp only [Bool.and_eq_true, beq_iff_eq]
            exact ⟨by simpa using q1.symm, q2 9999⟩
          · simp at h
        · simp at h
      · simp at hk
    · simp at hk
  · rename_i ha
    split at hk
    · rename_i c hc
      split at hk
      · rename_i hkc
        simp only [Option.some.injEq] at hk; subst hk
        simp only [keyA] at h
        have := cellEq_same hE hkc h hx hy
        exact sym _ _ _ (sameBits_cell this _) this
      · simp at hk
    · simp at hk
  · simp at hk

theorem keyStays (w : World) {old new : Value} (h : Instr.sameBits 10000 old new = true) : (Instr.keyThatStays old new).run P w = .ok new w := by
  simp [Instr.keyThatStays, h]
theorem modify_toList (es : Array MapEntry) (i : Nat) (f : MapEntry → MapEntry) : (es.modify i f).toList = es.toList.modify i f := by
  simp
theorem wMset_run (hE : EnvOk P ρ E) (hr : HR P ρ β h w) (hw : HWF h) {m k v : AVal} {vm vk vv : Value} (hm : VR ρ β m vm) (hk : VR ρ β k vk) (hv : VR ρ β v vv) {t kt et : TypeId} {ka : KT}
    (hu : P.underlying t = some (.map kt et)) (hkt : keyT P kt = some ka) {r : AVal} {h' : AHeap} (he : wMset E h m k v ka = .ok r h') :
    ∃ w', (Instr.mapUpdate t vm vk vv).run P w = .ok () w' ∧ r = .undef ∧ HR P ρ β h' w' ∧ HWF h' ∧ Ext β β h h' w w' := by
  unfold wMset at he
  split at he
  · rename_i b
    simp only [VR] at hm
    obtain ⟨i, hb, rfl⟩ := hm
    split at he
    · rename_i es clock hg
      obtain ⟨es', g1, g2⟩ := hr.map hb hg
      split at he
      · rename_i j x hf
        simp only [ORes.ok.injEq] at he; obtain ⟨rfl, rfl⟩ := he
        obtain ⟨c1, r', c2, c3⟩ := findA_run hE hkt hk w g2 hf
        obtain ⟨x', rfl, hx'⟩ := c3
        have hidx : ∃ e, es[j]? = some e ∧ keyA E ka k e.key = some true := by
          unfold findA at hf
          split at hf
          · obtain ⟨_, e, q1, _, q3⟩ := findIn_index es 0 j x hf
            exact ⟨e, by simpa using q1, q3⟩
          · simp at hf
        obtain ⟨e, q1, q2⟩ := hidx
        obtain ⟨me, q3, q4, q5, q6⟩ := EntR.get g2 j e q1
        have hes : es'[j]? = some me := by simpa using q3
        have hsb := keyA_sameBits hE hkt q2 hk q4
        refine ⟨_, ?_, rfl, upd_map hr hw hb hg (es2' := es'.modify j fun e => { e with key := vk, val := vv }) ?_⟩
        · simp only [Instr.mapUpdate, Sem.run_bind, run_underlying hu, Result.andThen_ok, getObj_map g1, c1, c2, hes, Option.map_some, Option.getD_some, keyStays w hsb, setObj_map g1]
        · rw [modify_toList]
          exact EntR.upd (fun e m _ _ hb => ⟨hk, hv, by cases e; exact hb⟩) g2 j
      · rename_i hf
        simp only [ORes.ok.injEq] at he; obtain ⟨rfl, rfl⟩ := he
        obtain ⟨c1, r', c2, c3⟩ := findA_run hE hkt hk w g2 hf
        simp only [FindR] at c3; subst c3
        refine ⟨_, ?_, rfl, upd_map hr hw hb hg (es2' := es'.push { key := vk, val := vv, born := clock }) ?_⟩
        · simp only [Instr.mapUpdate, Sem.run_bind, run_underlying hu, Result.andThen_ok, getObj_map g1, c1, c2, setObj_map g1]
        · rw [Array.toList_push]
          exact EntR.append g2 ⟨_, [], rfl, hk, hv, rfl, by simp [EntR]⟩
      · simp at he
    · simp at he
  · simp at he
theorem wMent_run (hE : EnvOk P ρ E) (hr : HR P ρ β h w) (hw : HWF h) {m k z : AVal} {vm vk : Value} (hm : VR ρ β m vm) (hk : VR ρ β k vk) {t kt et : TypeId} {ka : KT}
    (hu : P.underlying t = some (.map kt et)) (hkt : keyT P kt = some ka) (hz : zeroT P et = some z) {r : AVal} {h' : AHeap} (he : wMent E h m k ka z = .ok r h') :
    ∃ v' w', (Instr.mapEntry t vm vk).run P w = .ok v' w' ∧ VR ρ β r v' ∧ HR P ρ β h' w' ∧ HWF h' ∧ Ext β β h h' w w' := by
  obtain ⟨zv, z1, z2⟩ := zeroT_run P hz w
  have hzr := ofValue_rel ρ (β := β) z2
  unfold wMent at he
  split at he
  · rename_i b
    simp only [VR] at hm
    obtain ⟨i, hb, rfl⟩ := hm
    split at he
    · rename_i es clock hg
      obtain ⟨es', g1, g2⟩ := hr.map hb hg
      split at he
      · rename_i j x hf
        simp only [ORes.ok.injEq] at he; obtain ⟨rfl, rfl⟩ := he
        obtain ⟨c1, r', c2, c3⟩ := findA_run hE hkt hk w g2 hf
        obtain ⟨x', rfl, hx'⟩ := c3
        have hidx : ∃ e, es[j]? = some e ∧ keyA E ka k e.key = some true := by
          unfold findA at hf
          split at hf
          · obtain ⟨_, e, q1, _, q3⟩ := findIn_index es 0 j x hf
            exact ⟨e, by simpa using q1, q3⟩
          · simp at hf
        obtain ⟨e, q1, q2⟩ := hidx
        obtain ⟨me, q3, q4, q5, q6⟩ := EntR.get g2 j e q1
        have hes : es'[j]? = some me := by simpa using q3
        have hsb := keyA_sameBits hE hkt q2 hk q4
        refine ⟨.tuple #[x', goInt me.born], _, ?_, ?_, upd_map hr hw hb hg (es2' := es'.modify j fun e => { e with key := vk }) ?_⟩
        · simp only [Instr.mapEntry, Sem.run_bind, run_underlying hu, Result.andThen_ok, getObj_map g1, c1, c2, hes, Option.map_some, Option.getD_some, keyStays w hsb, setObj_map g1, Sem.run_pure]
        · simp only [VR]
          refine ⟨_, rfl, VRs.cons hx' (VRs.cons ?_ VRs.nil)⟩
          simp only [VR, goInt, bornAt, nth_eq, q1, q6]
          rfl
        · rw [modify_toList]
          exact EntR.upd (fun e m _ h2 hb => ⟨hk, by cases e; exact h2, by cases e; exact hb⟩) g2 j
      · rename_i hf
        simp only [ORes.ok.injEq] at he; obtain ⟨rfl, rfl⟩ := he
        obtain ⟨c1, r', c2, c3⟩ := findA_run hE hkt hk w g2 hf
        simp only [FindR] at c3; subst c3
        refine ⟨.tuple #[zv, goInt clock], _, ?_, ?_, upd_map hr hw hb hg (es2' := es'.push { key := vk, val := zv, born := clock }) ?_⟩
        · simp only [Instr.mapEntry, Sem.run_bind, run_underlying hu, Result.andThen_ok, getObj_map g1, c1, c2, z1, setObj_map g1, Sem.run_pure]
        · simp only [VR]
          exact ⟨_, rfl, VRs.cons hzr (VRs.cons (by simp [VR, goInt]) VRs.nil)⟩
        · rw [Array.toList_push]
          exact EntR.append g2 ⟨_, [], rfl, hk, hzr, rfl, by simp [EntR]⟩
      · simp at he
    · simp at he
  · simp at he
theorem findBorn_rel {n : Nat} : ∀ {es : List AEntry} {l : List MapEntry}, EntR ρ β es l → ∀ i j, findBorn n es i = some j → (l.findIdx? fun e => (e.born : Int) == (n : Int)).map (· + i) = some j
  | [], l, h, i, j, hf => by simp [findBorn] at hf
  | e :: es, l, h, i, j, hf => by
    obtain ⟨m, ms, rfl, h1, h2, h3, h4⟩ := h
    simp only [findBorn] at hf
    split at hf
    · rename_i hb
      have := Nat.eq_of_beq_eq_true hb
      simp at hf; subst hf
      have hm : (m.born : Int) = (n : Int) := by rw [← h3, this]
      simp [List.findIdx?_cons, hm]
    · rename_i hb
      have hne : ¬ (m.born : Int) = (n : Int) := by
        intro e'
        have : e.born = n := by rw [h3]; exact_mod_cast e'
        rw [this] at hb; simp at hb
      have ih := findBorn_rel h4 (i + 1) j hf
      simp only [List.findIdx?_cons, beq_iff_eq, hne, if_false]
      cases hq : (ms.findIdx? fun e => (e.born : Int) == (n : Int)) with
      | none => rw [hq] at ih; simp at ih
      | some q =>
        rw [hq] at ih
        simp only [Option.map_some, Option.some.injEq] at ih ⊢
        omega
theorem wMstore_run (hr : HR P ρ β h w) (hw : HWF h) {m s v : AVal} {vm vs vv : Value} (hm : VR ρ β m vm) (hs : VR ρ β s vs) (hv : VR ρ β v vv) (t : TypeId)
    {r : AVal} {h' : AHeap} (he : wMstore h m s v = .ok r h') :
    ∃ w', (Instr.entryStore t vm vs vv).run P w = .ok () w' ∧ r = .undef ∧ HR P ρ β h' w' ∧ HWF h' ∧ Ext β β h h' w w' := by
  unfold wMstore at he
  split at he
  · rename_i b
    simp only [VR] at hm
    obtain ⟨i, hb, rfl⟩ := hm
    split at he
    · rename_i n hn
      obtain ⟨kn, rfl⟩ := asNat_rel hn hs
      split at he
      · rename_i es clock hg
        obtain ⟨es', g1, g2⟩ := hr.map hb hg
        split at he
        · rename_i j hf
          simp only [ORes.ok.injEq] at he; obtain ⟨rfl, rfl⟩ := he
          have hfi := findBorn_rel g2 0 j hf
          have hfi' : es'.findIdx? (fun e => (e.born : Int) == (n : Int)) = some j := by
            rw [← List.findIdx?_toArray] at hfi
            simpa using hfi
          refine ⟨_, ?_, rfl, upd_map hr hw hb hg (es2' := es'.modify j fun e => { e with val := vv }) ?_⟩
          · simp only [Instr.entryStore, Sem.run_bind, getObj_map g1, Result.andThen_ok, asInt, asIntOf, Sem.run_pure, hfi', setObj_map g1]
          · rw [modify_toList]
            exact EntR.upd (fun e m h1 _ hb => ⟨by cases e; exact h1, by cases e; exact hv, by cases e; exact hb⟩) g2 j
        · simp at he
      · simp at he
    · simp at he
  · simp at he
theorem wDelete_run (hE : EnvOk P ρ E) (hr : HR P ρ β h w) (hw : HWF h) {m k : AVal} {vm vk : Value} (hm : VR ρ β m vm) (hk : VR ρ β k vk) {t kt et : TypeId} {ka : KT}
    (hu : P.underlying t = some (.map kt et)) (hkt : keyT P kt = some ka) {r : AVal} {h' : AHeap} (he : wDelete E h m k ka = .ok r h') (ts : Array TypeId) (ht : ts[0]? = some t) (ty : TypeId) :
    ∃ w', (Builtin.delete_ ts ty #[vm, vk]).run P w = .ok (.tuple #[]) w' ∧ r = .tuple [] ∧ HR P ρ β h' w' ∧ HWF h' ∧ Ext β β h h' w w' := by
  unfold wDelete at he
  split at he
  · simp only [VR] at hm; subst hm
    split at he
    · rename_i hok
      simp only [ORes.ok.injEq] at he; obtain ⟨rfl, rfl⟩ := he
      refine ⟨w, ?_, rfl, hr, hw, Ext.refl _ _ _⟩
      simp [Builtin.delete_, ht, run_underlying hu, checkKey_run hkt hok hk true w]
    · simp at he
  · rename_i b
    simp only [VR] at hm
    obtain ⟨i, hb, rfl⟩ := hm
    split at he
    · rename_i es clock hg
      obtain ⟨es', g1, g2⟩ := hr.map hb hg
      split at he
      · rename_i j x hf
        simp only [ORes.ok.injEq] at he; obtain ⟨rfl, rfl⟩ := he
        obtain ⟨c1, r', c2, c3⟩ := findA_run hE hkt hk w g2 hf
        obtain ⟨x', rfl, hx'⟩ := c3
        refine ⟨_, ?_, rfl, upd_map hr hw hb hg (es2' := es'.eraseIdxIfInBounds j) ?_⟩
        · simp [Builtin.delete_, ht, run_underlying hu, getObj_map g1, c1, c2, setObj_map g1]
        · have : (es'.eraseIdxIfInBounds j).toList = es'.toList.eraseIdx j := by simp
          rw [this]
          exact EntR.erase g2 j
      · rename_i hf
        simp only [ORes.ok.injEq] at he; obtain ⟨rfl, rfl⟩ := he
        obtain ⟨c1, r', c2, c3⟩ := findA_run hE hkt hk w g2 hf
        simp only [FindR] at c3; subst c3
        have hcc := upd_map hr hw hb hg (clock2 := clock) (es2 := es) (es2' := es') g2
        have hlt := hr.lt b i hb
        have hself : ({ w with heap := w.heap.setIfInBounds i.cb (.map es' clock) } : World) = w := by
          have : w.heap.setIfInBounds i.cb (.map es' clock) = w.heap := by
            apply Array.ext_getElem?
            intro k
            rw [Array.getElem?_setIfInBounds]
            split
            · rename_i e; subst e; rw [g1]; try simp [hlt]
            · rfl
          cases w; simp_all
        refine ⟨w, ?_, rfl, hr, hw, Ext.refl _ _ _⟩
        have := setObj_map (P := P) g1 (.map es' clock)
        rw [hself] at this
        simp [Builtin.delete_, ht, run_underlying hu, getObj_map g1, c1, c2, this]
      · simp at he
    · simp at he
  · simp at he
end
end Go.AI
