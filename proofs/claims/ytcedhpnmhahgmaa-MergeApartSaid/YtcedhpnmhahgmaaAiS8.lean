/- Part of a proof for one law: an interpreter over what is known of values, and that it is right. -/
import Derived.Test.YtcedhpnmhahgmaaAiS7
set_option linter.unusedSimpArgs false
set_option linter.unusedVariables false
set_option linter.constructorNameAsVariable false
namespace Go.AI
variable (P : Program) (ρ : Nat → Value)
section
variable {P} {ρ} {E : Env} (hE : EnvOk P ρ E) {β : Bm} {tm : PT AVal} {tmps : Array Value}

/-! ## keys -/
theorem findKey_asking (t : TypeId) (k : Value) (es : List MapEntry) (w : World) (hu : ∃ d, P.underlying t = some d) :
    (Instr.findKey t k es).run P w = (Instr.findAsking t k es 0).run P w := by
  obtain ⟨d, hd⟩ := hu
  have same : ∀ x y c, Instr.sameNow d x y = some c → (Op.equal t x y).run P w = .ok c w := by
    intro x y c h
    unfold Instr.sameNow at h
    unfold Op.equal
    rw [show Op.maxDepth = 9999 + 1 from rfl]
    generalize 9999 = N
    split at h
    · rename_i k0 k a k' b
      split at h
      · rename_i hk; simp at h; subst h hk; simp [Op.equalIn, run_underlying hd]
      · simp at h
    · simp at h; subst h; simp [Op.equalIn, run_underlying hd]
    · simp at h; subst h; simp [Op.equalIn, run_underlying hd]
    · simp at h
  have now : ∀ (es : List MapEntry) i r, Instr.findNow d k es i = some r → (Instr.findAsking t k es i).run P w = .ok r w := by
    intro es
    induction es with
    | nil => intro i r h; simp [Instr.findNow] at h; subst h; simp [Instr.findAsking]
    | cons e es ih =>
      intro i r h
      simp only [Instr.findNow] at h
      simp only [Instr.findAsking]
      split at h
      · rename_i hs; simp at h; subst h
        simp [same _ _ _ hs]
      · rename_i hs
        simp [same _ _ _ hs, ih _ _ h]
      · simp at h
  simp only [Instr.findKey, Sem.run_bind, run_underlying hd, Result.andThen_ok]
  split
  · rename_i r hr; rw [now es 0 r hr]; simp
  · rfl
theorem keyCells_leaves (ts : List CT) : ∀ (off : Nat) (pre pre' xs ys : List AVal) (b : Bool), pre.length = off → pre'.length = off → keyCells E ts xs ys = some b →
    leavesEq E (pre ++ xs) (pre' ++ ys) ((List.range' off ts.length).zip ts) = some b := by
  induction ts with
  | nil =>
    intro off pre pre' xs ys b h1 h2 h
    unfold keyCells at h
    split at h <;> simp_all [leavesEq]
  | cons t ts ih =>
    intro off pre pre' xs ys b h1 h2 h
    cases xs with
    | nil => simp [keyCells] at h
    | cons x xs =>
      cases ys with
      | nil => simp [keyCells] at h
      | cons y ys =>
        simp only [keyCells] at h
        simp only [List.length_cons, List.range'_succ, List.zip_cons_cons, leavesEq, nth_eq]
        have e1 : (pre ++ x :: xs)[off]? = some x := by rw [List.getElem?_append_right (by omega)]; simp [h1]
        have e2 : (pre' ++ y :: ys)[off]? = some y := by rw [List.getElem?_append_right (by omega)]; simp [h2]
        rw [e1, e2]
        simp only
        split at h
        · simp at h
        · rename_i hc
          have := ih (off + 1) (pre ++ [x]) (pre' ++ [y]) xs ys b (by simp [h1]) (by simp [h2]) h
          simpa using this
        · exact h
theorem zip_of_maps : ∀ (l : List (Nat × CT)), (l.map (·.1)).zip (l.map (·.2)) = l
  | [] => rfl
  | (a, b) :: l => by simp [zip_of_maps l]
theorem isAgg_und {t : TypeId} {b : Bool} (h : isAggT P t = some b) : ∃ d, P.underlying t = some d := by
  unfold isAggT at h
  cases hd : P.underlying t with
  | none => simp [hd] at h
  | some d => exact ⟨d, rfl⟩
theorem keyT_und {t : TypeId} {kt : KT} (h : keyT P t = some kt) : ∃ d, P.underlying t = some d := by
  unfold keyT at h
  split at h
  · rename_i ha _; exact isAgg_und ha
  · rename_i ha; exact isAgg_und ha
  · simp at h
theorem keyA_run (hE : EnvOk P ρ E) {t : TypeId} {kt : KT} (hk : keyT P t = some kt) {x y : AVal} {b : Bool} (h : keyA E kt x y = some b) {vx vy : Value} (hx : VR ρ β x vx) (hy : VR ρ β y vy) (w : World) :
    (Op.equal t vx vy).run P w = .ok b w := by
  unfold keyT at hk
  split at hk
  · rename_i n ha hn
    split at hk
    · rename_i l hl
      split at hk
      · rename_i hcond
        simp only [Option.some.injEq] at hk; subst hk
        obtain ⟨c1, c2, c3⟩ := hcond
        simp only [keyA] at h
        split at h
        · split at h
          · simp only [VR] at hx hy
            obtain ⟨X, rfl, hX, _⟩ := hx
            obtain ⟨Y, rfl, hY, _⟩ := hy
            have := keyCells_leaves (E := E) (l.map (·.2)) 0 [] [] _ _ b rfl rfl h
            simp only [List.nil_append, List.length_map] at this
            have hll : l.length = n := by have := congrArg List.length c1; simpa using this
            rw [hll, ← List.range_eq_range', ← c1, zip_of_maps] at this
            exact eqAgg_run hE ha hl this hX hY (by rw [hn]; simpa using c3) w
          · simp at h
        · simp at h
      · simp at hk
    · simp at hk
  · rename_i ha
    split at hk
    · rename_i c hc
      split at hk
      · simp only [Option.some.injEq] at hk; subst hk
        simp only [keyA] at h
        exact cellEq_run hE hc h hx hy _
      · simp at hk
    · simp at hk
  · simp at hk
theorem checkKey_leaves {X : List Value} (empty : Bool) : ∀ (d : Nat) (t : TypeId) (off : Nat) (l : List (Nat × CT)), leavesF P d t off = some l → ∀ m, sizeT P t = some m → m ≠ 0 →
    off + m ≤ X.length → ∀ v, PV P t v X off m → ∀ D, d ≤ D → ∀ w : World, (Instr.checkKey empty D t v).run P w = .ok () w := by
  intro d
  induction d with
  | zero => intro t off l h; simp [leavesF] at h
  | succ d ih =>
    intro t off l h m hm h0 hX v hv D hD w
    obtain ⟨D, rfl⟩ : ∃ D', D = D' + 1 := ⟨D - 1, by omega⟩
    simp only [leavesF] at h
    split at h
    · rename_i fields hu
      split at h
      · simp at h
      · rename_i hst
        rw [hm] at h
        simp only at h
        cases hmap : mapO (fLeaves P (leavesF P d) off m) fields.toList with
        | none => rw [hmap] at h; simp at h
        | some ls =>
          have ha : isAggT P t = some true := by simp [isAggT, hu]
          simp only [PV, ha] at hv
          obtain ⟨A, rfl, hA⟩ := hv
          simp only [Instr.checkKey, Sem.run_bind, run_underlying hu, Result.andThen_ok]
          rw [← Array.forIn_toList]
          clear hu h
          generalize fields.toList = fs at hmap
          have loop : ∀ (fs : List Field) ls, mapO (fLeaves P (leavesF P d) off m) fs = some ls → ∀ w : World,
              (forIn (m := Sem) fs PUnit.unit fun f r => if f.name ≠ "_" then do
                let a ← part f.type A f.offset
                Instr.checkKey empty D f.type a
                pure PUnit.unit
                pure (ForInStep.yield PUnit.unit)
              else do pure PUnit.unit; pure (ForInStep.yield PUnit.unit)).run P w = .ok PUnit.unit w := by
            intro fs
            induction fs with
            | nil => intro ls h w; simp
            | cons f fs ihf =>
              intro ls hmap w
              simp only [mapO] at hmap
              split at hmap
              · simp at hmap
              · rename_i l1 hl1
                split at hmap
                · simp at hmap
                · rename_i ls' hls'
                  unfold fLeaves at hl1
                  split at hl1
                  · simp at hl1
                  · rename_i m' hm'
                    split at hl1
                    · simp at hl1
                    · rename_i hcond
                      have hname : f.name ≠ "_" := fun e => hcond (.inl e)
                      have hm0 : m' ≠ 0 := fun e => hcond (.inr (.inl e))
                      have hfit : f.offset + m' ≤ m := by
                        rcases Nat.lt_or_ge m (f.offset + m') with e | e
                        · exact absurd (.inr (.inr e)) hcond
                        · exact e
                      have hagg : isAggT P f.type ≠ none := by
                        intro e
                        cases d with
                        | zero => simp [leavesF] at hl1
                        | succ d =>
                          unfold isAggT at e
                          cases hud : P.underlying f.type with
                          | none => simp [leavesF, hud, cellT] at hl1
                          | some D0 => cases D0 <;> simp [hud] at e
                      obtain ⟨v1, r1, p1⟩ := part_pv (P := P) hm' hm0 hfit hA hagg (fun e => by omega) w
                      simp only [List.forIn_cons, Sem.run_bind, Sem.run_ite, ne_eq, hname, not_false_eq_true, if_true, r1, Result.andThen_ok,
                        ih f.type (off + f.offset) l1 hl1 m' hm' hm0 (by omega) v1 p1 D (by omega) w, Sem.run_pure]
                      exact ihf ls' hls' w
          have := loop fs ls hmap w
          first
            | (simp only [Sem.run_bind] at this ⊢; rw [this]; simp)
            | (rw [this]; simp)
            | exact this
    · rename_i hns
      have hc : ∃ c, cellT P t = some c := by
        cases hc : cellT P t with
        | none => simp [hc] at h
        | some c => exact ⟨c, rfl⟩
      obtain ⟨c, hc⟩ := hc
      unfold cellT at hc
      cases hu : P.underlying t with
      | none => simp [hu] at hc
      | some D0 => cases D0 <;> simp [hu] at hc <;> simp [Instr.checkKey, run_underlying hu]
theorem checkKey_run {t : TypeId} {kt : KT} (hk : keyT P t = some kt) {x : AVal} (h : keyOk kt x = true) {vx : Value} (hx : VR ρ β x vx) (empty : Bool) (w : World) :
    (Instr.checkKey empty 10000 t vx).run P w = .ok () w := by
  unfold keyT at hk
  split at hk
  · rename_i n ha hn
    split at hk
    · rename_i l hl
      split at hk
      · rename_i hcond
        simp only [Option.some.injEq] at hk; subst hk
        obtain ⟨c1, c2, c3⟩ := hcond
        simp only [keyOk] at h
        split at h
        · rename_i xs
          simp only [VR] at hx
          obtain ⟨X, rfl, hX, _⟩ := hx
          have hll : l.length = n := by have := congrArg List.length c1; simpa using this
          have hlen : ∀ l : List CT, lenC l = l.length := by
            intro l; induction l with
            | nil => rfl
            | cons a l ih => simp [lenC, ih]
          have e := Nat.eq_of_beq_eq_true h
          rw [lenL_eq, hlen] at e
          have hXl := hX.length
          refine checkKey_leaves (X := X.toList) empty 12 t 0 l hl n hn c3 (by simp at e ⊢; simp at hXl; omega) _ ?_ 10000 (by decide) w
          simp only [PV, ha]; exact ⟨X, rfl, fun k _ => by simp⟩
        · simp at h
      · simp at hk
    · simp at hk
  · rename_i ha
    split at hk
    · rename_i c hc
      unfold cellT at hc
      rw [show (10000 : Nat) = 9999 + 1 from rfl]
      generalize 9999 = N
      cases hu : P.underlying t with
      | none => simp [hu] at hc
      | some D0 => cases D0 <;> simp [hu] at hc <;> simp [Instr.checkKey, run_underlying hu]
    · simp at hk
  · simp at hk
def FindR (ρ : Nat → Value) (β : Bm) : Option (Nat × AVal) → Option (Nat × Value) → Prop
  | none, r => r = none
  | some (i, v), r => ∃ v', r = some (i, v') ∧ VR ρ β v v'
theorem findIn_run (hE : EnvOk P ρ E) {t : TypeId} {kt : KT} (hk : keyT P t = some kt) {x : AVal} {vx : Value} (hx : VR ρ β x vx) (w : World) :
    ∀ (es : List AEntry) (es' : List MapEntry) i r, EntR ρ β es es' → findIn E kt x es i = some r → ∃ r', (Instr.findAsking t vx es' i).run P w = .ok r' w ∧ FindR ρ β r r' := by
  intro es
  induction es with
  | nil => intro es' i r he h; simp only [EntR] at he; subst he; simp [findIn] at h; subst h; exact ⟨none, by simp [Instr.findAsking], rfl⟩
  | cons e es ih =>
    intro es' i r he h
    obtain ⟨m, ms, rfl, h1, h2, h3, h4⟩ := he
    simp only [findIn] at h
    simp only [Instr.findAsking]
    split at h
    · rename_i hq
      simp only [Option.some.injEq] at h; subst h
      exact ⟨some (i, m.val), by simp [keyA_run hE hk hq hx h1 w], ⟨m.val, rfl, h2⟩⟩
    · rename_i hq
      obtain ⟨r', e1, e2⟩ := ih ms (i + 1) r h4 h
      exact ⟨r', by simp [keyA_run hE hk hq hx h1 w, e1], e2⟩
    · simp at h
theorem findA_run (hE : EnvOk P ρ E) {t : TypeId} {kt : KT} (hk : keyT P t = some kt) {x : AVal} {vx : Value} (hx : VR ρ β x vx) (w : World) {es : List AEntry} {es' : List MapEntry} {r} (he : EntR ρ β es es')
    (h : findA E kt x es = some r) : (∀ empty, (Instr.checkKey empty 10000 t vx).run P w = .ok () w) ∧ ∃ r', (Instr.findKey t vx es').run P w = .ok r' w ∧ FindR ρ β r r' := by
  unfold findA at h
  split at h
  · rename_i hok
    refine ⟨fun empty => checkKey_run hk hok hx empty w, ?_⟩
    rw [findKey_asking t vx es' w (keyT_und hk)]
    exact findIn_run hE hk hx w es es' 0 r he h
  · simp at h

/-! ## reading -/
theorem HR.cells {h : AHeap} {w : World} (hr : HR P ρ β h w) {b : Pos} {i : BInfo} (hb : β b = some i) {cs : List AVal} {t : TypeId} (hg : h.get b = some (.cells cs t)) :
    ∃ (c : Array Value) (t' : TypeId), w.heap[i.cb]? = some (.cells c t' (0, 0)) ∧ c.size = i.size ∧ i.base + cs.length ≤ c.size ∧
      ∀ (k : Nat) x, cs[k]? = some x → ∃ v, c[i.base + k]? = some v ∧ VR ρ β x v ∧ v.oneCell' = true := by
  obtain ⟨c, h1, c', t', rfl, h2, h3, h4⟩ := hr.rel b i _ hb hg rfl
  exact ⟨c', t', h1, h2, h3, h4⟩
theorem HR.cell {h : AHeap} {w : World} (hr : HR P ρ β h w) {b : Pos} {i : BInfo} (hb : β b = some i) {cs : List AVal} {t : TypeId} (hg : h.get b = some (.cells cs t))
    {k : Nat} {x : AVal} (hx : cs[k]? = some x) : ∃ v, w.cell? ⟨i.cb, i.base + k, none⟩ = some v ∧ VR ρ β x v ∧ v.oneCell' = true := by
  obtain ⟨c, t', h1, h2, h3, h4⟩ := hr.cells hb hg
  obtain ⟨v, e1, e2, e3⟩ := h4 k x hx
  exact ⟨v, by simp [World.cell?, h1, e1], e2, e3⟩
theorem addr_add (b o n : Nat) : (⟨b, o, none⟩ : Addr).add n = ⟨b, o + n, none⟩ := by
  unfold Addr.add; split <;> simp_all
/-- a stretch of cells that is there -/
theorem HR.stretch {h : AHeap} {w : World} (hr : HR P ρ β h w) {b : Pos} {i : BInfo} (hb : β b = some i) {cs : List AVal} {t : TypeId} (hg : h.get b = some (.cells cs t))
    (o n : Nat) (hn : ((cs.drop o).take n).length = n) : ∃ l : List Value, l.length = n ∧ VRs ρ β ((cs.drop o).take n) l ∧ (∀ y ∈ l, y.oneCell' = true) ∧
      ∀ j v, l[j]? = some v → w.cell? ((⟨i.cb, i.base + o, none⟩ : Addr).add j) = some v := by
  obtain ⟨c, t', h1, h2, h3, h4⟩ := hr.cells hb hg
  have hlen : n ≤ cs.length - o := by simp at hn; omega
  have key : ∀ j, j < n → ∃ v, c[i.base + (o + j)]? = some v ∧ ∃ x, cs[o + j]? = some x ∧ VR ρ β x v ∧ v.oneCell' = true := by
    intro j hj
    have hlt : o + j < cs.length := by omega
    obtain ⟨v, e1, e2, e3⟩ := h4 (o + j) cs[o + j] (by simp [hlt])
    exact ⟨v, e1, cs[o + j], by simp [hlt], e2, e3⟩
  refine ⟨(List.range n).map fun j => c.getD (i.base + (o + j)) undef, by simp, ?_, ?_, ?_⟩
  · refine VRs.of_get (by simp; omega) fun j x hx => ?_
    have hj : j < n := by
      have := (List.getElem?_eq_some_iff.1 hx).1
      rw [hn] at this; exact this
    obtain ⟨v, e1, x', e2, e3, _⟩ := key j hj
    have ex : x = x' := by
      rw [List.getElem?_take_of_lt hj, List.getElem?_drop] at hx
      rw [e2] at hx; exact (Option.some.inj hx).symm
    refine ⟨v, ?_, ex ▸ e3⟩
    simp [hj, Array.getD_eq_getD_getElem?, e1]
  · intro y hy
    obtain ⟨j, hj, rfl⟩ := List.mem_map.1 hy
    obtain ⟨v, e1, x', e2, e3, e4⟩ := key j (by simpa using hj)
    simpa [Array.getD_eq_getD_getElem?, e1] using e4
  · intro j v hv
    have hj : j < n := by
      have := (List.getElem?_eq_some_iff.1 hv).1
      simpa using this
    obtain ⟨v', e1, x', e2, e3, e4⟩ := key j hj
    have : v = v' := by
      simp [hj, Array.getD_eq_getD_getElem?, e1] at hv; exact hv.symm
    subst this
    rw [addr_add]
    simp [World.cell?, h1, Nat.add_assoc, e1]
theorem rLoadC_run {h : AHeap} {w : World} (hr : HR P ρ β h w) {a : AVal} {va : Value} (ha : VR ρ β a va) {v : AVal} (he : rLoadC h a = some v) {t : TypeId} (hag : isAggT P t = some false) :
    ∃ v', (Instr.loadAt t va).run P w = .ok v' w ∧ VR ρ β v v' ∧ v'.oneCell' = true := by
  unfold rLoadC at he
  split at he
  · rename_i b o
    simp only [VR] at ha
    obtain ⟨i, hb, rfl⟩ := ha
    split at he
    · rename_i cs t' hg
      rw [nth_eq] at he
      obtain ⟨v', e1, e2, e3⟩ := hr.cell hb hg he
      exact ⟨v', by simp [Instr.loadAt, Instr.sureAddr, loadVar, isAgg_run P hag w, e1], e2, e3⟩
    · simp at he
  · simp at he
theorem rLoadA_run {h : AHeap} {w : World} (hr : HR P ρ β h w) {a : AVal} {va : Value} (ha : VR ρ β a va) {v : AVal} {n : Nat} (he : rLoadA h a n = some v) {t : TypeId} (hag : isAggT P t = some true) (hs : sizeT P t = some n) :
    ∃ v', (Instr.loadAt t va).run P w = .ok v' w ∧ VR ρ β v v' := by
  unfold rLoadA at he
  split at he
  · rename_i b o
    simp only [VR] at ha
    obtain ⟨i, hb, rfl⟩ := ha
    split at he
    · rename_i cs t' hg
      rw [takeL_eq, dropL_eq] at he
      simp only at he
      split at he
      · rename_i hl
        have hl := Nat.eq_of_beq_eq_true hl
        rw [lenL_eq] at hl
        simp only [Option.some.injEq] at he; subst he
        obtain ⟨l, q1, q2, q3, q4⟩ := hr.stretch hb hg o n hl
        have := run_loadCells_list (P := P) w ⟨i.cb, i.base + o, none⟩ l q4
        rw [q1] at this
        refine ⟨.agg l.toArray, by simp [Instr.loadAt, Instr.sureAddr, loadVar, isAgg_run P hag w, sizeT_run P hs w, this], ?_⟩
        simp only [VR]; exact ⟨_, rfl, by simpa using q2, by simpa using q3⟩
      · simp at he
    · simp at he
  · simp at he
theorem EntR.length : ∀ {es : List AEntry} {l : List MapEntry}, EntR ρ β es l → l.length = es.length
  | [], _, h => by simp only [EntR] at h; subst h; rfl
  | e :: es, l, h => by obtain ⟨m, ms, rfl, _, _, _, h⟩ := h; simp [EntR.length h]
theorem HR.map {h : AHeap} {w : World} (hr : HR P ρ β h w) {b : Pos} {i : BInfo} (hb : β b = some i) {es : List AEntry} {clock : Nat} (hg : h.get b = some (.map es clock)) :
    ∃ es', w.heap[i.cb]? = some (.map es' clock) ∧ EntR ρ β es es'.toList := by
  obtain ⟨c, h1, c', rfl, h2⟩ := hr.rel b i _ hb hg rfl
  exact ⟨c', h1, h2⟩
theorem getObj_map {w : World} {r : Nat} {es : Array MapEntry} {clock : Nat} (h : w.heap[r]? = some (.map es clock)) : (getObj r).run P w = .ok (.map es clock) w := by
  simp [getObj, Sem.run, h]
theorem read_sound (hE : EnvOk P ρ E) (ht : TR ρ β tm tmps) {h : AHeap} {w : World} (hr : HR P ρ β h w) (o : Oper) {rop : ROp} (hc : cOp P o.op = some (.r rop)) {v : AVal} (he : rRun E tm h rop = some v) :
    ∃ v', (execOp (evC tmps) o).run P w = .ok (.value v') w ∧ VR ρ β v v' := by
  have hs := hE.sym
  cases hop : o.op <;> rw [hop] at hc
  case load t a =>
    simp only [cOp] at hc
    split at hc
    · rename_i n a' hag hn ha
      simp only [Option.some.injEq, AOp.r.injEq] at hc; subst hc
      obtain ⟨v', e1, e2⟩ := rLoadA_run hr (cOpd_rel ht ha) he hag hn
      exact ⟨v', by simp only [execOp, hop]; exact run_val e1, e2⟩
    · rename_i a' hag ha
      simp only [Option.some.injEq, AOp.r.injEq] at hc; subst hc
      obtain ⟨v', e1, e2, _⟩ := rLoadC_run hr (cOpd_rel ht ha) he hag
      exact ⟨v', by simp only [execOp, hop]; exact run_val e1, e2⟩
    · simp at hc
  case lookup t m k ok =>
    simp only [cOp] at hc
    split at hc
    · rename_i kt et m' k' hu hm hk
      split at hc
      · rename_i l z hl hz
        simp only [Option.some.injEq, AOp.r.injEq] at hc; subst hc
        obtain ⟨zv, z1, z2⟩ := zeroT_run P hz w
        have hzr := ofValue_rel ρ (β := β) z2
        have hmr := cOpd_rel ht hm
        have hkr := cOpd_rel ht hk
        have fin : ∀ (es' : Array MapEntry), ((evC tmps m = .map none ∧ es' = #[]) ∨ ∃ r clock, evC tmps m = .map (some r) ∧ (getObj r).run P w = .ok (.map es' clock) w) →
            (∀ empty, (Instr.checkKey empty 10000 kt (evC tmps k)).run P w = .ok () w) → ∀ r r', (Instr.findKey kt (evC tmps k) es'.toList).run P w = .ok r' w → FindR ρ β r r' →
            v = (match r with | some (_, v) => lookOut ok v true | none => lookOut ok z false) →
            ∃ v', (execOp (evC tmps) o).run P w = .ok (.value v') w ∧ VR ρ β v v' := by
          intro es' h1 h2 r r' h3 h4 hv
          simp only [execOp, hop]
          have hout : ∀ x vx b, VR ρ β x vx → VR ρ β (lookOut ok x b) (if ok then .tuple #[vx, .bool b] else vx) := by
            intro x vx b hx
            cases ok with
            | true => simp only [lookOut, if_true, VR]; exact ⟨_, rfl, VRs.cons hx (VRs.cons (by simp [VR]) VRs.nil)⟩
            | false => simpa [lookOut] using hx
          cases r with
          | none =>
            simp only [FindR] at h4; subst h4
            refine ⟨if ok then .tuple #[zv, .bool false] else zv, run_val ?_, by rw [hv]; exact hout _ _ _ hzr⟩
            rcases h1 with ⟨e, rfl⟩ | ⟨q, clock, e, hg⟩
            · simp only [Instr.lookup, Sem.run_bind, run_underlying hu, Result.andThen_ok, e, h2, h3, z1, Sem.run_pure]
            · simp only [Instr.lookup, Sem.run_bind, run_underlying hu, Result.andThen_ok, e, hg, h2, h3, z1, Sem.run_pure]
          | some q =>
            obtain ⟨j, x⟩ := q
            obtain ⟨vx, rfl, hx⟩ := h4
            refine ⟨if ok then .tuple #[vx, .bool true] else vx, run_val ?_, by rw [hv]; exact hout _ _ _ hx⟩
            rcases h1 with ⟨e, rfl⟩ | ⟨q, clock, e, hg⟩
            · simp only [Instr.lookup, Sem.run_bind, run_underlying hu, Result.andThen_ok, e, h2, h3, Sem.run_pure]
            · simp only [Instr.lookup, Sem.run_bind, run_underlying hu, Result.andThen_ok, e, hg, h2, h3, Sem.run_pure]
        simp only [rRun] at he
        unfold rLook at he
        split at he
        · rename_i e1
          rw [e1] at hmr; simp only [VR] at hmr
          split at he
          · rename_i hok
            simp only [Option.some.injEq] at he
            refine fin #[] (.inl ⟨hmr, rfl⟩) (fun empty => checkKey_run hl hok hkr empty w) none none ?_ rfl he.symm
            rw [findKey_asking kt _ _ w (keyT_und hl)]
            simp [Instr.findAsking]
          · simp at he
        · rename_i r e1
          rw [e1] at hmr; simp only [VR] at hmr
          obtain ⟨i, hb, hv⟩ := hmr
          split at he
          · rename_i es clock hg
            obtain ⟨es', g1, g2⟩ := hr.map hb hg
            have hes : (evC tmps m = .map none ∧ es' = #[]) ∨ ∃ r clock, evC tmps m = .map (some r) ∧ (getObj r).run P w = .ok (.map es' clock) w := Or.inr ⟨i.cb, clock, hv, getObj_map g1⟩
            split at he
            · rename_i j x hf
              simp only [Option.some.injEq] at he
              obtain ⟨c1, r', c2, c3⟩ := findA_run hE hl hkr w g2 hf
              exact fin es' hes c1 _ r' c2 c3 he.symm
            · rename_i hf
              simp only [Option.some.injEq] at he
              obtain ⟨c1, r', c2, c3⟩ := findA_run hE hl hkr w g2 hf
              exact fin es' hes c1 _ r' c2 c3 he.symm
            · simp at he
          · simp at he
        · simp at he
      · simp at hc
    · simp at hc
  case call c =>
    obtain ⟨callee, args, argTypes⟩ := c
    simp only [cOp] at hc
    split at hc
    · simp at hc
    · rename_i xs hxs
      have hrl := cOpds_rel ht hxs
      cases callee with
      | value f =>
        simp only at hc
        cases hf : cOpd f <;> simp [hf] at hc
      | invoke r m => simp at hc
      | builtin b =>
        simp only at hc
        unfold cBuiltin at hc
        have hargs : (args.map (evC tmps)).toList = args.toList.map (evC tmps) := by simp
        split at hc
        case h_3 =>
          rename_i x kk ee ht0
          simp only [Option.some.injEq, AOp.r.injEq] at hc; subst hc
          obtain ⟨v0, vs, hvs, hv, hnil⟩ := VRs.cons_inv hrl
          have hnil := VRs.nil_inv hnil
          subst hnil
          have e0 : args.map (evC tmps) = #[v0] := by apply Array.ext'; rw [hargs, hvs]
          cases ha : argTypes[0]? with
          | none => simp [ha] at ht0
          | some t0 =>
            simp [ha] at ht0
            have hrun : ∀ v, (Builtin.len_ argTypes o.type (args.map (evC tmps))).run P w = .ok v w → (execOp (evC tmps) o).run P w = .ok (.value v) w := by
              intro v h
              simp only [execOp, hop, resolve, Sem.run_bind, Sem.run_pure, Result.andThen_ok, invoke, builtin]
              rw [h]; rfl
            simp only [rRun] at he
            unfold rLenM at he
            split at he
            · rename_i e1
              rw [e1] at hv; simp only [VR] at hv; subst hv
              simp only [Option.some.injEq] at he; subst he
              exact ⟨.int .i64 0, hrun _ (by simp [Builtin.len_, ha, e0, run_underlying ht0, goInt]), by simp [VR]⟩
            · rename_i r e1
              rw [e1] at hv; simp only [VR] at hv
              obtain ⟨i, hb, rfl⟩ := hv
              split at he
              · rename_i es clock hg
                simp only [Option.some.injEq] at he; subst he
                obtain ⟨es', g1, g2⟩ := hr.map hb hg
                have hl := EntR.length g2
                refine ⟨.int .i64 es'.size, hrun _ (by simp [Builtin.len_, ha, e0, run_underlying ht0, goInt, getObj_map g1]), ?_⟩
                simp only [VR, lenE_eq]
                simp at hl
                rw [hl]; rfl
              · simp at he
            · simp at he
        all_goals (first | (simp at hc; done) | (repeat' (split at hc <;> try (simp at hc; done))))
  case makeMap t r => exfalso; cases r <;> simp [cOp] at hc
  case binOp op t x y yt =>
    exfalso
    cases op <;> simp only [cOp] at hc <;> (try unfold cEq at hc) <;> (repeat' (split at hc <;> try (simp at hc; done))) <;> simp at hc
  all_goals (exfalso; simp only [cOp] at hc; first | (simp at hc; done) | (repeat' (split at hc <;> try (simp at hc; done))))

end
end Go.AI
