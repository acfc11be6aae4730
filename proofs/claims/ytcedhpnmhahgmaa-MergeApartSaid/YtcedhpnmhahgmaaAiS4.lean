/- Part of a proof for one law: an interpreter over what is known of values, and that it is right. -/
import Derived.Test.YtcedhpnmhahgmaaAiS3
import Derived.Laws.StructEq
set_option linter.unusedSimpArgs false
set_option linter.unusedVariables false
set_option linter.constructorNameAsVariable false
namespace Go.AI
variable (P : Program) (ρ : Nat → Value)
theorem eqB_eq (a b : Bool) : eqB a b = (a == b) := by cases a <;> cases b <;> rfl
section
variable {P} {ρ} {E : Env} (hE : EnvOk P ρ E) {β : Bm} {w : World}
include hE
theorem symEq_run (w : World) {x y : AVal} {b : Bool} (h : cellEq.symEq E x y = some b) {vx vy : Value} (hx : VR ρ β x vx) (hy : VR ρ β y vy) :
    ∃ k a a', vx = .int k a ∧ vy = .int k a' ∧ b = (a == a') := by
  unfold cellEq.symEq at h
  split at h
  · rename_i hs
    split at hs
    · rename_i i
      split at hs
      · rename_i j
        have : i = j := Nat.eq_of_beq_eq_true hs
        subst this
        simp only [VR] at hx hy
        obtain ⟨k, n, e⟩ := hE.sym i
        simp at h; subst h
        exact ⟨k, n, n, by rw [hx, e], by rw [hy, e], by simp⟩
      · simp at hs
    · simp at hs
  · split at h
    · rename_i c hc
      simp at h; subst h
      obtain ⟨k, a, a', rfl, rfl, r', h1, h2⟩ := hE.bin _ _ _ _ hc β vx vy hx hy
      simp only [VR] at h2; subst h2
      refine ⟨k, a, a', rfl, rfl, ?_⟩
      have := h1 0 w
      simp [Go.binOp, Op.intCmp] at this
      exact this.symm
    · simp at h
theorem cellEq_run {t : TypeId} {c : CT} (ht : cellT P t = some c) {x y : AVal} {b : Bool} (h : cellEq E c x y = some b) {vx vy : Value}
    (hx : VR ρ β x vx) (hy : VR ρ β y vy) (d : Nat) : (Op.equalIn (d + 1) t vx vy).run P w = .ok b w := by
  unfold cellT at ht
  cases hd : P.underlying t with
  | none => simp [hd] at ht
  | some D =>
    simp only [hd] at ht
    cases c with
    | i =>
      have hk : ∃ k0, D = .int k0 := by cases D <;> simp at ht <;> exact ⟨_, rfl⟩
      obtain ⟨k0, rfl⟩ := hk
      have key : ∃ k a a', vx = .int k a ∧ vy = .int k a' ∧ b = (a == a') := by
        unfold cellEq at h
        simp only at h
        split at h
        · rename_i k a
          split at h
          · rename_i k' a'
            split at h
            · rename_i hk
              simp only [VR] at hx hy
              simp at h; subst h
              exact ⟨k, a, a', hx, by rw [hy, eqK_eq hk], eqI_iff _ _⟩
            · simp at h
          · exact symEq_run hE w h hx hy
        · exact symEq_run hE w h hx hy
      obtain ⟨k, a, a', rfl, rfl, rfl⟩ := key
      exact run_equalIn_int w d t k k0 a a' hd
    | b =>
      have hk : D = .bool := by cases D <;> simp at ht <;> rfl
      subst hk
      unfold cellEq at h
      simp only at h
      split at h
      · split at h
        · simp only [VR] at hx hy; subst hx hy
          simp at h; subst h
          rw [run_equalIn_bool' w d t _ _ hd, eqB_eq]
        · simp at h
      · simp at h
    | p =>
      have hk : ∃ e, D = .pointer e := by cases D <;> simp at ht <;> exact ⟨_, rfl⟩
      obtain ⟨e, rfl⟩ := hk
      unfold cellEq at h
      simp only at h
      split at h
      · split at h <;> simp at h <;> subst h <;> simp only [VR] at hx hy
        · subst hx hy; simp [Op.equalIn, run_underlying hd]
        · obtain ⟨i, _, rfl⟩ := hy; subst hx; simp [Op.equalIn, run_underlying hd]
      · split at h <;> simp at h; subst h; simp only [VR] at hx hy
        obtain ⟨i, _, rfl⟩ := hx; subst hy; simp [Op.equalIn, run_underlying hd]
      · simp at h
    | s =>
      have hk : ∃ e, D = .slice e := by cases D <;> simp at ht <;> exact ⟨_, rfl⟩
      obtain ⟨e, rfl⟩ := hk
      unfold cellEq at h
      simp only at h
      split at h
      · split at h <;> simp at h <;> subst h <;> simp only [VR] at hx hy
        · subst hx hy; simp [Op.equalIn, run_underlying hd]
        · obtain ⟨i, off, C, _, rfl, _⟩ := hy; subst hx; simp [Op.equalIn, run_underlying hd]
      · split at h <;> simp at h; subst h; simp only [VR] at hx hy
        obtain ⟨i, off, C, _, rfl, _⟩ := hx; subst hy; simp [Op.equalIn, run_underlying hd]
      · simp at h
    | m =>
      have hk : ∃ e e', D = .map e e' := by cases D <;> simp at ht <;> exact ⟨_, _, rfl⟩
      obtain ⟨e, e', rfl⟩ := hk
      unfold cellEq at h
      simp only at h
      split at h
      · split at h <;> simp at h <;> subst h <;> simp only [VR] at hx hy
        · subst hx hy; simp [Op.equalIn, run_underlying hd]
        · obtain ⟨i, _, rfl⟩ := hy; subst hx; simp [Op.equalIn, run_underlying hd]
      · split at h <;> simp at h; subst h; simp only [VR] at hx hy
        obtain ⟨i, _, rfl⟩ := hx; subst hy; simp [Op.equalIn, run_underlying hd]
      · simp at h
    | f =>
      have hk : ∃ e e' e'', D = .func e e' e'' := by cases D <;> simp at ht <;> exact ⟨_, _, _, rfl⟩
      obtain ⟨e, e', e'', rfl⟩ := hk
      unfold cellEq at h
      simp only at h
      split at h
      · split at h <;> simp at h <;> subst h <;> simp only [VR] at hx hy
        · subst hx hy; simp [Op.equalIn, run_underlying hd]
        · obtain ⟨_, _, rfl, _⟩ := hy; subst hx; simp [Op.equalIn, run_underlying hd]
        · obtain ⟨_, _, rfl⟩ := hy; subst hx; simp [Op.equalIn, run_underlying hd]
      · split at h <;> simp at h; subst h; simp only [VR] at hx hy
        obtain ⟨_, _, rfl, _⟩ := hx; subst hy; simp [Op.equalIn, run_underlying hd]
      · split at h <;> simp at h; subst h; simp only [VR] at hx hy
        obtain ⟨_, _, rfl⟩ := hx; subst hy; simp [Op.equalIn, run_underlying hd]
      · simp at h

omit hE in
theorem mapO_mem {α γ : Type} {f : α → Option γ} : ∀ {l : List α} {ys : List γ}, mapO f l = some ys → ∀ x ∈ l, ∃ y, f x = some y
  | [], _, _, x, hx => by simp at hx
  | a :: l, ys, h, x, hx => by
    simp only [mapO] at h
    split at h
    · simp at h
    · rename_i y hy
      split at h
      · simp at h
      · rename_i ys' hys
        rcases List.mem_cons.1 hx with e | e
        · subst e; exact ⟨y, hy⟩
        · exact mapO_mem hys x e
omit hE in
theorem leavesEq_append (xs ys : List AVal) : ∀ (l l' : List (Nat × CT)), leavesEq E xs ys (l ++ l') = match leavesEq E xs ys l with
    | none => none
    | some true => leavesEq E xs ys l'
    | some false => some false
  | [], l' => by simp [leavesEq]
  | ⟨i, t⟩ :: l, l' => by
    simp only [List.cons_append, leavesEq]
    split
    · rfl
    · split
      · rfl
      · split
        · rfl
        · exact leavesEq_append xs ys l l'
        · rfl
/-- the first m cells of A are those of X from off on -/
def Agr (A X : List Value) (off m : Nat) : Prop := ∀ k, k < m → A[k]? = X[off + k]?
/-- v is the part of X from off on that a value of type t takes -/
def PV (P : Program) (t : TypeId) (v : Value) (X : List Value) (off m : Nat) : Prop :=
  match isAggT P t with
  | some true => ∃ A : Array Value, v = .agg A ∧ Agr A.toList X off m
  | _ => X[off]? = some v
omit hE in
theorem part_pv {t : TypeId} {m n off o : Nat} {A : Array Value} {X : List Value} (hm : sizeT P t = some m) (h0 : m ≠ 0) (ho : o + m ≤ n) (hA : Agr A.toList X off n)
    (hb : isAggT P t ≠ none) (hx : isAggT P t = some false → off + o < X.length) (w : World) : ∃ v, (part t A o).run P w = .ok v w ∧ PV P t v X (off + o) m := by
  cases ha : isAggT P t with
  | none => exact absurd ha hb
  | some b =>
    have hs := sizeT_run P hm w
    cases b with
    | true =>
      refine ⟨.agg (A.extract o (o + m)), by simp [part, isAgg_run P ha w, hs], ?_⟩
      simp only [PV, ha]
      refine ⟨_, rfl, fun k hk => ?_⟩
      have := hA (o + k) (by omega)
      rw [Nat.add_assoc, ← this]
      simp [List.getElem?_drop, hk]
    | false =>
      have h1 := hA o (by omega)
      have h2 := hx ha
      have h3 : A[o]? = some X[off + o] := by
        have : A.toList[o]? = some X[off + o] := by rw [h1]; simp [h2]
        simpa using this
      exact ⟨X[off + o], by simp [part, isAgg_run P ha w, h3], by simp [PV, ha, h2]⟩
theorem leaves_run {xs ys : List AVal} {X Y : List Value} (hx : VRs ρ β xs X) (hy : VRs ρ β ys Y) :
    ∀ (d : Nat) (t : TypeId) (off : Nat) (l : List (Nat × CT)), leavesF P d t off = some l → ∀ m, sizeT P t = some m → m ≠ 0 →
    ∀ b, leavesEq E xs ys l = some b → ∀ vx vy, PV P t vx X off m → PV P t vy Y off m → ∀ D, d ≤ D → ∀ w : World, (Op.equalIn D t vx vy).run P w = .ok b w := by
  intro d
  induction d with
  | zero => intro t off l h; simp [leavesF] at h
  | succ d ih =>
    intro t off l h m hm h0 b hb vx vy hvx hvy D hD w
    obtain ⟨D, rfl⟩ : ∃ D', D = D' + 1 := ⟨D - 1, by omega⟩
    simp only [leavesF] at h
    split at h
    · rename_i fields hu
      split at h
      · simp at h
      · rename_i hst
        rw [hm] at h
        simp only at h
        cases hmap : mapO (fLeaves P (leavesF P d) off m) fields.toList with
        | none => rw [hmap] at h; simp at h
        | some ls =>
          rw [hmap] at h
          simp only [Option.some.injEq] at h; subst h
          have ha : isAggT P t = some true := by simp [isAggT, hu]
          have hf : P.fieldsOf t = fields := by simp [Program.fieldsOf, hu]
          simp only [PV, ha] at hvx hvy
          obtain ⟨A, rfl, hA⟩ := hvx
          obtain ⟨B, rfl, hB⟩ := hvy
          rw [run_equalIn_struct w D t _ _ (by rw [hf]; exact hu) (by simpa using hst), hf]
          clear hf hu
          generalize fields.toList = fs at hmap
          induction fs generalizing ls b with
          | nil =>
            simp [mapO] at hmap; subst hmap
            simp [leavesEq] at hb; subst hb
            simp [Op.eqFields]
          | cons f fs ihf =>
            simp only [mapO] at hmap
            split at hmap
            · simp at hmap
            · rename_i l1 hl1
              split at hmap
              · simp at hmap
              · rename_i ls' hls'
                simp at hmap; subst hmap
                unfold fLeaves at hl1
                split at hl1
                · simp at hl1
                · rename_i m' hm'
                  split at hl1
                  · simp at hl1
                  · rename_i hcond
                    have hname : f.name ≠ "_" := fun e => hcond (.inl e)
                    have hm0 : m' ≠ 0 := fun e => hcond (.inr (.inl e))
                    have hfit : f.offset + m' ≤ m := by
                      rcases Nat.lt_or_ge m (f.offset + m') with e | e
                      · exact absurd (.inr (.inr e)) hcond
                      · exact e
                    simp only [List.flatten_cons, leavesEq_append] at hb
                    cases hb1 : leavesEq E xs ys l1 with
                    | none => simp [hb1] at hb
                    | some b1 =>
                      have hagg : isAggT P f.type ≠ none ∧ (isAggT P f.type = some false → off + f.offset < X.length ∧ off + f.offset < Y.length) := by
                        cases d with
                        | zero => simp [leavesF] at hl1
                        | succ d =>
                          unfold isAggT
                          cases hud : P.underlying f.type with
                          | none => simp [leavesF, hud, cellT] at hl1
                          | some D0 =>
                            cases D0
                            case struct => simp
                            all_goals
                              refine ⟨by simp, fun _ => ?_⟩
                              simp only [leavesF, hud] at hl1
                              cases hc : cellT P f.type with
                              | none => simp [hc] at hl1
                              | some c =>
                                simp [hc] at hl1; subst hl1
                                simp only [leavesEq, nth_eq] at hb1
                                have e1 := hx.length
                                have e2 := hy.length
                                split at hb1
                                · simp at hb1
                                · rename_i x' hx'
                                  split at hb1
                                  · simp at hb1
                                  · rename_i y' hy'
                                    have f1 := (List.getElem?_eq_some_iff.1 hx').1
                                    have f2 := (List.getElem?_eq_some_iff.1 hy').1
                                    omega
                      obtain ⟨v1, r1, p1⟩ := part_pv (P := P) hm' hm0 hfit hA hagg.1 (fun e => (hagg.2 e).1) w
                      obtain ⟨v2, r2, p2⟩ := part_pv (P := P) hm' hm0 hfit hB hagg.1 (fun e => (hagg.2 e).2) w
                      simp only [Op.eqFields, hname, ne_eq, not_false_eq_true, if_true, Sem.run_bind, r1, r2, Result.andThen_ok]
                      rw [ih f.type (off + f.offset) l1 hl1 m' hm' hm0 b1 hb1 v1 v2 p1 p2 D (by omega) w]
                      simp only [hb1] at hb
                      cases b1 with
                      | true =>
                        simp only at hb
                        simp only [Result.andThen_ok, Bool.not_true, Bool.false_eq_true, if_false]
                        exact ihf b ls' hb hls'
                      | false =>
                        simp at hb; subst hb
                        simp
    · rename_i hns
      cases hc : cellT P t with
      | none => simp [hc] at h
      | some c =>
        simp [hc] at h; subst h
        have hna : isAggT P t = some false := by
          unfold isAggT cellT at *
          cases hu : P.underlying t with
          | none => simp [hu] at hc
          | some D0 => cases D0 <;> simp [hu] at hc ⊢
        simp only [PV, hna] at hvx hvy
        simp only [leavesEq] at hb
        rw [nth_eq, nth_eq] at hb
        split at hb
        · simp at hb
        · rename_i x hx1
          split at hb
          · simp at hb
          · rename_i y hy1
            obtain ⟨vx', hvx', hrx⟩ := hx.get off x hx1
            obtain ⟨vy', hvy', hry⟩ := hy.get off y hy1
            rw [hvx] at hvx'; cases hvx'
            rw [hvy] at hvy'; cases hvy'
            have : ∃ b1, cellEq E c x y = some b1 ∧ b1 = b := by
              split at hb
              · simp at hb
              · rename_i h1; simp at hb; exact ⟨true, h1, hb.symm⟩
              · rename_i h1; simp at hb; exact ⟨false, h1, hb.symm⟩
            obtain ⟨b1, h1, rfl⟩ := this
            exact cellEq_run hE hc h1 hrx hry D
theorem eqAgg_run {t : TypeId} {l : List (Nat × CT)} (ha : isAggT P t = some true) (hl : leavesF P 12 t 0 = some l) {xs ys : List AVal} {b : Bool} (h : leavesEq E xs ys l = some b)
    {X Y : Array Value} (hX : VRs ρ β xs X.toList) (hY : VRs ρ β ys Y.toList) (hm0 : sizeT P t ≠ some 0) (w : World) : (Op.equal t (.agg X) (.agg Y)).run P w = .ok b w := by
  cases hm : sizeT P t with
  | none =>
    exfalso
    unfold sizeT at hm
    unfold isAggT at ha
    have : P.underlying t = none := by
      unfold Program.underlying
      cases hi : P.info? t with
      | none => rfl
      | some _ => simp [hi] at hm
    simp [this] at ha
  | some m =>
    refine leaves_run hE hX hY 12 t 0 l hl m hm (fun e => hm0 (by rw [hm, e])) b h _ _ ?_ ?_ Op.maxDepth (by decide) w
    · simp only [PV, ha]; exact ⟨X, rfl, fun k _ => by simp⟩
    · simp only [PV, ha]; exact ⟨Y, rfl, fun k _ => by simp⟩
theorem eqA_run {t : TypeId} {et : ET} (ht : leavesT P t = some et) (hm0 : sizeT P t ≠ some 0) {x y : AVal} {b : Bool} (h : eqA E et x y = some b) {vx vy : Value}
    (hx : VR ρ β x vx) (hy : VR ρ β y vy) (w : World) : (Op.equal t vx vy).run P w = .ok b w := by
  unfold leavesT at ht
  split at ht
  · rename_i ha
    cases hl : leavesF P 12 t 0 with
    | none => simp [hl] at ht
    | some l =>
      simp [hl] at ht; subst ht
      simp only [eqA] at h
      split at h
      · split at h
        · simp only [VR] at hx hy
          obtain ⟨X, rfl, hX, _⟩ := hx
          obtain ⟨Y, rfl, hY, _⟩ := hy
          exact eqAgg_run hE ha hl h hX hY hm0 w
        · simp at h
      · simp at h
  · rename_i ha
    cases hc : cellT P t with
    | none => simp [hc] at ht
    | some c =>
      simp [hc] at ht; subst ht
      exact cellEq_run hE hc h hx hy _
  · simp at ht
end
end Go.AI
