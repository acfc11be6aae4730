/- Part of a proof for one law: an interpreter over what is known of values, and that it is right. -/
import Derived.Test.YtcedhpnmhahgmaaAiS1
set_option linter.unusedSimpArgs false
set_option linter.unusedVariables false
set_option linter.constructorNameAsVariable false
namespace Go.AI
variable (P : Program) (ρ : Nat → Value)

/-! ## operands -/
def evC (tmps : Array Value) : Operand → Value
  | .tmp t => tmps.getD t undef
  | .const v => v
  | .global g => .pointer (some ⟨g, 0, none⟩)
  | .func f => .func (.func f) #[] #[]
theorem Frame_eval (fr : Frame) : fr.eval = evC fr.tmps := by
  funext x; cases x <;> rfl
def TR (β : Bm) (tm : PT AVal) (tmps : Array Value) : Prop := ∀ p : Pos, VR ρ β (evO tm (.t p)) (tmps.getD p.toNat undef)
theorem TR.mono {β β' : Bm} (hb : β.le β') {tm : PT AVal} {tmps : Array Value} (h : TR ρ β tm tmps) : TR ρ β' tm tmps :=
  fun p => VR.mono ρ hb _ (h p)
section
variable {P} {ρ} {β : Bm} {tm : PT AVal} {tmps : Array Value}
theorem cOpd_rel (h : TR ρ β tm tmps) {x : Operand} {y : AOpd} (hc : cOpd x = some y) : VR ρ β (evO tm y) (evC tmps x) := by
  cases x with
  | tmp t =>
    simp only [cOpd, Option.some.injEq] at hc; subst hc
    have := h (.ofNat t)
    simpa [evC] using this
  | const v =>
    simp only [cOpd] at hc
    cases hv : ofValue v <;> simp [hv] at hc
    subst hc
    exact ofValue_rel ρ hv
  | global g => simp [cOpd] at hc
  | func f =>
    simp only [cOpd, Option.some.injEq] at hc; subst hc
    simp only [evO, evC, VR]
    exact ⟨#[], #[], by simp, by simp [VRs], by simp [VRs]⟩
theorem cOpds_rel (h : TR ρ β tm tmps) : ∀ {l : List Operand} {ys : List AOpd}, cOpds l = some ys → VRs ρ β (evs tm ys) (l.map (evC tmps))
  | [], ys, hc => by simp [cOpds, mapO] at hc; subst hc; exact .nil
  | x :: l, ys, hc => by
    simp only [cOpds, mapO] at hc
    split at hc
    · simp at hc
    · rename_i y hy
      split at hc
      · simp at hc
      · rename_i ys' hys
        simp at hc; subst hc
        exact .cons (cOpd_rel h hy) (cOpds_rel h (l := l) hys)
def OptR (ρ : Nat → Value) (β : Bm) : Option AVal → Option Value → Prop
  | none, none => True
  | some x, some v => VR ρ β x v
  | _, _ => False
theorem cOptO_rel (h : TR ρ β tm tmps) {x : Option Operand} {y : Option AOpd} (hc : cOptO x = some y) : OptR ρ β (evOpt tm y) (x.map (evC tmps)) := by
  cases x with
  | none => simp [cOptO] at hc; subst hc; simp [evOpt, OptR]
  | some x =>
    simp only [cOptO] at hc
    cases hy : cOpd x <;> simp [hy] at hc
    subst hc
    simpa [evOpt, OptR] using cOpd_rel h hy
end

/-! ## objects -/
def EntR (β : Bm) : List AEntry → List MapEntry → Prop
  | [], l => l = []
  | e :: es, l => ∃ m ms, l = m :: ms ∧ VR ρ β e.key m.key ∧ VR ρ β e.val m.val ∧ e.born = m.born ∧ EntR β es ms
def LStR : LSt → LoopState → Prop
  | .ready, s => s = .ready
  | .busy, s => s = .busy
  | .done, s => s = .done
  | .gone, s => s = .exhausted
def JumpR : AExit → Option Code → Prop
  | .normal, c => c = none
  | .exit id, c => c = some (.exit id)
  | .ret, c => c = some .ret
def ORel (β : Bm) (i : BInfo) : AObj → Obj → Prop
  | .cells cs _, o => ∃ c t, o = .cells c t (0, 0) ∧ c.size = i.size ∧ i.base + cs.length ≤ c.size ∧
      ∀ (k : Nat) x, cs[k]? = some x → ∃ v, c[i.base + k]? = some v ∧ VR ρ β x v ∧ v.oneCell' = true
  | .map es clock, o => ∃ es', o = .map es' clock ∧ EntR ρ β es es'.toList
  | .loop l, o => ∃ L : Loop, o = .loop L ∧ LStR l.state L.state ∧ JumpR l.pending L.pending ∧ TR ρ β l.tmps L.tmps ∧
      l.params = L.params.toList.map Pos.ofNat ∧ ∃ N, N ≤ L.tmps.size ∧ (∀ p ∈ L.params.toList, p < N) ∧ cCode P N L.assign = some l.assign ∧ cCode P N L.body = some l.body
  | .defd b, o => o = .deferred (if b then none else some [])
  | .dead, _ => True
def AObj.isDead : AObj → Bool
  | .dead => true
  | _ => false
structure HR (β : Bm) (h : AHeap) (w : World) : Prop where
  rel : ∀ b i o, β b = some i → h.get b = some o → o.isDead = false → ∃ c, w.heap[i.cb]? = some c ∧ ORel P ρ β i o c
  inj : ∀ b b' i i' o o', β b = some i → β b' = some i' → h.get b = some o → h.get b' = some o' → o.isDead = false → o'.isDead = false → i.cb = i'.cb → b = b'
  lt : ∀ b i, β b = some i → i.cb < w.heap.size
theorem EntR.mono {β β' : Bm} (hb : β.le β') : ∀ {es : List AEntry} {l : List MapEntry}, EntR ρ β es l → EntR ρ β' es l
  | [], _, h => h
  | e :: es, l, h => by
    obtain ⟨m, ms, h1, h2, h3, h4, h5⟩ := h
    exact ⟨m, ms, h1, VR.mono ρ hb _ h2, VR.mono ρ hb _ h3, h4, EntR.mono hb h5⟩
theorem ORel.mono {β β' : Bm} (hb : β.le β') {i : BInfo} {o : AObj} {c : Obj} (h : ORel P ρ β i o c) : ORel P ρ β' i o c := by
  cases o with
  | cells cs t =>
    obtain ⟨c, t', h1, h2, h3, h5⟩ := h
    exact ⟨c, t', h1, h2, h3, fun k x hx => let ⟨v, a, b, d⟩ := h5 k x hx; ⟨v, a, VR.mono ρ hb _ b, d⟩⟩
  | map es clock => obtain ⟨es', h1, h2⟩ := h; exact ⟨es', h1, EntR.mono ρ hb h2⟩
  | loop l =>
    obtain ⟨L, h1, h2, h3, h4, h5, h6⟩ := h
    exact ⟨L, h1, h2, h3, TR.mono ρ hb h4, h5, h6⟩
  | defd b => exact h
  | dead => trivial

/-! ## running -/
theorem run_v {s : Sem Value} {w w' : World} {v : Value} (h : s.run P w = .ok v w') :
    (do pure (Next.value (← s)) : Sem Next).run P w = .ok (.value v) w' := by simp [h]
/-- what a pure operation has to do -/
def POK (β : Bm) (w : World) (s : Sem Next) : PRes → Prop
  | .fail => True
  | .val v => ∃ v', s.run P w = .ok (.value v') w ∧ VR ρ β v v'
  | .new o k => ∃ (c : Obj) (mk : Nat → Value) (sz : Nat), s.run P w = .ok (.value (mk w.heap.size)) { w with heap := w.heap.push c } ∧
      (∀ β' id, β' id = some ⟨w.heap.size, 0, sz⟩ → VR ρ β' (k id) (mk w.heap.size)) ∧
      ORel P ρ β ⟨w.heap.size, 0, sz⟩ o c
theorem isAgg_run {t : TypeId} {b : Bool} (h : isAggT P t = some b) (w : World) : (isAgg t).run P w = .ok b w := by
  unfold isAggT at h
  cases hd : P.underlying t with
  | none => simp [hd] at h
  | some d => cases d <;> simp [hd] at h <;> subst h <;> simp [isAgg, run_underlying hd]
theorem sizeT_run {t : TypeId} {n : Nat} (h : sizeT P t = some n) (w : World) : (sizeOf t).run P w = .ok n w := by
  unfold sizeT at h
  cases hd : P.info? t with
  | none => simp [hd] at h
  | some d => simp [hd] at h; subst h; simp [sizeOf, typeInfo, hd]
theorem sizeT_cellsOf {t : TypeId} {n : Nat} (h : sizeT P t = some n) : P.cellsOf t = n := by
  unfold sizeT at h; simp [Program.cellsOf, h]
theorem zeroT_run {t : TypeId} {z : AVal} (h : zeroT P t = some z) (w : World) : ∃ v, (zeroValue t).run P w = .ok v w ∧ ofValue v = some z := by
  unfold zeroT at h
  cases hd : P.info? t with
  | none => simp [hd] at h
  | some d =>
    cases hz : d.zero with
    | none => simp [hd, hz] at h
    | some v => simp [hd, hz] at h; exact ⟨v, by simp [zeroValue, typeInfo, hd, hz], h⟩
theorem zeroCT_run (hs : SymOk ρ) {t : TypeId} {z : List AVal} (h : zeroCT P t = some z) (β : Bm) (w : World) :
    ∃ v, (zeroValue t).run P w = .ok v w ∧ VRs ρ β z v.cells.toList ∧ ∀ y ∈ v.cells.toList, y.oneCell' = true := by
  unfold zeroCT at h
  cases hz : zeroT P t with
  | none => simp [hz] at h
  | some x =>
    simp [hz] at h
    obtain ⟨v, h1, h2⟩ := zeroT_run P hz w
    obtain ⟨h3, h4⟩ := cellsC_rel ρ hs h (ofValue_rel ρ (β := β) h2)
    exact ⟨v, h1, h3, h4⟩
/-- a new row of cells -/
theorem cells_ORel {β : Bm} {cs : List AVal} {c : Array Value} {t : TypeId} (hc : VRs ρ β cs c.toList) (h1 : ∀ y ∈ c.toList, y.oneCell' = true) (n : Nat) :
    ORel P ρ β ⟨n, 0, c.size⟩ (.cells cs t) (.cells c t) := by
  have hl := hc.length
  refine ⟨c, t, rfl, rfl, by simp at hl ⊢; omega, fun k x hx => ?_⟩
  obtain ⟨y, hy, hr⟩ := hc.get k x hx
  exact ⟨y, by simpa using hy, hr, h1 y (List.mem_of_getElem? hy)⟩
theorem new_cells {β : Bm} {w : World} {cs : List AVal} {c : Array Value} {t : TypeId} (hc : VRs ρ β cs c.toList) (h1 : ∀ y ∈ c.toList, y.oneCell' = true)
    {s : Sem Next} (k : Pos → AVal) (mk : Nat → Value) (hs : s.run P w = .ok (.value (mk w.heap.size)) { w with heap := w.heap.push (.cells c t) })
    (hk : ∀ β' id, β' id = some ⟨w.heap.size, 0, c.size⟩ → VR ρ β' (k id) (mk w.heap.size)) : POK P ρ β w s (.new (.cells cs t) k) :=
  ⟨.cells c t, mk, c.size, hs, hk, cells_ORel P ρ hc h1 _⟩
theorem VR_ptr0 {β : Bm} {id : Pos} {n sz : Nat} (h : β id = some ⟨n, 0, sz⟩) : VR ρ β (.ptr id 0) (.pointer (some ⟨n, 0, none⟩)) := by
  simp only [VR]; exact ⟨_, h, by simp⟩
theorem VR_slice0 {β : Bm} {id : Pos} {n sz len cap : Nat} (h : β id = some ⟨n, 0, sz⟩) (hl : len ≤ cap) : VR ρ β (.slice id 0 len cap 0) (.slice (some ⟨n, 0, none⟩) len cap) := by
  simp only [VR]; exact ⟨_, 0, cap, h, rfl, hl, Nat.le_refl _, fun _ => rfl, fun _ => by simp, fun h => absurd rfl h⟩

/-! ## filling -/
theorem setRange_list (cs : List Value) : ∀ (base : List Value) (off : Nat), off + cs.length ≤ base.length →
    ∀ (arr : Array Value), arr.toList = base → (cs.zipIdx.foldl (fun a (x : Value × Nat) => a.setIfInBounds (off + x.2) x.1) arr).toList = base.take off ++ (cs ++ base.drop (off + cs.length)) := by
  suffices H : ∀ (cs : List Value) (base : List Value) (k off : Nat), off + k + cs.length ≤ base.length → ∀ (arr : Array Value), arr.toList = base →
      ((cs.zipIdx k).foldl (fun a (x : Value × Nat) => a.setIfInBounds (off + x.2) x.1) arr).toList = base.take (off + k) ++ (cs ++ base.drop (off + k + cs.length)) by
    intro base off h arr ha
    have := H cs base 0 off (by simpa using h) arr ha
    simpa using this
  intro cs
  induction cs with
  | nil => intro base k off h arr ha; simp [ha]
  | cons c cs ih =>
    intro base k off h arr ha
    simp only [List.zipIdx_cons, List.foldl_cons]
    have ha' : (arr.setIfInBounds (off + k) c).toList = base.set (off + k) c := by simp [ha]
    rw [ih (base.set (off + k) c) (k + 1) off (by simp at h ⊢; omega) _ ha']
    have h1 : off + k < base.length := by simp at h; omega
    have e1 : (base.set (off + k) c).take (off + (k + 1)) = base.take (off + k) ++ [c] := by
      rw [← Nat.add_assoc, List.take_add_one]
      simp [List.take_set_of_le, h1]
    have e2 : (base.set (off + k) c).drop (off + (k + 1) + cs.length) = base.drop (off + k + (c :: cs).length) := by
      rw [List.drop_set_of_lt (by omega)]; congr 1; simp; omega
    rw [e1, e2]; simp
theorem fill_rel (hs : SymOk ρ) {β : Bm} {tm : PT AVal} {tmps : Array Value} (ht : TR ρ β tm tmps) (place : Nat → Option (Nat × Nat)) :
    ∀ (parts : List (Nat × Operand)) (ps : List (Nat × Nat × AOpd)), cParts place parts = some ps →
    ∀ (z : List AVal) (c : Array Value) (out : List AVal), VRs ρ β z c.toList → (∀ y ∈ c.toList, y.oneCell' = true) → fillA tm z ps = some out →
    ∃ c', Instr.fill place c (parts.map fun x => (x.1, evC tmps x.2)) = some c' ∧ VRs ρ β out c'.toList ∧ ∀ y ∈ c'.toList, y.oneCell' = true := by
  intro parts
  induction parts with
  | nil =>
    intro ps hp z c out hz h1 hf
    simp [cParts] at hp; subst hp
    simp [fillA] at hf; subst hf
    exact ⟨c, by simp [Instr.fill], hz, h1⟩
  | cons x parts ih =>
    obtain ⟨i, x⟩ := x
    intro ps hp z c out hz h1 hf
    simp only [cParts] at hp
    split at hp
    · simp at hp
    · rename_i off size hpl
      split at hp
      · simp at hp
      · rename_i y hy
        cases hps : cParts place parts with
        | none => simp [hps] at hp
        | some ps' =>
          simp [hps] at hp; subst hp
          simp only [fillA] at hf
          split at hf
          · simp at hf
          · rename_i cs hcs
            split at hf
            · rename_i hsz
              split at hf
              · rename_i hle
                have hsz' : cs.length = size := by rw [← lenL_eq]; exact Nat.eq_of_beq_eq_true hsz
                have hle' : off + size ≤ z.length := by rw [← lenL_eq]; exact Nat.le_of_ble_eq_true hle
                obtain ⟨r1, r2⟩ := cellsC_rel ρ hs hcs (cOpd_rel ht hy)
                have hl1 := r1.length
                have hl2 := hz.length
                have hfold := setRange_list (evC tmps x).cells.toList c.toList off (by omega) c rfl
                rw [takeL_eq, dropL_eq] at hf
                have hrel : VRs ρ β (z.take off ++ (cs ++ z.drop (off + size))) (((evC tmps x).cells.toList.zipIdx.foldl (fun a (x : Value × Nat) => a.setIfInBounds (off + x.2) x.1) c).toList) := by
                  rw [hfold, hl1, hsz']
                  exact (hz.take off).append (r1.append (hz.drop (off + size)))
                have hone : ∀ y ∈ ((evC tmps x).cells.toList.zipIdx.foldl (fun a (x : Value × Nat) => a.setIfInBounds (off + x.2) x.1) c).toList, y.oneCell' = true := by
                  rw [hfold]
                  intro y hy
                  rcases List.mem_append.1 hy with h | h
                  · exact h1 y (List.mem_of_mem_take h)
                  · rcases List.mem_append.1 h with h | h
                    · exact r2 y h
                    · exact h1 y (List.mem_of_mem_drop h)
                obtain ⟨c', h2, h3, h4⟩ := ih ps' hps _ _ out hrel hone hf
                refine ⟨c', ?_, h3, h4⟩
                simp only [List.map_cons, Instr.fill, hpl]
                have hc1 : (evC tmps x).cells.size = size := by simpa [hsz'] using hl1
                have hc2 : off + size ≤ c.size := by simp at hl2; omega
                have e : ((evC tmps x).cells.zipIdx.foldl (fun cs (x : Value × Nat) => cs.setIfInBounds (off + x.2) x.1) c) = ((evC tmps x).cells.toList.zipIdx.foldl (fun a (x : Value × Nat) => a.setIfInBounds (off + x.2) x.1) c) := by
                  rw [← Array.foldl_toList, Array.toList_zipIdx]
                simp only [hc1, ne_eq, not_true_eq_false]
                rw [if_neg (by simp; omega)]
                rw [← h2]
                congr 1
              · simp at hf
            · simp at hf
end Go.AI
