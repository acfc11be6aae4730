/- Part of a proof for one law: an interpreter over what is known of values, and that it is right. -/
import Derived.Test.YtcedhpnmhahgmaaAiS21
import Derived.Below
set_option linter.unusedSimpArgs false
set_option linter.unusedVariables false
set_option linter.constructorNameAsVariable false
namespace Go.AI
variable (P : Program) (ρ : Nat → Value)
section
variable {P} {ρ} {E : Env} (hE : EnvOk P ρ E) {call : Goal → AHeap → ORes} {N : Nat}
theorem all_of_unready {ops : Array Oper} {b : Array Nat} (hb : BOk ops b) {listed : Array Bool} (hsz : listed.size = ops.size) (hr : Region.ready .any ops listed = []) :
    ∀ n i, i < n → i < ops.size → InD listed i = true
  | 0, i, h, _ => by omega
  | n + 1, i, h, hi => by
    by_cases hd : InD listed i = true
    · exact hd
    · exfalso
      have : i ∈ Region.ready .any ops listed := by
        rw [mem_ready]
        refine ⟨?_, ops[i], by simp [hi], fun e he hbe => ?_⟩
        · unfold InD at hd
          have hil : i < listed.size := by omega
          simp [hil] at hd ⊢; exact hd
        · have ho : ops[i]? = some ops[i] := by simp [hi]
          have hlt := (hb i _ ho).2 e he hbe
          exact all_of_unready hb hsz hr n e.on (by omega) (by omega)
      rw [hr] at this; simp at this
theorem draw_loop (hE : EnvOk P ρ E) (hc : CallSound P ρ call) {ops : Array Oper} {b : Array Nat} {hs : List Nat} {S A : Nat → AHeap} {evs : List Ev} {tm0 : PT AVal} (R : Region1 P E call N ops b hs S A evs tm0)
    {β0 : Bm} {h0 : AHeap} {w0 : World} {a0 : Act} (hN : N ≤ a0.tmps.size) (hdom0 : ∀ x, β0 x ≠ none → x.toNat < h0.next.toNat) (b0 : Frame) (k : List Item) (cs : List Frame) :
    ∀ (fuel t : Nat) (listed : Array Bool) (p : Nat) (β : Bm) (w : World) (a : Act), Inv P ρ ops hs S A evs tm0 β0 h0 w0 a0 listed p β w a →
      ((List.range ops.size).filter fun i => !InD listed i).length ≤ fuel →
      ∃ listed' p' β' w' a', Inv P ρ ops hs S A evs tm0 β0 h0 w0 a0 listed' p' β' w' a' ∧ (∀ i, i < ops.size → InD listed' i = true) ∧
        Steps P (lone (b0.atR a (.inRegion ops (Region.linearise.go .any ops fuel t listed []) :: k)) cs w) (lone (b0.atR a' (.inRegion ops [] :: k)) cs w') := by
  intro fuel
  induction fuel with
  | zero =>
    intro t listed p β w a I hf
    refine ⟨listed, p, β, w, a, I, fun i hi => ?_, .refl ..⟩
    have h0 := List.eq_nil_of_length_eq_zero (Nat.le_zero.1 hf)
    rw [List.filter_eq_nil_iff] at h0
    have := h0 i (by simpa using hi)
    simpa using this
  | succ fuel ih =>
    intro t listed p β w a I hf
    simp only [Region.linearise.go]
    change ∃ listed' p' β' w' a', Inv P ρ ops hs S A evs tm0 β0 h0 w0 a0 listed' p' β' w' a' ∧ (∀ i, i < ops.size → InD listed' i = true) ∧
        Steps P (lone (b0.atR a (.inRegion ops (match (Region.ready .any ops listed)[t % (Region.ready .any ops listed).length]? with
      | some i => Region.linearise.go .any ops fuel (t / (Region.ready .any ops listed).length) (listed.setIfInBounds i true) [i]
      | none => [].reverse) :: k)) cs w) (lone (b0.atR a' (.inRegion ops [] :: k)) cs w')
    cases hi : (Region.ready .any ops listed)[t % (Region.ready .any ops listed).length]? with
    | none =>
      have hnil : Region.ready .any ops listed = [] := by
        cases hr : Region.ready .any ops listed with
        | nil => rfl
        | cons x xs =>
          rw [hr] at hi
          have hlt : t % (x :: xs).length < (x :: xs).length := Nat.mod_lt _ (by simp)
          simp at hi
          simp at hlt
          omega
      exact ⟨listed, p, β, w, a, I, fun i hi => all_of_unready R.bok I.size hnil (i + 1) i (by omega) hi, .refl ..⟩
    | some i =>
      simp only []
      rw [linearise_go_acc, List.reverse_singleton, List.singleton_append]
      have hir := List.mem_of_getElem? hi
      obtain ⟨p', β', w', a', I', hst⟩ := draw_step hE hc R hN hdom0 I hir b0 (Region.linearise.go .any ops fuel (t / (Region.ready .any ops listed).length) (listed.setIfInBounds i true) []) k cs
      have hir' := hir
      rw [mem_ready] at hir'
      obtain ⟨hr0, o0, ho0, _⟩ := hir'
      have hin : i < ops.size := (Array.getElem?_eq_some_iff.1 ho0).1
      have hil : i < listed.size := by rw [I.size]; exact hin
      have hiD : InD listed i = false := by
        unfold InD; simp [hil] at hr0 ⊢; exact hr0
      have hlt : ((List.range ops.size).filter fun j => !InD (listed.setIfInBounds i true) j).length < ((List.range ops.size).filter fun j => !InD listed j).length := by
        refine filter_lt (a := i) ?_ (by simpa using hin) ?_ ?_
        · intro x _ hx
          rw [InD_set hil] at hx
          split at hx <;> simp_all
        · rw [InD_set hil]; simp
        · rw [hiD]; rfl
      obtain ⟨l2, p2, β2, w2, a2, I2, hall, hst2⟩ := ih (t / (Region.ready .any ops listed).length) _ p' β' w' a' I' (by omega)
      exact ⟨l2, p2, β2, w2, a2, I2, hall, hst.trans hst2⟩
theorem mapO_get {α γ : Type} {f : α → Option γ} : ∀ {l : List α} {r : List γ}, mapO f l = some r → r.length = l.length ∧ ∀ (i : Nat) (y : γ), r[i]? = some y → ∃ x, l[i]? = some x ∧ f x = some y
  | [], r, h => by simp [mapO] at h; subst h; simp
  | x :: l, r, h => by
    obtain ⟨y, ys, h1, h2, rfl⟩ := mapO_drop h
    obtain ⟨g1, g2⟩ := mapO_get h2
    refine ⟨by simp [g1], fun i z hz => ?_⟩
    cases i with
    | zero => simp at hz; subst hz; exact ⟨x, by simp, h1⟩
    | succ i => simpa using g2 i z (by simpa using hz)
theorem cOrd_mem {b : Array Nat} {hs : List Nat} {ins : List (AIns × Nat)} {x : AIns × Nat} : ∀ {hv : List (AIns × Nat)} {j : Nat}, x ∈ cOrd b hs ins j hv → x ∈ ins ∨ x ∈ hv
  | [], j, h => .inl (List.mem_filter.1 h).1
  | y :: hv, j, h => by
    simp only [cOrd, List.mem_append, List.mem_cons] at h
    rcases h with h | rfl | h
    · exact .inl (List.mem_filter.1 h).1
    · exact .inr (by simp)
    · rcases cOrd_mem h with h | h
      · exact .inl h
      · exact .inr (by simp [h])
theorem draw_sound (hE : EnvOk P ρ E) (hm : P.follows .mixedOrders = true) (hc : CallSound P ρ call) : DrawSound P ρ E call := by
  intro N id ops ph hcd β tm tm' h h' w a hs ht hN he b0 k cs
  unfold cDraw at hcd
  split at hcd
  · simp at hcd
  rename_i l hl
  simp only at hcd
  split at hcd
  rotate_left
  · simp at hcd
  rename_i hok
  simp only [Option.some.injEq, ACode.draw.injEq] at hcd
  subst hcd
  generalize hb : Region.before ops = b at *
  generalize hhv : (l.zipIdx.filter fun x => x.1.heavy) = hv at *
  unfold drawOk at hok
  simp only [Bool.and_eq_true, List.all_eq_true] at hok
  obtain ⟨⟨⟨⟨k1, k2⟩, k3⟩, k4⟩, k5⟩ := hok
  obtain ⟨S, A, evs, t1, t2, t3, t4, t5, t6, t7, t8⟩ := draw_trace (call := call) (ins := l.zipIdx) b (hv.map (·.2)) hv 0 [] tm tm' h h' he (by simp) (fun x hx => by
    rw [← hhv] at hx; exact (List.mem_filter.1 hx).2)
  have hlen : 0 + hv.length = (hv.map (·.2)).length := by simp
  rw [hlen] at t3 t5 t6
  obtain ⟨gl, gm⟩ := mapO_get hl
  have hidx : evs.map (·.idx) = (cOrd b (hv.map (·.2)) l.zipIdx 0 hv).map (·.2) := by
    rw [← t2, List.map_map]; rfl
  have hzip : ∀ x : AIns × Nat, x ∈ l.zipIdx → l[x.2]? = some x.1 := by
    intro x hx
    obtain ⟨i, hi⟩ := List.mem_iff_getElem?.1 hx
    rw [List.getElem?_zipIdx] at hi
    cases hli : l[i]? with
    | none => rw [hli] at hi; simp at hi
    | some y => rw [hli] at hi; simp at hi; rw [← hi]; simpa using hli
  have hkey : ∀ e ∈ evs, l[e.idx]? = some e.ins := by
    intro e he
    have : e.key ∈ cOrd b (hv.map (·.2)) l.zipIdx 0 hv := by rw [← t2]; exact List.mem_map_of_mem he
    have := cOrd_mem this
    have hin : e.key ∈ l.zipIdx := by
      rcases this with h | h
      · exact h
      · rw [← hhv] at h; exact (List.mem_filter.1 h).1
    exact hzip _ hin
  have hhs : ∀ i ∈ hv.map (·.2), ∃ x : AIns, x.heavy = true ∧ l[i]? = some x := by
    intro i hi
    obtain ⟨x, hx, rfl⟩ := List.mem_map.1 hi
    rw [← hhv] at hx
    obtain ⟨h1, h2⟩ := List.mem_filter.1 hx
    exact ⟨x.1, h2, hzip x h1⟩
  have R : Region1 P E call N ops b (hv.map (·.2)) S A evs tm := {
    bok := BOk.of k2
    evok := t3
    nodup := by rw [hidx]; exact nodupN_spec k4
    every := by
      intro i hi
      have := k5 i (by simpa using hi)
      rw [memN_iff, ← hidx] at this
      obtain ⟨e, he, hei⟩ := List.mem_map.1 this
      exact ⟨e, he, hei⟩
    ins := by
      intro e he
      obtain ⟨o, h1, h2⟩ := gm _ _ (hkey e he)
      exact ⟨o, by simpa using h1, h2⟩
    pw := by
      have := apartAll_spec k3
      rw [← t2, List.pairwise_map] at this
      exact this
    hpw := pairAll_spec k1
    light := by
      intro e he hl1 hi
      obtain ⟨x, h1, h2⟩ := hhs _ hi
      rw [hkey e he] at h2
      simp at h2; rw [h2] at hl1; rw [hl1] at h1; simp at h1
    hlt := by
      intro i hi
      obtain ⟨x, h1, h2⟩ := hhs _ hi
      have := (List.getElem?_eq_some_iff.1 h2).1
      simpa [gl] using this
    grow := fun p hp => t6 p (by omega) hp
    news := t8 }
  have s1 : St P ρ β h { w with drawn := w.drawn + 1 } := ⟨⟨hs.hr.rel, hs.hr.inj, hs.hr.lt⟩, hs.wf, hs.dom⟩
  have x1 : Ext β β h h w { w with drawn := w.drawn + 1 } := ⟨β.le_refl, fun _ a b => absurd a b, fun _ _ _ => rfl, fun _ _ _ => rfl, fun b i hl => .inr ⟨b, i, hl, rfl⟩, Nat.le_refl _, Nat.le_refl _, ⟨rfl, rfl, rfl⟩⟩
  have G := R.grow 0 (by omega)
  rw [t1] at G
  obtain ⟨s2, x2⟩ := G.st s1
  have hlo0 : ∀ e ∈ evs, ∀ o k id, e.new = some (o, k, id) → e.lo = 0 → h.next.toNat ≤ id.toNat ∧ id.toNat < (A 0).next.toNat ∧ (A 0).get id = some o := by
    refine EvsOk.mem (fun tm e2 q => ?_) t3
    intro o k id h1 h2
    obtain ⟨_, _, q⟩ := q
    rcases q with ⟨_, h, _⟩ | ⟨_, h, _⟩ | ⟨_, _, o', k', id', h, _, _, c1, c2, c3⟩
    · rw [h] at h1; simp at h1
    · rw [h] at h1; simp at h1
    · rw [h] at h1
      simp only [Option.some.injEq, Prod.mk.injEq] at h1
      obtain ⟨rfl, rfl, rfl⟩ := h1
      rw [h2] at c1 c2 c3
      rw [t1] at c1
      exact ⟨c1, c2, c3⟩
  have hD0 : ∀ i, InD (Array.replicate ops.size false) i = false := by
    intro i; unfold InD
    simp [Array.getElem?_replicate]
    split <;> rfl
  have I : Inv P ρ ops (hv.map (·.2)) S A evs tm β h { w with drawn := w.drawn + 1 } a (Array.replicate ops.size false) 0 β { w with drawn := w.drawn + 1 } a := {
    size := by simp
    closed := by intro i hi; rw [hD0] at hi; simp at hi
    st := s2
    ext := x2
    tr := by
      intro p
      rw [foldD_none]
      · exact ht p
      · intro e _ hi; rw [hD0] at hi; simp at hi
    cnt := by
      rw [List.length_eq_zero_iff, List.filter_eq_nil_iff]
      intro x _; rw [hD0]; simp
    news := by
      intro e he o k id hn hl0
      obtain ⟨c1, c2, c3⟩ := hlo0 e he o k id hn (by omega)
      refine ⟨c1, c2, fun _ => ⟨?_, c3⟩⟩
      by_cases hbn : β id = none
      · exact hbn
      · have := hs.dom id hbn; omega
    dist := by
      intro e he e' he' hne h1 h2
      exact pw_mem (R := fun e e' => e.lo = e'.lo → NewsApart e e') (fun a b h e => (h e.symm).symm) t8 e he e' he' hne (by omega)
    defers := rfl
    tsize := rfl }
  obtain ⟨listed', p', β', w', a', I', hall, hst⟩ := draw_loop hE hc R hN hs.dom b0 k cs ops.size (w.tape w.drawn (.order b0.fn id)) _ 0 β _ a I (by
    refine Nat.le_trans (List.length_filter_le _ _) (by simp))
  have hDall : ∀ e ∈ evs, InD listed' e.idx = true := by
    intro e he
    obtain ⟨o, h1, _⟩ := R.ins e he
    exact hall _ (Array.getElem?_eq_some_iff.1 h1).1
  have hp : p' = (hv.map (·.2)).length := by
    rw [← I'.cnt]
    congr 1
    exact List.filter_eq_self.2 fun x hx => hall x (R.hlt x hx)
  subst hp
  have hst' := I'.st
  rw [t5] at hst'
  have hext := I'.ext
  rw [t5] at hext
  refine ⟨β', a', w', hst', ?_, I'.defers, I'.tsize, x1.trans hext, ?_⟩
  · intro p
    have := I'.tr p
    rw [foldD_all (tm' := tm) (fun e he _ => hDall e he) rfl, t4] at this
    exact this
  · refine .head stepR_region_draw ?_
    simp only [Region.schedule, hm, Bool.true_or, if_true]
    exact hst

/-! ## the whole -/
theorem ai_sound (hE : EnvOk P ρ E) (hm : P.follows .mixedOrders = true) (hF : FnsOk P ρ E) (fuel n : Nat) : CallSound P ρ (callA E fuel n) :=
  call_sound hE hF (fun call hc => draw_sound hE hm hc) fuel n
def AHeap.none : AHeap := ⟨.lf, .h⟩
theorem St.empty (w : World) : St P ρ (fun _ => Option.none) AHeap.none w := by
  refine ⟨⟨?_, ?_, ?_⟩, ?_, ?_⟩
  · intro b i o h; simp at h
  · intro b b' i i' o o' h; simp at h
  · intro b i h; simp at h
  · intro b o h; simp [AHeap.none, AHeap.get] at h
  · intro b h; simp at h
/-- what was computed holds of the program's function -/
theorem calls_ai (hE : EnvOk P ρ E) (hm : P.follows .mixedOrders = true) (hF : FnsOk P ρ E) {fuel n f : Nat} {args : List AVal} {vs : Array Value} {v : AVal} {h' : AHeap}
    (he : callA E fuel n (.fn (.ofNat f) args) AHeap.none = .ok v h') (ha : VRs ρ (fun _ => Option.none) args vs.toList) {r : Value} (hv : ∀ β x, VR ρ β v x → x = r) (w : World) :
    Calls P f vs w fun e w' => e = .returned r ∧ RowKit.Below w.heap.size w w' := by
  have hs := ai_sound hE hm hF fuel n _ _ _ _ he (fun _ => Option.none) w (St.empty w)
  obtain ⟨_, hl⟩ := hs
  intro cs
  obtain ⟨β', v', w', fr, q1, q2, q3, q4, q5, q6⟩ := hl vs ha cs
  simp only [Pos.toNat_ofNat] at q4 q5
  have := hv β' v' q1
  subst this
  refine ⟨.returned v', w', fr, ⟨rfl, ⟨q3.st.os, q3.st.tape, q3.st.output, q3.size, fun k hk => q3.cfr k hk ?_⟩⟩, q4, q5, q6⟩
  rintro b i ⟨h1, _⟩; simp at h1
end
end Go.AI
