/- Part of a proof for one law: an interpreter over what is known of values, and that it is right. -/
import Derived.Test.YtcedhpnmhahgmaaAiS19
set_option linter.unusedSimpArgs false
set_option linter.unusedVariables false
set_option linter.constructorNameAsVariable false
namespace Go.AI
variable (P : Program) (ρ : Nat → Value)
section
variable {P} {ρ} {E : Env} (hE : EnvOk P ρ E) {call : Goal → AHeap → ORes} {N : Nat}
theorem Grow.st {β : Bm} {h h' : AHeap} {w : World} (g : Grow h h') (s : St P ρ β h w) : St P ρ β h' w ∧ Ext β β h h' w w := by
  have old : ∀ b i, β b = some i → h'.get b = h.get b := fun b i hb => g.old b (s.dom b (by rw [hb]; simp))
  refine ⟨⟨⟨?_, ?_, s.hr.lt⟩, g.wf s.wf, fun b hb => by have := s.dom b hb; have := g.next; omega⟩, ⟨β.le_refl, fun _ a b => absurd a b, fun b hb _ => g.old b hb, fun _ _ _ => rfl, ?_, g.next, Nat.le_refl _, .refl _⟩⟩
  · intro b i o hb hg hd
    rw [old b i hb] at hg
    exact s.hr.rel b i o hb hg hd
  · intro b b' i i' o o' hb hb' hg hg' hd hd' e
    rw [old b i hb] at hg
    rw [old b' i' hb'] at hg'
    exact s.hr.inj b b' i i' o o' hb hb' hg hg' hd hd' e
  · rintro b i ⟨h1, o, h2, h3⟩
    rw [old b i h1] at h2
    exact .inr ⟨b, i, ⟨h1, o, h2, h3⟩, rfl⟩
/-- a block that was laid in thought is laid -/
theorem map_block {β : Bm} {h : AHeap} {w : World} (s : St P ρ β h w) {id : Pos} (hb : β id = none) (hlt : id.toNat < h.next.toNat) {o : AObj} (hg : h.get id = some o) {c : Obj} {sz : Nat}
    (hrel : ORel P ρ β ⟨w.heap.size, 0, sz⟩ o c) :
    St P ρ (β.put id ⟨w.heap.size, 0, sz⟩) h { w with heap := w.heap.push c } := by
  have hle := β.le_put (i := ⟨w.heap.size, 0, sz⟩) hb
  have old : ∀ x j, x ≠ id → (β.put id ⟨w.heap.size, 0, sz⟩) x = some j → β x = some j := by
    intro x j hx he; simpa [Bm.put, hx] using he
  have hoth : ∀ k, k < w.heap.size → (w.heap.push c)[k]? = w.heap[k]? := fun k hk => by simp [Array.getElem?_push_lt, hk]
  refine ⟨⟨?_, ?_, ?_⟩, s.wf, ?_⟩
  · intro x j ox hx hgx hd
    by_cases e : x = id
    · subst e
      rw [Bm.put_self] at hx; cases hx
      rw [hg] at hgx; cases hgx
      exact ⟨c, by simp, ORel.mono P ρ hle hrel⟩
    · have hx := old x j e hx
      obtain ⟨c', h1, h2⟩ := s.hr.rel x j ox hx hgx hd
      exact ⟨c', by rw [hoth j.cb (s.hr.lt x j hx), h1], ORel.mono P ρ hle h2⟩
  · intro x y j j' ox oy hx hy hgx hgy hdx hdy e
    by_cases ex : x = id
    · by_cases ey : y = id
      · rw [ex, ey]
      · exfalso
        subst ex
        rw [Bm.put_self] at hx; cases hx
        have := s.hr.lt y j' (old y j' ey hy)
        have e : w.heap.size = j'.cb := e
        omega
    · by_cases ey : y = id
      · exfalso
        subst ey
        rw [Bm.put_self] at hy; cases hy
        have := s.hr.lt x j (old x j ex hx)
        have e : j.cb = w.heap.size := e
        omega
      · exact s.hr.inj x y j j' ox oy (old x j ex hx) (old y j' ey hy) hgx hgy hdx hdy e
  · intro x j hx
    by_cases ex : x = id
    · subst ex; rw [Bm.put_self] at hx; cases hx; simp
    · have := s.hr.lt x j (old x j ex hx); simp; omega
  · intro x hx
    by_cases ex : x = id
    · subst ex; exact hlt
    · refine s.dom x ?_
      intro e; apply hx; simp [Bm.put, ex, e]
theorem map_ext {β0 β : Bm} {h0 h : AHeap} {w0 w : World} (x : Ext β0 β h0 h w0 w) {id : Pos} (hb : β id = none) (h1 : h0.next.toNat ≤ id.toNat) (h2 : id.toNat < h.next.toNat) {c : Obj} {sz : Nat} :
    Ext β0 (β.put id ⟨w.heap.size, 0, sz⟩) h0 h w0 { w with heap := w.heap.push c } := by
  have hle := β.le_put (i := ⟨w.heap.size, 0, sz⟩) hb
  refine ⟨Bm.le_trans x.le hle, ?_, x.afr, ?_, ?_, x.next, by have := x.size; simp; omega, ⟨x.st.os, x.st.tape, x.st.output⟩⟩
  · intro b hb0 hb1
    by_cases e : b = id
    · subst e; exact ⟨h1, h2⟩
    · refine x.out b hb0 ?_
      simpa [Bm.put, e] using hb1
  · intro k hk hl
    have := x.size
    rw [← x.cfr k hk hl]
    show (w.heap.push c)[k]? = _
    have : k < w.heap.size := by omega
    simp [Array.getElem?_push_lt, this]
  · rintro b i ⟨g1, o, g2, g3⟩
    by_cases e : b = id
    · subst e; rw [Bm.put_self] at g1; cases g1; exact .inl x.size
    · exact x.src b i ⟨by simpa [Bm.put, e] using g1, o, g2, g3⟩
/-- a light operation that lays a block -/
theorem new_run (hE : EnvOk P ρ E) {b : Frame} {a : Act} {ops : Array Oper} {i : Nat} {o : Oper} (ho : ops[i]? = some o) {d : Option Pos} {g : Option (Pos × Bool)} {pop : POp} (hx : cIns P N ops o = some (.pure d g pop))
    {β : Bm} {h : AHeap} {w : World} {tm : PT AVal} (s : St P ρ β h w) (ht : TR ρ β tm a.tmps) (hN : N ≤ a.tmps.size) (hw : wantedA tm g = some true) {oo : AObj} {kk : Pos → AVal} (hp : pRun E tm pop = .new oo kk)
    {id : Pos} (hb : β id = none) (hlt : id.toNat < h.next.toNat) (hg : h.get id = some oo) (rest : List Nat) (k : List Item) (cs : List Frame) :
    ∃ sz c a', St P ρ (β.put id ⟨w.heap.size, 0, sz⟩) h { w with heap := w.heap.push c } ∧ TR ρ (β.put id ⟨w.heap.size, 0, sz⟩) (putT d (kk id) tm) a'.tmps ∧ a'.defers = a.defers ∧ a'.tmps.size = a.tmps.size ∧
      Steps P (lone (b.atR a (.inRegion ops (i :: rest) :: k)) cs w) (lone (b.atR a' (.inRegion ops rest :: k)) cs { w with heap := w.heap.push c }) := by
  have hsy := hE.sym
  unfold cIns at hx
  simp only at hx
  split at hx
  · simp at hx
  rename_i hd
  have hd : dstOk N o.dst = true := by simpa using hd
  split at hx
  · simp at hx
  rename_i g' hg'
  cases hop : cOp P o.op with
  | none =>
    simp [hop] at hx
    obtain ⟨rfl, rfl, rfl⟩ := hx
    simp [pRun] at hp
  | some q =>
    have hnd : ∀ c, o.op ≠ .defer c := by
      intro c e; rw [e] at hop; simp [cOp] at hop
    have hsem : o.semAt b.roundOf a.eval = execOp (evC a.tmps) o := by rw [Oper.semAt_eq _ _ _ hnd, Act_eval]
    cases q <;> simp [hop] at hx
    obtain ⟨rfl, rfl, rfl⟩ := hx
    have := pure_sound hE ht o hop w
    rw [hp] at this
    obtain ⟨c, mk, sz, q1, q2, q3⟩ := this
    have hwt := wanted_run hsy ht hg' hw
    have hle := β.le_put (i := ⟨w.heap.size, 0, sz⟩) hb
    exact ⟨sz, c, a.put o.dst (mk w.heap.size), map_block s hb hlt hg q3, TR.put (TR.mono ρ hle ht) hd hN (q2 _ _ (Bm.put_self ..)) a.defers, Act.put_defers .., Act.put_size ..,
      .one (stepR_op_value ho hwt (by rw [hsem]; exact q1))⟩
end
end Go.AI
