/- Part of a proof for one law: an interpreter over what is known of values, and that it is right. -/
import Derived.Test.YtcedhpnmhahgmaaAiS8
import Derived.Laws.AppendOwn
set_option linter.unusedSimpArgs false
set_option linter.unusedVariables false
set_option linter.constructorNameAsVariable false
namespace Go.AI
variable (P : Program) (ρ : Nat → Value)

structure Streams (w w' : World) : Prop where
  os : w'.os = w.os
  tape : w'.tape = w.tape
  output : w'.output = w.output
theorem Streams.refl (w : World) : Streams w w := ⟨rfl, rfl, rfl⟩
theorem Streams.trans {a b c : World} (h : Streams a b) (h' : Streams b c) : Streams a c := ⟨h'.os.trans h.os, h'.tape.trans h.tape, h'.output.trans h.output⟩
def HWF (h : AHeap) : Prop := ∀ b o, h.get b = some o → b.toNat < h.next.toNat
def Fresh (β : Bm) (h h' : AHeap) : Prop := ∀ b : Pos, h.next.toNat ≤ b.toNat → b.toNat < h'.next.toNat → β b = none
def Live (β : Bm) (h : AHeap) (b : Pos) (i : BInfo) : Prop := β b = some i ∧ ∃ o, h.get b = some o ∧ o.isDead = false
structure Ext (β β' : Bm) (h h' : AHeap) (w w' : World) : Prop where
  le : β.le β'
  out : ∀ b, β b = none → β' b ≠ none → h.next.toNat ≤ b.toNat ∧ b.toNat < h'.next.toNat
  afr : ∀ b, b.toNat < h.next.toNat → β b = none → h'.get b = h.get b
  cfr : ∀ k, k < w.heap.size → (∀ b i, Live β h b i → i.cb ≠ k) → w'.heap[k]? = w.heap[k]?
  src : ∀ b i, Live β' h' b i → w.heap.size ≤ i.cb ∨ ∃ b0 i0, Live β h b0 i0 ∧ i.cb = i0.cb
  next : h.next.toNat ≤ h'.next.toNat
  size : w.heap.size ≤ w'.heap.size
  st : Streams w w'
theorem Ext.refl (β : Bm) (h : AHeap) (w : World) : Ext β β h h w w :=
  ⟨β.le_refl, fun _ a b => absurd a b, fun _ _ _ => rfl, fun _ _ _ => rfl, fun b i hl => .inr ⟨b, i, hl, rfl⟩, Nat.le_refl _, Nat.le_refl _, .refl _⟩
theorem Ext.trans {β β' β'' : Bm} {h h' h'' : AHeap} {w w' w'' : World} (a : Ext β β' h h' w w') (b : Ext β' β'' h' h'' w' w'') : Ext β β'' h h'' w w'' where
  le := Bm.le_trans a.le b.le
  out := by
    intro x hx hx'
    by_cases e : β' x = none
    · have := b.out x e hx'
      have := a.next
      omega
    · have := a.out x hx e
      have := b.next
      omega
  afr := by
    intro x hx hb
    have e : β' x = none := by
      by_cases e : β' x = none
      · exact e
      · have := a.out x hb e; omega
    have := a.next
    rw [b.afr x (by omega) e, a.afr x hx hb]
  cfr := by
    intro k hk hl
    have := a.size
    rw [b.cfr k (by omega), a.cfr k hk hl]
    intro x i hx e
    rcases a.src x i hx with h1 | ⟨b0, i0, h1, h2⟩
    · omega
    · exact hl b0 i0 h1 (by omega)
  src := by
    intro x i hx
    have := a.size
    rcases b.src x i hx with h1 | ⟨b0, i0, h1, h2⟩
    · exact .inl (by omega)
    · rcases a.src b0 i0 h1 with h3 | ⟨b1, i1, h3, h4⟩
      · exact .inl (by omega)
      · exact .inr ⟨b1, i1, h3, by omega⟩
  next := Nat.le_trans a.next b.next
  size := Nat.le_trans a.size b.size
  st := a.st.trans b.st
theorem Fresh.left {β : Bm} {h h' h'' : AHeap} (f : Fresh β h h'') (n : h'.next.toNat ≤ h''.next.toNat) : Fresh β h h' :=
  fun b h1 h2 => f b h1 (by omega)
theorem Fresh.right {β β' : Bm} {h h' h'' : AHeap} {w w' : World} (f : Fresh β h h'') (e : Ext β β' h h' w w') : Fresh β' h' h'' := by
  intro b h1 h2
  have := e.next
  have hb := f b (by omega) h2
  by_cases e' : β' b = none
  · exact e'
  · have := e.out b hb e'; omega

section
variable {P} {ρ} {β : Bm} {h : AHeap} {w : World}
/-- a block is written -/
theorem upd_block (hr : HR P ρ β h w) (hw : HWF h) {b : Pos} {i : BInfo} {o o' : AObj} (hb : β b = some i) (hg : h.get b = some o) (hlive : o.isDead = false) {w' : World} {c' : Obj}
    (hc : w'.heap[i.cb]? = some c') (hsz : w'.heap.size = w.heap.size) (hoth : ∀ k, k ≠ i.cb → w'.heap[k]? = w.heap[k]?) (hrel : ORel P ρ β i o' c') (hst : Streams w w') :
    HR P ρ β (h.set b o') w' ∧ HWF (h.set b o') ∧ Ext β β h (h.set b o') w w' := by
  have live_old : ∀ x j, Live β (h.set b o') x j → Live β h x j := by
    rintro x j ⟨h1, o1, h2, h3⟩
    rw [AHeap.get_set] at h2
    split at h2
    · rename_i e; subst e; exact ⟨h1, o, hg, hlive⟩
    · exact ⟨h1, o1, h2, h3⟩
  refine ⟨⟨?_, ?_, ?_⟩, ?_, ⟨β.le_refl, fun _ a b => absurd a b, ?_, ?_, ?_, by simp, by omega, hst⟩⟩
  · intro x j ox hx hgx hd
    rw [AHeap.get_set] at hgx
    split at hgx
    · rename_i e; subst e
      rw [hb] at hx; cases hx
      simp at hgx; subst hgx
      exact ⟨c', hc, hrel⟩
    · rename_i e
      obtain ⟨c, h1, h2⟩ := hr.rel x j ox hx hgx hd
      refine ⟨c, ?_, h2⟩
      rw [hoth j.cb, h1]
      intro e'
      exact e (hr.inj x b j i ox o hx hb hgx hg hd hlive e')
  · intro x y j j' ox oy hx hy hgx hgy hdx hdy e
    obtain ⟨_, ox', g1, d1⟩ := live_old x j ⟨hx, ox, hgx, hdx⟩
    obtain ⟨_, oy', g2, d2⟩ := live_old y j' ⟨hy, oy, hgy, hdy⟩
    exact hr.inj x y j j' ox' oy' hx hy g1 g2 d1 d2 e
  · intro x j hx; rw [hsz]; exact hr.lt x j hx
  · intro x ox hx
    rw [AHeap.get_set] at hx
    simp only [AHeap.next_set]
    split at hx
    · rename_i e; subst e; exact hw x o hg
    · exact hw x ox hx
  · intro x hx hxn
    rw [AHeap.get_set, if_neg]
    rintro rfl; rw [hb] at hxn; cases hxn
  · intro k hk hl
    exact hoth k (fun e => hl b i ⟨hb, o, hg, hlive⟩ e.symm)
  · intro x j hx
    exact .inr ⟨x, j, live_old x j hx, rfl⟩
/-- a block is given up -/
theorem kill_block (hr : HR P ρ β h w) (hw : HWF h) {b : Pos} {i : BInfo} {o : AObj} (hb : β b = some i) (hg : h.get b = some o) (hlive : o.isDead = false) :
    HR P ρ β (h.set b .dead) w ∧ HWF (h.set b .dead) ∧ Ext β β h (h.set b .dead) w w := by
  obtain ⟨c, h1, h2⟩ := hr.rel b i o hb hg hlive
  exact upd_block hr hw hb hg hlive h1 rfl (fun _ _ => rfl) trivial (.refl w)
def Bm.put (β : Bm) (b : Pos) (i : BInfo) : Bm := fun x => if x = b then some i else β x
theorem Bm.le_put (β : Bm) {b : Pos} {i : BInfo} (h : β b = none) : β.le (β.put b i) := by
  intro x j hx
  unfold Bm.put
  split
  · rename_i e; subst e; rw [h] at hx; cases hx
  · exact hx
theorem Bm.put_self (β : Bm) (b : Pos) (i : BInfo) : (β.put b i) b = some i := by simp [Bm.put]
/-- a new block -/
theorem new_block (hr : HR P ρ β h w) (hw : HWF h) (hf : β h.next = none) {o : AObj} {w' : World} {c : Obj} {i : BInfo} (hi : i.cb = w.heap.size)
    (hc : w'.heap[w.heap.size]? = some c) (hsz : w'.heap.size = w.heap.size + 1) (hoth : ∀ k, k < w.heap.size → w'.heap[k]? = w.heap[k]?)
    (hrel : o.isDead = false → ORel P ρ (β.put h.next i) i o c) (hst : Streams w w') :
    HR P ρ (β.put h.next i) (h.new o) w' ∧ HWF (h.new o) ∧ Ext β (β.put h.next i) h (h.new o) w w' := by
  have hle := β.le_put (i := i) hf
  have nl : ∀ x ox, h.get x = some ox → x ≠ h.next := by
    intro x ox hx e; subst e; have := hw _ _ hx; omega
  have old : ∀ x j, x ≠ h.next → (β.put h.next i) x = some j → β x = some j := by
    intro x j hx he; simpa [Bm.put, hx] using he
  refine ⟨⟨?_, ?_, ?_⟩, ?_, ⟨hle, ?_, ?_, ?_, ?_, by simp [Pos.toNat_succ], by omega, hst⟩⟩
  · intro x j ox hx hgx hd
    rw [AHeap.get_new] at hgx
    split at hgx
    · rename_i e; subst e
      rw [Bm.put_self] at hx; cases hx
      simp at hgx; subst hgx
      exact ⟨c, by rw [hi]; exact hc, hrel hd⟩
    · rename_i e
      have hx := old x j e hx
      obtain ⟨c, h1, h2⟩ := hr.rel x j ox hx hgx hd
      exact ⟨c, by rw [hoth j.cb (hr.lt x j hx), h1], ORel.mono P ρ hle h2⟩
  · intro x y j j' ox oy hx hy hgx hgy hdx hdy e
    rw [AHeap.get_new] at hgx hgy
    by_cases ex : x = h.next
    · by_cases ey : y = h.next
      · rw [ex, ey]
      · exfalso
        subst ex
        rw [Bm.put_self] at hx; cases hx
        have := hr.lt y j' (old y j' ey hy)
        omega
    · by_cases ey : y = h.next
      · exfalso
        subst ey
        rw [Bm.put_self] at hy; cases hy
        have := hr.lt x j (old x j ex hx)
        omega
      · rw [if_neg ex] at hgx
        rw [if_neg ey] at hgy
        exact hr.inj x y j j' ox oy (old x j ex hx) (old y j' ey hy) hgx hgy hdx hdy e
  · intro x j hx
    by_cases ex : x = h.next
    · subst ex; rw [Bm.put_self] at hx; cases hx; omega
    · have := hr.lt x j (old x j ex hx); omega
  · intro x ox hx
    rw [AHeap.get_new] at hx
    simp only [AHeap.next_new, Pos.toNat_succ]
    split at hx
    · rename_i e; subst e; omega
    · have := hw x ox hx; omega
  · intro x hx hx'
    by_cases ex : x = h.next
    · subst ex; simp [Pos.toNat_succ]
    · exfalso; apply hx'; simpa [Bm.put, ex] using hx
  · intro x hx hxn
    rw [AHeap.get_new, if_neg]
    rintro rfl; omega
  · intro k hk _; exact hoth k hk
  · rintro x j ⟨h1, ox, h2, h3⟩
    by_cases ex : x = h.next
    · subst ex; rw [Bm.put_self] at h1; cases h1; exact .inl (by omega)
    · rw [AHeap.get_new, if_neg ex] at h2
      exact .inr ⟨x, j, ⟨old x j ex h1, ox, h2, h3⟩, rfl⟩
/-- a block goes over to another name, and is written -/
theorem move_block (hr : HR P ρ β h w) (hw : HWF h) (hf : β h.next = none) {b : Pos} {i j : BInfo} {o o' : AObj} (hb : β b = some i) (hg : h.get b = some o) (hlive : o.isDead = false) (hj : j.cb = i.cb)
    {w' : World} {c' : Obj} (hc : w'.heap[i.cb]? = some c') (hsz : w'.heap.size = w.heap.size) (hoth : ∀ k, k ≠ i.cb → w'.heap[k]? = w.heap[k]?) (hrel : ORel P ρ (β.put h.next j) j o' c') (hst : Streams w w') :
    HR P ρ (β.put h.next j) ((h.set b .dead).new o') w' ∧ HWF ((h.set b .dead).new o') ∧ Ext β (β.put h.next j) h ((h.set b .dead).new o') w w' := by
  have hle := β.le_put (i := j) hf
  have hbn : b ≠ h.next := by intro e; subst e; rw [hf] at hb; cases hb
  have old : ∀ x k, x ≠ h.next → (β.put h.next j) x = some k → β x = some k := by
    intro x k hx he; simpa [Bm.put, hx] using he
  have get' : ∀ x, ((h.set b .dead).new o').get x = if x = h.next then some o' else if x = b then some .dead else h.get x := by
    intro x; rw [AHeap.get_new, AHeap.get_set]; simp
  have live_cases : ∀ x k, Live (β.put h.next j) ((h.set b .dead).new o') x k → (x = h.next ∧ k = j) ∨ (x ≠ h.next ∧ x ≠ b ∧ Live β h x k) := by
    rintro x k ⟨h1, ox, h2, h3⟩
    rw [get'] at h2
    by_cases ex : x = h.next
    · subst ex; rw [Bm.put_self] at h1; cases h1; exact .inl ⟨rfl, rfl⟩
    · rw [if_neg ex] at h2
      by_cases eb : x = b
      · rw [if_pos eb] at h2; simp at h2; subst h2; simp [AObj.isDead] at h3
      · rw [if_neg eb] at h2
        exact .inr ⟨ex, eb, old x k ex h1, ox, h2, h3⟩
  refine ⟨⟨?_, ?_, ?_⟩, ?_, ⟨hle, ?_, ?_, ?_, ?_, by simp [Pos.toNat_succ], by omega, hst⟩⟩
  · intro x k ox hx hgx hd
    rcases live_cases x k ⟨hx, ox, hgx, hd⟩ with ⟨rfl, rfl⟩ | ⟨ex, eb, h1, ox', h2, h3⟩
    · rw [get', if_pos rfl] at hgx
      simp at hgx; subst hgx
      exact ⟨c', by rw [hj]; exact hc, hrel⟩
    · rw [get', if_neg ex, if_neg eb] at hgx
      rw [h2] at hgx; cases hgx
      obtain ⟨c, g1, g2⟩ := hr.rel x k ox h1 h2 h3
      refine ⟨c, ?_, ORel.mono P ρ hle g2⟩
      rw [hoth k.cb, g1]
      intro e'
      exact eb (hr.inj x b k i ox o h1 hb h2 hg h3 hlive e')
  · intro x y k k' ox oy hx hy hgx hgy hdx hdy e
    rcases live_cases x k ⟨hx, ox, hgx, hdx⟩ with ⟨rfl, rfl⟩ | ⟨ex, eb, h1, ox', h2, h3⟩ <;>
    rcases live_cases y k' ⟨hy, oy, hgy, hdy⟩ with ⟨rfl, rfl⟩ | ⟨ey, eb', h1', oy', h2', h3'⟩
    · rfl
    · exact absurd (hr.inj y b k' i oy' o h1' hb h2' hg h3' hlive (by omega)) eb'
    · exact absurd (hr.inj x b k i ox' o h1 hb h2 hg h3 hlive (by omega)) eb
    · exact hr.inj x y k k' ox' oy' h1 h1' h2 h2' h3 h3' e
  · intro x k hx
    by_cases ex : x = h.next
    · subst ex; rw [Bm.put_self] at hx; cases hx; have := hr.lt b i hb; omega
    · have := hr.lt x k (old x k ex hx); omega
  · intro x ox hx
    rw [get'] at hx
    simp only [AHeap.next_new, AHeap.next_set, Pos.toNat_succ]
    split at hx
    · rename_i e; subst e; omega
    · split at hx
      · rename_i e; subst e; have := hw _ _ hg; omega
      · have := hw x ox hx; omega
  · intro x hx hx'
    by_cases ex : x = h.next
    · subst ex; simp [Pos.toNat_succ]
    · exfalso; apply hx'; simpa [Bm.put, ex] using hx
  · intro x hx hxn
    rw [get', if_neg, if_neg]
    · rintro rfl; rw [hb] at hxn; cases hxn
    · rintro rfl; omega
  · intro k hk hl
    exact hoth k (fun e => hl b i ⟨hb, o, hg, hlive⟩ e.symm)
  · intro x k hx
    rcases live_cases x k hx with ⟨rfl, rfl⟩ | ⟨ex, eb, h1⟩
    · exact .inr ⟨b, i, ⟨hb, o, hg, hlive⟩, hj⟩
    · exact .inr ⟨x, k, h1, rfl⟩

/-! ## stores into cells -/
theorem setRow_other (w : World) (g : Nat) (cs : Array Value) (k : Nat) (hk : k ≠ g) : (w.setRow g cs).heap[k]? = w.heap[k]? := by
  simp only [World.setRow, Array.getElem?_modify]
  rw [if_neg (by omega)]
theorem setRow_size (w : World) (g : Nat) (cs : Array Value) : (w.setRow g cs).heap.size = w.heap.size := by simp [World.setRow]
theorem storeA_run (hr : HR P ρ β h w) (hw : HWF h) {b : Pos} {i : BInfo} (hb : β b = some i) {o : Nat} {vs : List AVal} {h' : AHeap} (he : storeA h b o vs = some h')
    {l : List Value} (hl : VRs ρ β vs l) (h1 : ∀ y ∈ l, y.oneCell' = true) :
    ∃ w', (storeCells ⟨i.cb, i.base + o, none⟩ l).run P w = .ok () w' ∧ HR P ρ β h' w' ∧ HWF h' ∧ Ext β β h h' w w' := by
  unfold storeA at he
  split at he
  · rename_i cs t hg
    split at he
    · rename_i hle
      simp only [Option.some.injEq] at he; subst he
      have hle := Nat.le_of_ble_eq_true hle
      rw [lenL_eq, lenL_eq] at hle
      have hle : o + vs.length ≤ cs.length := hle
      obtain ⟨c, t', g1, g2, g3, g4⟩ := hr.cells hb hg
      have hll := hl.length
      have hst := run_storeCells_at P i.cb (i.base + o) t' l 0 c w g1 (by omega) h1
      simp only [Nat.add_zero] at hst
      refine ⟨_, hst, ?_⟩
      refine upd_block hr hw hb hg rfl (setRow_heap w i.cb c _ t' (0, 0) g1) (setRow_size w _ _) (fun k hk => setRow_other w _ _ k hk) ?_ ⟨rfl, rfl, rfl⟩
      simp only [takeL_eq, dropL_eq, lenL_eq]
      refine ⟨_, _, rfl, by simp; omega, by simp; omega, fun k x hx => ?_⟩
      have hx' : (cs.take o ++ (vs ++ cs.drop (o + vs.length)))[k]? = some x := hx
      have hc : ((c.toList.take (i.base + o) ++ l ++ c.toList.drop (i.base + o + l.length)).toArray)[i.base + k]? =
          if k < o then c[i.base + k]? else if k < o + vs.length then l[k - o]? else c[i.base + k]? := by
        simp only [List.getElem?_toArray, List.append_assoc]
        have hcl : (c.toList.take (i.base + o)).length = i.base + o := by simp; omega
        by_cases h1 : k < o
        · rw [if_pos h1, List.getElem?_append_left (by omega), List.getElem?_take_of_lt (by omega)]
          simp
        · rw [if_neg h1, List.getElem?_append_right (by omega), hcl]
          by_cases h2 : k < o + vs.length
          · rw [if_pos h2, List.getElem?_append_left (by omega)]
            congr 1; omega
          · rw [if_neg h2, List.getElem?_append_right (by omega), List.getElem?_drop]
            rw [show i.base + o + l.length + (i.base + k - (i.base + o) - l.length) = i.base + k by omega]
            simp
      rw [hc]
      have hct : (cs.take o).length = o := by simp; omega
      by_cases q1 : k < o
      · rw [if_pos q1]
        rw [List.getElem?_append_left (by omega), List.getElem?_take_of_lt q1] at hx'
        exact g4 k x hx'
      · rw [if_neg q1]
        rw [List.getElem?_append_right (by omega), hct] at hx'
        by_cases q2 : k < o + vs.length
        · rw [if_pos q2]
          rw [List.getElem?_append_left (by omega)] at hx'
          obtain ⟨y, e1, e2⟩ := hl.get _ _ hx'
          exact ⟨y, e1, e2, h1 y (List.mem_of_getElem? e1)⟩
        · rw [if_neg q2]
          rw [List.getElem?_append_right (by omega), List.getElem?_drop, show o + vs.length + (k - o - vs.length) = k by omega] at hx'
          exact g4 k x hx'
    · simp at he
  · simp at he
end
end Go.AI
