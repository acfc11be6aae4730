/- Part of a proof for one law: an interpreter over what is known of values, and that it is right. -/
import Derived.Test.YtcedhpnmhahgmaaAiS23
set_option linter.unusedSimpArgs false
set_option linter.unusedVariables false
set_option linter.constructorNameAsVariable false
namespace Go.AI
open Go.Shelf Go.Proofs
variable (P : Program) (ρ : Nat → Value)
section
variable {P} {ρ} {β : Bm} {h h' : AHeap} {w w' : World}
theorem leave_of_calls {f : FuncId} {vs : Array Value} {R : Ending → World → Prop} {v : AVal} (hc : Calls P f vs w R)
    (hR : ∀ e w', R e w' → ∃ v', e = .returned v' ∧ ∃ β', VR ρ β' v v' ∧ St P ρ β' h' w' ∧ Ext β β' h h' w w') : LeaveOk P ρ β h w f vs v h' := by
  intro cs
  obtain ⟨e, w', fr, hr, hs, hf, hl⟩ := hc cs
  obtain ⟨v', rfl, β', q1, q2, q3⟩ := hR e w' hr
  exact ⟨β', v', w', fr, q1, q2, q3, hs, hf, hl⟩
/-- a new row of cells -/
theorem fresh_row (s : St P ρ β h w) {cs : List AVal} {l : List Value} (hl : VRs ρ β cs l) (h1 : ∀ y ∈ l, y.oneCell' = true) {need cap : Nat} (hll : l.length = need) (hcap : need ≤ cap) (hcap2 : cap ≤ 9223372036854775807)
    {c : Array Value} {t e : TypeId} (hc : w'.heap[w.heap.size]? = some (.cells c t (0, 0))) (hcs : c.size = cap) (hsz : w'.heap.size = w.heap.size + 1) (hoth : ∀ k, k < w.heap.size → w'.heap[k]? = w.heap[k]?) (hst : Streams w w')
    (hget : ∀ (k : Nat) (y : Value), l[k]? = some y → c[k]? = some y) :
    ∃ β', VR ρ β' (.slice h.next 0 need need 1) (.slice (some ⟨w.heap.size, 0, none⟩) need cap) ∧ St P ρ β' (h.new (.cells cs e)) w' ∧ Ext β β' h (h.new (.cells cs e)) w w' := by
  have hf := s.freshNext
  obtain ⟨r1, r2, r3⟩ := new_block (i := ⟨w.heap.size, 0, cap⟩) (o := .cells cs e) (w' := w') (c := .cells c t (0, 0)) s.hr s.wf hf rfl hc hsz hoth
    (fun _ => by
      refine ⟨_, _, rfl, hcs, ?_, fun k x hx => ?_⟩
      · have := hl.length
        show 0 + cs.length ≤ _
        omega
      · obtain ⟨y, e1, e2⟩ := hl.get k x hx
        exact ⟨y, by rw [Nat.zero_add]; exact hget k y e1, VR.mono ρ (β.le_put hf) _ e2, h1 y (List.mem_of_getElem? e1)⟩) hst
  refine ⟨_, ?_, s.step r1 r2 r3, r3⟩
  simp only [VR]
  exact ⟨_, 0, cap, Bm.put_self _ _ _, rfl, Nat.le_refl _, hcap, fun e => by simp at e, fun _ => rfl, fun _ => ⟨by simp, hcap2⟩⟩
/-- a row of cells goes on under another name -/
theorem moved_row (s : St P ρ β h w) {b : Pos} {i : BInfo} (hb : β b = some i) {cs0 : List AVal} {e0 : TypeId} (hg : h.get b = some (.cells cs0 e0)) {cs : List AVal} {l : List Value} (hl : VRs ρ β cs l) (h1 : ∀ y ∈ l, y.oneCell' = true)
    {need C off : Nat} (hll : l.length = need) (hcap : need ≤ C) (hcap2 : C ≤ 9223372036854775807) (hoff : off + C ≤ i.size)
    {c : Array Value} {t e : TypeId} (hc : w'.heap[i.cb]? = some (.cells c t (0, 0))) (hcs : c.size = i.size) (hsz : w'.heap.size = w.heap.size) (hoth : ∀ k, k ≠ i.cb → w'.heap[k]? = w.heap[k]?) (hst : Streams w w')
    (hget : ∀ (k : Nat) (y : Value), l[k]? = some y → c[off + k]? = some y) :
    ∃ β', VR ρ β' (.slice h.next 0 need need 1) (.slice (some ⟨i.cb, off, none⟩) need C) ∧ St P ρ β' ((h.set b .dead).new (.cells cs e)) w' ∧ Ext β β' h ((h.set b .dead).new (.cells cs e)) w w' := by
  have hf := s.freshNext
  obtain ⟨r1, r2, r3⟩ := move_block (j := ⟨i.cb, off, i.size⟩) (o' := .cells cs e) s.hr s.wf hf hb hg rfl rfl hc hsz hoth
    (by
      refine ⟨_, _, rfl, hcs, ?_, fun k x hx => ?_⟩
      · have := hl.length
        show off + cs.length ≤ _
        omega
      · obtain ⟨y, e1, e2⟩ := hl.get k x hx
        exact ⟨y, hget k y e1, VR.mono ρ (β.le_put hf) _ e2, h1 y (List.mem_of_getElem? e1)⟩) hst
  refine ⟨_, ?_, s.step r1 r2 r3, r3⟩
  simp only [VR]
  exact ⟨_, off, C, Bm.put_self _ _ _, rfl, Nat.le_refl _, hcap, fun e => by simp at e, fun _ => rfl, fun _ => ⟨by simpa using hoff, hcap2⟩⟩
theorem frozen_no {b o : Nat} {c : Array Value} {t : TypeId} (hb : w.heap[b]? = some (.cells c t (0, 0))) : w.frozen? ⟨b, o, none⟩ = false := by
  simp [World.frozen?, hb]
theorem get_mid {c : Array Value} {a l d : List Value} (k : Nat) (y : Value) : (a ++ (l ++ d))[k]? = some y → (k < a.length ∧ a[k]? = some y) ∨ (a.length ≤ k ∧ k < a.length + l.length ∧ l[k - a.length]? = some y) ∨ (a.length + l.length ≤ k ∧ d[k - a.length - l.length]? = some y) := by
  intro h
  by_cases h1 : k < a.length
  · rw [List.getElem?_append_left h1] at h; exact .inl ⟨h1, h⟩
  · rw [List.getElem?_append_right (by omega)] at h
    by_cases h2 : k - a.length < l.length
    · rw [List.getElem?_append_left h2] at h; exact .inr (.inl ⟨by omega, by omega, h⟩)
    · rw [List.getElem?_append_right (by omega)] at h; exact .inr (.inr ⟨by omega, h⟩)
theorem cell_of {b o : Nat} {c : Array Value} {t : TypeId} (hb : w.heap[b]? = some (.cells c t (0, 0))) : w.cell? ⟨b, o, none⟩ = c[o]? := by
  simp [World.cell?, hb]
theorem hget_of {c' : Array Value} {off i : Nat} {lo ln : List Value} (hi : i ≤ lo.length) (hA : ∀ k, k < i → c'[off + k]? = lo[k]?) (hB : ∀ k, k < ln.length → c'[off + (i + k)]? = ln[k]?)
    (hC : ∀ k, k < lo.length - i → c'[off + (i + ln.length + k)]? = lo[i + k]?) (k : Nat) (y : Value) (hk : (lo.take i ++ (ln ++ lo.drop i))[k]? = some y) : c'[off + k]? = some y := by
  have hlen : (lo.take i).length = i := by simp; omega
  rcases get_mid (c := c') k y hk with ⟨h1, h2⟩ | ⟨h1, h2, h3⟩ | ⟨h1, h2⟩
  · rw [hlen] at h1
    rw [hA k h1]
    rw [List.getElem?_take_of_lt h1] at h2; exact h2
  · rw [hlen] at h1 h2 h3
    have := hB (k - i) (by omega)
    rw [show i + (k - i) = k by omega] at this
    rw [this, h3]
  · rw [hlen] at h1 h2
    rw [List.getElem?_drop] at h2
    have hlt := (List.getElem?_eq_some_iff.1 h2).1
    have := hC (k - i - ln.length) (by omega)
    rw [show i + ln.length + (k - i - ln.length) = k by omega] at this
    rw [this, h2]
theorem drew_St (s : St P ρ β h w) : St P ρ β h w.drew := ⟨⟨s.hr.rel, s.hr.inj, s.hr.lt⟩, s.wf, s.dom⟩
variable {r : Ren}
theorem insert_run (L : Lays2.n21 P r) : IntrOk P ρ (r.f 21) (insertI (r.t 3)) := by
  intro args h v h' he β w s vs ha
  unfold insertI at he
  split at he
  rotate_left
  · simp at he
  rename_i sa ia va
  obtain ⟨s0, l1, e1, hsv, ha1⟩ := VRs.cons_inv ha
  obtain ⟨i0, l2, rfl, hiv, ha2⟩ := VRs.cons_inv ha1
  obtain ⟨v0, l3, rfl, hvv, ha3⟩ := VRs.cons_inv ha2
  obtain rfl := VRs.nil_inv ha3
  clear ha3 ha2 ha1
  obtain rfl : vs = #[s0, i0, v0] := by rw [← Array.toList_inj]; simpa using e1
  clear e1
  split at he
  · simp at he
  rename_i vl hvl
  split at he
  · simp at he
  rename_i m
  split at he
  rotate_left
  · simp at he
  rename_i vb vo vlen vcap ves
  simp only [lenA, Option.some.injEq] at hvl
  subst hvl
  split at he
  · simp at he
  rename_i new hnew
  split at he
  · simp at he
  rename_i i hi
  split at hi
  rotate_left
  · simp at hi
  simp only [Option.some.injEq] at hi
  subst hi
  rename_i i
  simp only [VR] at hiv
  subst hiv
  obtain ⟨vcs, vt, hvg, rfl, hnl⟩ := cellsA_slice hnew
  have hvv' := hvv
  simp only [VR] at hvv'
  obtain ⟨vi, voff, VC, hvb, rfl, g1, g2, g3, g4, g5⟩ := hvv'
  have hvoff := g4 (by omega)
  rw [Nat.mul_one] at hnl
  obtain ⟨ln, n1, n2, n3, n4⟩ := s.hr.stretch hvb hvg vo (m + 1) (by simpa using hnl)
  have hvs : ∀ (j : Nat) v, ln[j]? = some v → w.cell? ⟨vi.cb, voff + j, none⟩ = some v := by
    intro j v hj
    have := n4 j v hj
    rw [addr_add] at this
    rw [hvoff]; exact this
  split at he
  · -- the nil slice
    split at he
    rotate_left
    · simp at he
    rename_i hi0
    have hi0 := Nat.eq_of_beq_eq_true hi0
    subst hi0
    split at he
    rotate_left
    · simp at he
    rename_i hroom
    simp only [ORes.ok.injEq] at he
    obtain ⟨rfl, rfl⟩ := he
    simp only [VR] at hsv; subst hsv
    obtain ⟨q1, q2⟩ := roomy_le hroom
    have hC := Any2.slices_Insert_int_end_grow L none 0 0 vi.cb voff (m + 1) VC [] ln w (by omega) (by omega) (by omega) (by simpa using q1) rfl n1 (fun _ => rfl) (by intro a ha; simp at ha) hvs n3
    simp only [Nat.zero_add] at hC
    refine leave_of_calls hC ?_
    rintro e w' ⟨rfl, hw'⟩
    refine ⟨_, rfl, ?_⟩
    have hmx := grownCap_le_maxLen w (m + 1) 0 (r.t 3) (by
      have q3 : ((m + 1 : Nat) : Int) ≤ 9223372036854775807 := q2
      have q4 : (m + 1) ≤ 9223372036854775807 := by omega
      exact q4)
    have hge := grownCap_ge w (m + 1) 0 (r.t 3)
    generalize grownCap w (m + 1) 0 (r.t 3) = G at *
    refine fresh_row (e := r.t 3) s (cs := (vcs.drop vo).take ((m + 1) * 1)) (l := ln) (by rw [Nat.mul_one]; exact n2) n3 (need := m + 1) n1 hge hmx
      (c := ([] ++ ln).toArray ++ Builtin.zeroCells (Value.int .i64 0).cells (G - (m + 1))) (t := r.t 3) ?_ ?_ ?_ ?_ ?_ ?_
    · rw [hw']; exact World.alloc_heap_new w.drew _
    · rw [Array.size_append, size_zeroCells]; simp [n1, Value.cells]; omega
    · rw [hw']; exact World.size_alloc ..
    · intro k hk; rw [hw']; show (w.heap.push _)[k]? = _; simp [Array.getElem?_push_lt, hk]
    · rw [hw']; exact ⟨rfl, rfl, rfl⟩
    · intro k y hk
      have hlt := (List.getElem?_eq_some_iff.1 hk).1
      rw [Array.getElem?_append_left (by show k < ([] ++ ln).length; simpa using hlt)]
      simpa using hk
  · rename_i b o len cap es
    split at he
    · simp at he
    rename_i hbne
    split at he
    · simp at he
    rename_i old hold
    split at he
    · simp at he
    rename_i hile
    have hile := Nat.le_of_ble_eq_true hile
    split at he
    · simp at he
    rename_i hroom
    split at he
    · simp at he
    rename_i hcapk
    simp only [ORes.ok.injEq] at he
    obtain ⟨rfl, rfl⟩ := he
    obtain ⟨q1, q2⟩ := roomy_le hroom
    have q3 : ((len + (m + 1) : Nat) : Int) ≤ 9223372036854775807 := q2
    have q4 : len + (m + 1) ≤ 9223372036854775807 := by omega
    have q5 : (len + (m + 1)) * 8 ≤ 140737488355328 := q1
    obtain ⟨scs, st, hsg, rfl, hol⟩ := cellsA_slice hold
    simp only [VR] at hsv
    obtain ⟨si, off, C, hb, rfl, p1, p2, p3, p4, p5⟩ := hsv
    rw [Nat.mul_one] at hol
    obtain ⟨lo, o1, o2, o3, o4⟩ := s.hr.stretch hb hsg o len hol
    have hne : vi.cb ≠ si.cb := by
      intro e
      have := s.hr.inj b vb si vi _ _ hb hvb hsg hvg rfl rfl e.symm
      rw [Pos.beq_iff.2 this] at hbne; simp at hbne
    have hcs : ∀ (j : Nat) v, lo[j]? = some v → w.cell? ⟨si.cb, off + j, none⟩ = some v := by
      intro j v hj
      have hjl := (List.getElem?_eq_some_iff.1 hj).1
      have := o4 j v hj
      rw [addr_add] at this
      rw [p4 (by omega)]; exact this
    have hVall : VRs ρ β (takeL i ((scs.drop o).take (len * 1)) ++ ((vcs.drop vo).take ((m + 1) * 1) ++ dropL i ((scs.drop o).take (len * 1)))) (lo.take i ++ (ln ++ lo.drop i)) := by
      rw [takeL_eq, dropL_eq, Nat.mul_one, Nat.mul_one]
      exact (o2.take i).append (n2.append (o2.drop i))
    have hone : ∀ y ∈ lo.take i ++ (ln ++ lo.drop i), y.oneCell' = true := by
      intro y hy
      simp only [List.mem_append] at hy
      rcases hy with hy | hy | hy
      · exact o3 y (List.mem_of_mem_take hy)
      · exact n3 y hy
      · exact o3 y (List.mem_of_mem_drop hy)
    have hlen : (lo.take i ++ (ln ++ lo.drop i)).length = len + (m + 1) := by simp [n1, o1]; omega
    obtain ⟨k1, k2, k3⟩ := kill_block s.hr s.wf hb hsg rfl
    have sk := s.step k1 k2 k3
    by_cases hCn : C < len + (m + 1)
    · have hmx := grownCap_le_maxLen w (len + (m + 1)) C (r.t 3) q4
      have hge := grownCap_ge w (len + (m + 1)) C (r.t 3)
      have wrap : ∀ (w' : World) (c : Array Value) (G : Nat), len + (m + 1) ≤ G → G ≤ maxLen → w'.heap[w.heap.size]? = some (.cells c (r.t 3) (0, 0)) → c.size = G → w'.heap.size = w.heap.size + 1 → (∀ k, k < w.heap.size → w'.heap[k]? = w.heap[k]?) → Streams w w' →
          (∀ (k : Nat) (y : Value), (lo.take i ++ (ln ++ lo.drop i))[k]? = some y → c[k]? = some y) →
          ∃ β', VR ρ β' (.slice h.next 0 (len + (m + 1)) (len + (m + 1)) 1) (.slice (some ⟨w.heap.size, 0, none⟩) (len + (m + 1)) G) ∧
            St P ρ β' ((h.set b .dead).new (.cells (takeL i ((scs.drop o).take (len * 1)) ++ ((vcs.drop vo).take ((m + 1) * 1) ++ dropL i ((scs.drop o).take (len * 1)))) (r.t 3))) w' ∧
            Ext β β' h ((h.set b .dead).new (.cells (takeL i ((scs.drop o).take (len * 1)) ++ ((vcs.drop vo).take ((m + 1) * 1) ++ dropL i ((scs.drop o).take (len * 1)))) (r.t 3))) w w' := by
        intro w' c G z1 z2 z3 z4 z5 z6 z7 z8
        obtain ⟨β', f1, f2, f3⟩ := fresh_row (e := r.t 3) sk hVall hone hlen z1 z2 z3 z4 z5 z6 z7 z8
        rw [AHeap.next_set] at f1
        exact ⟨β', f1, f2, k3.trans f3⟩
      by_cases hin : i = len
      · subst hin
        have hC := Any2.slices_Insert_int_end_grow L (some ⟨si.cb, off, none⟩) i C vi.cb voff (m + 1) VC lo ln w (by omega) (by omega) hCn q5 o1 n1 (by simp)
          (by intro a ha j v hj; simp only [Option.some.injEq] at ha; subst ha; rw [addr_add]; exact hcs j v hj) hvs n3
        refine leave_of_calls hC ?_
        rintro e w' ⟨rfl, hw'⟩
        refine ⟨_, rfl, ?_⟩
        generalize grownCap w (i + (m + 1)) C (r.t 3) = G at *
        refine wrap w' ((lo ++ ln).toArray ++ Builtin.zeroCells (Value.int .i64 0).cells (G - (i + (m + 1)))) G hge hmx ?_ ?_ ?_ ?_ ?_ ?_
        · rw [hw']; exact World.alloc_heap_new w.drew _
        · rw [Array.size_append, size_zeroCells]; simp [n1, o1, Value.cells]; omega
        · rw [hw']; exact World.size_alloc ..
        · intro k hk; rw [hw']; show (w.heap.push _)[k]? = _; simp [Array.getElem?_push_lt, hk]
        · rw [hw']; exact ⟨rfl, rfl, rfl⟩
        · intro k y hk
          have e1 : lo.take i ++ (ln ++ lo.drop i) = lo ++ ln := by rw [← o1]; simp
          rw [e1] at hk
          have hlt := (List.getElem?_eq_some_iff.1 hk).1
          rw [Array.getElem?_append_left (by show k < (lo ++ ln).length; exact hlt)]
          simpa using hk
      · have hC := Any2.slices_Insert_int_grow L si.cb off len C i vi.cb voff (m + 1) VC lo ln w (by omega) (by omega) (by omega) hCn q5 o1 n1 hcs hvs o3 n3
        refine leave_of_calls hC ?_
        rintro e w' ⟨rfl, hw'⟩
        refine ⟨_, rfl, ?_⟩
        generalize grownCap w (len + (m + 1)) C (r.t 3) = G at *
        have hgem : len + (m + 1) ≤ G := hge
        generalize hc0 : (lo.take i).toArray ++ Builtin.zeroCells (Value.int .i64 0).cells (len + (m + 1) - i) ++ Builtin.zeroCells (Value.int .i64 0).cells (G - (len + (m + 1))) = c0 at *
        have hc0s : c0.size = G := by
          rw [← hc0, Array.size_append, Array.size_append, size_zeroCells, size_zeroCells]
          simp [o1, Value.cells]; omega
        have hc0g : ∀ k, k < i → c0[k]? = lo[k]? := by
          intro k hk
          rw [← hc0, Array.append_assoc, Array.getElem?_append_left (by simp [o1]; omega)]
          simp [List.getElem?_take_of_lt hk]
        generalize hw1 : (w.alloc (.cells c0 (r.t 3))).drew = w1 at *
        have hw1b : w1.heap[w.heap.size]? = some (.cells c0 (r.t 3) (0, 0)) := by rw [← hw1]; exact World.alloc_heap_new w _
        obtain ⟨⟨c1, e1, e2, e3⟩, e4, e5, e6⟩ := setCells_row w.heap.size (r.t 3) (0, 0) ln i c0 w1 hw1b
        generalize hw2 : (w1.setCells w.heap.size i ln).drew = w2 at *
        have hw2b : w2.heap[w.heap.size]? = some (.cells c1 (r.t 3) (0, 0)) := by rw [← hw2]; exact e1
        obtain ⟨⟨c2, f1, f2, f3⟩, f4, f5, f6⟩ := setCells_row w.heap.size (r.t 3) (0, 0) (lo.drop i) (i + (m + 1)) c1 w2 hw2b
        rw [← hw'] at f1 f4 f5 f6
        have hld : (lo.drop i).length = len - i := by simp [o1]
        refine wrap w' c2 G hge hmx f1 (by omega) ?_ ?_ ?_ ?_
        · rw [f5, ← hw2]; show (w1.setCells w.heap.size i ln).heap.size = _; rw [e5, ← hw1]; exact World.size_alloc ..
        · intro k hk
          rw [f4 k (by omega), ← hw2]; show (w1.setCells w.heap.size i ln).heap[k]? = _
          rw [e4 k (by omega), ← hw1]; show (w.heap.push _)[k]? = _; simp [Array.getElem?_push_lt, hk]
        · have s1 : Streams w w1 := by rw [← hw1]; exact ⟨rfl, rfl, rfl⟩
          have s2 : Streams (w1.setCells w.heap.size i ln) w2 := by rw [← hw2]; exact ⟨rfl, rfl, rfl⟩
          exact s1.trans (e6.trans (s2.trans f6))
        · intro k y hk
          have := hget_of (c' := c2) (off := 0) (i := i) (lo := lo) (ln := ln) (by omega)
            (fun k hk => by rw [Nat.zero_add, f3, if_neg (by omega), e3, if_neg (by omega), hc0g k hk])
            (fun k hk => by
              rw [Nat.zero_add, f3, if_neg (by omega), e3, if_pos (by omega), if_pos (by omega)]
              congr 1; omega)
            (fun k hk => by
              rw [Nat.zero_add, f3, if_pos (by omega), if_pos (by omega), List.getElem?_drop]
              congr 1; omega) k y hk
          rw [Nat.zero_add] at this; exact this
    · -- there is room
      have hes : es = 1 := by
        cases es with
        | zero =>
          exfalso
          have hC := p3 rfl
          have h1 : cap < len + (m + 1) := by simpa [Nat.blt_eq] using hcapk
          omega
        | succ k =>
          have h1 : Nat.beq k 0 = true := by simpa using hcapk
          rw [Nat.eq_of_beq_eq_true h1]
      subst hes
      obtain ⟨p6, p7⟩ := p5 (by simp)
      rw [Nat.mul_one] at p6
      obtain ⟨c0, t0, hrow, hrs, _, _⟩ := s.hr.cells hb hsg
      obtain ⟨cv, tv, hrowv, hrsv, _, _⟩ := s.hr.cells hvb hvg
      have hlo : ∀ k, k < len → c0[off + k]? = lo[k]? := by
        intro k hk
        have := hcs k (lo[k]'(by omega)) (by simp [o1, hk])
        rw [cell_of hrow] at this
        rw [this]; simp [o1, hk]
      have wrap : ∀ (w' : World) (c : Array Value), w'.heap[si.cb]? = some (.cells c t0 (0, 0)) → c.size = si.size → w'.heap.size = w.heap.size → (∀ k, k ≠ si.cb → w'.heap[k]? = w.heap[k]?) → Streams w w' →
          (∀ (k : Nat) (y : Value), (lo.take i ++ (ln ++ lo.drop i))[k]? = some y → c[off + k]? = some y) →
          ∃ β', VR ρ β' (.slice h.next 0 (len + (m + 1)) (len + (m + 1)) 1) (.slice (some ⟨si.cb, off, none⟩) (len + (m + 1)) C) ∧
            St P ρ β' ((h.set b .dead).new (.cells (takeL i ((scs.drop o).take (len * 1)) ++ ((vcs.drop vo).take ((m + 1) * 1) ++ dropL i ((scs.drop o).take (len * 1)))) (r.t 3))) w' ∧
            Ext β β' h ((h.set b .dead).new (.cells (takeL i ((scs.drop o).take (len * 1)) ++ ((vcs.drop vo).take ((m + 1) * 1) ++ dropL i ((scs.drop o).take (len * 1)))) (r.t 3))) w w' :=
        fun w' c z1 z2 z3 z4 z5 z6 => moved_row (e := r.t 3) s hb hsg hVall hone hlen (by omega) p7 p6 z1 z2 z3 z4 z5 z6
      by_cases hin : i = len
      · subst hin
        have hC := Any2.slices_Insert_int_end_room L si.cb off i C vi.cb voff (m + 1) VC ln w (by omega) (by omega) p7 n1
          (fun j hj => by rw [cell_of hrow]; simp; omega) (fun j hj => frozen_no hrow) hvs n3
        refine leave_of_calls hC ?_
        rintro e w' ⟨rfl, hw'⟩
        refine ⟨_, rfl, ?_⟩
        obtain ⟨⟨c1, e1, e2, e3⟩, e4, e5, e6⟩ := setCells_row si.cb t0 (0, 0) ln (off + i) c0 w hrow
        rw [← hw'] at e1 e4 e5 e6
        refine wrap w' c1 e1 (by omega) e5 e4 e6 (hget_of (by omega) (fun k hk => ?_) (fun k hk => ?_) (fun k hk => by omega))
        · rw [e3, if_neg (by omega), hlo k hk]
        · rw [e3, if_pos (by omega), if_pos (by omega)]
          congr 1; omega
      · have hC := Any2.slices_Insert_int_shift L si.cb off len C i vi.cb voff (m + 1) VC lo ln w (by omega) (by omega) (by omega) p7 hne o1 n1 hcs
          (fun j hj => by rw [cell_of hrow]; simp; omega) (fun j hj => frozen_no hrow) hvs o3 n3 tv t0 cv.size c0.size (by simp [World.shape?, hrowv]) (by simp [World.shape?, hrow]) (by omega) (frozen_no hrowv) (frozen_no hrowv)
        refine leave_of_calls hC ?_
        rintro e w' ⟨rfl, hw'⟩
        refine ⟨_, rfl, ?_⟩
        have hld : (lo.drop i).length = len - i := by simp [o1]
        obtain ⟨⟨c1, e1, e2, e3⟩, e4, e5, e6⟩ := setCells_row si.cb t0 (0, 0) (lo.drop i) (off + (i + (m + 1))) c0 w.drew hrow
        generalize hw2 : w.drew.setCells si.cb (off + (i + (m + 1))) (lo.drop i) = w2 at *
        obtain ⟨⟨c2, f1, f2, f3⟩, f4, f5, f6⟩ := setCells_row si.cb t0 (0, 0) ln (off + i) c1 w2 e1
        rw [← hw'] at f1 f4 f5 f6
        have sd : Streams w w.drew := ⟨rfl, rfl, rfl⟩
        refine wrap w' c2 f1 (by omega) (f5.trans e5) (fun k hk => (f4 k hk).trans (e4 k hk)) (sd.trans (e6.trans f6)) (hget_of (by omega) (fun k hk => ?_) (fun k hk => ?_) (fun k hk => ?_))
        · rw [f3, if_neg (by omega), e3, if_neg (by omega), hlo k (by omega)]
        · rw [f3, if_pos (by omega), if_pos (by omega)]
          congr 1; omega
        · rw [f3, if_neg (by omega), e3, if_pos (by omega), if_pos (by omega), List.getElem?_drop]
          congr 1; omega
  · simp at he
end
end Go.AI
