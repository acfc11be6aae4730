/- Part of a proof for one law: an interpreter over what is known of values, and that it is right. -/
import Derived.Test.YtcedhpnmhahgmaaAiS20
set_option linter.unusedSimpArgs false
set_option linter.unusedVariables false
set_option linter.constructorNameAsVariable false
namespace Go.AI
variable (P : Program) (ρ : Nat → Value)
section
variable {P} {ρ} {E : Env} (hE : EnvOk P ρ E) {call : Goal → AHeap → ORes} {N : Nat}
def InD (listed : Array Bool) (i : Nat) : Bool := listed.getD i false
/-- what is known of a region that draws -/
structure Region1 (P : Program) (E : Env) (call : Goal → AHeap → ORes) (N : Nat) (ops : Array Oper) (b : Array Nat) (hs : List Nat) (S A : Nat → AHeap) (evs : List Ev) (tm0 : PT AVal) : Prop where
  bok : BOk ops b
  evok : EvsOk (EvOk E call b hs S A 0 hs.length) tm0 evs
  nodup : (evs.map (·.idx)).Nodup
  every : ∀ i, i < ops.size → ∃ e ∈ evs, e.idx = i
  ins : ∀ e ∈ evs, ∃ o, ops[e.idx]? = some o ∧ cIns P N ops o = some e.ins
  pw : evs.Pairwise fun x y => (b.getD y.idx 0).testBit x.idx = true ∨ apartI x.ins y.ins = true
  hpw : hs.Pairwise fun i j => (b.getD j 0).testBit i = true
  light : ∀ e ∈ evs, e.ins.heavy = false → e.idx ∉ hs
  hlt : ∀ i ∈ hs, i < ops.size
  grow : ∀ p, p ≤ hs.length → Grow (S p) (A p)
  news : evs.Pairwise (fun e e' => e.lo = e'.lo → NewsApart e e')
structure Inv (P : Program) (ρ : Nat → Value) (ops : Array Oper) (hs : List Nat) (S A : Nat → AHeap) (evs : List Ev) (tm0 : PT AVal) (β0 : Bm) (h0 : AHeap) (w0 : World) (a0 : Act) (listed : Array Bool) (p : Nat) (β : Bm) (w : World) (a : Act) : Prop where
  size : listed.size = ops.size
  closed : ∀ i, InD listed i = true → After ops (fun j => InD listed j = true) i
  st : St P ρ β (A p) w
  ext : Ext β0 β h0 (A p) w0 w
  tr : TR ρ β (foldD (InD listed) tm0 evs) a.tmps
  cnt : (hs.filter (InD listed)).length = p
  news : ∀ e ∈ evs, ∀ o k id, e.new = some (o, k, id) → e.lo ≤ p → h0.next.toNat ≤ id.toNat ∧ id.toNat < (A p).next.toNat ∧ (InD listed e.idx = false → β id = none ∧ (A p).get id = some o)
  dist : ∀ e ∈ evs, ∀ e' ∈ evs, e ≠ e' → e.lo ≤ p → e'.lo ≤ p → NewsApart e e'
  defers : a.defers = a0.defers
  tsize : a.tmps.size = a0.tmps.size
theorem InD_set {listed : Array Bool} {i j : Nat} (hi : i < listed.size) : InD (listed.setIfInBounds i true) j = (if j = i then true else InD listed j) := by
  unfold InD
  by_cases e : j = i
  · subst e; simp [hi]
  · rw [if_neg e, getD_set_ne false (fun h => e h.symm)]
theorem NewsApart.symm {e e' : Ev} (h : NewsApart e e') : NewsApart e' e := fun o k id o' k' id' h1 h2 h3 => h o' k' id' o k id h2 h1 h3.symm
theorem split_mem {α : Type} {e : α} : ∀ {l : List α}, e ∈ l → ∃ pre post, l = pre ++ e :: post
  | [], h => by simp at h
  | x :: xs, h => by
    rcases List.mem_cons.1 h with rfl | h
    · exact ⟨[], xs, rfl⟩
    · obtain ⟨pre, post, rfl⟩ := split_mem h
      exact ⟨x :: pre, post, rfl⟩
theorem filter_heavy {D : Nat → Bool} {b : Array Nat} {hs : List Nat} (hpw : hs.Pairwise fun i j => (b.getD j 0).testBit i = true) {q i : Nat} (hq : hs[q]? = some i) (hi : D i = false)
    (h1 : ∀ j, (b.getD i 0).testBit j = true → D j = true) (h2 : ∀ y ∈ hs, D y = true → (b.getD y 0).testBit i = true → False) : (hs.filter D).length = q := by
  have hlt : q < hs.length := (List.getElem?_eq_some_iff.1 hq).1
  have hsplit : hs = hs.take q ++ i :: hs.drop (q + 1) := by
    have : hs[q] = i := (List.getElem?_eq_some_iff.1 hq).2
    rw [← this, ← List.drop_eq_getElem_cons hlt, List.take_append_drop]
  rw [hsplit] at hpw
  rw [List.pairwise_append] at hpw
  obtain ⟨_, hp2, hp3⟩ := hpw
  rw [List.pairwise_cons] at hp2
  rw [hsplit, List.filter_append, List.filter_cons, hi]
  have e1 : (hs.take q).filter D = hs.take q := List.filter_eq_self.2 fun x hx => h1 x (hp3 x hx i (by simp))
  have e2 : (hs.drop (q + 1)).filter D = [] := by
    rw [List.filter_eq_nil_iff]
    intro y hy hd
    exact h2 y (List.mem_of_mem_drop hy) hd (hp2.1 y hy)
  rw [e1]
  simp [e2]
  omega
theorem draw_step (hE : EnvOk P ρ E) (hc : CallSound P ρ call) {ops : Array Oper} {b : Array Nat} {hs : List Nat} {S A : Nat → AHeap} {evs : List Ev} {tm0 : PT AVal} (R : Region1 P E call N ops b hs S A evs tm0)
    {β0 : Bm} {h0 : AHeap} {w0 : World} {a0 : Act} (hN : N ≤ a0.tmps.size) (hdom0 : ∀ x, β0 x ≠ none → x.toNat < h0.next.toNat) {listed : Array Bool} {p : Nat} {β : Bm} {w : World} {a : Act}
    (I : Inv P ρ ops hs S A evs tm0 β0 h0 w0 a0 listed p β w a) {i : Nat} (hr : i ∈ Region.ready .any ops listed) (b0 : Frame) (rest : List Nat) (k : List Item) (cs : List Frame) :
    ∃ p' β' w' a', Inv P ρ ops hs S A evs tm0 β0 h0 w0 a0 (listed.setIfInBounds i true) p' β' w' a' ∧
      Steps P (lone (b0.atR a (.inRegion ops (i :: rest) :: k)) cs w) (lone (b0.atR a' (.inRegion ops rest :: k)) cs w') := by
  rw [mem_ready] at hr
  obtain ⟨hr0, o0, ho0, hafter⟩ := hr
  have hin : i < ops.size := (Array.getElem?_eq_some_iff.1 ho0).1
  have hil : i < listed.size := by rw [I.size]; exact hin
  have hiD : InD listed i = false := by
    unfold InD; simp [hil] at hr0 ⊢; exact hr0
  obtain ⟨e, he, rfl⟩ := R.every i hin
  obtain ⟨o, ho, hx⟩ := R.ins e he
  obtain ⟨pre, post, hsplit⟩ := split_mem he
  have hAfter : After ops (fun j => InD listed j = true) e.idx := ⟨o0, ho0, hafter⟩
  have anc : ∀ j, (b.getD e.idx 0).testBit j = true → InD listed j = true := anc_in R.bok I.closed (e.idx + 1) e.idx (by omega) hAfter
  have ancD : ∀ y, InD listed y = true → (b.getD y 0).testBit e.idx = true → False := by
    intro y hy hb
    have := anc_in R.bok I.closed (y + 1) y (by omega) (I.closed y hy) _ hb
    rw [hiD] at this; simp at this
  have hpw := R.pw; rw [hsplit] at hpw
  have hsame : Same e.ins.reads (foldD (InD listed) tm0 evs) (foldTm tm0 pre) := by
    rw [hsplit]; exact same_reads hiD hpw anc (fun y _ hy hb => ancD _ hy hb)
  have hev : EvOk E call b hs S A 0 hs.length (foldTm tm0 pre) e := by
    have := R.evok; rw [hsplit] at this; exact EvsOk.at this
  have hother : ∀ x ∈ pre ++ post, x.idx ≠ e.idx := by
    have hn := R.nodup
    rw [hsplit, List.map_append, List.map_cons] at hn
    rw [List.nodup_append] at hn
    obtain ⟨_, n2, n3⟩ := hn
    rw [List.nodup_cons] at n2
    intro x hx hxe
    rcases List.mem_append.1 hx with hx | hx
    · exact n3 _ (List.mem_map_of_mem hx) _ (by simp) hxe
    · exact n2.1 (by rw [← hxe]; exact List.mem_map_of_mem hx)
  have hput : ∀ q, evO (foldD (InD (listed.setIfInBounds e.idx true)) tm0 evs) (.t q) = evO (e.put (foldD (InD listed) tm0 evs)) (.t q) := by
    intro q
    rw [hsplit]
    exact put_more hiD (by rw [InD_set hil]; simp) (fun x hx => by rw [InD_set hil, if_neg (hother x hx)]) hpw (fun y _ hy hb => ancD _ hy hb) q
  have hclosed : ∀ j, InD (listed.setIfInBounds e.idx true) j = true → After ops (fun j => InD (listed.setIfInBounds e.idx true) j = true) j := by
    intro j hj
    rw [InD_set hil] at hj
    have hmono : ∀ x, InD listed x = true → InD (listed.setIfInBounds e.idx true) x = true := fun x hx => getD_set_true hx
    by_cases e1 : j = e.idx
    · subst e1
      exact ⟨o0, ho0, fun x hx hb => hmono _ (hafter x hx hb)⟩
    · rw [if_neg e1] at hj
      obtain ⟨o1, g1, g2⟩ := I.closed j hj
      exact ⟨o1, g1, fun x hx hb => hmono _ (g2 x hx hb)⟩
  have htr : ∀ {β' : Bm} {T : Array Value}, TR ρ β' (putT e.ins.dst e.val (foldD (InD listed) tm0 evs)) T → TR ρ β' (foldD (InD (listed.setIfInBounds e.idx true)) tm0 evs) T := by
    intro β' T h q
    rw [hput q]; exact h q
  have hDn : ∀ x, InD (listed.setIfInBounds e.idx true) x = false → x ≠ e.idx ∧ InD listed x = false := by
    intro x hx
    rw [InD_set hil] at hx
    split at hx
    · simp at hx
    · rename_i h; exact ⟨h, hx⟩
  have hp : p ≤ hs.length := by rw [← I.cnt]; exact List.length_filter_le _ _
  obtain ⟨_, _, hcase⟩ := hev
  have cntL : e.ins.heavy = false → (hs.filter (InD (listed.setIfInBounds e.idx true))).length = p := by
    intro hl
    rw [← I.cnt]
    congr 1
    refine List.filter_congr fun x hx => ?_
    rw [InD_set hil, if_neg]
    rintro rfl
    exact R.light e he hl hx
  have lowP : lowOf b hs e.idx ≤ p := by
    rw [← I.cnt]
    exact filter_le fun x _ hx => anc x hx
  have highP : p ≤ highOf b hs e.idx := by
    rw [← I.cnt]
    refine filter_le fun x _ hx => ?_
    cases hb : (b.getD x 0).testBit e.idx with
    | false => rfl
    | true => exact (ancD x hx hb).elim
  rcases hcase with ⟨hh, hnew, hlom, hhs, hval⟩ | ⟨hl, hnew, hlo, hval⟩ | ⟨hl, hlo, oo, kk, id, hnew, ⟨d, g, pop, hins, hwa, hpr⟩, hv, hid1, hid2, hid3⟩
  · -- heavy
    have hpe : p = e.lo := by
      rw [← I.cnt]
      exact filter_heavy R.hpw hhs hiD anc (fun y _ hy hb => ancD y hy hb)
    subst hpe
    rw [← insVal_same hsame] at hval
    have hrun : insRun E call (foldD (InD listed) tm0 evs) (A e.lo) e.ins = .ok (putT e.ins.dst e.val (foldD (InD listed) tm0 evs)) (S (e.lo + 1)) := by rw [insRun_val, hval]; rfl
    obtain ⟨β', a', w', q1, q2, q3, q4, q5, q6⟩ := ins_run hE hc ho hx I.st I.tr (by rw [I.tsize]; exact hN) hrun rest k cs (b := b0)
    have G := R.grow (e.lo + 1) hlom
    obtain ⟨g1, g2⟩ := G.st q1
    have hn5 := q5.next
    have hnG := G.next
    have hevs := R.evok
    have hrec : ∀ e2 ∈ evs, ∀ o k id, e2.new = some (o, k, id) → e2.lo = e.lo + 1 → (S (e.lo + 1)).next.toNat ≤ id.toNat ∧ id.toNat < (A (e.lo + 1)).next.toNat ∧ (A (e.lo + 1)).get id = some o := by
      refine EvsOk.mem (fun tm e2 q => ?_) hevs
      intro o k id h1 h2
      obtain ⟨_, _, q⟩ := q
      rcases q with ⟨_, h, _⟩ | ⟨_, h, _⟩ | ⟨_, _, o', k', id', h, _, _, c1, c2, c3⟩
      · rw [h] at h1; simp at h1
      · rw [h] at h1; simp at h1
      · rw [h] at h1
        simp only [Option.some.injEq, Prod.mk.injEq] at h1
        obtain ⟨rfl, rfl, rfl⟩ := h1
        rw [← h2]; exact ⟨c1, c2, c3⟩
    refine ⟨e.lo + 1, β', w', a', ⟨by simpa using I.size, hclosed, g1, I.ext.trans (q5.trans g2), htr q2, ?_, ?_, ?_, q3.trans I.defers, q4.trans I.tsize⟩, q6⟩
    · have hlt2 : e.lo < hs.length := hlom
      have hsp : hs = hs.take e.lo ++ e.idx :: hs.drop (e.lo + 1) := by
        have : hs[e.lo] = e.idx := (List.getElem?_eq_some_iff.1 hhs).2
        rw [← this, ← List.drop_eq_getElem_cons hlt2, List.take_append_drop]
      have hpw' := R.hpw
      rw [hsp, List.pairwise_append] at hpw'
      obtain ⟨_, hp2, hp3⟩ := hpw'
      rw [List.pairwise_cons] at hp2
      rw [hsp, List.filter_append, List.filter_cons]
      have e1 : (hs.take e.lo).filter (InD (listed.setIfInBounds e.idx true)) = hs.take e.lo := List.filter_eq_self.2 fun x hx => getD_set_true (anc x (hp3 x hx e.idx (by simp)))
      have e2 : (hs.drop (e.lo + 1)).filter (InD (listed.setIfInBounds e.idx true)) = [] := by
        rw [List.filter_eq_nil_iff]
        intro y hy hd
        have hbit := hp2.1 y hy
        have hylt := anc_lt R.bok (y + 1) y (by omega) (R.hlt y (List.mem_of_mem_drop hy)) _ hbit
        rw [InD_set hil, if_neg (by omega)] at hd
        exact ancD y hd hbit
      rw [e1, if_pos (by rw [InD_set hil]; simp), e2]
      simp
      omega
    · intro e2 he2 o2 k2 id2 hn2 hl2
      by_cases hc2 : e2.lo ≤ e.lo
      · obtain ⟨n1, n2, n3⟩ := I.news e2 he2 o2 k2 id2 hn2 hc2
        refine ⟨n1, by omega, fun hD => ?_⟩
        obtain ⟨_, hD⟩ := hDn _ hD
        obtain ⟨n4, n5⟩ := n3 hD
        refine ⟨?_, ?_⟩
        · by_cases hb : β' id2 = none
          · exact hb
          · have := q5.out id2 n4 hb; omega
        · rw [G.old id2 (by omega), q5.afr id2 n2 n4, n5]
      · obtain ⟨n1, n2, n3⟩ := hrec e2 he2 o2 k2 id2 hn2 (by omega)
        have := I.ext.next
        refine ⟨by omega, n2, fun _ => ⟨?_, n3⟩⟩
        by_cases hb : β' id2 = none
        · exact hb
        · have := q1.dom id2 hb; omega
    · intro x hx1 y hy1 hne hx2 hy2
      by_cases c1 : x.lo ≤ e.lo
      · by_cases c2 : y.lo ≤ e.lo
        · exact I.dist x hx1 y hy1 hne c1 c2
        · intro o k id o' k' id' h1 h2 h3
          have := (I.news x hx1 o k id h1 c1).2.1
          have := (hrec y hy1 o' k' id' h2 (by omega)).1
          rw [h3] at *
          omega
      · by_cases c2 : y.lo ≤ e.lo
        · intro o k id o' k' id' h1 h2 h3
          have := (I.news y hy1 o' k' id' h2 c2).2.1
          have := (hrec x hx1 o k id h1 (by omega)).1
          rw [h3] at *
          omega
        · exact pw_mem (R := fun e e' => e.lo = e'.lo → NewsApart e e') (fun a b h e => (h e.symm).symm) R.news x hx1 y hy1 hne (by omega)
  · -- light, no block
    have hval := hval p (by omega) highP hp
    rw [← insVal_same hsame] at hval
    have hrun : insRun E call (foldD (InD listed) tm0 evs) (A p) e.ins = .ok (putT e.ins.dst e.val (foldD (InD listed) tm0 evs)) (A p) := by rw [insRun_val, hval]; rfl
    obtain ⟨β', a', w', q1, q2, q3, q4, q5, q6⟩ := ins_run hE hc ho hx I.st I.tr (by rw [I.tsize]; exact hN) hrun rest k cs (b := b0)
    refine ⟨p, β', w', a', ⟨by simpa using I.size, hclosed, q1, I.ext.trans q5, htr q2, cntL hl, ?_, I.dist, q3.trans I.defers, q4.trans I.tsize⟩, q6⟩
    intro e2 he2 o2 k2 id2 hn2 hl2
    obtain ⟨n1, n2, n3⟩ := I.news e2 he2 o2 k2 id2 hn2 hl2
    refine ⟨n1, n2, fun hD => ?_⟩
    obtain ⟨_, hD⟩ := hDn _ hD
    obtain ⟨n4, n5⟩ := n3 hD
    refine ⟨?_, n5⟩
    by_cases hb : β' id2 = none
    · exact hb
    · have := q5.out id2 n4 hb; omega
  · -- light, a block
    obtain ⟨n1, n2, n3⟩ := I.news e he oo kk id hnew (by omega)
    obtain ⟨n4, n5⟩ := n3 hiD
    rw [hins] at hsame
    simp only [AIns.reads] at hsame
    rw [← wantedA_same hsame.left] at hwa
    rw [← pRun_same hsame.right] at hpr
    rw [hins] at hx
    obtain ⟨sz, c, a', q1, q2, q3, q4, q5⟩ := new_run hE ho hx I.st I.tr (by rw [I.tsize]; exact hN) hwa hpr n4 n2 n5 rest k cs (b := b0)
    have hdst : e.ins.dst = d := by rw [hins]; rfl
    refine ⟨p, _, _, a', ⟨by simpa using I.size, hclosed, q1, map_ext I.ext n4 n1 n2, htr (by rw [hdst, hv]; exact q2), cntL hl, ?_, I.dist, q3.trans I.defers, q4.trans I.tsize⟩, q5⟩
    intro e2 he2 o2 k2 id2 hn2 hl2
    obtain ⟨m1, m2, m3⟩ := I.news e2 he2 o2 k2 id2 hn2 hl2
    refine ⟨m1, m2, fun hD => ?_⟩
    obtain ⟨hne, hD⟩ := hDn _ hD
    obtain ⟨m4, m5⟩ := m3 hD
    refine ⟨?_, m5⟩
    have hdiff := I.dist e he e2 he2 (fun h => hne (by rw [h])) (by omega) hl2 oo kk id o2 k2 id2 hnew hn2
    simp [Bm.put, Ne.symm hdiff, m4]
end
end Go.AI
