/- Part of a proof for one law: an interpreter over what is known of values, and that it is right. -/
import Derived.Test.YtcedhpnmhahgmaaAiS18
import Derived.Orders
set_option linter.unusedSimpArgs false
set_option linter.unusedVariables false
set_option linter.constructorNameAsVariable false
namespace Go.AI
/-! ## small laws -/
theorem pw_mem {α : Type} {R : α → α → Prop} (hs : ∀ a b, R a b → R b a) : ∀ {l : List α}, l.Pairwise R → ∀ a ∈ l, ∀ b ∈ l, a ≠ b → R a b
  | [], _, a, ha, _, _, _ => by simp at ha
  | x :: xs, h, a, ha, b, hb, hab => by
    rw [List.pairwise_cons] at h
    rcases List.mem_cons.1 ha with e1 | ha1
    · rcases List.mem_cons.1 hb with e2 | hb1
      · exact absurd (e1.trans e2.symm) hab
      · rw [e1]; exact h.1 b hb1
    · rcases List.mem_cons.1 hb with e2 | hb1
      · rw [e2]; exact hs _ _ (h.1 a ha1)
      · exact pw_mem hs h.2 a ha1 b hb1 hab
theorem filter_le {α : Type} {f g : α → Bool} : ∀ {l : List α}, (∀ x ∈ l, f x = true → g x = true) → (l.filter f).length ≤ (l.filter g).length
  | [], _ => by simp
  | x :: xs, h => by
    have ih := filter_le (l := xs) (fun y hy => h y (by simp [hy]))
    have hx := h x (by simp)
    simp only [List.filter_cons]
    cases hf : f x <;> cases hg : g x <;> simp_all <;> omega
theorem filter_lt {α : Type} {f g : α → Bool} {a : α} : ∀ {l : List α}, (∀ x ∈ l, f x = true → g x = true) → a ∈ l → f a = false → g a = true → (l.filter f).length < (l.filter g).length
  | [], _, h, _, _ => by simp at h
  | x :: xs, h, ha, hf, hg => by
    have hx := h x (by simp)
    have hle := filter_le (l := xs) (fun y hy => h y (by simp [hy]))
    simp only [List.filter_cons]
    rcases List.mem_cons.1 ha with rfl | ha
    · simp [hf, hg]; omega
    · have ih := filter_lt (l := xs) (fun y hy => h y (by simp [hy])) ha hf hg
      cases hfx : f x <;> cases hgx : g x <;> simp_all <;> omega
theorem memN_iff {n : Nat} : ∀ {l : List Nat}, memN n l = true ↔ n ∈ l
  | [] => by simp [memN]
  | m :: l => by
    simp only [memN, Bool.or_eq_true, List.mem_cons, memN_iff (l := l)]
    constructor
    · rintro (h | h)
      · exact .inl (Nat.eq_of_beq_eq_true h)
      · exact .inr h
    · rintro (rfl | h)
      · exact .inl (Nat.beq_refl _)
      · exact .inr h
theorem nodupN_spec : ∀ {l : List Nat}, nodupN l = true → l.Nodup
  | [], _ => .nil
  | m :: l, h => by
    simp only [nodupN, Bool.and_eq_true, Bool.not_eq_true'] at h
    refine List.nodup_cons.2 ⟨fun hm => ?_, nodupN_spec h.2⟩
    rw [memN_iff.2 hm] at h; simp at h
theorem pairAll_spec {b : Array Nat} : ∀ {l : List Nat}, pairAll b l = true → l.Pairwise fun i j => (b.getD j 0).testBit i = true
  | [], _ => .nil
  | i :: r, h => by
    simp only [pairAll, Bool.and_eq_true, List.all_eq_true] at h
    exact .cons h.1 (pairAll_spec h.2)
theorem apartAll_spec {b : Array Nat} : ∀ {l : List (AIns × Nat)}, apartAll b l = true → l.Pairwise fun x y => (b.getD y.2 0).testBit x.2 = true ∨ apartI x.1 y.1 = true
  | [], _ => .nil
  | ⟨x, i⟩ :: r, h => by
    simp only [apartAll, Bool.and_eq_true, List.all_eq_true, Bool.or_eq_true] at h
    exact .cons h.1 (apartAll_spec h.2)

/-! ## what lies ahead of an operation -/
def After (ops : Array Oper) (D : Nat → Prop) (i : Nat) : Prop := ∃ o, ops[i]? = some o ∧ ∀ e ∈ o.after, Region.binds .any e = true → D e.on
def BOk (ops : Array Oper) (b : Array Nat) : Prop := ∀ i o, ops[i]? = some o → b.getD i 0 = maskOf b o.after ∧ ∀ e ∈ o.after, Region.binds .any e = true → e.on < i
theorem edgesOk_spec {b : Array Nat} : ∀ {l : List (Oper × Nat)}, edgesOk b l = true → ∀ x ∈ l, b.getD x.2 0 = maskOf b x.1.after ∧ ∀ e ∈ x.1.after, Region.binds .any e = true → e.on < x.2
  | [], _, x, hx => by simp at hx
  | ⟨o, i⟩ :: r, h, x, hx => by
    simp only [edgesOk, Bool.and_eq_true, List.all_eq_true, Bool.or_eq_true] at h
    rcases List.mem_cons.1 hx with rfl | hx
    · refine ⟨Nat.eq_of_beq_eq_true h.1.1, fun e he hb => ?_⟩
      have := h.1.2 e (by simpa using he)
      simp only [hb, Bool.not_true, Bool.false_eq_true, false_or, Nat.blt_eq] at this
      exact this
    · exact edgesOk_spec h.2 x hx
theorem BOk.of {ops : Array Oper} {b : Array Nat} (h : edgesOk b ops.toList.zipIdx = true) : BOk ops b := by
  intro i o ho
  refine edgesOk_spec h (o, i) ?_
  rw [List.mem_iff_getElem?]
  refine ⟨i, ?_⟩
  rw [List.getElem?_zipIdx]
  simp [ho]
theorem mask_bit {b : Array Nat} {j : Nat} : ∀ (l : List Edge) (s : Nat), (l.foldl (fun s e => if Region.binds .any e then s ||| 2 ^ e.on ||| b.getD e.on 0 else s) s).testBit j = true →
    s.testBit j = true ∨ ∃ e ∈ l, Region.binds .any e = true ∧ (e.on = j ∨ (b.getD e.on 0).testBit j = true)
  | [], s, h => .inl h
  | e :: l, s, h => by
    simp only [List.foldl_cons] at h
    rcases mask_bit l _ h with h | ⟨e', h1, h2⟩
    · split at h
      · rename_i hb
        rw [Nat.testBit_or, Nat.testBit_or, Bool.or_eq_true, Bool.or_eq_true] at h
        rcases h with (h | h) | h
        · exact .inl h
        · rw [Nat.testBit_two_pow] at h
          exact .inr ⟨e, by simp, hb, .inl (by simpa using h)⟩
        · exact .inr ⟨e, by simp, hb, .inr h⟩
      · exact .inl h
    · exact .inr ⟨e', by simp [h1], h2⟩
theorem anc_in {ops : Array Oper} {b : Array Nat} (hb : BOk ops b) {D : Nat → Prop} (hD : ∀ i, D i → After ops D i) : ∀ (n i : Nat), i < n → After ops D i → ∀ j, (b.getD i 0).testBit j = true → D j
  | 0, i, h, _, _, _ => by omega
  | n + 1, i, h, ha, j, hj => by
    obtain ⟨o, ho, hq⟩ := ha
    obtain ⟨h1, h2⟩ := hb i o ho
    rw [h1] at hj
    unfold maskOf at hj
    rcases mask_bit _ _ hj with h | ⟨e, he, hbe, h⟩
    · simp at h
    · have he' : e ∈ o.after := by simpa using he
      rcases h with rfl | h
      · exact hq e he' hbe
      · have hlt := h2 e he' hbe
        exact anc_in hb hD n e.on (by omega) (hD _ (hq e he' hbe)) j h
theorem anc_lt {ops : Array Oper} {b : Array Nat} (hb : BOk ops b) : ∀ (n i : Nat), i < n → i < ops.size → ∀ j, (b.getD i 0).testBit j = true → j < i
  | 0, i, h, _, _, _ => by omega
  | n + 1, i, h, hi, j, hj => by
    have ho : ops[i]? = some ops[i] := by simp [hi]
    obtain ⟨h1, h2⟩ := hb i _ ho
    rw [h1] at hj
    unfold maskOf at hj
    rcases mask_bit _ _ hj with h | ⟨e, he, hbe, h⟩
    · simp at h
    · have hlt := h2 e (by simpa using he) hbe
      rcases h with rfl | h
      · exact hlt
      · have := anc_lt hb n e.on (by omega) (by omega) j h
        omega

/-! ## temporaries -/
theorem evO_put (e : Ev) (tm : PT AVal) (p : Pos) : evO (e.put tm) (.t p) = if e.ins.dst = some p then e.val else evO tm (.t p) := by
  unfold Ev.put putT
  cases hd : e.ins.dst with
  | none => simp
  | some d =>
    simp only [evO, PT.get_set, Option.some.injEq]
    by_cases h : p = d
    · subst h; simp
    · rw [if_neg h, if_neg (fun e => h e.symm)]
def foldD (D : Nat → Bool) : PT AVal → List Ev → PT AVal
  | tm, [] => tm
  | tm, e :: es => foldD D (if D e.idx then e.put tm else tm) es
theorem foldD_append (D : Nat → Bool) : ∀ (tm : PT AVal) (l m : List Ev), foldD D tm (l ++ m) = foldD D (foldD D tm l) m
  | _, [], _ => rfl
  | tm, e :: es, m => foldD_append D _ es m
theorem foldD_none {D : Nat → Bool} {p : Pos} : ∀ {l : List Ev} {tm : PT AVal}, (∀ e ∈ l, D e.idx = true → e.ins.dst ≠ some p) → evO (foldD D tm l) (.t p) = evO tm (.t p)
  | [], _, _ => rfl
  | e :: l, tm, h => by
    simp only [foldD]
    rw [foldD_none (fun x hx => h x (by simp [hx]))]
    split
    · rename_i hd; rw [evO_put, if_neg (h e (by simp) hd)]
    · rfl
theorem foldD_all {D : Nat → Bool} {p : Pos} : ∀ {l : List Ev} {tm tm' : PT AVal}, (∀ e ∈ l, e.ins.dst = some p → D e.idx = true) → evO tm (.t p) = evO tm' (.t p) → evO (foldD D tm l) (.t p) = evO (foldTm tm' l) (.t p)
  | [], _, _, _, h => h
  | e :: l, tm, tm', h, he => by
    simp only [foldD, foldTm]
    refine foldD_all (fun x hx => h x (by simp [hx])) ?_
    by_cases hd : e.ins.dst = some p
    · rw [if_pos (h e (by simp) hd), evO_put, evO_put, if_pos hd, if_pos hd]
    · rw [evO_put (e := e) (tm := tm'), if_neg hd]
      split
      · rw [evO_put, if_neg hd]; exact he
      · exact he
theorem foldD_from {D : Nat → Bool} {p : Pos} : ∀ {l : List Ev} {tm tm' : PT AVal}, evO tm (.t p) = evO tm' (.t p) → evO (foldD D tm l) (.t p) = evO (foldD D tm' l) (.t p)
  | [], _, _, h => h
  | e :: l, tm, tm', h => by
    simp only [foldD]
    refine foldD_from ?_
    split
    · rw [evO_put, evO_put, h]
    · exact h
theorem foldD_congr {D D' : Nat → Bool} : ∀ {l : List Ev} {tm : PT AVal}, (∀ e ∈ l, D e.idx = D' e.idx) → foldD D tm l = foldD D' tm l
  | [], _, _ => rfl
  | e :: l, tm, h => by
    simp only [foldD]
    rw [h e (by simp)]
    exact foldD_congr (fun x hx => h x (by simp [hx]))
/-- what an operation looks at is there -/
theorem same_reads {D : Nat → Bool} {b : Array Nat} {pre post : List Ev} {e : Ev} {tm0 : PT AVal} (hd : D e.idx = false)
    (hpw : (pre ++ e :: post).Pairwise fun x y => (b.getD y.idx 0).testBit x.idx = true ∨ apartI x.ins y.ins = true)
    (h1 : ∀ j, (b.getD e.idx 0).testBit j = true → D j = true) (h2 : ∀ y ∈ post, D y.idx = true → (b.getD y.idx 0).testBit e.idx = true → False) :
    Same e.ins.reads (foldD D tm0 (pre ++ e :: post)) (foldTm tm0 pre) := by
  intro p hp
  rw [List.pairwise_append] at hpw
  obtain ⟨_, hpw2, hpw3⟩ := hpw
  rw [List.pairwise_cons] at hpw2
  rw [foldD_append]
  simp only [foldD, hd, Bool.false_eq_true, if_false]
  rw [foldD_none]
  · refine foldD_all ?_ rfl
    intro x hx hdx
    rcases hpw3 x hx e (by simp) with h | h
    · exact h1 _ h
    · exact absurd hp ((apartI_spec h).1 p hdx).1
  · intro y hy hdy hyd
    rcases hpw2.1 y hy with h | h
    · exact h2 y hy hdy h
    · exact (apartI_spec h).2 p hyd hp
/-- one more operation is done -/
theorem put_more {D D' : Nat → Bool} {b : Array Nat} {pre post : List Ev} {e : Ev} {tm0 : PT AVal} (hd : D e.idx = false) (hd' : D' e.idx = true) (hsame : ∀ x ∈ pre ++ post, D' x.idx = D x.idx)
    (hpw : (pre ++ e :: post).Pairwise fun x y => (b.getD y.idx 0).testBit x.idx = true ∨ apartI x.ins y.ins = true)
    (h2 : ∀ y ∈ post, D y.idx = true → (b.getD y.idx 0).testBit e.idx = true → False) (p : Pos) :
    evO (foldD D' tm0 (pre ++ e :: post)) (.t p) = evO (e.put (foldD D tm0 (pre ++ e :: post))) (.t p) := by
  rw [List.pairwise_append] at hpw
  obtain ⟨_, hpw2, hpw3⟩ := hpw
  rw [List.pairwise_cons] at hpw2
  rw [foldD_append, foldD_append]
  simp only [foldD, hd, hd', Bool.false_eq_true, if_false, if_true]
  rw [foldD_congr (D := D') (D' := D) (l := pre) (fun x hx => hsame x (by simp [hx])), foldD_congr (D := D') (D' := D) (l := post) (fun x hx => hsame x (by simp [hx]))]
  rw [evO_put]
  by_cases hdst : e.ins.dst = some p
  · rw [if_pos hdst, foldD_none, evO_put, if_pos hdst]
    intro y hy hdy hyd
    rcases hpw2.1 y hy with h | h
    · exact h2 y hy hdy h
    · exact ((apartI_spec h).1 p hdst).2 hyd
  · rw [if_neg hdst]
    refine foldD_from ?_
    rw [evO_put, if_neg hdst]
end Go.AI
