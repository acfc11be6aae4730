/- Part of a proof for one law: an interpreter over what is known of values, and that it is right. -/
import Derived.Test.YtcedhpnmhahgmaaAiS17
set_option linter.unusedSimpArgs false
set_option linter.unusedVariables false
set_option linter.constructorNameAsVariable false
namespace Go.AI
/-! ## a drawn region, as it is looked at: its trace -/
structure Ev where
  ins : AIns
  idx : Nat
  val : AVal
  lo : Nat
  up : Nat
  new : Option (AObj × (Pos → AVal) × Pos)
def Ev.key (e : Ev) : AIns × Nat := (e.ins, e.idx)
def Ev.put (e : Ev) (tm : PT AVal) : PT AVal := putT e.ins.dst e.val tm
def foldTm : PT AVal → List Ev → PT AVal
  | tm, [] => tm
  | tm, e :: es => foldTm (e.put tm) es
def EvsOk (Q : PT AVal → Ev → Prop) : PT AVal → List Ev → Prop
  | _, [] => True
  | tm, e :: es => Q tm e ∧ EvsOk Q (e.put tm) es
theorem foldTm_append : ∀ (tm : PT AVal) (l m : List Ev), foldTm tm (l ++ m) = foldTm (foldTm tm l) m
  | _, [], _ => rfl
  | tm, e :: es, m => foldTm_append (e.put tm) es m
theorem EvsOk.append {Q : PT AVal → Ev → Prop} : ∀ {tm : PT AVal} {l m : List Ev}, EvsOk Q tm l → EvsOk Q (foldTm tm l) m → EvsOk Q tm (l ++ m)
  | _, [], _, _, h => h
  | _, _ :: _, _, h, h' => ⟨h.1, EvsOk.append h.2 h'⟩
theorem EvsOk.mono {Q Q' : PT AVal → Ev → Prop} (hq : ∀ tm e, Q tm e → Q' tm e) : ∀ {tm : PT AVal} {l : List Ev}, EvsOk Q tm l → EvsOk Q' tm l
  | _, [], _ => trivial
  | _, _ :: _, h => ⟨hq _ _ h.1, EvsOk.mono hq h.2⟩
theorem EvsOk.at {Q : PT AVal → Ev → Prop} : ∀ {tm : PT AVal} {l : List Ev} {e : Ev} {m : List Ev}, EvsOk Q tm (l ++ e :: m) → Q (foldTm tm l) e
  | _, [], _, _, h => h.1
  | tm, x :: l, e, m, h => EvsOk.at (Q := Q) (tm := x.put tm) (l := l) (e := e) (m := m) h.2
theorem EvsOk.monoMem {Q Q' : PT AVal → Ev → Prop} : ∀ {tm : PT AVal} {l : List Ev}, (∀ tm, ∀ e ∈ l, Q tm e → Q' tm e) → EvsOk Q tm l → EvsOk Q' tm l
  | _, [], _, _ => trivial
  | _, e :: l, hq, h => ⟨hq _ e (by simp) h.1, EvsOk.monoMem (fun tm x hx => hq tm x (by simp [hx])) h.2⟩
theorem EvsOk.mem {Q : PT AVal → Ev → Prop} {R : Ev → Prop} (hq : ∀ tm e, Q tm e → R e) : ∀ {tm : PT AVal} {l : List Ev}, EvsOk Q tm l → ∀ e ∈ l, R e
  | _, [], _, e, h => by simp at h
  | _, x :: xs, h, e, he => by
    rcases List.mem_cons.1 he with rfl | he
    · exact hq _ _ h.1
    · exact EvsOk.mem hq h.2 e he
structure Grow (h h' : AHeap) : Prop where
  next : h.next.toNat ≤ h'.next.toNat
  old : ∀ b : Pos, b.toNat < h.next.toNat → h'.get b = h.get b
  wf : HWF h → HWF h'
theorem Grow.refl (h : AHeap) : Grow h h := ⟨Nat.le_refl _, fun _ _ => rfl, id⟩
theorem Grow.trans {a b c : AHeap} (h : Grow a b) (h' : Grow b c) : Grow a c :=
  ⟨Nat.le_trans h.next h'.next, fun x hx => by rw [h'.old x (by have := h.next; omega), h.old x hx], fun w => h'.wf (h.wf w)⟩
theorem Grow.new (h : AHeap) (o : AObj) : Grow h (h.new o) := by
  refine ⟨by simp [Pos.toNat_succ], fun b hb => ?_, fun w b x hx => ?_⟩
  · rw [AHeap.get_new, if_neg]
    rintro rfl; omega
  · rw [AHeap.get_new] at hx
    simp only [AHeap.next_new, Pos.toNat_succ]
    split at hx
    · rename_i e; subst e; omega
    · have := w b x hx; omega
def NewsApart (e e' : Ev) : Prop := ∀ o k id o' k' id', e.new = some (o, k, id) → e'.new = some (o', k', id') → id ≠ id'
section
variable {E : Env} {call : Goal → AHeap → ORes} {ins : List (AIns × Nat)}
/-- a light operation, in its phase -/
def QL (E : Env) (call : Goal → AHeap → ORes) (high : Nat → Nat) (ws' : List Watch) (h h' : AHeap) (j : Nat) (tm : PT AVal) (e : Ev) : Prop :=
  e.ins.heavy = false ∧ e.lo = j ∧ e.up = high e.idx ∧
  ((e.new = none ∧ ((∀ hh, insVal E call tm hh e.ins = .ok e.val hh) ∨
      ∃ w, w ∈ ws' ∧ ∃ d g, e.ins = .read d g w.op ∧ w.upTo = e.up ∧ w.tm = tm ∧ w.res = e.val ∧ wantedA tm g = some true)) ∨
   ∃ o k id, e.new = some (o, k, id) ∧ (∃ d g op, e.ins = .pure d g op ∧ wantedA tm g = some true ∧ pRun E tm op = .new o k) ∧ e.val = k id ∧
     h.next.toNat ≤ id.toNat ∧ id.toNat < h'.next.toNat ∧ h'.get id = some o)
theorem QL.mono {high : Nat → Nat} {ws ws' : List Watch} {h0 h h' : AHeap} {h1 : AHeap} {j : Nat} {tm : PT AVal} {e : Ev} (hw : ∀ w ∈ ws, w ∈ ws') (hn : h0.next.toNat ≤ h.next.toNat) (hg : Grow h' h1)
    (q : QL E call high ws h h' j tm e) : QL E call high ws' h0 h1 j tm e := by
  obtain ⟨q1, q2, q3, q4⟩ := q
  refine ⟨q1, q2, q3, ?_⟩
  rcases q4 with ⟨a, b⟩ | ⟨o, k, id, a, b, c, d, e', f⟩
  · refine .inl ⟨a, ?_⟩
    rcases b with b | ⟨w, b, c⟩
    · exact .inl b
    · exact .inr ⟨w, hw w b, c⟩
  · exact .inr ⟨o, k, id, a, b, c, by omega, by have := hg.next; omega, by rw [hg.old id e', f]⟩
theorem lights_trace (high : Nat → Nat) (j : Nat) : ∀ (L : List (AIns × Nat)) (ws ws' : List Watch) (tm tm' : PT AVal) (h h' : AHeap),
    lightsRun E (L.map fun x => (x.1, high x.2)) ws tm h = .ok ws' tm' h' → (∀ x ∈ L, x.1.heavy = false) →
    ∃ evs : List Ev, evs.map Ev.key = L ∧ EvsOk (QL E call high ws' h h' j) tm evs ∧ foldTm tm evs = tm' ∧ Grow h h' ∧ (∀ w ∈ ws, w ∈ ws') ∧ evs.Pairwise NewsApart
  | [], ws, ws', tm, tm', h, h', he, _ => by
    simp only [List.map_nil, lightsRun, LRes.ok.injEq] at he
    obtain ⟨rfl, rfl, rfl⟩ := he
    exact ⟨[], rfl, trivial, rfl, .refl h, fun _ h => h, .nil⟩
  | ⟨x, i⟩ :: L, ws, ws', tm, tm', h, h', he, hl => by
    have hL : ∀ x ∈ L, x.1.heavy = false := fun y hy => hl y (by simp [hy])
    have hlx : x.heavy = false := hl (x, i) (List.mem_cons_self ..)
    clear hl
    simp only [List.map_cons, lightsRun] at he
    have flat : ∀ (v : AVal) (ws1 : List Watch), (∀ w ∈ ws, w ∈ ws1) → lightsRun E (L.map fun x => (x.1, high x.2)) ws1 (putT x.dst v tm) h = .ok ws' tm' h' →
        ((∀ hh, insVal E call tm hh x = .ok v hh) ∨ ∃ w, w ∈ ws1 ∧ ∃ d g, x = .read d g w.op ∧ w.upTo = high i ∧ w.tm = tm ∧ w.res = v ∧ wantedA tm g = some true) →
        ∃ evs : List Ev, evs.map Ev.key = ⟨x, i⟩ :: L ∧ EvsOk (QL E call high ws' h h' j) tm evs ∧ foldTm tm evs = tm' ∧ Grow h h' ∧ (∀ w ∈ ws, w ∈ ws') ∧ evs.Pairwise NewsApart := by
      intro v ws1 hw1 hr hv
      obtain ⟨evs, q1, q2, q3, q4, q5, q6⟩ := lights_trace high j L ws1 ws' _ tm' h h' hr hL
      refine ⟨⟨x, i, v, j, high i, none⟩ :: evs, by rw [List.map_cons, q1]; rfl, ⟨⟨hlx, rfl, rfl, .inl ⟨rfl, ?_⟩⟩, q2⟩, q3, q4, fun w hw => q5 w (hw1 w hw), .cons ?_ q6⟩
      · rcases hv with hv | ⟨w, a, b⟩
        · exact .inl hv
        · exact .inr ⟨w, q5 w a, b⟩
      · intro e _ o k id o' k' id' hn; simp at hn
    cases x with
    | pure d g op =>
      simp only at he
      cases hw : wantedA tm g with
      | none => simp [guardI, hw] at he
      | some t =>
        cases t with
        | false =>
          simp only [guardI, hw] at he
          exact flat .undef ws (fun _ h => h) he (.inl fun hh => by simp [insVal, guardO, hw])
        | true =>
          simp only [guardI, hw] at he
          cases hp : pRun E tm op with
          | fail => rw [hp] at he; simp [bindP] at he
          | val v =>
            rw [hp] at he; simp only [bindP] at he
            exact flat v ws (fun _ h => h) he (.inl fun hh => by simp [insVal, guardO, hw, hp, ofP])
          | new o k =>
            rw [hp] at he; simp only [bindP] at he
            obtain ⟨evs, q1, q2, q3, q4, q5, q6⟩ := lights_trace high j L ws ws' _ tm' _ h' he hL
            have hnext : (h.new o).next.toNat = h.next.toNat + 1 := by simp [Pos.toNat_succ]
            refine ⟨⟨.pure d g op, i, k h.next, j, high i, some (o, k, h.next)⟩ :: evs, by rw [List.map_cons, q1]; rfl, ⟨⟨hlx, rfl, rfl, .inr ⟨o, k, h.next, rfl, ⟨d, g, op, rfl, hw, hp⟩, rfl, Nat.le_refl _, ?_, ?_⟩⟩, ?_⟩, q3, (Grow.new h o).trans q4, q5, .cons ?_ q6⟩
            · have := q4.next; omega
            · rw [q4.old h.next (by omega), AHeap.get_new, if_pos rfl]
            · exact EvsOk.mono (fun tm e q => QL.mono (fun _ h => h) (by omega) (.refl _) q) q2
            · intro e he' o1 k1 id1 o2 k2 id2 e1 e2 e3
              simp only [Option.some.injEq, Prod.mk.injEq] at e1
              have := EvsOk.mem (R := fun e => ∀ o k id, e.new = some (o, k, id) → (h.new o).next.toNat ≤ id.toNat) (fun tm e q => by
                obtain ⟨_, _, _, q⟩ := q
                intro o' k' id' hn
                rcases q with ⟨a, _⟩ | ⟨o2, k2, id2, a, _, _, b, _⟩
                · rw [a] at hn; simp at hn
                · rw [a] at hn; simp only [Option.some.injEq, Prod.mk.injEq] at hn
                  rw [← hn.2.2]
                  simp only [AHeap.next_new] at b ⊢; exact b) q2 e he' o2 k2 id2 e2
              simp only [AHeap.next_new, Pos.toNat_succ] at this
              rw [← e3, ← e1.2.2] at this
              omega
    | read d g op =>
      simp only at he
      cases hw : wantedA tm g with
      | none => simp [hw] at he
      | some t =>
        cases t with
        | false =>
          simp only [hw] at he
          exact flat .undef ws (fun _ h => h) he (.inl fun hh => by simp [insVal, guardO, hw])
        | true =>
          simp only [hw] at he
          cases hp : rRun E tm h op with
          | none => rw [hp] at he; simp at he
          | some v =>
            rw [hp] at he; simp only at he
            exact flat v _ (fun _ h => by simp [h]) he (.inr ⟨_, List.mem_cons_self .., d, g, rfl, rfl, rfl, rfl, hw⟩)
    | write d g op => simp [AIns.heavy] at hlx
    | call d g f as => simp [AIns.heavy] at hlx
theorem checkWatch_spec {j : Nat} {h : AHeap} : ∀ {ws : List Watch}, checkWatch E j h ws = true → ∀ w ∈ ws, j ≤ w.upTo → rRun E w.tm h w.op = some w.res
  | [], _, w, hw, _ => by simp at hw
  | x :: ws, hc, w, hw, hj => by
    simp only [checkWatch] at hc
    split at hc
    · rename_i hx
      rcases List.mem_cons.1 hw with rfl | hw
      · rw [Nat.ble_eq_true_of_le hj] at hx
        simp only at hx
        split at hx
        · rename_i v hv
          rw [hv, sameRes_eq hx]
        · simp at hx
      · exact checkWatch_spec hc w hw hj
    · simp at hc
/-- an operation, in the whole region -/
def EvOk (E : Env) (call : Goal → AHeap → ORes) (b : Array Nat) (hs : List Nat) (S A : Nat → AHeap) (j0 m : Nat) (tm : PT AVal) (e : Ev) : Prop :=
  j0 ≤ e.lo ∧ e.lo ≤ m ∧
  ((e.ins.heavy = true ∧ e.new = none ∧ e.lo < m ∧ hs[e.lo]? = some e.idx ∧ insVal E call tm (A e.lo) e.ins = .ok e.val (S (e.lo + 1))) ∨
   (e.ins.heavy = false ∧ e.new = none ∧ e.lo = lowOf b hs e.idx ∧ ∀ i, e.lo ≤ i → i ≤ highOf b hs e.idx → i ≤ m → insVal E call tm (A i) e.ins = .ok e.val (A i)) ∨
   (e.ins.heavy = false ∧ e.lo = lowOf b hs e.idx ∧ ∃ o k id, e.new = some (o, k, id) ∧ (∃ d g op, e.ins = .pure d g op ∧ wantedA tm g = some true ∧ pRun E tm op = .new o k) ∧ e.val = k id ∧
     (S e.lo).next.toNat ≤ id.toNat ∧ id.toNat < (A e.lo).next.toNat ∧ (A e.lo).get id = some o))
theorem QL_EvOk {b : Array Nat} {hs : List Nat} {S A : Nat → AHeap} {j0 j m : Nat} {ws : List Watch} {tm : PT AVal} {e : Ev} (hj : j0 ≤ j) (hm : j ≤ m) (hw : ∀ w ∈ ws, ∀ i, j ≤ i → i ≤ w.upTo → i ≤ m → rRun E w.tm (A i) w.op = some w.res)
    (hlow : e.key ∈ lightsI b hs ins j) (q : QL E call (highOf b hs) ws (S j) (A j) j tm e) : EvOk E call b hs S A j0 m tm e := by
  have hlo : lowOf b hs e.idx = j := by
    have := (List.mem_filter.1 hlow).2
    simp [Ev.key] at this
    exact this.2
  obtain ⟨q1, q2, q3, q4⟩ := q
  refine ⟨by omega, by omega, .inr ?_⟩
  rcases q4 with ⟨a, c⟩ | ⟨o, k, id, a, c, d, e1, e2, e3⟩
  · refine .inl ⟨q1, a, by omega, fun i h1 h2 h3 => ?_⟩
    rcases c with c | ⟨w, c1, d, g, c2, c3, c4, c5, c6⟩
    · exact c _
    · rw [c2]
      simp only [insVal, guardO, c6]
      have := hw w c1 i (by omega) (by omega) h3
      rw [c4] at this
      rw [this, c5]; rfl
  · refine .inr ⟨q1, by omega, o, k, id, a, c, d, ?_⟩
    rw [q2]; exact ⟨e1, e2, e3⟩
theorem draw_trace (b : Array Nat) (hs : List Nat) : ∀ (hv : List (AIns × Nat)) (j : Nat) (ws : List Watch) (tm tm' : PT AVal) (h h' : AHeap),
    drawRun E call j (cPhases b hs ins j hv) ws tm h = .ok tm' h' → hs.drop j = hv.map (·.2) → (∀ x ∈ hv, x.1.heavy = true) →
    ∃ (S A : Nat → AHeap) (evs : List Ev), S j = h ∧ evs.map Ev.key = cOrd b hs ins j hv ∧ EvsOk (EvOk E call b hs S A j (j + hv.length)) tm evs ∧ foldTm tm evs = tm' ∧ A (j + hv.length) = h' ∧
      (∀ p, j ≤ p → p ≤ j + hv.length → Grow (S p) (A p)) ∧ (∀ w ∈ ws, ∀ i, j ≤ i → i ≤ w.upTo → i ≤ j + hv.length → rRun E w.tm (A i) w.op = some w.res) ∧
      evs.Pairwise (fun e e' => e.lo = e'.lo → NewsApart e e') := by
  intro hv
  induction hv with
  | nil =>
    intro j ws tm tm' h h' he hd hh
    simp only [cPhases, drawRun] at he
    cases hl : lightsRun E (lightsAt b hs ins j) ws tm h with
    | fail => rw [hl] at he; simp at he
    | ok ws1 tm1 h1 =>
      rw [hl] at he
      simp only at he
      split at he
      · simp at he
      · rename_i hcw
        simp only [IRes.ok.injEq] at he
        obtain ⟨rfl, rfl⟩ := he
        obtain ⟨evs, q1, q2, q3, q4, q5, q6⟩ := lights_trace (call := call) (highOf b hs) j (lightsI b hs ins j) ws ws1 tm tm1 h h1 hl (fun x hx => by
          have := (List.mem_filter.1 hx).2; simp at this; exact this.1)
        refine ⟨fun _ => h, fun _ => h1, evs, rfl, by rw [q1]; rfl, ?_, q3, rfl, fun p _ _ => q4, ?_, q6.imp (S := fun e e' => e.lo = e'.lo → NewsApart e e') (fun h _ => h)⟩
        · refine EvsOk.monoMem (fun tm e he q => QL_EvOk (ins := ins) (ws := ws1) (Nat.le_refl _) (by simp) ?_ ?_ q) q2
          · intro w hw i h1 h2 h3
            exact checkWatch_spec hcw w hw (by simp at h3; omega)
          · rw [← q1]; exact List.mem_map_of_mem he
        · intro w hw i h1 h2 h3
          exact checkWatch_spec hcw w (q5 w hw) (by simp at h3; omega)
  | cons x hv ih =>
    intro j ws tm tm' h h' he hd hh
    simp only [cPhases, drawRun] at he
    cases hl : lightsRun E (lightsAt b hs ins j) ws tm h with
    | fail => rw [hl] at he; simp at he
    | ok ws1 tm1 h1 =>
      rw [hl] at he
      simp only at he
      split at he
      · simp at he
      · rename_i hcw
        cases hx : insRun E call tm1 h1 x.1 with
        | fail => rw [hx] at he; simp at he
        | ok tm2 h2 =>
          rw [hx] at he
          simp only at he
          obtain ⟨evs, q1, q2, q3, q4, q5, q6⟩ := lights_trace (call := call) (highOf b hs) j (lightsI b hs ins j) ws ws1 tm tm1 h h1 hl (fun x hx => by
            have := (List.mem_filter.1 hx).2; simp at this; exact this.1)
          have hd' : hs.drop (j + 1) = hv.map (·.2) := by
            have : hs.drop (j + 1) = (hs.drop j).drop 1 := by rw [List.drop_drop]
            rw [this, hd]; rfl
          have hjx : hs[j]? = some x.2 := by
            have : (hs.drop j)[0]? = some x.2 := by rw [hd]; rfl
            simpa using this
          obtain ⟨S', A', evs', r0, r1, r2, r3, r4, r5, r6, r7⟩ := ih (j + 1) ws1 tm2 tm' h2 h' he hd' (fun y hy => hh y (by simp [hy]))
          rw [insRun_val] at hx
          cases hv1 : insVal E call tm1 h1 x.1 with
          | fail => rw [hv1] at hx; simp [bindO] at hx
          | ok v hx2 =>
            rw [hv1] at hx
            simp only [bindO, IRes.ok.injEq] at hx
            obtain ⟨rfl, rfl⟩ := hx
            have hlen : j + (x :: hv).length = j + 1 + hv.length := by simp; omega
            let S : Nat → AHeap := fun i => if i = j then h else S' i
            let A : Nat → AHeap := fun i => if i = j then h1 else A' i
            have Sj : S j = h := by simp [S]
            have Aj : A j = h1 := by simp [A]
            have Sne : ∀ i, i ≠ j → S i = S' i := fun i hi => by simp [S, hi]
            have Ane : ∀ i, i ≠ j → A i = A' i := fun i hi => by simp [A, hi]
            have hwat : ∀ w ∈ ws1, ∀ i, j ≤ i → i ≤ w.upTo → i ≤ j + 1 + hv.length → rRun E w.tm (A i) w.op = some w.res := by
              intro w hw i g1 g2 g3
              by_cases e : i = j
              · subst e; rw [Aj]; exact checkWatch_spec hcw w hw g2
              · rw [Ane i e]; exact r6 w hw i (by omega) g2 g3
            have hev' : ∀ e ∈ evs', j + 1 ≤ e.lo := EvsOk.mem (fun tm e q => q.1) r2
            have hev : ∀ e ∈ evs, e.lo = j := EvsOk.mem (fun tm e q => q.2.1) q2
            refine ⟨S, A, evs ++ ⟨x.1, x.2, v, j, j, none⟩ :: evs', Sj, ?_, ?_, ?_, ?_, ?_, ?_, ?_⟩
            · simp only [List.map_append, List.map_cons, q1, r1, cOrd]; rfl
            · rw [hlen]
              refine EvsOk.append ?_ ⟨?_, ?_⟩
              · refine EvsOk.monoMem (fun tm e he q => QL_EvOk (ins := ins) (ws := ws1) (Nat.le_refl j) (by omega) hwat ?_ ?_) q2
                · rw [← q1]; exact List.mem_map_of_mem he
                · rw [Sj, Aj]; exact q
              · refine ⟨Nat.le_refl _, by simp only; omega, .inl ⟨hh x (by simp), rfl, by simp only; omega, hjx, ?_⟩⟩
                rw [q3]
                simp only [Aj, Sne (j + 1) (by omega), r0]
                exact hv1
              · have e0 : (Ev.put ⟨x.1, x.2, v, j, j, none⟩ (foldTm tm evs)) = putT x.1.dst v tm1 := by rw [q3]; rfl
                rw [e0]
                refine EvsOk.mono (fun tm e q => ?_) r2
                obtain ⟨g1, g2, g3⟩ := q
                refine ⟨by omega, g2, ?_⟩
                rcases g3 with ⟨a1, a2, a3, a4, a5⟩ | ⟨a1, a2, a3, a4⟩ | ⟨a1, a2, o, k, id, a3, a4, a5, a6, a7, a8⟩
                · exact .inl ⟨a1, a2, a3, a4, by rw [Ane _ (by omega), Sne _ (by omega)]; exact a5⟩
                · exact .inr (.inl ⟨a1, a2, a3, fun i c1 c2 c3 => by rw [Ane i (by omega)]; exact a4 i c1 c2 c3⟩)
                · exact .inr (.inr ⟨a1, a2, o, k, id, a3, a4, a5, by rw [Sne _ (by omega)]; exact a6, by rw [Ane _ (by omega)]; exact a7, by rw [Ane _ (by omega)]; exact a8⟩)
            · rw [foldTm_append, q3]; exact r3
            · rw [hlen, Ane _ (by omega)]; exact r4
            · intro p g1 g2
              by_cases e : p = j
              · subst e; rw [Sj, Aj]; exact q4
              · rw [Sne p e, Ane p e]; exact r5 p (by omega) (by omega)
            · intro w hw i g1 g2 g3
              exact hwat w (q5 w hw) i g1 g2 (by omega)
            · rw [List.pairwise_append]
              refine ⟨q6.imp (S := fun e e' => e.lo = e'.lo → NewsApart e e') (fun h _ => h), .cons ?_ r7, ?_⟩
              · intro e he hlo
                intro o k id o' k' id' hn; simp at hn
              · intro e he e2 he2 hlo
                rcases List.mem_cons.1 he2 with rfl | he2
                · intro o k id o' k' id' _ hn; simp at hn
                · have := hev e he
                  have := hev' e2 he2
                  omega
end
end Go.AI
