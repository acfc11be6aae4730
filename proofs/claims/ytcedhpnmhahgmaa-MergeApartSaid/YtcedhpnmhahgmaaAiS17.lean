/- Part of a proof for one law: an interpreter over what is known of values, and that it is right. -/
import Derived.Test.YtcedhpnmhahgmaaAiS16
set_option linter.unusedSimpArgs false
set_option linter.unusedVariables false
set_option linter.constructorNameAsVariable false
namespace Go.AI
variable (P : Program) (ρ : Nat → Value)
/-! ## what an operation's outcome hangs on -/
def Same (l : List Pos) (tm tm' : PT AVal) : Prop := ∀ p ∈ l, evO tm (.t p) = evO tm' (.t p)
theorem Same.left {l m : List Pos} {tm tm' : PT AVal} (h : Same (l ++ m) tm tm') : Same l tm tm' := fun p hp => h p (by simp [hp])
theorem Same.right {l m : List Pos} {tm tm' : PT AVal} (h : Same (l ++ m) tm tm') : Same m tm tm' := fun p hp => h p (by simp [hp])
section
variable {P} {ρ} {E : Env} {tm tm' : PT AVal} {call : Goal → AHeap → ORes}
theorem evO_same {x : AOpd} (h : Same (opdT x) tm tm') : evO tm x = evO tm' x := by
  cases x with
  | t p => exact h p (by simp [opdT])
  | c v => rfl
theorem evs_same : ∀ {l : List AOpd}, Same (l.flatMap opdT) tm tm' → evs tm l = evs tm' l
  | [], _ => rfl
  | x :: l, h => by
    simp only [List.flatMap_cons] at h
    simp only [evs, evO_same h.left, evs_same h.right]
theorem evOpt_same {x : Option AOpd} (h : Same (x.toList.flatMap opdT) tm tm') : evOpt tm x = evOpt tm' x := by
  cases x with
  | none => rfl
  | some x => simp only [Option.toList, List.flatMap_cons, List.flatMap_nil, List.append_nil] at h; simp only [evOpt, evO_same h]
theorem fill_same : ∀ {ps : List (Nat × Nat × AOpd)} {z : List AVal}, Same (ps.flatMap fun x => opdT x.2.2) tm tm' → fillA tm z ps = fillA tm' z ps
  | [], _, _ => rfl
  | ⟨o, n, x⟩ :: ps, z, h => by
    simp only [List.flatMap_cons] at h
    simp only [fillA, evO_same h.left]
    split <;> try rfl
    split <;> try rfl
    split <;> first | rfl | exact fill_same h.right
theorem pRun_same {op : POp} (h : Same (readsP op) tm tm') : pRun E tm op = pRun E tm' op := by
  cases op <;> simp only [readsP] at h <;> simp only [pRun]
  case build z ps => simp only [oBuild, fill_same h]
  case bslice z n ps t => simp only [oBslice, fill_same h]
  case pick c a b => rw [evO_same h.left.left, evO_same h.left.right, evO_same h.right]
  case mkfn f a c => rw [List.flatMap_append] at h; rw [evs_same h.left, evs_same h.right]
  case slc n x lo hi mx =>
    have h2 := h.right
    simp only [List.flatMap_append] at h2
    rw [evO_same h.left, evOpt_same h2.left.left, evOpt_same h2.left.right, evOpt_same h2.right]
  case mx m x xs => rw [evO_same h.left, evs_same h.right]
  all_goals first
    | rw [evO_same h]
    | rw [evO_same h.left, evO_same h.right]
theorem rRun_same {h0 : AHeap} {op : ROp} (h : Same (readsR op) tm tm') : rRun E tm h0 op = rRun E tm' h0 op := by
  cases op <;> simp only [readsR] at h <;> simp only [rRun]
  all_goals first
    | rw [evO_same h]
    | rw [evO_same h.left, evO_same h.right]
theorem hRun_same {h0 : AHeap} {op : HOp} (h : Same (readsH op) tm tm') : hRun E tm h0 op = hRun E tm' h0 op := by
  cases op <;> simp only [readsH] at h <;> simp only [hRun]
  all_goals first
    | rw [evO_same h]
    | rw [evO_same h.left.left, evO_same h.left.right, evO_same h.right]
    | rw [evO_same h.left, evO_same h.right]
theorem wantedA_evO (g : Option (Pos × Bool)) : wantedA tm g = match g with
    | none => some true
    | some (p, want) => match evO tm (.t p) with
      | .bool b => some (match want with | true => b | false => (match b with | true => false | false => true))
      | .sym _ => none
      | _ => some false := by
  cases g with
  | none => rfl
  | some pw =>
    obtain ⟨p, want⟩ := pw
    simp only [wantedA, evO]
    cases tm.get p with
    | none => rfl
    | some v => cases v <;> rfl
theorem wantedA_same {g : Option (Pos × Bool)} (h : Same (gT g) tm tm') : wantedA tm g = wantedA tm' g := by
  rw [wantedA_evO, wantedA_evO]
  cases g with
  | none => rfl
  | some pw =>
    obtain ⟨p, want⟩ := pw
    have := h p (by simp [gT])
    simp only [this]
/-- one operation: its value, the memory behind it -/
def ofP (h : AHeap) : PRes → ORes
  | .fail => .fail
  | .val v => .ok v h
  | .new o k => .ok (k h.next) (h.new o)
def ofR (h : AHeap) : Option AVal → ORes
  | none => .fail
  | some v => .ok v h
def guardO (g : Option (Pos × Bool)) (tm : PT AVal) (h : AHeap) (r : ORes) : ORes :=
  match wantedA tm g with
  | none => .fail
  | some true => r
  | some false => .ok .undef h
def insVal (E : Env) (call : Goal → AHeap → ORes) (tm : PT AVal) (h : AHeap) : AIns → ORes
  | .pure _ g op => guardO g tm h (ofP h (pRun E tm op))
  | .read _ g op => guardO g tm h (ofR h (rRun E tm h op))
  | .write _ g op => guardO g tm h (hRun E tm h op)
  | .call _ g f args => guardO g tm h (callO call (evO tm f) (evs tm args) h)
theorem guard_val {d : Option Pos} {g : Option (Pos × Bool)} {h : AHeap} {r : IRes} {r' : ORes} (e : r = bindO d tm r') : guardI d g tm h r = bindO d tm (guardO g tm h r') := by
  subst e
  unfold guardI guardO
  cases wantedA tm g with
  | none => rfl
  | some b => cases b <;> rfl
theorem insRun_val {h : AHeap} {x : AIns} : insRun E call tm h x = bindO x.dst tm (insVal E call tm h x) := by
  cases x with
  | pure d g op => exact guard_val (by cases pRun E tm op <;> rfl)
  | read d g op => exact guard_val (by cases rRun E tm h op <;> rfl)
  | write d g op => exact guard_val rfl
  | call d g f args => exact guard_val rfl
theorem insVal_same {h0 : AHeap} {x : AIns} (h : Same x.reads tm tm') : insVal E call tm h0 x = insVal E call tm' h0 x := by
  cases x with
  | pure d g op => simp only [AIns.reads] at h; simp only [insVal, guardO, wantedA_same h.left, pRun_same h.right]
  | read d g op => simp only [AIns.reads] at h; simp only [insVal, guardO, wantedA_same h.left, rRun_same h.right]
  | write d g op => simp only [AIns.reads] at h; simp only [insVal, guardO, wantedA_same h.left, hRun_same h.right]
  | call d g f args => simp only [AIns.reads] at h; simp only [insVal, guardO, wantedA_same h.left, evO_same h.right.left, evs_same h.right.right]
theorem memP_iff {p : Pos} : ∀ {l : List Pos}, memP p l = true ↔ p ∈ l
  | [] => by simp [memP]
  | q :: r => by simp [memP, Pos.beq_iff, memP_iff (l := r)]
/-- what apartI says -/
theorem apartI_spec {x y : AIns} (h : apartI x y = true) : (∀ d, x.dst = some d → d ∉ y.reads ∧ y.dst ≠ some d) ∧ (∀ e, y.dst = some e → e ∉ x.reads) := by
  unfold apartI at h
  rw [Bool.and_eq_true] at h
  obtain ⟨h1, h2⟩ := h
  constructor
  · intro d hd
    rw [hd] at h1
    simp only [Bool.and_eq_true, Bool.not_eq_true'] at h1
    refine ⟨fun hm => ?_, fun he => ?_⟩
    · rw [memP_iff.2 hm] at h1; simp at h1
    · rw [he] at h1
      have : Pos.beq d d = true := Pos.beq_iff.2 rfl
      simp [this] at h1
  · intro e he hm
    rw [he] at h2
    simp [memP_iff.2 hm] at h2
/-- the same value -/
theorem sameFlat_eq {x y : AVal} (h : sameFlat x y = true) : x = y := by
  unfold sameFlat at h
  split at h
  all_goals try rfl
  all_goals try (simp only [Bool.and_eq_true, eqK_iff, eqI_iff, beq_iff_eq, Pos.beq_iff, Nat.beq_eq] at h)
  all_goals first | contradiction | (simp_all; done)
theorem sameFlats_eq : ∀ {x y : List AVal}, sameFlats x y = true → x = y
  | [], [], _ => rfl
  | x :: xs, y :: ys, h => by
    simp only [sameFlats, Bool.and_eq_true] at h
    rw [sameFlat_eq h.1, sameFlats_eq h.2]
  | [], _ :: _, h => by simp [sameFlats] at h
  | _ :: _, [], h => by simp [sameFlats] at h
theorem sameVal_eq {x y : AVal} (h : sameVal x y = true) : x = y := by
  unfold sameVal at h
  split at h
  · simp only [Bool.and_eq_true, Pos.beq_iff] at h
    rw [h.1.1, sameFlats_eq h.1.2, sameFlats_eq h.2]
  · exact sameFlat_eq h
theorem sameList_eq : ∀ {x y : List AVal}, sameList x y = true → x = y
  | [], [], _ => rfl
  | x :: xs, y :: ys, h => by
    simp only [sameList, Bool.and_eq_true] at h
    rw [sameVal_eq h.1, sameList_eq h.2]
  | [], _ :: _, h => by simp [sameList] at h
  | _ :: _, [], h => by simp [sameList] at h
theorem sameRes_eq {x y : AVal} (h : sameRes x y = true) : x = y := by
  unfold sameRes at h
  split at h
  · rw [sameList_eq h]
  · rw [sameList_eq h]
  · exact sameVal_eq h
end
end Go.AI
