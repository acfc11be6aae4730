/- Part of a proof for one law: an interpreter over what is known of values, and that it is right. -/
import Derived.Test.YtcedhpnmhahgmaaAiS22
import Derived.Laws.IdiomCopy
import Derived.Shelf.Spec.SlicesInsertGrow
set_option linter.unusedSimpArgs false
set_option linter.unusedVariables false
set_option linter.constructorNameAsVariable false
namespace Go.AI
variable (P : Program) (ρ : Nat → Value)
section
variable {P} {ρ} {β : Bm} {h h' : AHeap} {w w' : World}
/-! ## cells that are set -/
structure SetR (w w' : World) (b : Nat) (t : TypeId) (fz : Nat × Nat) (o : Nat) (vs : List Value) (c : Array Value) : Prop where
  ex : ∃ c', w'.heap[b]? = some (.cells c' t fz) ∧ c'.size = c.size ∧ ∀ k, c'[k]? = if o ≤ k ∧ k < o + vs.length then (if k < c.size then vs[k - o]? else none) else c[k]?
  oth : ∀ k, k ≠ b → w'.heap[k]? = w.heap[k]?
  size : w'.heap.size = w.heap.size
  st : Streams w w'
theorem setCells_row (b : Nat) (t : TypeId) (fz : Nat × Nat) : ∀ (vs : List Value) (o : Nat) (c : Array Value) (w : World), w.heap[b]? = some (.cells c t fz) → SetR w (w.setCells b o vs) b t fz o vs c
  | [], o, c, w, hb => ⟨⟨c, hb, rfl, fun k => by rw [if_neg]; simp⟩, fun _ _ => rfl, rfl, .refl _⟩
  | v :: r, o, c, w, hb => by
    have h1 : (w.setCell ⟨b, o, none⟩ v).heap[b]? = some (.cells (c.setIfInBounds o v) t fz) := by
      simp [World.setCell, Array.getElem?_modify, hb]
    obtain ⟨⟨c', e1, e2, e3⟩, e4, e5, e6⟩ := setCells_row b t fz r (o + 1) _ _ h1
    refine ⟨⟨c', e1, by rw [e2]; simp, fun k => ?_⟩, fun k hk => ?_, ?_, ?_⟩
    · rw [e3 k]
      simp only [List.length_cons, Array.size_setIfInBounds]
      by_cases h1 : o + 1 ≤ k ∧ k < o + 1 + r.length
      · have h2 : o ≤ k ∧ k < o + (r.length + 1) := by omega
        rw [if_pos h1, if_pos h2]
        rw [show k - o = (k - (o + 1)) + 1 by omega]
        simp
      · rw [if_neg h1]
        by_cases h2 : k = o
        · subst h2
          have h2 : k ≤ k ∧ k < k + (r.length + 1) := by omega
          rw [if_pos h2]
          simp [Array.getElem?_setIfInBounds]
        · rw [if_neg (by omega), Array.getElem?_setIfInBounds_ne (Ne.symm h2)]
    · rw [show w.setCells b o (v :: r) = (w.setCell ⟨b, o, none⟩ v).setCells b (o + 1) r from rfl, e4 k hk]
      simp [World.setCell, Array.getElem?_modify, Ne.symm hk]
    · rw [show w.setCells b o (v :: r) = (w.setCell ⟨b, o, none⟩ v).setCells b (o + 1) r from rfl, e5]
      simp [World.setCell]
    · exact Streams.trans (b := w.setCell ⟨b, o, none⟩ v) ⟨rfl, rfl, rfl⟩ e6
/-! ## slices.Insert -/
def insertI (e : TypeId) (args : List AVal) (h : AHeap) : ORes :=
  match args with
  | [s, i, v] => match lenA v with
    | none => .fail
    | some vl => match vl with
      | 0 => .fail
      | m + 1 => match v with
        | .slice vb _ _ _ _ => match cellsA h 1 (Nat.succ m) v with
          | none => .fail
          | some new => match (match i with | .int .i64 (.ofNat i) => some i | _ => none) with
            | none => .fail
            | some i => match s with
              | .snil => match Nat.beq i 0 with
                | true => match roomy (Nat.succ m) 8 with
                  | true => .ok (.slice h.next 0 (Nat.succ m) (Nat.succ m) 1) (h.new (.cells new e))
                  | false => .fail
                | false => .fail
              | .slice b o len cap es => match Pos.beq b vb with
                | true => .fail
                | false => match cellsA h 1 len (.slice b o len cap es) with
                  | none => .fail
                  | some old => match Nat.ble i len with
                    | false => .fail
                    | true => match roomy (Nat.add len (Nat.succ m)) 8 with
                      | false => .fail
                      | true => match (match es with | 0 => Nat.blt cap (Nat.add len (Nat.succ m)) | k + 1 => Nat.beq k 0) with
                        | false => .fail
                        | true => match h.set b .dead with
                          | h => .ok (.slice h.next 0 (Nat.add len (Nat.succ m)) (Nat.add len (Nat.succ m)) 1) (h.new (.cells (takeL i old ++ (new ++ dropL i old)) e))
              | _ => .fail
        | _ => .fail
  | _ => .fail
end
end Go.AI
