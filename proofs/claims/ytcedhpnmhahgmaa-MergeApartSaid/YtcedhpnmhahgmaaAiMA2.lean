/- Part of a proof for one law: an interpreter over what is known of values, and that it is right. -/
import Derived.Test.YtcedhpnmhahgmaaAiFW2
set_option linter.unusedSimpArgs false
set_option linter.unusedVariables false
set_option linter.constructorNameAsVariable false
namespace Go.AI.Three
open Go.Proofs Go.Shelf
def bin2 (op : BinOp) (x y : AVal) : Option AVal :=
  match op with
  | .add => match x with
    | .sym i => match y with
      | .int .i64 (.ofNat j) => match Nat.beq i 0 with
        | true => match Nat.beq j 1 with
          | true => some (.sym 1)
          | false => none
        | false => none
      | _ => none
    | _ => none
  | _ => none
theorem env2 (n : Int) : EnvOk Try.prog (rho n (IntKind.i64.wrap (n + 1))) (EA bin2) where
  sym := rho_sym _ _
  bin := by
    intro op x y r h β vx vy hx hy
    simp only [EA, bin2] at h
    split at h
    · split at h
      · split at h
        · split at h
          · rename_i hi
            split at h
            · rename_i hj
              obtain rfl := Nat.eq_of_beq_eq_true hi
              obtain rfl := Nat.eq_of_beq_eq_true hj
              simp only [Option.some.injEq] at h; subst h
              simp only [VR] at hx hy
              subst hx hy
              refine ⟨.i64, n, 1, rfl, rfl, .int .i64 (IntKind.i64.wrap (n + 1)), fun t w => ?_, by simp [VR, rho]⟩
              simp [rho, Go.binOp, Op.intArith]
            · simp at h
          · simp at h
        · simp at h
      · simp at h
    · simp at h
  conv := by intro k i r h; simp [EA] at h
set_option maxRecDepth 1000000
theorem ma0 : isTrue (callA (EA bin2) 100 20 (.fn (.ofNat 5) [.sym 0, .bool true]) AHeap.none) = true := by decide +kernel
theorem ma1 : isTrue (callA (EA bin2) 100 20 (.fn (.ofNat 5) [.sym 0, .bool false]) AHeap.none) = true := by decide +kernel
theorem mergeApart_calls (n : Int) (c : Bool) (w : World) : Calls Try.prog 5 #[.int .i64 n, .bool c] w fun e w' => e = .returned (.bool true) ∧ RowKit.Below w.heap.size w w' := by
  cases c with
  | true =>
    obtain ⟨h', he⟩ := isTrue_spec ma0
    exact calls_ai (env2 n) insLays.mixed (fnsOk _ _) he (.cons (by simp [VR, rho]) (.cons (by simp [VR]) .nil)) (by intro β x h; simpa [VR] using h) w
  | false =>
    obtain ⟨h', he⟩ := isTrue_spec ma1
    exact calls_ai (env2 n) insLays.mixed (fnsOk _ _) he (.cons (by simp [VR, rho]) (.cons (by simp [VR]) .nil)) (by intro β x h; simpa [VR] using h) w
end Go.AI.Three
