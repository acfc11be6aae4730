/- Part of a proof for one law: an interpreter over what is known of values, and that it is right. -/
import Derived.Test.YtcedhpnmhahgmaaAiFW
set_option linter.unusedSimpArgs false
set_option linter.unusedVariables false
set_option linter.constructorNameAsVariable false
namespace Go.AI.Three
open Go.Proofs Go.Shelf
def isTrue : ORes → Bool
  | .ok (.bool true) _ => true
  | _ => false
theorem isTrue_spec {r : ORes} (h : isTrue r = true) : ∃ h', r = .ok (.bool true) h' := by
  unfold isTrue at h
  split at h
  · exact ⟨_, rfl⟩
  · simp at h
def bin0 (_ : BinOp) (_ _ : AVal) : Option AVal := none
def bin1 (op : BinOp) (x y : AVal) : Option AVal :=
  match op with
  | .eql => match x with
    | .sym i => match y with
      | .int .i64 (.ofNat j) => match Nat.beq i 0 with
        | true => match Nat.beq j 0 with
          | true => some (.bool false)
          | false => none
        | false => none
      | _ => none
    | _ => none
  | _ => none
def rho (n m : Int) (i : Nat) : Value := if i = 0 then .int .i64 n else .int .i64 m
theorem rho_sym (n m : Int) : SymOk (rho n m) := by
  intro i; unfold rho; split <;> exact ⟨_, _, rfl⟩
theorem env0 (n m : Int) : EnvOk Try.prog (rho n m) (EA bin0) where
  sym := rho_sym n m
  bin := by intro op x y r h; simp [EA, bin0] at h
  conv := by intro k i r h; simp [EA] at h
theorem env1 (n m : Int) (hn : n ≠ 0) : EnvOk Try.prog (rho n m) (EA bin1) where
  sym := rho_sym n m
  bin := by
    intro op x y r h β vx vy hx hy
    simp only [EA, bin1] at h
    split at h
    · split at h
      · split at h
        · split at h
          · rename_i hi
            split at h
            · rename_i hj
              obtain rfl := Nat.eq_of_beq_eq_true hi
              obtain rfl := Nat.eq_of_beq_eq_true hj
              simp only [Option.some.injEq] at h; subst h
              simp only [VR] at hx hy
              subst hx hy
              refine ⟨.i64, n, 0, rfl, rfl, .bool false, fun t w => ?_, by simp [VR]⟩
              simp [rho, Go.binOp, Op.intCmp, hn]
            · simp at h
          · simp at h
        · simp at h
      · simp at h
    · simp at h
  conv := by intro k i r h; simp [EA] at h
set_option maxRecDepth 1000000
theorem fw0 : isTrue (callA (EA bin0) 100 20 (.fn (.ofNat 3) [.int .i64 (.ofNat 0), .sym 1]) AHeap.none) = true := by decide +kernel
theorem fw1 : isTrue (callA (EA bin1) 100 20 (.fn (.ofNat 3) [.sym 0, .sym 1]) AHeap.none) = true := by decide +kernel
theorem foldWays_calls (n m : Int) (w : World) : Calls Try.prog 3 #[.int .i64 n, .int .i64 m] w fun e w' => e = .returned (.bool true) ∧ RowKit.Below w.heap.size w w' := by
  by_cases hn : n = 0
  · subst hn
    obtain ⟨h', he⟩ := isTrue_spec fw0
    exact calls_ai (env0 0 m) insLays.mixed (fnsOk _ _) he (.cons (by simp [VR]) (.cons (by simp [VR, rho]) .nil)) (by intro β x h; simpa [VR] using h) w
  · obtain ⟨h', he⟩ := isTrue_spec fw1
    exact calls_ai (env1 n m hn) insLays.mixed (fnsOk _ _) he (.cons (by simp [VR, rho]) (.cons (by simp [VR, rho]) .nil)) (by intro β x h; simpa [VR] using h) w
end Go.AI.Three
