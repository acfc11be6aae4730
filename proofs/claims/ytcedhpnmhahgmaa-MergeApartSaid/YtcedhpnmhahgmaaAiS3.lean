/- Part of a proof for one law: an interpreter over what is known of values, and that it is right. -/
import Derived.Test.YtcedhpnmhahgmaaAiS2
set_option linter.unusedSimpArgs false
set_option linter.unusedVariables false
set_option linter.constructorNameAsVariable false
namespace Go.AI
variable (P : Program) (ρ : Nat → Value)

structure EnvOk (E : Env) : Prop where
  sym : SymOk ρ
  bin : ∀ op x y r, E.bin op x y = some r → ∀ β vx vy, VR ρ β x vx → VR ρ β y vy → ∃ k a b, vx = .int k a ∧ vy = .int k b ∧
    ∃ r', (∀ t w, (Go.binOp op t vx vy).run P w = .ok r' w) ∧ VR ρ β r r'
  conv : ∀ k i r, E.conv k (.sym i) = some r → ∃ q n, ρ i = .int q n ∧ ∀ β, VR ρ β r (.int k (k.wrap n))

/-! ## numbers -/
theorem eqI_iff : ∀ a b : Int, eqI a b = (a == b)
  | .ofNat a, .ofNat b => by
    rw [Bool.eq_iff_iff]; simp [eqI]; omega
  | .negSucc a, .negSucc b => by
    rw [Bool.eq_iff_iff]; simp [eqI]
  | .ofNat a, .negSucc b => by simp [eqI]
  | .negSucc a, .ofNat b => by simp [eqI]
theorem ltI_iff : ∀ a b : Int, ltI a b = decide (a < b)
  | .ofNat a, .ofNat b => by rw [Bool.eq_iff_iff]; simp [ltI, Nat.blt_eq]
  | .negSucc a, .negSucc b => by rw [Bool.eq_iff_iff]; simp [ltI, Nat.blt_eq]; omega
  | .ofNat a, .negSucc b => by rw [Bool.eq_iff_iff]; simp [ltI]; omega
  | .negSucc a, .ofNat b => by rw [Bool.eq_iff_iff]; simp [ltI]; omega
theorem leI_iff : ∀ a b : Int, leI a b = decide (a ≤ b)
  | .ofNat a, .ofNat b => by rw [Bool.eq_iff_iff]; simp [leI]
  | .negSucc a, .negSucc b => by rw [Bool.eq_iff_iff]; simp [leI]; omega
  | .ofNat a, .negSucc b => by rw [Bool.eq_iff_iff]; simp [leI]; omega
  | .negSucc a, .ofNat b => by rw [Bool.eq_iff_iff]; simp [leI]; omega
theorem eqK_iff : ∀ a b : IntKind, eqK a b = true ↔ a = b := by intro a b; cases a <;> cases b <;> simp [eqK]
theorem eqK_eq {a b : IntKind} (h : eqK a b = true) : a = b := (eqK_iff a b).1 h
theorem wrapF_eq (k : IntKind) (n : Int) : wrapF k n = k.wrap n := by
  unfold wrapF
  split
  · rename_i m
    split
    · split
      · rename_i h
        have h' : m < 9223372036854775808 := by simpa [Nat.blt_eq] using h
        simp [IntKind.wrap, IntKind.bits, IntKind.signed]; omega
      · rfl
    · split
      · rename_i h
        have h' : m < 256 := by simpa [Nat.blt_eq] using h
        simp [IntKind.wrap, IntKind.bits, IntKind.signed]; omega
      · rfl
    · split
      · rename_i h
        have h' : m < 18446744073709551616 := by rwa [Nat.blt_eq] at h
        have e : (2 ^ IntKind.bits .u64 : Int) = 18446744073709551616 := rfl
        unfold IntKind.wrap
        rw [e]
        simp only [IntKind.signed, Bool.false_and, Bool.false_eq_true, if_false, Int.ofNat_eq_natCast]
        omega
      · rfl
    · rfl
  · rename_i m
    split
    · split
      · rename_i h
        have h' : m < 9223372036854775808 := by rwa [Nat.blt_eq] at h
        have e : (2 ^ IntKind.bits .i64 : Int) = 18446744073709551616 := rfl
        have e' : (2 ^ (IntKind.bits .i64 - 1) : Int) = 9223372036854775808 := rfl
        unfold IntKind.wrap
        rw [e, e']
        simp only [IntKind.signed, Bool.true_and, decide_eq_true_eq]
        have e2 : Int.negSucc m = -(m : Int) - 1 := by omega
        rw [e2]
        split <;> omega
      · rfl
    · rfl

section
variable {P} {ρ} {β : Bm}
theorem intBin_run {op : BinOp} {k : IntKind} {a b : Int} {r : AVal} (h : intBin op k a b = some r) (hs : isShift op = false) (t : TypeId) (w : World) :
    ∃ r', (Go.binOp op t (.int k a) (.int k b)).run P w = .ok r' w ∧ VR ρ β r r' := by
  cases op <;> simp [isShift] at hs <;> simp only [intBin, Option.some.injEq, reduceCtorEq] at h
  case quo =>
    split at h
    · simp at h
    · rename_i hb
      simp only [Option.some.injEq] at h; subst h
      have : ¬ b = 0 := by intro e; apply hb; rw [eqI_iff]; simp [e]
      exact ⟨.int k (k.wrap (a.tdiv b)), by simp [Go.binOp, Op.intDiv, this], by simp [VR, wrapF_eq]⟩
  case rem =>
    split at h
    · simp at h
    · rename_i hb
      simp only [Option.some.injEq] at h; subst h
      have : ¬ b = 0 := by intro e; apply hb; rw [eqI_iff]; simp [e]
      exact ⟨.int k (a.tmod b), by simp [Go.binOp, Op.intDiv, this], by simp [VR]⟩
  case add => subst h; exact ⟨.int k (k.wrap (a + b)), by simp [Go.binOp, Op.intArith], by simp [VR, wrapF_eq]⟩
  case sub => subst h; exact ⟨.int k (k.wrap (a - b)), by simp [Go.binOp, Op.intArith], by simp [VR, wrapF_eq]; rfl⟩
  case mul => subst h; exact ⟨.int k (k.wrap (a * b)), by simp [Go.binOp, Op.intArith], by simp [VR, wrapF_eq]⟩
  case and => subst h; exact ⟨.int k (k.wrap (BitVec.ofInt k.bits a &&& BitVec.ofInt k.bits b).toNat), by simp [Go.binOp, Op.intBits], by simp [VR]⟩
  case or => subst h; exact ⟨.int k (k.wrap (BitVec.ofInt k.bits a ||| BitVec.ofInt k.bits b).toNat), by simp [Go.binOp, Op.intBits], by simp [VR]⟩
  case xor => subst h; exact ⟨.int k (k.wrap (BitVec.ofInt k.bits a ^^^ BitVec.ofInt k.bits b).toNat), by simp [Go.binOp, Op.intBits], by simp [VR]⟩
  case lss => subst h; exact ⟨.bool (decide (a < b)), by simp [Go.binOp, Op.intCmp], by simp [VR, ltI_iff]⟩
  case leq => subst h; exact ⟨.bool (decide (a ≤ b)), by simp [Go.binOp, Op.intCmp], by simp [VR, leI_iff]⟩
  case gtr => subst h; exact ⟨.bool (decide (a > b)), by simp [Go.binOp, Op.intCmp], by simp [VR, ltI_iff]⟩
  case geq => subst h; exact ⟨.bool (decide (a ≥ b)), by simp [Go.binOp, Op.intCmp], by simp [VR, leI_iff]⟩
theorem shiftA_run {op : BinOp} {k k' : IntKind} {a b : Int} {r : AVal} (h : shiftA op k a b = some r) (t : TypeId) (w : World) :
    ∃ r', (Go.binOp op t (.int k a) (.int k' b)).run P w = .ok r' w ∧ VR ρ β r r' := by
  unfold shiftA at h
  split at h
  · simp at h
  · rename_i y
    split at h
    · simp at h; subst h
      refine ⟨.int k (k.wrap (a * 2 ^ (min y k.bits))), ?_, by simp [VR]⟩
      have : ¬ ((y : Int) < 0) := by omega
      simp [Go.binOp, Op.shift, this]
    · simp at h; subst h
      refine ⟨.int k (a.fdiv (2 ^ (min y k.bits))), ?_, by simp [VR]⟩
      have : ¬ ((y : Int) < 0) := by omega
      simp [Go.binOp, Op.shift, this]
    · simp at h
end
section
variable {P} {ρ} {E : Env} (hE : EnvOk P ρ E) {β : Bm} {tm : PT AVal} {tmps : Array Value} {w : World}
include hE
theorem binA_run {op : BinOp} {x y r : AVal} (h : binA E op x y = some r) {vx vy : Value} (hx : VR ρ β x vx) (hy : VR ρ β y vy) (t : TypeId) (w : World) :
    ∃ r', (Go.binOp op t vx vy).run P w = .ok r' w ∧ VR ρ β r r' := by
  unfold binA at h
  split at h
  · rename_i k a k' b
    simp only [VR] at hx hy; subst hx hy
    split at h
    · exact shiftA_run h t w
    · rename_i hs
      split at h
      · rename_i hk
        rw [← eqK_eq hk]
        exact intBin_run h (by simpa using hs) t w
      · simp at h
  · obtain ⟨k, a, b, rfl, rfl, r', h1, h2⟩ := hE.bin _ _ _ _ h β vx vy hx hy
    exact ⟨r', h1 t w, h2⟩
end
end Go.AI
