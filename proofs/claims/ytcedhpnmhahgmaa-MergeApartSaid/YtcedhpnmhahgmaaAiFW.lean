/- Part of a proof for one law: an interpreter over what is known of values, and that it is right. -/
import Derived.Test.YtcedhpnmhahgmaaAiFs
set_option linter.unusedSimpArgs false
set_option linter.unusedVariables false
set_option linter.constructorNameAsVariable false
namespace Go.AI.Three
open Go.Proofs Go.Shelf
/-! ## the table -/
def PT.All {α : Type} (Q : Pos → α → Prop) : PT α → (Pos → Pos) → Prop
  | .lf, _ => True
  | .nd l v r, k => PT.All Q l (fun p => k (.o p)) ∧ (match v with | none => True | some x => Q (k .h) x) ∧ PT.All Q r (fun p => k (.i p))
theorem PT.All.get {α : Type} {Q : Pos → α → Prop} : ∀ {t : PT α} {k : Pos → Pos}, PT.All Q t k → ∀ p x, t.get p = some x → Q (k p) x
  | .lf, _, _, p, x, h => by simp at h
  | .nd l v r, k, h, p, x, hx => by
    cases p with
    | h => simp only [Go.AI.PT.get] at hx; subst hx; exact h.2.1
    | o p => exact PT.All.get h.1 p x hx
    | i p => exact PT.All.get h.2.2 p x hx
def insRen : Ren where
  f := fun x => match x with | 21 => 102 | 27 => 128 | 28 => 129 | 35 => 146 | 39 => 150 | n => n
  t := fun x => match x with | 22 => 34 | n => n
  g := fun x => x
theorem insLays : Lays2.n21 Try.prog insRen where
  mixed := by kernel_rfl
  f21 := by kernel_rfl
  f27 := by kernel_rfl
  f28 := by kernel_rfl
  f35 := by kernel_rfl
  f39 := by kernel_rfl
  t0 := by kernel_rfl
  a0 := fun w => by kernel_rfl
  z0 := fun w => by kernel_rfl
  v0 := fun w => by kernel_rfl
  t3 := by kernel_rfl
  a3 := fun w => by kernel_rfl
  z3 := fun w => by kernel_rfl
  v3 := fun w => by kernel_rfl
  t4 := by kernel_rfl
  a4 := fun w => by kernel_rfl
  z4 := fun w => by kernel_rfl
  v4 := fun w => by kernel_rfl
  t22 := by kernel_rfl
  a22 := fun w => by kernel_rfl
  z22 := fun w => by kernel_rfl
  v22 := fun w => by kernel_rfl
  i3 := by kernel_rfl
def QF (ρ : Nat → Value) (f : Pos) (x : AFunc) : Prop := match x with
  | .code c rs => cFunc Try.prog f.toNat = some (.code c rs)
  | .intr k => HasBody Try.prog f.toNat ∧ IntrOk Try.prog ρ f.toNat k
theorem i102 {ρ : Nat → Value} : HasBody Try.prog 102 ∧ IntrOk Try.prog ρ 102 (insertI 3) :=
  ⟨⟨Body2.n21 insRen, _, insLays.f21, by decide +kernel, rfl⟩, insert_run insLays⟩
set_option maxRecDepth 100000
theorem fns_all (ρ : Nat → Value) : PT.All (QF ρ) fns id :=
  ⟨⟨⟨⟨⟨⟨⟨⟨trivial, f127, trivial⟩, f63, trivial⟩, f31, ⟨trivial, f95, trivial⟩⟩, f15, ⟨⟨⟨trivial, f143, trivial⟩, f79, trivial⟩, f47, ⟨trivial, f111, trivial⟩⟩⟩, f7, ⟨⟨⟨⟨trivial, f135, trivial⟩, f71, trivial⟩, f39, ⟨trivial, f103, trivial⟩⟩, f23, ⟨⟨trivial, f87, trivial⟩, f55, ⟨trivial, f119, trivial⟩⟩⟩⟩, f3, ⟨⟨⟨⟨⟨trivial, f131, trivial⟩, f67, trivial⟩, f35, ⟨trivial, f99, trivial⟩⟩, f19, ⟨⟨⟨trivial, f147, trivial⟩, f83, trivial⟩, f51, ⟨trivial, f115, trivial⟩⟩⟩, f11, ⟨⟨⟨⟨trivial, f139, trivial⟩, f75, trivial⟩, f43, ⟨trivial, f107, trivial⟩⟩, f27, ⟨⟨trivial, f91, trivial⟩, f59, ⟨trivial, f123, trivial⟩⟩⟩⟩⟩, trivial, ⟨⟨⟨⟨⟨trivial, f65, trivial⟩, f33, ⟨trivial, f97, trivial⟩⟩, f17, ⟨⟨⟨trivial, f145, trivial⟩, f81, trivial⟩, f49, ⟨trivial, f113, trivial⟩⟩⟩, f9, ⟨⟨⟨⟨trivial, f137, trivial⟩, f73, trivial⟩, f41, ⟨trivial, f105, trivial⟩⟩, f25, ⟨⟨trivial, f89, trivial⟩, f57, ⟨trivial, f121, trivial⟩⟩⟩⟩, f5, ⟨⟨⟨⟨⟨trivial, f133, trivial⟩, f69, trivial⟩, f37, ⟨trivial, f101, trivial⟩⟩, f21, ⟨⟨⟨trivial, f149, trivial⟩, f85, trivial⟩, f53, ⟨trivial, f117, trivial⟩⟩⟩, f13, ⟨⟨⟨⟨trivial, f141, trivial⟩, f77, trivial⟩, f45, ⟨trivial, f109, trivial⟩⟩, f29, ⟨⟨trivial, f93, trivial⟩, f61, ⟨trivial, f125, trivial⟩⟩⟩⟩⟩⟩, trivial, ⟨⟨⟨⟨⟨⟨trivial, f64, trivial⟩, f32, ⟨trivial, f96, trivial⟩⟩, f16, ⟨⟨⟨trivial, f144, trivial⟩, f80, trivial⟩, f48, ⟨trivial, f112, trivial⟩⟩⟩, f8, ⟨⟨⟨⟨trivial, f136, trivial⟩, f72, trivial⟩, f40, ⟨trivial, f104, trivial⟩⟩, f24, ⟨⟨trivial, f88, trivial⟩, f56, ⟨trivial, f120, trivial⟩⟩⟩⟩, f4, ⟨⟨⟨⟨⟨trivial, f132, trivial⟩, f68, trivial⟩, f36, ⟨trivial, f100, trivial⟩⟩, f20, ⟨⟨⟨trivial, f148, trivial⟩, f84, trivial⟩, f52, ⟨trivial, f116, trivial⟩⟩⟩, f12, ⟨⟨⟨⟨trivial, f140, trivial⟩, f76, trivial⟩, f44, ⟨trivial, f108, trivial⟩⟩, f28, ⟨⟨trivial, f92, trivial⟩, f60, ⟨trivial, f124, trivial⟩⟩⟩⟩⟩, trivial, ⟨⟨⟨⟨⟨⟨trivial, f130, trivial⟩, f66, trivial⟩, f34, ⟨trivial, f98, trivial⟩⟩, f18, ⟨⟨trivial, f82, trivial⟩, f50, ⟨trivial, f114, trivial⟩⟩⟩, f10, ⟨⟨⟨⟨trivial, f138, trivial⟩, f74, trivial⟩, f42, ⟨trivial, f106, trivial⟩⟩, f26, ⟨⟨trivial, f90, trivial⟩, f58, ⟨trivial, f122, trivial⟩⟩⟩⟩, f6, ⟨⟨⟨⟨⟨trivial, f134, trivial⟩, f70, trivial⟩, f38, ⟨trivial, i102, trivial⟩⟩, f22, ⟨⟨trivial, f86, trivial⟩, f54, ⟨trivial, f118, trivial⟩⟩⟩, f14, ⟨⟨⟨⟨trivial, f142, trivial⟩, f78, trivial⟩, f46, ⟨trivial, f110, trivial⟩⟩, f30, ⟨⟨trivial, f94, trivial⟩, f62, ⟨trivial, f126, trivial⟩⟩⟩⟩⟩⟩⟩
def EA (bin : BinOp → AVal → AVal → Option AVal) : Env := { fns, bin, conv := fun _ _ => none }
theorem fnsOk (ρ : Nat → Value) (bin : BinOp → AVal → AVal → Option AVal) : FnsOk Try.prog ρ (EA bin) := by
  intro f x h
  have := PT.All.get (fns_all ρ) f x h
  exact this
end Go.AI.Three
