/- Part of a proof for one law: an interpreter over what is known of values, and that it is right. -/
import Derived.Test.YtcedhpnmhahgmaaAiS4
set_option linter.unusedSimpArgs false
set_option linter.unusedVariables false
set_option linter.constructorNameAsVariable false
namespace Go.AI
variable (P : Program) (ρ : Nat → Value)
section
variable {P} {ρ} {E : Env} (hE : EnvOk P ρ E) {β : Bm} {w : World} {tm : PT AVal} {tmps : Array Value}

theorem asNat_rel {x : AVal} {n : Nat} (h : asNat x = some n) {v : Value} (hv : VR ρ β x v) : ∃ k, v = .int k n := by
  unfold asNat at h
  split at h
  · simp at h; subst h; simp only [VR] at hv; exact ⟨_, hv⟩
  · simp at h
theorem boundA_rel {x : Option AVal} {v : Option Value} (hr : OptR ρ β x v) {dflt y n : Nat} (h : boundA x dflt y = some n) :
    (x = none ∧ v = none ∧ n = dflt) ∨ (∃ k, v = some (.int k n) ∧ n ≤ y) := by
  cases x with
  | none =>
    cases v with
    | none => simp [boundA] at h; exact .inl ⟨rfl, rfl, h.symm⟩
    | some v => simp [OptR] at hr
  | some x =>
    cases v with
    | none => simp [OptR] at hr
    | some v =>
      simp only [OptR] at hr
      simp only [boundA] at h
      split at h
      · simp at h
      · rename_i i hi
        split at h
        · rename_i hle
          simp at h; subst h
          obtain ⟨k, rfl⟩ := asNat_rel hi hr
          exact .inr ⟨k, rfl, Nat.le_of_ble_eq_true hle⟩
        · simp at h
theorem sliceBound_run (k : IntKind) (n y : Nat) (h : n ≤ y) (code : BoundsCode) (w : World) : (Instr.sliceBound (.int k n) y code).run P w = .ok n w := by
  have : (0 : Int) ≤ n ∧ (n : Int) ≤ y := by omega
  simp [Instr.sliceBound, asIntOf, this]
/-- s[low:high:max] of a slice -/
theorem oSlc_run {x : AVal} {lo hi mx : Option AVal} {r : PRes} {size : Nat} (h : oSlc size x lo hi mx = r) {vx : Value} {vlo vhi vmx : Option Value}
    (hx : VR ρ β x vx) (hlo : OptR ρ β lo vlo) (hhi : OptR ρ β hi vhi) (hmx : OptR ρ β mx vmx) {t elem : TypeId} (ht : P.underlying t = some (.slice elem)) (hs : sizeT P elem = some size)
    (hm : mx.isSome → hi.isSome) (w : World) : ∀ v, r = .val v → ∃ v', (Instr.sliceAt t vx vlo vhi vmx).run P w = .ok v' w ∧ VR ρ β v v' := by
  intro v hv; subst hv
  have hsz := sizeT_run P hs w
  have hat : ∀ y l hh m, (Instr.sliceAt t y l hh m).run P w = (Instr.slice t y l hh m).run P w := by
    intro y l hh m; simp [Instr.sliceAt, run_underlying ht]
  unfold oSlc at h
  split at h
  · rename_i b o len cap es
    simp only [VR] at hx
    obtain ⟨i, off, C, hb, rfl, h1, h2, h3, h4, h5⟩ := hx
    split at h
    · rename_i m0
      split at h
      · simp at h
      · rename_i m hmm
        split at h
        · simp at h
        · rename_i hh hhh
          split at h
          · simp at h
          · rename_i l hl
            simp only [PRes.val.injEq] at h; subst h
            rcases boundA_rel hmx hmm with ⟨e, _⟩ | ⟨km, rfl, hmle⟩
            · simp at e
            rcases boundA_rel hhi hhh with ⟨e, _⟩ | ⟨kh, rfl, hhle⟩
            · have := hm rfl; rw [e] at this; simp at this
            have key : ∃ al, (Instr.sliceAt t (.slice (some ⟨i.cb, off, none⟩) len C) vlo (some (.int kh hh)) (some (.int km m))).run P w =
                .ok (.slice (if m = l then some ⟨i.cb, off, none⟩ else some ((⟨i.cb, off, none⟩ : Addr).add (l * size))) (hh - l) (m - l)) w ∧ l ≤ hh ∧ al = l := by
              rcases boundA_rel hlo hl with ⟨_, rfl, rfl⟩ | ⟨kl, rfl, hlle⟩
              · refine ⟨0, ?_, by omega, rfl⟩
                rw [hat]
                simp [Instr.slice, run_underlying ht, Instr.sliceBounds, sliceBound_run (P := P) km m C (by omega), sliceBound_run (P := P) kh hh m hhle, hsz]
              · refine ⟨l, ?_, hlle, rfl⟩
                rw [hat]
                simp [Instr.slice, run_underlying ht, Instr.sliceBounds, sliceBound_run (P := P) km m C (by omega), sliceBound_run (P := P) kh hh m hhle, sliceBound_run (P := P) kl l hh hlle, hsz]
            obtain ⟨_, key, hlh, _⟩ := key
            refine ⟨_, key, ?_⟩
            simp only [VR]
            refine ⟨i, (if m = l then off else off + l * size), m - l, hb, ?_, by show hh - l ≤ m - l; omega, Nat.le_refl _, fun _ => rfl, ?_, fun e => absurd rfl e⟩
            · congr 1
              by_cases e : m = l
              · simp [e]
              · simp only [e, if_false]
                unfold Addr.add
                by_cases e0 : l * size = 0
                · simp [e0]
                · simp [e0]
            · intro hne
              have : ¬ m = l := by omega
              simp only [this, if_false]
              have := h4 (by omega)
              show off + l * size = i.base + (o + l * size)
              omega
    · split at h
      · simp at h
      · rename_i hh hhh
        split at h
        · simp at h
        · rename_i l hl
          have hmn : vmx = none := by
            cases vmx with
            | none => rfl
            | some _ => simp [OptR] at hmx
          subst hmn
          have key : (Instr.sliceAt t (.slice (some ⟨i.cb, off, none⟩) len C) vlo vhi none).run P w =
              .ok (.slice (if C = l then some ⟨i.cb, off, none⟩ else some ((⟨i.cb, off, none⟩ : Addr).add (l * size))) (hh - l) (C - l)) w ∧ l ≤ hh ∧ hh ≤ cap := by
            rw [hat]
            rcases boundA_rel hhi hhh with ⟨_, rfl, rfl⟩ | ⟨kh, rfl, hhle⟩
            · rcases boundA_rel hlo hl with ⟨_, rfl, rfl⟩ | ⟨kl, rfl, hlle⟩
              · refine ⟨?_, by omega, by omega⟩
                simp [Instr.slice, run_underlying ht, Instr.sliceBounds, hsz]
              · refine ⟨?_, hlle, by omega⟩
                simp [Instr.slice, run_underlying ht, Instr.sliceBounds, sliceBound_run (P := P) kl l _ hlle, hsz]
            · rcases boundA_rel hlo hl with ⟨_, rfl, rfl⟩ | ⟨kl, rfl, hlle⟩
              · refine ⟨?_, by omega, hhle⟩
                simp [Instr.slice, run_underlying ht, Instr.sliceBounds, sliceBound_run (P := P) kh hh C (by omega), hsz]
              · refine ⟨?_, hlle, hhle⟩
                simp [Instr.slice, run_underlying ht, Instr.sliceBounds, sliceBound_run (P := P) kh hh C (by omega), sliceBound_run (P := P) kl l hh hlle, hsz]
          obtain ⟨key, hlh, hhc⟩ := key
          have hv : v = .slice b (o + l * size) (hh - l) (cap - l) es ∧ (es ≠ 0 → es = size) := by
            split at h
            · simp only [PRes.val.injEq] at h; exact ⟨h.symm, fun e => absurd rfl e⟩
            · split at h
              · rename_i he
                simp only [PRes.val.injEq] at h; exact ⟨h.symm, fun _ => Nat.eq_of_beq_eq_true he⟩
              · simp at h
          obtain ⟨rfl, hes⟩ := hv
          refine ⟨_, key, ?_⟩
          simp only [VR]
          refine ⟨i, (if C = l then off else off + l * size), C - l, hb, ?_, by omega, by omega, fun e => by have := h3 e; omega, ?_, ?_⟩
          · congr 1
            by_cases e : C = l
            · simp [e]
            · simp only [e, if_false]
              unfold Addr.add
              by_cases e0 : l * size = 0
              · simp [e0]
              · simp [e0]
          · intro hne
            have : ¬ C = l := by omega
            simp only [this, if_false]
            have := h4 (by omega)
            omega
          · intro ho
            have h5' := h5 ho
            have e := hes ho
            subst e
            by_cases e : C = l
            · simp only [e, if_true, Nat.sub_self, Nat.zero_mul, Nat.add_zero]
              have : off ≤ off + C * es := Nat.le_add_right _ _
              omega
            · simp only [e, if_false]
              have : l * es + (C - l) * es = C * es := by rw [← Nat.add_mul]; congr 1; omega
              omega
  · simp only [VR] at hx; subst hx
    have s0 : ∀ k code, (Instr.sliceBound (.int k 0) 0 code).run P w = .ok 0 w := fun k code => by simpa using sliceBound_run (P := P) k 0 0 (Nat.le_refl _) code w
    split at h
    · simp at h
    · rename_i m hmm
      split at h
      · simp at h
      · rename_i hh hhh
        split at h
        · simp at h
        · rename_i l hl
          simp only [PRes.val.injEq] at h; subst h
          refine ⟨.slice none 0 0, ?_, by simp [VR]⟩
          rw [hat]
          rcases boundA_rel hmx hmm with ⟨_, rfl, rfl⟩ | ⟨km, rfl, hmle⟩
          · rcases boundA_rel hhi hhh with ⟨_, rfl, rfl⟩ | ⟨kh, rfl, hhle⟩
            · rcases boundA_rel hlo hl with ⟨_, rfl, rfl⟩ | ⟨kl, rfl, hlle⟩
              · simp [Instr.slice, run_underlying ht, Instr.sliceBounds, hsz]
              · obtain rfl : l = 0 := by omega
                simp [Instr.slice, run_underlying ht, Instr.sliceBounds, s0, hsz]
            · obtain rfl : hh = 0 := by omega
              rcases boundA_rel hlo hl with ⟨_, rfl, rfl⟩ | ⟨kl, rfl, hlle⟩
              · simp [Instr.slice, run_underlying ht, Instr.sliceBounds, s0, hsz]
              · obtain rfl : l = 0 := by omega
                simp [Instr.slice, run_underlying ht, Instr.sliceBounds, s0, s0, hsz]
          · obtain rfl : m = 0 := by omega
            rcases boundA_rel hhi hhh with ⟨e, rfl, rfl⟩ | ⟨kh, rfl, hhle⟩
            · exfalso
              cases mx with
              | none => simp [OptR] at hmx
              | some _ => have := hm rfl; rw [e] at this; simp at this
            · obtain rfl : hh = 0 := by omega
              rcases boundA_rel hlo hl with ⟨_, rfl, rfl⟩ | ⟨kl, rfl, hlle⟩
              · simp [Instr.slice, run_underlying ht, Instr.sliceBounds, s0, s0, hsz]
              · obtain rfl : l = 0 := by omega
                simp [Instr.slice, run_underlying ht, Instr.sliceBounds, s0, s0, s0, hsz]
  · simp at h
end
end Go.AI
