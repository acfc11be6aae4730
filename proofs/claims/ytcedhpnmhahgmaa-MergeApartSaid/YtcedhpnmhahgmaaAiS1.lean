/- Part of a proof for one law: an interpreter over what is known of values, and that it is right. -/
import Derived.Test.YtcedhpnmhahgmaaAiComp
import Derived.Laws.CopyRow
set_option linter.unusedSimpArgs false
set_option linter.unusedVariables false
set_option linter.constructorNameAsVariable false

namespace Go.AI

/-! ## Places and trees: laws -/
theorem Pos.toNat_inj : ∀ {p q : Pos}, p.toNat = q.toNat → p = q
  | .h, .h, _ => rfl
  | .h, .o q, e => by simp [Pos.toNat] at e
  | .h, .i q, e => by simp [Pos.toNat] at e
  | .o p, .h, e => by simp [Pos.toNat] at e
  | .i p, .h, e => by simp [Pos.toNat] at e
  | .o p, .o q, e => by simp only [Pos.toNat] at e; rw [Pos.toNat_inj (p := p) (q := q) (by omega)]
  | .i p, .i q, e => by simp only [Pos.toNat] at e; rw [Pos.toNat_inj (p := p) (q := q) (by omega)]
  | .o p, .i q, e => by simp only [Pos.toNat] at e; omega
  | .i p, .o q, e => by simp only [Pos.toNat] at e; omega
theorem Pos.toNat_succ : ∀ p : Pos, p.succ.toNat = p.toNat + 1
  | .h => rfl
  | .o p => by simp [Pos.succ, Pos.toNat]
  | .i p => by simp only [Pos.succ, Pos.toNat, Pos.toNat_succ p]; omega
theorem Pos.toNat_ofNatF : ∀ k n, n ≤ k → (Pos.ofNatF k n).toNat = n
  | 0, n, e => by have : n = 0 := by omega
                  subst this; rfl
  | k + 1, 0, _ => rfl
  | k + 1, n + 1, e => by
    simp only [Pos.ofNatF]
    split
    · simp only [Pos.toNat, Pos.toNat_ofNatF k (n / 2) (by omega)]; omega
    · simp only [Pos.toNat, Pos.toNat_ofNatF k (n / 2) (by omega)]; omega
@[simp] theorem Pos.toNat_ofNat (n : Nat) : (Pos.ofNat n).toNat = n := Pos.toNat_ofNatF n n (Nat.le_refl n)
theorem Pos.ofNat_toNat (p : Pos) : Pos.ofNat p.toNat = p := Pos.toNat_inj (by simp)
theorem Pos.beq_iff : ∀ {p q : Pos}, Pos.beq p q = true ↔ p = q
  | .h, .h => by simp [Pos.beq]
  | .h, .o q => by simp [Pos.beq]
  | .h, .i q => by simp [Pos.beq]
  | .o p, .h => by simp [Pos.beq]
  | .i p, .h => by simp [Pos.beq]
  | .o p, .o q => by simp [Pos.beq, Pos.beq_iff (p := p) (q := q)]
  | .i p, .i q => by simp [Pos.beq, Pos.beq_iff (p := p) (q := q)]
  | .o p, .i q => by simp [Pos.beq]
  | .i p, .o q => by simp [Pos.beq]

namespace PT
variable {α : Type}
@[simp] theorem get_lf (p : Pos) : (PT.lf : PT α).get p = none := by cases p <;> rfl
theorem get_sing_self : ∀ (p : Pos) (x : α), (PT.sing p x).get p = some x
  | .h, _ => rfl
  | .o p, x => get_sing_self p x
  | .i p, x => get_sing_self p x
theorem get_sing_ne : ∀ (p q : Pos) (x : α), p ≠ q → (PT.sing p x).get q = none
  | .h, .h, _, h => absurd rfl h
  | .h, .o q, x, _ => by simp [sing, get]
  | .h, .i q, x, _ => by simp [sing, get]
  | .o p, .h, _, _ => rfl
  | .i p, .h, _, _ => rfl
  | .o p, .o q, x, h => get_sing_ne p q x (fun e => h (by rw [e]))
  | .i p, .i q, x, h => get_sing_ne p q x (fun e => h (by rw [e]))
  | .o p, .i q, _, _ => by simp [sing, get]
  | .i p, .o q, _, _ => by simp [sing, get]
theorem get_set_self : ∀ (p : Pos) (x : α) (t : PT α), (PT.set p x t).get p = some x
  | p, x, .lf => by simp only [set]; exact get_sing_self p x
  | .h, _, .nd _ _ _ => rfl
  | .o p, x, .nd l _ _ => get_set_self p x l
  | .i p, x, .nd _ _ r => get_set_self p x r
theorem get_set_ne : ∀ (p q : Pos) (x : α) (t : PT α), p ≠ q → (PT.set p x t).get q = t.get q
  | p, q, x, .lf, h => by simp only [set, get_lf]; exact get_sing_ne p q x h
  | .h, .h, _, .nd _ _ _, h => absurd rfl h
  | .h, .o q, _, .nd _ _ _, _ => rfl
  | .h, .i q, _, .nd _ _ _, _ => rfl
  | .o p, .h, _, .nd _ _ _, _ => rfl
  | .i p, .h, _, .nd _ _ _, _ => rfl
  | .o p, .o q, x, .nd l _ _, h => get_set_ne p q x l (fun e => h (by rw [e]))
  | .i p, .i q, x, .nd _ _ r, h => get_set_ne p q x r (fun e => h (by rw [e]))
  | .o _, .i _, _, .nd _ _ _, _ => rfl
  | .i _, .o _, _, .nd _ _ _, _ => rfl
theorem get_set (p q : Pos) (x : α) (t : PT α) : (PT.set p x t).get q = if q = p then some x else t.get q := by
  split
  · rename_i h; rw [h]; exact get_set_self p x t
  · rename_i h; exact get_set_ne p q x t (fun e => h e.symm)
end PT
theorem AHeap.get_set (h : AHeap) (b : Pos) (o : AObj) (c : Pos) : (h.set b o).get c = if c = b then some o else h.get c := by
  cases h; simp [AHeap.set, AHeap.get, PT.get_set]
theorem AHeap.get_new (h : AHeap) (o : AObj) (c : Pos) : (h.new o).get c = if c = h.next then some o else h.get c := by
  cases h; simp [AHeap.new, AHeap.get, PT.get_set]
@[simp] theorem AHeap.next_set (h : AHeap) (b : Pos) (o : AObj) : (h.set b o).next = h.next := by cases h; rfl
@[simp] theorem AHeap.next_new (h : AHeap) (o : AObj) : (h.new o).next = h.next.succ := by cases h; rfl

/-! ## small words: laws -/
theorem lenL_eq : ∀ l : List AVal, lenL l = l.length
  | [] => rfl
  | _ :: l => by simp [lenL, lenL_eq l]
theorem lenP_eq : ∀ l : List Pos, lenP l = l.length
  | [] => rfl
  | _ :: l => by simp [lenP, lenP_eq l]
theorem lenE_eq : ∀ l : List AEntry, lenE l = l.length
  | [] => rfl
  | _ :: l => by simp [lenE, lenE_eq l]
theorem takeL_eq {α : Type} : ∀ (n : Nat) (l : List α), takeL n l = l.take n
  | 0, l => by simp [takeL]
  | n + 1, [] => by simp [takeL]
  | n + 1, x :: l => by simp [takeL, takeL_eq n l]
theorem dropL_eq {α : Type} : ∀ (n : Nat) (l : List α), dropL n l = l.drop n
  | 0, l => by simp [dropL]
  | n + 1, [] => by simp [dropL]
  | n + 1, x :: l => by simp [dropL, dropL_eq n l]
theorem nth_eq {α : Type} : ∀ (l : List α) (n : Nat), nth l n = l[n]?
  | [], n => by simp [nth]
  | x :: l, 0 => by simp [nth]
  | x :: l, n + 1 => by simp [nth, nth_eq l n]
theorem rep_length (z : List AVal) : ∀ n, (rep z n).length = n * z.length
  | 0 => by simp [rep]
  | n + 1 => by simp [rep, rep_length z n, Nat.succ_mul, Nat.add_comm]
theorem rep_get (z : List AVal) : ∀ n i, i < n * z.length → (rep z n)[i]? = z[i % z.length]?
  | 0, i, h => by simp at h
  | n + 1, i, h => by
    simp only [rep]
    by_cases hi : i < z.length
    · rw [List.getElem?_append_left hi, Nat.mod_eq_of_lt hi]
    · have hz : 0 < z.length := by
        rcases Nat.eq_zero_or_pos z.length with e | e
        · rw [e] at h; simp at h
        · exact e
      rw [List.getElem?_append_right (by omega), rep_get z n (i - z.length) (by rw [Nat.succ_mul] at h; omega)]
      congr 1
      exact (Nat.mod_eq_sub_mod (by omega)).symm

/-! ## what a value stands for -/
structure BInfo where
  cb : Nat
  base : Nat
  size : Nat
abbrev Bm := Pos → Option BInfo
variable (ρ : Nat → Value)

mutual
def VR (β : Bm) : AVal → Value → Prop
  | .bool b, v => v = .bool b
  | .int k n, v => v = .int k n
  | .str s, v => v = .string s
  | .pnil, v => v = .pointer none
  | .ptr b o, v => ∃ i, β b = some i ∧ v = .pointer (some ⟨i.cb, i.base + o, none⟩)
  | .snil, v => v = .slice none 0 0
  | .slice b o len cap es, v => ∃ i off C, β b = some i ∧ v = .slice (some ⟨i.cb, off, none⟩) len C ∧ len ≤ cap ∧ cap ≤ C ∧ (es = 0 → C = cap) ∧ (C ≠ 0 → off = i.base + o) ∧ (es ≠ 0 → off + C * es ≤ i.size ∧ C ≤ 9223372036854775807)
  | .mnil, v => v = .map none
  | .map b, v => ∃ i, β b = some i ∧ v = .map (some i.cb)
  | .fn f a c, v => ∃ a' c', v = .func (.func f.toNat) a' c' ∧ VRs β a a'.toList ∧ VRs β c c'.toList
  | .yield l, v => ∃ i, β l = some i ∧ v = .func (.yield i.cb) #[] #[]
  | .fnil, v => v = .nilFunc
  | .agg cs, v => ∃ cs', v = .agg cs' ∧ VRs β cs cs'.toList ∧ ∀ x ∈ cs'.toList, Value.oneCell' x = true
  | .tuple vs, v => ∃ vs', v = .tuple vs' ∧ VRs β vs vs'.toList
  | .sym i, v => v = ρ i
def VRs (β : Bm) : List AVal → List Value → Prop
  | [], l => l = []
  | x :: xs, l => ∃ y ys, l = y :: ys ∧ VR β x y ∧ VRs β xs ys
end
/-- what is asked of symbols: each is a whole number -/
def SymOk : Prop := ∀ i, (∃ k n, ρ i = .int k n)

def Bm.le (β β' : Bm) : Prop := ∀ b i, β b = some i → β' b = some i
theorem Bm.le_refl (β : Bm) : β.le β := fun _ _ h => h
theorem Bm.le_trans {a b c : Bm} (h : a.le b) (h' : b.le c) : a.le c := fun x i e => h' x i (h x i e)
mutual
theorem VR.mono {β β' : Bm} (hb : β.le β') : ∀ (x : AVal) {v : Value}, VR ρ β x v → VR ρ β' x v
  | .bool _, _, h | .int _ _, _, h | .str _, _, h | .pnil, _, h | .snil, _, h | .mnil, _, h | .fnil, _, h | .sym _, _, h => by simpa only [VR] using h
  | .ptr b o, v, h => by
    simp only [VR] at h ⊢
    obtain ⟨i, h1, h2⟩ := h
    exact ⟨i, hb _ _ h1, h2⟩
  | .slice .., v, h => by
    simp only [VR] at h ⊢
    obtain ⟨i, off, C, h1, h2⟩ := h
    exact ⟨i, off, C, hb _ _ h1, h2⟩
  | .map b, v, h => by
    simp only [VR] at h ⊢
    obtain ⟨i, h1, h2⟩ := h
    exact ⟨i, hb _ _ h1, h2⟩
  | .fn f a c, v, h => by
    simp only [VR] at h ⊢
    obtain ⟨a', c', h1, h2, h3⟩ := h
    exact ⟨a', c', h1, VRs.mono hb a h2, VRs.mono hb c h3⟩
  | .yield l, v, h => by
    simp only [VR] at h ⊢
    obtain ⟨i, h1, h2⟩ := h
    exact ⟨i, hb _ _ h1, h2⟩
  | .agg cs, v, h => by
    simp only [VR] at h ⊢
    obtain ⟨cs', h1, h2, h3⟩ := h
    exact ⟨cs', h1, VRs.mono hb cs h2, h3⟩
  | .tuple vs, v, h => by
    simp only [VR] at h ⊢
    obtain ⟨vs', h1, h2⟩ := h
    exact ⟨vs', h1, VRs.mono hb vs h2⟩
theorem VRs.mono {β β' : Bm} (hb : β.le β') : ∀ (xs : List AVal) {l : List Value}, VRs ρ β xs l → VRs ρ β' xs l
  | [], _, h => by simpa only [VRs] using h
  | x :: xs, l, h => by
    simp only [VRs] at h ⊢
    obtain ⟨y, ys, h1, h2, h3⟩ := h
    exact ⟨y, ys, h1, VR.mono hb x h2, VRs.mono hb xs h3⟩
end

section lists
variable {ρ} {β : Bm}
theorem VRs.nil : VRs ρ β [] [] := by simp [VRs]
theorem VRs.cons {x : AVal} {y : Value} {xs : List AVal} {ys : List Value} (h : VR ρ β x y) (h' : VRs ρ β xs ys) : VRs ρ β (x :: xs) (y :: ys) := by
  simp only [VRs]; exact ⟨y, ys, rfl, h, h'⟩
theorem VRs.nil_inv {l : List Value} (h : VRs ρ β [] l) : l = [] := by simpa [VRs] using h
theorem VRs.cons_inv {x : AVal} {xs : List AVal} {l : List Value} (h : VRs ρ β (x :: xs) l) : ∃ y ys, l = y :: ys ∧ VR ρ β x y ∧ VRs ρ β xs ys := by
  simpa [VRs] using h
theorem VRs.length {xs : List AVal} : ∀ {l : List Value}, VRs ρ β xs l → l.length = xs.length := by
  induction xs with
  | nil => intro l h; simp [VRs.nil_inv h]
  | cons x xs ih => intro l h; obtain ⟨y, ys, rfl, _, h⟩ := VRs.cons_inv h; simp [ih h]
theorem VRs.get {xs : List AVal} : ∀ {l : List Value}, VRs ρ β xs l → ∀ (i : Nat) x, xs[i]? = some x → ∃ y, l[i]? = some y ∧ VR ρ β x y := by
  induction xs with
  | nil => intro l _ i x h; simp at h
  | cons a xs ih =>
    intro l h i x hx
    obtain ⟨y, ys, rfl, hy, h⟩ := VRs.cons_inv h
    cases i with
    | zero => simp at hx; subst hx; exact ⟨y, by simp, hy⟩
    | succ i => simp at hx; obtain ⟨z, hz, hz'⟩ := ih h i x hx; exact ⟨z, by simpa using hz, hz'⟩
theorem VRs.get' {xs : List AVal} {l : List Value} (h : VRs ρ β xs l) (i : Nat) (y : Value) (hy : l[i]? = some y) : ∃ x, xs[i]? = some x ∧ VR ρ β x y := by
  have hl := h.length
  have hi : i < l.length := (List.getElem?_eq_some_iff.1 hy).1
  obtain ⟨z, hz, hz'⟩ := h.get i (xs[i]'(by omega)) (by simp)
  rw [hy] at hz; cases hz
  exact ⟨_, by simp, hz'⟩
theorem VRs.of_get {xs : List AVal} : ∀ {l : List Value}, l.length = xs.length → (∀ (i : Nat) x, xs[i]? = some x → ∃ y, l[i]? = some y ∧ VR ρ β x y) → VRs ρ β xs l := by
  induction xs with
  | nil => intro l h _; simp at h; subst h; exact .nil
  | cons x xs ih =>
    intro l h hg
    cases l with
    | nil => simp at h
    | cons y ys =>
      obtain ⟨z, hz, hz'⟩ := hg 0 x (by simp)
      simp at hz; subst hz
      refine .cons hz' (ih (by simpa using h) fun i x' hx' => ?_)
      obtain ⟨z, hz, hz'⟩ := hg (i + 1) x' (by simpa using hx')
      exact ⟨z, by simpa using hz, hz'⟩
theorem VRs.append {xs xs' : List AVal} : ∀ {l l' : List Value}, VRs ρ β xs l → VRs ρ β xs' l' → VRs ρ β (xs ++ xs') (l ++ l') := by
  induction xs with
  | nil => intro l l' h h'; rw [VRs.nil_inv h]; exact h'
  | cons x xs ih => intro l l' h h'; obtain ⟨y, ys, rfl, hy, h⟩ := VRs.cons_inv h; exact .cons hy (ih h h')
theorem VRs.take {xs : List AVal} : ∀ {l : List Value} (n : Nat), VRs ρ β xs l → VRs ρ β (xs.take n) (l.take n) := by
  induction xs with
  | nil => intro l n h; rw [VRs.nil_inv h]; simp [VRs]
  | cons x xs ih =>
    intro l n h
    obtain ⟨y, ys, rfl, hy, h⟩ := VRs.cons_inv h
    cases n with
    | zero => simp [VRs]
    | succ n => exact .cons hy (ih n h)
theorem VRs.drop {xs : List AVal} : ∀ {l : List Value} (n : Nat), VRs ρ β xs l → VRs ρ β (xs.drop n) (l.drop n) := by
  induction xs with
  | nil => intro l n h; rw [VRs.nil_inv h]; simp [VRs]
  | cons x xs ih =>
    intro l n h
    obtain ⟨y, ys, rfl, hy, h'⟩ := VRs.cons_inv h
    cases n with
    | zero => exact h
    | succ n => exact ih n h'
end lists
theorem VR.undef {β : Bm} : VR ρ β .undef undef := by
  simp only [AVal.undef, VR]; exact ⟨#[], rfl, by simp [VRs]⟩

/-- a value that may lie in memory: its cells -/
theorem cellsC_rel {β : Bm} (hs : SymOk ρ) {x : AVal} {cs : List AVal} {v : Value} (hc : x.cellsC = some cs) (h : VR ρ β x v) :
    VRs ρ β cs v.cells.toList ∧ ∀ y ∈ v.cells.toList, Value.oneCell' y = true := by
  cases x <;> simp only [AVal.cellsC, Option.some.injEq, reduceCtorEq] at hc <;> subst hc
  case agg l =>
    simp only [VR] at h
    obtain ⟨cs', rfl, h2, h3⟩ := h
    exact ⟨h2, h3⟩
  case bool => simp only [VR] at h; subst h; exact ⟨.cons (by simp [VR]) .nil, by simp [Value.cells, Value.oneCell']⟩
  case int => simp only [VR] at h; subst h; exact ⟨.cons (by simp [VR]) .nil, by simp [Value.cells, Value.oneCell']⟩
  case str => simp only [VR] at h; subst h; exact ⟨.cons (by simp [VR]) .nil, by simp [Value.cells, Value.oneCell']⟩
  case pnil => simp only [VR] at h; subst h; exact ⟨.cons (by simp [VR]) .nil, by simp [Value.cells, Value.oneCell']⟩
  case ptr b o =>
    have h' := h
    simp only [VR] at h; obtain ⟨i, _, rfl⟩ := h
    exact ⟨.cons h' .nil, by simp [Value.cells, Value.oneCell']⟩
  case snil => simp only [VR] at h; subst h; exact ⟨.cons (by simp [VR]) .nil, by simp [Value.cells, Value.oneCell']⟩
  case slice =>
    have h' := h
    simp only [VR] at h; obtain ⟨i, off, C, _, rfl, _⟩ := h
    exact ⟨.cons h' .nil, by simp [Value.cells, Value.oneCell']⟩
  case mnil => simp only [VR] at h; subst h; exact ⟨.cons (by simp [VR]) .nil, by simp [Value.cells, Value.oneCell']⟩
  case map =>
    have h' := h
    simp only [VR] at h; obtain ⟨i, _, rfl⟩ := h
    exact ⟨.cons h' .nil, by simp [Value.cells, Value.oneCell']⟩
  case fn =>
    have h' := h
    simp only [VR] at h; obtain ⟨a', c', rfl, _⟩ := h
    exact ⟨.cons h' .nil, by simp [Value.cells, Value.oneCell']⟩
  case yield =>
    have h' := h
    simp only [VR] at h; obtain ⟨i, _, rfl⟩ := h
    exact ⟨.cons h' .nil, by simp [Value.cells, Value.oneCell']⟩
  case fnil => simp only [VR] at h; subst h; exact ⟨.cons (by simp [VR]) .nil, by simp [Value.cells, Value.oneCell']⟩
  case sym i =>
    have h' := h
    simp only [VR] at h; subst h
    obtain ⟨k, n, e⟩ := hs i
    rw [e] at h' ⊢
    exact ⟨.cons h' .nil, by simp [Value.cells, Value.oneCell']⟩

/-! ## constants -/
theorem flat_rel {β : Bm} {v : Value} {x : AVal} (h : flat v = some x) : VR ρ β x v ∧ Value.oneCell' v = true := by
  unfold flat at h
  split at h <;> simp at h <;> subst h <;> simp [VR, Value.oneCell']
theorem mapO_flat_rel {β : Bm} : ∀ {l : List Value} {xs : List AVal}, mapO flat l = some xs → VRs ρ β xs l ∧ ∀ y ∈ l, Value.oneCell' y = true
  | [], xs, h => by simp [mapO] at h; subst h; exact ⟨.nil, by simp⟩
  | v :: l, xs, h => by
    simp only [mapO] at h
    split at h
    · simp at h
    · rename_i y hy
      split at h
      · simp at h
      · rename_i ys hys
        simp at h; subst h
        obtain ⟨h1, h2⟩ := mapO_flat_rel (β := β) hys
        obtain ⟨h3, h4⟩ := flat_rel (ρ := ρ) (β := β) hy
        exact ⟨.cons h3 h1, by intro z hz; rcases List.mem_cons.1 hz with e | e <;> simp_all⟩
theorem ofValue_rel {β : Bm} {v : Value} {x : AVal} (h : ofValue v = some x) : VR ρ β x v := by
  unfold ofValue at h
  split at h
  · rename_i cs
    cases hm : mapO flat cs.toList <;> simp [hm] at h
    subst h
    obtain ⟨h1, h2⟩ := mapO_flat_rel (ρ := ρ) (β := β) hm
    simp only [VR]; exact ⟨cs, rfl, h1, h2⟩
  · rename_i vs
    cases hm : mapO flat vs.toList <;> simp [hm] at h
    subst h
    obtain ⟨h1, h2⟩ := mapO_flat_rel (ρ := ρ) (β := β) hm
    simp only [VR]; exact ⟨vs, rfl, h1⟩
  · rename_i f first captured
    split at h
    · rename_i hc
      simp at hc
      simp at h; subst h
      simp only [VR]
      exact ⟨first, captured, by simp, by simp [hc.1, VRs], by simp [hc.2, VRs]⟩
    · simp at h
  · exact (flat_rel ρ h).1
end Go.AI
