/- Part of a proof for one law: an interpreter over what is known of values, and that it is right. -/
import Derived.Test.YtcedhpnmhahgmaaAiS10
set_option linter.unusedSimpArgs false
set_option linter.unusedVariables false
set_option linter.constructorNameAsVariable false
namespace Go.AI
variable (P : Program) (ρ : Nat → Value)
section
variable {P} {ρ} {E : Env} (hE : EnvOk P ρ E) {β : Bm} {tm : PT AVal} {tmps : Array Value} {h : AHeap} {w : World}

theorem lenA_rel {x : AVal} {n : Nat} (h : lenA x = some n) {v : Value} (hv : VR ρ β x v) : (Builtin.lenOf v) = pure n ∧ ∃ a C, v = .slice a n C ∧ n ≤ C := by
  unfold lenA at h
  split at h
  · simp only [Option.some.injEq] at h; subst h; simp only [VR] at hv; subst hv; exact ⟨rfl, none, 0, rfl, Nat.le_refl _⟩
  · simp only [Option.some.injEq] at h; subst h
    simp only [VR] at hv; obtain ⟨i, off, C, hb, rfl, h1, h2, _⟩ := hv
    exact ⟨rfl, _, _, rfl, by omega⟩
  · simp at h
theorem cellsA_run (hr : HR P ρ β h w) {x : AVal} {v : Value} (hv : VR ρ β x v) {n size len : Nat} {cs : List AVal} (hc : cellsA h size n x = some cs) (hlen : lenA x = some len) (hn : n ≤ len) :
    ∃ l : List Value, (Builtin.firstCells size n v).run P w = .ok l.toArray w ∧ l.length = n * size ∧ VRs ρ β cs l ∧ ∀ y ∈ l, y.oneCell' = true := by
  unfold cellsA at hc
  split at hc
  · split at hc
    · rename_i h0
      have h0 : n = 0 := Nat.eq_of_beq_eq_true h0
      simp only [Option.some.injEq] at hc; subst hc h0
      simp only [VR] at hv; subst hv
      exact ⟨[], by simp [Builtin.firstCells], by simp, VRs.nil, by simp⟩
    · simp at hc
  · rename_i b o len' cap es
    simp only [lenA, Option.some.injEq] at hlen; subst hlen
    split at hc
    · rename_i cs0 t hg
      rw [takeL_eq, dropL_eq] at hc
      simp only at hc
      split at hc
      · rename_i hl
        simp only [Option.some.injEq] at hc; subst hc
        have hl := Nat.eq_of_beq_eq_true hl
        rw [lenL_eq] at hl
        have hl : (List.take (n * size) (List.drop o cs0)).length = n * size := hl
        simp only [VR] at hv
        obtain ⟨i, off, C, hb, rfl, h1, h2, h3, h4, h5⟩ := hv
        by_cases hn0 : n = 0
        · subst hn0
          have e0 : Nat.mul 0 size = 0 := Nat.zero_mul size
          refine ⟨[], by simp [Builtin.firstCells, loadCells, loadCellsFrom], by simp, ?_, by simp⟩
          rw [e0]; simp [VRs]
        · have hoff := h4 (by omega)
          obtain ⟨l, q1, q2, q3, q4⟩ := hr.stretch hb hg o (n * size) hl
          refine ⟨l, run_firstCells_some w size n ⟨i.cb, off, none⟩ _ _ l q1 ?_, q1, q2, q3⟩
          rw [hoff]; exact q4
      · simp at hc
    · simp at hc
  · simp at hc
theorem cellsA_slice {size n o len cap es : Nat} {b : Pos} {old : List AVal} (hold : cellsA h size n (.slice b o len cap es) = some old) :
    ∃ cs t, h.get b = some (.cells cs t) ∧ old = (cs.drop o).take (n * size) ∧ old.length = n * size := by
  have e : cellsA h size n (.slice b o len cap es) = match h.get b with
    | some (.cells cs _) => match takeL (Nat.mul n size) (dropL o cs) with
      | l => match Nat.beq (lenL l) (Nat.mul n size) with
        | true => some l
        | false => none
    | _ => none := rfl
  rw [e] at hold
  split at hold
  · rename_i cs t hg
    rw [takeL_eq, dropL_eq] at hold
    simp only at hold
    split at hold
    · rename_i hl
      simp only [Option.some.injEq] at hold; subst hold
      have hl := Nat.eq_of_beq_eq_true hl
      rw [lenL_eq] at hl
      exact ⟨cs, t, hg, rfl, hl⟩
    · simp at hold
  · simp at hold
theorem append_grow {ts : Array TypeId} {t0 t1 e e1 : TypeId} (h0 : ts[0]? = some t0) (h1 : ts[1]? = some t1) (hu0 : P.underlying t0 = some (.slice e)) (hu1 : P.underlying t1 = some (.slice e1))
    {i : TypeInfo} {z : Value} (hi : P.info? e = some i) (hz : i.zero = some z) (ty : TypeId) {base : Option Addr} {sLen sCap n : Nat} {x : Value} (hx : Builtin.lenOf x = pure n)
    {olds news : List Value} (ho : (Builtin.firstCells i.size sLen (.slice base sLen sCap)).run P w.drew = .ok olds.toArray w.drew)
    (hn : (Builtin.firstCells i.size n x).run P w.drew = .ok news.toArray w.drew)
    (hgrow : sCap < sLen + n) (h63 : ((sLen + n : Nat) : Int) ≤ 9223372036854775807) (hfit : Builtin.nextslicecap (sLen + n) sCap * i.bytes ≤ 281474976710656) :
    (Builtin.append_ ts ty #[.slice base sLen sCap, x]).run P w =
      .ok (.slice (some ⟨w.heap.size, 0, none⟩) (sLen + n) (grownCap w (sLen + n) sCap e))
        (w.drew.alloc (.cells (olds.toArray ++ news.toArray ++ Builtin.zeroCells z.cells (grownCap w (sLen + n) sCap e - (sLen + n))) e)) := by
  have hle : ¬ (sLen + n ≤ sCap) := by omega
  have h63' : ¬ (IntKind.i64.max < ((sLen + n : Nat) : Int)) := by
    show ¬ ((9223372036854775807 : Int) < _); omega
  have hfit' : ¬ (281474976710656 < Builtin.nextslicecap (sLen + n) sCap * i.bytes) := by omega
  have h63'' : ¬ (IntKind.i64.max < (sLen : Int) + (n : Int)) := by
    show ¬ ((9223372036854775807 : Int) < _); omega
  simp [Builtin.append_, h0, h1, run_underlying hu0, run_underlying hu1, sizeOf, typeInfo, zeroValue, hi, hz, hx, hle, h63', h63'', hfit', Question.forced, ho, hn, newRow, grownCap]
  rw [if_neg (by rintro ⟨q, _⟩; omega)]
  rw [show (olds ++ news).toArray = olds.toArray ++ news.toArray by simp, Array.append_assoc]

theorem drew_HR (hr : HR P ρ β h w) : HR P ρ β h w.drew := ⟨hr.rel, hr.inj, hr.lt⟩
/-- the block that append lays -/
theorem append_block (hr : HR P ρ β h w) (hw : HWF h) (hf : β h.next = none) {cs : List AVal} {l : List Value} (hl : VRs ρ β cs l) (h1 : ∀ y ∈ l, y.oneCell' = true)
    {size need cap : Nat} {e : TypeId} (hll : l.length = need * size) (hcap : need ≤ cap) (hcap2 : cap ≤ 9223372036854775807) {z : Array Value} (hz : z.size = size) (hs : size ≠ 0) :
    ∃ β', HR P ρ β' (h.new (.cells cs e)) (w.drew.alloc (.cells (l.toArray ++ Builtin.zeroCells z (cap - need)) e)) ∧ HWF (h.new (.cells cs e)) ∧
      Ext β β' h (h.new (.cells cs e)) w (w.drew.alloc (.cells (l.toArray ++ Builtin.zeroCells z (cap - need)) e)) ∧
      VR ρ β' (.slice h.next 0 need need size) (.slice (some ⟨w.heap.size, 0, none⟩) need cap) := by
  have hsz : (l.toArray ++ Builtin.zeroCells z (cap - need)).size = cap * size := by
    rw [Array.size_append, size_zeroCells, hz, List.size_toArray, hll, ← Nat.add_mul]
    congr 1; omega
  obtain ⟨r1, r2, r3⟩ := new_block (i := ⟨w.heap.size, 0, cap * size⟩) (o := .cells cs e) (w' := w.drew.alloc (.cells (l.toArray ++ Builtin.zeroCells z (cap - need)) e))
    (c := .cells (l.toArray ++ Builtin.zeroCells z (cap - need)) e) hr hw hf rfl (heap_alloc_new w.drew _) (by simp [World.alloc]) (fun k hk => heap_alloc_old w.drew _ k hk)
    (fun _ => by
      refine ⟨_, _, rfl, hsz, ?_, fun k x hx => ?_⟩
      · have := hl.length
        have hle : need * size ≤ cap * size := Nat.mul_le_mul_right _ hcap
        show 0 + cs.length ≤ _
        omega
      · obtain ⟨y, e1, e2⟩ := hl.get k x hx
        have hk := (List.getElem?_eq_some_iff.1 e1).1
        refine ⟨y, ?_, VR.mono ρ (β.le_put hf) _ e2, h1 y (List.mem_of_getElem? e1)⟩
        rw [Nat.zero_add, Array.getElem?_append_left (by simpa using hk)]
        simpa using e1)
    ⟨rfl, rfl, rfl⟩
  refine ⟨_, r1, r2, r3, ?_⟩
  simp only [VR]
  exact ⟨_, 0, cap, Bm.put_self _ _ _, rfl, Nat.le_refl _, hcap, fun e => absurd e hs, fun _ => rfl, fun _ => ⟨by simp, hcap2⟩⟩
theorem roomy_le {n bytes : Nat} (h : roomy n bytes = true) : n * bytes ≤ 140737488355328 ∧ ((n : Nat) : Int) ≤ 9223372036854775807 := by
  have h := Nat.le_of_ble_eq_true h
  have h : n * bytes + n ≤ 1099511627776 := h
  constructor <;> omega
theorem wAppend_run (hr : HR P ρ β h w) (hw : HWF h) {ts : Array TypeId} {t0 t1 e e1 : TypeId} (h0 : ts[0]? = some t0) (h1 : ts[1]? = some t1) (hu0 : P.underlying t0 = some (.slice e)) (hu1 : P.underlying t1 = some (.slice e1))
    (hs : SymOk ρ) {size : Nat} (hsz : sizeT P e = some size) {z : AVal} (hz : zeroT P e = some z) (hzl : z.cellsC.map lenL = some size) (hs0 : size ≠ 0) (ty : TypeId)
    {s x : AVal} {vs vx : Value} (hvs : VR ρ β s vs) (hvx : VR ρ β x vx) {r : AVal} {h' : AHeap} (he : wAppend h size (P.bytesOf e) e s x = .ok r h') (hf : Fresh β h h') :
    ∃ β' v' w', (Builtin.append_ ts ty #[vs, vx]).run P w = .ok v' w' ∧ VR ρ β' r v' ∧ HR P ρ β' h' w' ∧ HWF h' ∧ Ext β β' h h' w w' := by
  obtain ⟨inf, hinf, hisz, zv, hzv, hzvr⟩ : ∃ inf, P.info? e = some inf ∧ inf.size = size ∧ ∃ zv, inf.zero = some zv ∧ ofValue zv = some z := by
    unfold sizeT at hsz
    unfold zeroT at hz
    cases hi : P.info? e with
    | none => simp [hi] at hsz
    | some i =>
      simp [hi] at hsz
      cases hzz : i.zero with
      | none => simp [hi, hzz] at hz
      | some v => simp [hi, hzz] at hz; exact ⟨i, rfl, hsz, v, hzz, hz⟩
  have hby : P.bytesOf e = inf.bytes := by simp [Program.bytesOf, hinf]
  have hzcells : zv.cells.size = size := by
    cases hcc : z.cellsC with
    | none => simp [hcc] at hzl
    | some cs =>
      obtain ⟨q1, _⟩ := cellsC_rel ρ hs hcc (ofValue_rel ρ (β := β) hzvr)
      simp [hcc, lenL_eq] at hzl
      have := q1.length
      simp at this; omega
  unfold wAppend at he
  split at he
  · simp at he
  · rename_i n hn
    obtain ⟨hlx, ax, Cx, evx, hnC⟩ := lenA_rel hn hvx
    split at he
    · -- nothing is appended
      split at he
      · rename_i sl hsl
        simp only [ORes.ok.injEq] at he; obtain ⟨rfl, rfl⟩ := he
        obtain ⟨hls, a, C, evs, hslC⟩ := lenA_rel hsl hvs
        subst evs
        refine ⟨β, .slice a sl C, w, ?_, hvs, hr, hw, Ext.refl _ _ _⟩
        have hfc : (Builtin.firstCells size 0 vx).run P w = .ok #[] w := by
          subst evx
          cases ax <;> simp [Builtin.firstCells, loadCells, loadCellsFrom]
        simp [Builtin.append_, h0, h1, run_underlying hu0, run_underlying hu1, sizeOf, typeInfo, hinf, hisz, hlx, hslC, hfc]
        cases a <;> simp [storeCells]
      · simp at he
    · rename_i n'
      split at he
      · simp at he
      · rename_i new hnew
        have hnew' : ∃ l : List Value, (Builtin.firstCells size (n' + 1) vx).run P w = .ok l.toArray w ∧ l.length = (n' + 1) * size ∧ VRs ρ β new l ∧ ∀ y ∈ l, y.oneCell' = true :=
          cellsA_run hr hvx hnew hn (Nat.le_refl _)
        split at he
        · -- the nil slice
          split at he
          · rename_i hroom
            simp only [ORes.ok.injEq] at he; obtain ⟨rfl, rfl⟩ := he
            simp only [VR] at hvs; subst hvs
            obtain ⟨q1, q2⟩ := roomy_le hroom
            obtain ⟨l, l1, l2, l3, l4⟩ := cellsA_run (drew_HR hr) hvx hnew hn (Nat.le_refl _)
            have happ := append_grow (P := P) (w := w) h0 h1 hu0 hu1 hinf hzv ty (base := none) (sLen := 0) (sCap := 0) hlx (olds := []) (news := l)
              (by simp [Builtin.firstCells, loadCells, loadCellsFrom]) (by rw [hisz]; exact l1) (by omega) (by simpa using q2)
              (by rw [Nat.zero_add]; exact growslice_fits (by omega) (by rw [← hby]; exact q1))
            have hge := grownCap_ge w (0 + (n' + 1)) 0 e
            have hge2 := grownCap_le_maxLen w (n' + 1) 0 e (by
              have q3 : ((n' + 1 : Nat) : Int) ≤ 9223372036854775807 := q2
              have q4 : n' + 1 ≤ 9223372036854775807 := by omega
              exact q4)
            rw [Nat.zero_add] at hge happ
            obtain ⟨β', r1, r2, r3, r4⟩ := append_block hr hw (hf h.next (Nat.le_refl _) (by simp [Pos.toNat_succ])) l3 l4 (size := size) (need := n' + 1) (cap := grownCap w (n' + 1) 0 e) (e := e) l2 hge hge2 hzcells hs0
            refine ⟨β', _, _, happ, r4, ?_, r2, ?_⟩
            · simpa using r1
            · simpa using r3
          · simp at he
        · rename_i b o len cap es
          have hvs0 := hvs
          simp only [VR] at hvs
          obtain ⟨i, off, C, hb, rfl, g1, g2, g3, g4, g5⟩ := hvs
          split at he
          · -- there is room, surely
            rename_i hle
            have hle : len + (n' + 1) ≤ cap := Nat.le_of_ble_eq_true hle
            unfold ofH at he
            split at he
            · simp at he
            · rename_i h2 hst
              simp only [ORes.ok.injEq] at he; obtain ⟨rfl, rfl⟩ := he
              obtain ⟨l, l1, l2, l3, l4⟩ := hnew'
              have hoff := g4 (by omega)
              obtain ⟨w', s1, s2, s3, s4⟩ := storeA_run hr hw hb hst l3 l4
              refine ⟨β, .slice (some ⟨i.cb, off, none⟩) (len + (n' + 1)) C, w', ?_, ?_, s2, s3, s4⟩
              · have hneed : len + (n' + 1) ≤ C := by omega
                have hadd : (⟨i.cb, off, none⟩ : Addr).add (len * size) = ⟨i.cb, i.base + (o + len * size), none⟩ := by rw [addr_add, hoff, Nat.add_assoc]
                have s1' : (storeCells ⟨i.cb, i.base + (o + len * size), none⟩ l).run P w = .ok () w' := s1
                simp [Builtin.append_, h0, h1, run_underlying hu0, run_underlying hu1, sizeOf, typeInfo, hinf, hisz, hlx, hneed, l1, hadd, s1']
              · simp only [VR]
                exact ⟨i, off, C, hb, rfl, hle, g2, g3, g4, g5⟩
          · rename_i hnle
            have hnle' : ¬ len + (n' + 1) ≤ cap := by
              intro e'; rw [Nat.ble_eq_true_of_le (show Nat.add len (n' + 1) ≤ cap from e')] at hnle; exact absurd hnle (by simp)
            have hoff : ∀ (hC : C ≠ 0), off = i.base + o := g4
            -- it grows
            have grow : ∀ (old : List AVal), cellsA h size len (.slice b o len cap es) = some old → roomy (len.add n'.succ) (P.bytesOf e) = true → C < len + (n' + 1) → β h.next = none →
                ∀ hk : AHeap, HR P ρ β hk w → HWF hk → hk.next = h.next → Ext β β h hk w w →
                ∃ β' v' w', (Builtin.append_ ts ty #[.slice (some ⟨i.cb, off, none⟩) len C, vx]).run P w = .ok v' w' ∧ VR ρ β' (.slice h.next 0 (len + (n' + 1)) (len + (n' + 1)) size) v' ∧
                  HR P ρ β' (hk.new (.cells (old ++ new) e)) w' ∧ HWF (hk.new (.cells (old ++ new) e)) ∧ Ext β β' h (hk.new (.cells (old ++ new) e)) w w' := by
              intro old hold hroom hCn hfr hk k1 k2 k3 k4
              obtain ⟨q1, q2⟩ := roomy_le hroom
              obtain ⟨lo, lo1, lo2, lo3, lo4⟩ := cellsA_run (drew_HR hr) hvs0 hold (n := len) (len := len) rfl (Nat.le_refl _)
              obtain ⟨l, l1, l2, l3, l4⟩ := cellsA_run (drew_HR hr) hvx hnew hn (Nat.le_refl _)
              have happ := append_grow (P := P) (w := w) h0 h1 hu0 hu1 hinf hzv ty (base := some ⟨i.cb, off, none⟩) (sLen := len) (sCap := C) hlx (olds := lo) (news := l)
                (by rw [hisz]; exact lo1) (by rw [hisz]; exact l1) hCn q2 (growslice_fits hCn (by rw [← hby]; exact q1))
              have hge := grownCap_ge w (len + (n' + 1)) C e
              have hge2 := grownCap_le_maxLen w (len + (n' + 1)) C e (by
                have q3 : ((len + (n' + 1) : Nat) : Int) ≤ 9223372036854775807 := q2
                have q4 : len + (n' + 1) ≤ 9223372036854775807 := by omega
                exact q4)
              obtain ⟨β', r1, r2, r3, r4⟩ := append_block k1 k2 (by rw [k3]; exact hfr) (lo3.append l3) (fun y hy => by rcases List.mem_append.1 hy with q | q; exact lo4 y q; exact l4 y q)
                (size := size) (need := len + (n' + 1)) (cap := grownCap w (len + (n' + 1)) C e) (e := e) (by rw [List.length_append, lo2, l2, ← Nat.add_mul]) hge hge2 hzcells hs0
              rw [k3] at r4
              refine ⟨β', _, _, happ, r4, ?_, r2, ?_⟩
              · simpa using r1
              · exact k4.trans (by simpa using r3)
            split at he
            · -- the capacity is what it says
              have hC := g3 rfl
              unfold growA at he
              split at he
              · simp at he
              · rename_i old hold
                split at he
                · rename_i hroom
                  simp only [ORes.ok.injEq] at he; obtain ⟨rfl, rfl⟩ := he
                  exact grow old hold hroom (by omega) (hf h.next (Nat.le_refl _) (by simp [Pos.toNat_succ])) h hr hw rfl (Ext.refl _ _ _)
                · simp at he
            · rename_i es'
              split at he
              · simp at he
              · rename_i hes
                have hes := Nat.eq_of_beq_eq_true hes
                unfold growA at he
                split at he
                · simp at he
                · rename_i old hold
                  split at he
                  · rename_i hroom
                    simp only [ORes.ok.injEq] at he; obtain ⟨rfl, rfl⟩ := he
                    have hfr := hf h.next (Nat.le_refl _) (by simp [Pos.toNat_succ])
                    have hlive := cellsA_slice hold
                    obtain ⟨cs, t, hg, hold', holdl⟩ := hlive
                    obtain ⟨k1, k2, k3⟩ := kill_block hr hw hb hg rfl
                    by_cases hCn : C < len + (n' + 1)
                    · exact grow old hold hroom hCn hfr (h.set b .dead) k1 k2 (by simp) k3
                    · -- in place
                      obtain ⟨l, l1, l2, l3, l4⟩ := hnew'
                      have ho := g4 (by omega)
                      have hbd := (g5 (by simp)).1
                      have hbd2 := (g5 (by simp)).2
                      obtain ⟨c, t', c1, c2, c3, c4⟩ := hr.cells hb hg
                      have hmul : (len + (n' + 1)) * size ≤ C * size := Nat.mul_le_mul_right _ (by omega)
                      rw [Nat.add_mul] at hmul
                      have hbd' : off + C * size ≤ c.size := by rw [c2, ← hes]; exact hbd
                      have hst := run_storeCells_at P i.cb (off + len * size) t' l 0 c w c1 (by omega) l4
                      simp only [Nat.add_zero] at hst
                      have hadd : (⟨i.cb, off, none⟩ : Addr).add (len * size) = ⟨i.cb, off + len * size, none⟩ := addr_add _ _ _
                      obtain ⟨r1, r2, r3⟩ := move_block (j := ⟨i.cb, off, i.size⟩) (o' := .cells (old ++ new) e) hr hw hfr hb hg rfl rfl (setRow_heap w i.cb c (c.toList.take (off + len * size) ++ l ++ c.toList.drop (off + len * size + l.length)).toArray t' (0, 0) c1) (setRow_size w _ _) (fun k hk => setRow_other w _ _ k hk)
                        (by
                          have hnl := l3.length
                          refine ⟨_, _, rfl, by simp; omega, by simp; omega, fun k x hx => ?_⟩
                          have hct : (c.toList.take (off + len * size)).length = off + len * size := by simp; omega
                          by_cases hk : k < len * size
                          · rw [List.getElem?_append_left (by omega), hold', List.getElem?_take_of_lt hk, List.getElem?_drop] at hx
                            obtain ⟨v, e1, e2, e3⟩ := c4 _ x hx
                            refine ⟨v, ?_, VR.mono ρ (β.le_put hfr) _ e2, e3⟩
                            simp only [List.getElem?_toArray, List.append_assoc]
                            rw [List.getElem?_append_left (by omega), List.getElem?_take_of_lt (by omega)]
                            rw [ho, Nat.add_assoc]
                            simpa using e1
                          · rw [List.getElem?_append_right (by omega)] at hx
                            obtain ⟨v, e1, e2⟩ := l3.get _ x hx
                            have hkl := (List.getElem?_eq_some_iff.1 e1).1
                            refine ⟨v, ?_, VR.mono ρ (β.le_put hfr) _ e2, l4 v (List.mem_of_getElem? e1)⟩
                            simp only [List.getElem?_toArray, List.append_assoc]
                            rw [List.getElem?_append_right (by omega), hct, List.getElem?_append_left (by omega)]
                            rw [← e1]; congr 1; omega)
                        ⟨rfl, rfl, rfl⟩
                      refine ⟨β.put h.next ⟨i.cb, off, i.size⟩, .slice (some ⟨i.cb, off, none⟩) (len + (n' + 1)) C, _, ?_, ?_, r1, r2, r3⟩
                      · have hneed : len + (n' + 1) ≤ C := by omega
                        simp [Builtin.append_, h0, h1, run_underlying hu0, run_underlying hu1, sizeOf, typeInfo, hinf, hisz, hlx, hneed, l1, hadd, hst]
                      · simp only [VR]
                        refine ⟨_, off, C, Bm.put_self _ _ _, rfl, Nat.le_refl _, by show len + (n' + 1) ≤ C; omega, fun e => absurd e hs0, fun _ => rfl, fun _ => ?_⟩
                        exact ⟨by show off + C * size ≤ i.size; omega, hbd2⟩
                  · simp at he
        · simp at he
end
end Go.AI
