/- The abstract machine, part 7: memory operations are met by the model's. Conditions: none. -/
import Derived.Test.YtfaeabhbeolpgaaGreatDoorMa3
import Derived.IntWalk
set_option linter.all false
noncomputable section
namespace Go.Am

section
variable {P : Program} {G : Nat → Option Nat} {ι : Gh} {h : Hp} {w : World} {tm : List AVal} {ρ : Operand → Value}

theorem heap_alloc_new (w : World) (O : Go.Obj) : (w.alloc O).heap[w.heap.size]? = some O := by
  show (w.heap.push O)[w.heap.size]? = some O
  simp

theorem objOK_core {t : Tree (List AVal)} {z : List AVal} {k n : Nat} (hE : ElemsOK t z k) {C : List Value}
    (hget : ∀ j, j < n * k → ∃ v V, cellAt' t z k j = some v ∧ C[j]? = some V ∧ VR ι v V) {b : Nat} {w' : World} {el : TypeId} {fz : Nat × Nat} (hb : w'.heap[b]? = some (.cells ⟨C⟩ el fz)) (e : Nat) (he : e ≤ C.length) (hne : n * k ≤ e)
    (hfz : fz = (0, 0) ∨ C.length ≤ fz.1) : ObjOK ι (.cells t z k n true) ⟨b, 0, k, e⟩ w' := by
  have hlt : b < w'.heap.size := by
    rcases Nat.lt_or_ge b w'.heap.size with h' | h'
    · exact h'
    · rw [Array.getElem?_eq_none h'] at hb; cases hb
  refine ⟨hlt, hE, rfl, fun j hj => ?_, fun _ => ⟨⟨C⟩, el, fz, hb, he, by simpa using hne, by simpa using hfz⟩⟩
  obtain ⟨v, V, h1, h2, h3⟩ := hget j hj
  exact ⟨v, V, h1, by simp only [World.cell?, hb]; simpa using h2, h3⟩

theorem objOK_new {t : Tree (List AVal)} {z : List AVal} {k n : Nat} {vals : List AVal} {Vals : List Value} (hE : ElemsOK t z k) (hv : VRL ι vals Vals) (hl : vals.length = n * k)
    (hc : ∀ j, j < n * k → cellAt' t z k j = vals[j]?) (C : List Value) (el : TypeId) (fz : Nat × Nat) (hC : ∀ (j : Nat) (V : Value), Vals[j]? = some V → C[j]? = some V) (e : Nat) (he : e ≤ C.length) (hne : n * k ≤ e)
    (hfz : fz = (0, 0) ∨ C.length ≤ fz.1) : ObjOK ι (.cells t z k n true) ⟨w.heap.size, 0, k, e⟩ (w.alloc (.cells ⟨C⟩ el fz)) := by
  refine objOK_core hE (fun j hj => ?_) (heap_alloc_new w _) e he hne hfz
  have h1 : vals[j]? = some (vals[j]'(by omega)) := by simp
  obtain ⟨V, h2, h3⟩ := hv.get j h1
  exact ⟨_, V, by rw [hc j hj, h1], hC j V h2, h3⟩

theorem elemsOK_leaf (z : List AVal) : ElemsOK .leaf z z.length := ⟨rfl, fun e => by simp [elemAt, Tree.get_leaf]⟩
theorem cellAt_leaf (z : List AVal) (k j : Nat) : cellAt' .leaf z k j = z[j % k]? := by simp [cellAt', elemAt, Tree.get_leaf, nth_eq]

theorem RSim.val {v : AVal} {h' : Hp} {R : Result Next} {ι' : Gh} {w' : World} {V : Value} (a : Rel G ι' h' w') (b : Fr ι h w ι' h' w') (c : VR ι' v V) (d : R = .ok (.value V) w') : RSim P G ι h w (.val v h') R :=
  ⟨ι', w', V, a, b, c, .inl d⟩
theorem RSim.same (R : Rel G ι h w) {v : AVal} {V : Value} {r : Result Next} (c : VR ι v V) (d : r = .ok (.value V) w) : RSim P G ι h w (.val v h) r := .val R (Fr.refl _ _ _) c d

/-! ### New blocks -/
/-- A run makes a new block, met by an abstract one of any key. -/
def NewR (ι : Gh) (w : World) (ob : Obj) (v : Nat → AVal) (r : Result Next) : Prop :=
  ∃ i w' V, i.b = w.heap.size ∧ w'.heap.size = w.heap.size + 1 ∧ (∀ B, B < w.heap.size → w'.heap[B]? = w.heap[B]?) ∧ (w'.os = w.os ∧ w'.tape = w.tape ∧ w'.output = w.output) ∧ ObjOK ι ob i w' ∧
    (∀ (ι' : Gh) k, ι' k = some i → VR ι' (v k) V) ∧ r = .ok (.value V) w'
theorem NewR.of_alloc {ob : Obj} {v : Nat → AVal} {r : Result Next} (O : Go.Obj) (i : Inf) (V : Value) (hb : i.b = w.heap.size) (ho : ObjOK ι ob i (w.alloc O)) (hv : ∀ (ι' : Gh) k, ι' k = some i → VR ι' (v k) V) (hr : r = .ok (.value V) (w.alloc O)) : NewR ι w ob v r :=
  ⟨i, w.alloc O, V, hb, by simp, fun B hB => heap_alloc_lt w O hB, ⟨rfl, rfl, rfl⟩, ho, hv, hr⟩
theorem RSim.of_new (R : Rel G ι h w) {ob : Obj} {v : Nat → AVal} {r : Result Next} (x : NewR ι w ob v r) : RSim P G ι h w (.val (v h.next) (h.new ob)) r := by
  obtain ⟨i, w', V, h1, h2, h3, ⟨h4, h5, h6⟩, h7, h8, h9⟩ := x
  obtain ⟨r1, r2⟩ := rel_new' R ob i h1 h2 h3 h4 h5 h6 h7
  exact .val r1 r2 (h8 _ _ (Gh.ext_same _ _ _)) h9

theorem sim_mov (R : Rel G ι h w) (ho : OpR G ι tm ρ) {x : Operand} {a : AOpd} (e : copd G x = some a) {o : Oper} (hop : o.op = .move x ∨ o.op = .assign x) :
    RSim P G ι h w (.val (opd tm a) h) ((execOp ρ o).run P w) := by
  refine .same R (ho.one e) ?_
  rcases hop with hop | hop <;> simp [execOp, hop]

theorem new_alloc {t : TypeId} {z : List AVal} (e : zeroP P t = some z) {o : Oper} (hop : o.op = .alloc t) :
    NewR ι w (.cells .leaf z (ln z) 1 true) (.ptr · 0) ((execOp ρ o).run P w) := by
  obtain ⟨V, h1, h2⟩ := zeroP_some e
  rw [ln_eq]
  have hv := h2 ι
  refine .of_alloc (.cells ⟨V.cells.toList⟩ t) ⟨w.heap.size, 0, z.length, V.cells.toList.length⟩ (.pointer (some ⟨w.heap.size, 0, none⟩)) rfl
    (objOK_new (elemsOK_leaf z) hv (by simp) (fun j hj => by rw [cellAt_leaf, Nat.mod_eq_of_lt (by omega)]) _ _ _ (fun _ _ x => x) _ (Nat.le_refl _) (by rw [← hv.length]; omega) (.inl rfl)) (fun ι' k hk => by simp only [VR]; exact ⟨_, hk, by simp⟩) ?_
  simp [execOp, hop, Instr.alloc, h1, newVar, newRow]

theorem sim_alloc (R : Rel G ι h w) {t : TypeId} {z : List AVal} (e : zeroP P t = some z) {o : Oper} (hop : o.op = .alloc t) :
    RSim P G ι h w (.val (.ptr h.next 0) (h.new (.cells .leaf z (ln z) 1 true))) ((execOp ρ o).run P w) := .of_new R (new_alloc e hop)

theorem new_box (ho : OpR G ι tm ρ) {x : Operand} {a : AOpd} (e : copd G x = some a) {t : TypeId} {o : Oper} (hop : o.op = .box t x) :
    NewR ι w (.cells .leaf (cellsOf (opd tm a)) (ln (cellsOf (opd tm a))) 1 true) (.ptr · 0) ((execOp ρ o).run P w) := by
  have hv := (ho.one e).cells
  generalize hz : cellsOf (opd tm a) = z at hv ⊢
  rw [ln_eq]
  refine .of_alloc (.cells ⟨(ρ x).cells.toList⟩ t) ⟨w.heap.size, 0, z.length, (ρ x).cells.toList.length⟩ (.pointer (some ⟨w.heap.size, 0, none⟩)) rfl
    (objOK_new (elemsOK_leaf z) hv (by simp) (fun j hj => by rw [cellAt_leaf, Nat.mod_eq_of_lt (by omega)]) _ _ _ (fun _ _ x => x) _ (Nat.le_refl _) (by rw [← hv.length]; omega) (.inl rfl)) (fun ι' k hk => by simp only [VR]; exact ⟨_, hk, by simp⟩) ?_
  simp [execOp, hop, Instr.box, newVar, newRow]

theorem sim_box (R : Rel G ι h w) (ho : OpR G ι tm ρ) {x : Operand} {a : AOpd} (e : copd G x = some a) {t : TypeId} {o : Oper} (hop : o.op = .box t x) :
    RSim P G ι h w (.val (.ptr h.next 0) (h.new (.cells .leaf (cellsOf (opd tm a)) (ln (cellsOf (opd tm a))) 1 true))) ((execOp ρ o).run P w) := .of_new R (new_box ho e hop)

/-! ### Loads -/
theorem exists_list {p : Nat → Value → Prop} : ∀ (m : Nat), (∀ j, j < m → ∃ V, p j V) → ∃ L : List Value, L.length = m ∧ ∀ (j : Nat) (V : Value), L[j]? = some V → p j V
  | 0, _ => ⟨[], rfl, fun j V x => by simp at x⟩
  | m + 1, x => by
    obtain ⟨L, h1, h2⟩ := exists_list m (fun j hj => x j (by omega))
    obtain ⟨V, hV⟩ := x m (by omega)
    refine ⟨L ++ [V], by simp [h1], fun j W hj => ?_⟩
    rw [List.getElem?_append] at hj
    split at hj
    · exact h2 j W hj
    · next hlt =>
      have : j = m := by
        have := (List.getElem?_eq_some_iff.1 hj).1
        simp at this; omega
      subst this
      simp [h1] at hj; subst hj; exact hV

theorem load_one {ob : Obj} {i : Inf} {o : Nat} {v : AVal} (hO : ObjOK ι ob i w) (e : rd1 ob o = some v) : ∃ V, w.cell? ⟨i.b, o + i.d, none⟩ = some V ∧ VR ι v V := by
  cases ob with
  | map es => simp [rd1] at e
  | cells t z k n ow =>
    simp only [rd1] at e
    split at e
    · next hlt =>
      have hlt : o < n * k := by simpa [Nat.blt, Nat.lt_iff_add_one_le] using hlt
      obtain ⟨v', V, h1, h2, h3⟩ := hO.2.2.2.1 o hlt
      rw [e] at h1; cases h1
      exact ⟨V, h2, h3⟩
    · cases e

theorem load_many {ob : Obj} {i : Inf} {o m : Nat} {l : List AVal} (hO : ObjOK ι ob i w) (e : rd ob o m = some l) :
    ∃ L : List Value, L.length = m ∧ VRL ι l L ∧ ∀ (j : Nat) (V : Value), L[j]? = some V → w.cell? ⟨i.b, o + i.d + j, none⟩ = some V := by
  cases ob with
  | map es => simp [rd] at e
  | cells t z k n ow =>
    obtain ⟨h1, h2, h3⟩ := rd_ok hO.2.1 e
    have hp : ∀ j, j < m → ∃ V, w.cell? ⟨i.b, o + i.d + j, none⟩ = some V ∧ ∀ v, l[j]? = some v → VR ι v V := by
      intro j hj
      obtain ⟨v, V, k1, k2, k3⟩ := hO.2.2.2.1 (o + j) (by omega)
      refine ⟨V, by rw [show o + i.d + j = o + j + i.d from by omega]; exact k2, fun v' hv' => ?_⟩
      rw [h3 j hj, k1] at hv'; cases hv'; exact k3
    obtain ⟨L, k1, k2⟩ := exists_list m hp
    refine ⟨L, k1, VRL.of_get (by omega) fun n v hv => ?_, fun j V hj => (k2 j V hj).1⟩
    have hn : n < m := by have := (List.getElem?_eq_some_iff.1 hv).1; omega
    have : L[n]? = some (L[n]'(by omega)) := by simp
    exact ⟨_, this, (k2 n _ this).2 v hv⟩

theorem VR.ptr_inv {g o : Nat} {V : Value} (x : VR ι (.ptr g o) V) : ∃ i, ι g = some i ∧ V = .pointer (some ⟨i.b, o + i.d, none⟩) := by simpa only [VR] using x

theorem sim_load1 (R : Rel G ι h w) (ho : OpR G ι tm ρ) {x : Operand} {a : AOpd} (e : copd G x = some a) {t : TypeId} {o : Oper} (hop : o.op = .load t x) (ht : aggP P t = some false)
    {g of : Nat} (hp : opd tm a = .ptr g of) {ob : Obj} (hg : h.m.get g = some ob) {v : AVal} (hr : rd1 ob of = some v) :
    RSim P G ι h w (.val v h) ((execOp ρ o).run P w) := by
  have hx := ho.one e
  rw [hp] at hx
  obtain ⟨i, h1, h2⟩ := hx.ptr_inv
  obtain ⟨i', h3, h4⟩ := R.ob g ob hg
  rw [h1] at h3; cases h3
  obtain ⟨V, h5, h6⟩ := load_one h4 hr
  refine .same R h6 ?_
  simp [execOp, hop, Instr.loadAt, Instr.sureAddr, h2, loadVar, run_isAgg' ht, h5]

theorem sim_loadN (R : Rel G ι h w) (ho : OpR G ι tm ρ) {x : Operand} {a : AOpd} (e : copd G x = some a) {t : TypeId} {o : Oper} (hop : o.op = .load t x) (ht : aggP P t = some true)
    {m : Nat} (hm : szP P t = some m)
    {g of : Nat} (hp : opd tm a = .ptr g of) {ob : Obj} (hg : h.m.get g = some ob) {l : List AVal} (hr : rd ob of m = some l) :
    RSim P G ι h w (.val (.agg l) h) ((execOp ρ o).run P w) := by
  have hx := ho.one e
  rw [hp] at hx
  obtain ⟨i, h1, h2⟩ := hx.ptr_inv
  obtain ⟨i', h3, h4⟩ := R.ob g ob hg
  rw [h1] at h3; cases h3
  obtain ⟨L, k1, k2, k3⟩ := load_many h4 hr
  refine .same R (V := .agg ⟨L⟩) (by simp only [VR]; exact ⟨L, rfl, k2⟩) ?_
  simp [execOp, hop, Instr.loadAt, Instr.sureAddr, h2, loadVar, run_isAgg' ht, run_sizeOf' hm, run_loadCells P w i.b (of + i.d) m L k1 k3]

/-! ### Stores -/
theorem elemAt_put (t : Tree (List AVal)) (z x : List AVal) (e e' : Nat) : elemAt (t.put e (some x)) z e' = if e' = e then x else elemAt t z e' := by
  unfold elemAt
  rw [Tree.get_put]
  by_cases h : e' = e <;> simp [h]

theorem ElemsOK.put {t : Tree (List AVal)} {z : List AVal} {k : Nat} (hE : ElemsOK t z k) (e : Nat) {x : List AVal} (hx : x.length = k) : ElemsOK (t.put e (some x)) z k :=
  ⟨hE.1, fun e' => by
    rw [elemAt_put]
    by_cases hh : e' = e
    · rw [if_pos hh]; exact hx
    · rw [if_neg hh]; exact hE.2 e'⟩

theorem writeFrom_ok {z : List AVal} {k : Nat} (hk : 0 < k) : ∀ (l : List AVal) (t : Tree (List AVal)) (o : Nat), ElemsOK t z k →
    ElemsOK (writeFrom t z k l o) z k ∧ ∀ j, cellAt' (writeFrom t z k l o) z k j = if o ≤ j ∧ j < o + l.length then l[j - o]? else cellAt' t z k j
  | [], t, o, hE => ⟨hE, fun j => by
      have : ¬ (o ≤ j ∧ j < o) := by omega
      simp [writeFrom, this]⟩
  | v :: l, t, o, hE => by
    have hE' : ElemsOK (t.put (o / k) (some (setN (elemAt t z (o / k)) (o % k) v))) z k := hE.put _ (by rw [setN_eq]; simpa using hE.2 _)
    obtain ⟨h1, h2⟩ := writeFrom_ok hk l _ (o + 1) hE'
    refine ⟨h1, fun j => ?_⟩
    rw [writeFrom, h2 j]
    simp only [List.length_cons]
    by_cases e : o + 1 ≤ j ∧ j < o + 1 + l.length
    · rw [if_pos e, if_pos (by omega), show j - o = (j - (o + 1)) + 1 from by omega]; simp
    · rw [if_neg e]
      simp only [cellAt', elemAt_put, nth_eq, setN_eq]
      by_cases e2 : j = o
      · subst e2
        have : j % k < (elemAt t z (j / k)).length := by rw [hE.2]; exact Nat.mod_lt _ hk
        simp [this]
      · rw [if_neg (show ¬ (o ≤ j ∧ j < o + (l.length + 1)) by omega)]
        split
        · next hd =>
          have hne : o % k ≠ j % k := by
            intro hm
            have a1 := Nat.div_add_mod o k
            have a2 := Nat.div_add_mod j k
            rw [hd, ← hm] at a2
            omega
          rw [List.getElem?_set_ne hne, hd]
        · rfl

theorem wr_ok {ob ob' : Obj} {o : Nat} {l : List AVal} (e : wr ob o l = some ob') : ∃ t z k n t', ob = .cells t z k n true ∧ ob' = .cells t' z k n true ∧ o + l.length ≤ n * k ∧ ones l = true ∧
    (ElemsOK t z k → ElemsOK t' z k ∧ ∀ j, cellAt' t' z k j = if o ≤ j ∧ j < o + l.length then l[j - o]? else cellAt' t z k j) := by
  unfold wr at e
  split at e
  · next t z k n =>
    simp only [ln_eq] at e
    split at e
    · next hc =>
      simp only [Bool.and_eq_true] at hc
      have hle := Nat.le_of_ble_eq_true hc.1
      split at e
      · next hw =>
        simp only [Bool.and_eq_true] at hw
        have hm := Nat.eq_of_beq_eq_true hw.1
        have hz := Nat.eq_of_beq_eq_true hw.2
        cases e
        refine ⟨t, z, k, n, _, rfl, rfl, hle, hc.2, fun hE => ⟨hE.put _ hm, fun j => ?_⟩⟩
        simp only [cellAt', elemAt_put, nth_eq]
        obtain ⟨q, hq⟩ : ∃ q, o = k * q := ⟨o / k, by have := Nat.div_add_mod o k; rw [hz] at this; simpa using this.symm⟩
        subst hq
        rcases Nat.eq_zero_or_pos k with rfl | hk
        · have hl : l = [] := List.length_eq_zero_iff.1 hm
          subst hl
          have : ¬ (0 * q ≤ j ∧ j < 0 * q + 0) := by omega
          simp only [List.length_nil, this, if_false]
          have : elemAt t z (j / 0) = [] := List.length_eq_zero_iff.1 (hE.2 _)
          split <;> simp_all
        · rw [Nat.mul_div_cancel_left _ hk]
          by_cases e2 : j / k = q
          · have hj := Nat.div_add_mod j k
            rw [e2] at hj
            have hlt := Nat.mod_lt j hk
            rw [if_pos e2, if_pos (by omega)]
            congr 1; omega
          · rw [if_neg e2, if_neg]
            intro hh
            apply e2
            rw [hm] at hh
            exact Nat.div_eq_of_lt_le (by rw [Nat.mul_comm]; exact hh.1) (by rw [Nat.add_mul, Nat.mul_comm q k]; omega)
      · cases e
        refine ⟨t, z, k, n, _, rfl, rfl, hle, hc.2, fun hE => ?_⟩
        rcases Nat.eq_zero_or_pos l.length with h0 | h0
        · have hl : l = [] := List.length_eq_zero_iff.1 h0
          subst hl
          exact ⟨hE, fun j => by
            have : ¬ (o ≤ j ∧ j < o) := by omega
            simp [writeFrom, this]⟩
        · refine writeFrom_ok ?_ l t o hE
          rcases Nat.eq_zero_or_pos k with rfl | hk
          · omega
          · exact hk
    · cases e
  · cases e

/-- A store into an owned object, in the model. -/
theorem store_obj (R : Rel G ι h w) {g : Nat} {ob ob' : Obj} {i : Inf} {o : Nat} {l : List AVal} {L : List Value} (hg : h.m.get g = some ob) (hi : ι g = some i) (e : wr ob o l = some ob') (hv : VRL ι l L) :
    ∃ w', (storeCells ⟨i.b, o + i.d, none⟩ L).run P w = .ok () w' ∧ Rel G ι (h.set g ob') w' ∧ Fr ι h w ι (h.set g ob') w' := by
  obtain ⟨t, z, k, n, t', rfl, rfl, hle, hone, hcell⟩ := wr_ok e
  obtain ⟨i', h3, hO⟩ := R.ob g _ hg
  rw [hi] at h3; cases h3
  obtain ⟨hb, hE, hik, hC, hW⟩ := hO
  obtain ⟨cs, el, fz, k1, k2, k3, k4⟩ := hW rfl
  obtain ⟨hE', hcell⟩ := hcell hE
  have hlen := hv.length
  obtain ⟨w', r1, r2, r3, r4, r5, r6, r7⟩ := run_storeCells P i.b (o + i.d) L w 0 k1 (by omega) k4 (ones_ok hv hone)
  have hO' : ObjOK ι (.cells t' z k n true) i w' := by
    refine ⟨by rw [r3]; exact hb, hE', hik, fun j hj => ?_, fun _ => ⟨_, el, fz, r2, by rw [wrote_size]; exact k2, k3, by rw [wrote_size]; exact k4⟩⟩
    have hw : w'.cell? ⟨i.b, j + i.d, none⟩ = (wrote cs (o + i.d + 0) L)[j + i.d]? := by simp [World.cell?, r2]
    rw [hw, wrote_get L cs _ _ (by omega), hcell j]
    by_cases e2 : o ≤ j ∧ j < o + l.length
    · rw [if_pos e2, if_pos (by omega)]
      have : l[j - o]? = some (l[j - o]'(by omega)) := by simp
      obtain ⟨V, q1, q2⟩ := hv.get _ this
      exact ⟨_, V, this, by rw [show j + i.d - (o + i.d + 0) = j - o from by omega]; exact q1, q2⟩
    · rw [if_neg e2, if_neg (by omega)]
      obtain ⟨v, V, q1, q2, q3⟩ := hC j hj
      refine ⟨v, V, q1, ?_, q3⟩
      rw [← q2]; simp [World.cell?, k1]
  obtain ⟨a, b⟩ := rel_set R hg rfl hi r3 r4 r5 r6 r7 hO'
  exact ⟨w', r1, a, b⟩

theorem sim_store (R : Rel G ι h w) (ho : OpR G ι tm ρ) {x y : Operand} {a b : AOpd} (e : copd G x = some a) (e' : copd G y = some b) {t : TypeId} {o : Oper} (hop : o.op = .store t x y)
    {m : Nat} (hm : szP P t = some m) {g of : Nat} (hp : opd tm a = .ptr g of) {ob ob' : Obj} (hg : h.m.get g = some ob) (hl : ln (cellsOf (opd tm b)) = m) (hw : wr ob of (cellsOf (opd tm b)) = some ob') :
    RSim P G ι h w (.val und (h.set g ob')) ((execOp ρ o).run P w) := by
  have hx := ho.one e
  rw [hp] at hx
  obtain ⟨i, h1, h2⟩ := hx.ptr_inv
  have hv := (ho.one e').cells
  obtain ⟨w', r1, r2, r3⟩ := store_obj (P := P) R hg h1 hw hv
  refine ⟨ι, w', undef, r2, r3, by simp [VR, VRL, undef], .inr ⟨?_, rfl⟩⟩
  have hsz : (ρ y).cells.size = m := by have := hv.length; rw [ln_eq] at hl; simpa using (this.symm.trans hl)
  simp [execOp, hop, Instr.storeAt, Instr.sureAddr, h2, storeVar, run_sizeOf' hm, hsz, r1]
end
end Go.Am

/- The abstract machine, part 8: operations that only compute are met by the model's. Conditions: none. -/
namespace Go.Am

/-! ### Bytes -/
theorem ba_size (a : ByteArray) : a.size = a.data.toList.length := rfl
theorem ba_loop (a : ByteArray) : ∀ (n : Nat) (i : Nat) (r : List UInt8), a.size - i = n → i ≤ a.size → ByteArray.toList.loop a i r = r.reverse ++ a.data.toList.drop i := by
  intro n
  induction n with
  | zero =>
    intro i r h hi
    rw [ByteArray.toList.loop]
    have h1 : ¬ i < a.size := by omega
    rw [ba_size] at hi h1
    rw [if_neg (by rw [ba_size]; exact h1), List.drop_eq_nil_of_le (by omega)]; simp
  | succ n ih =>
    intro i r h hi
    rw [ByteArray.toList.loop]
    have h1 : i < a.size := by omega
    rw [if_pos h1, ih (i + 1) _ (by omega) (by omega)]
    have h2 : i < a.data.toList.length := h1
    rw [List.drop_eq_getElem_cons h2]
    simp only [List.reverse_cons, List.append_assoc, List.singleton_append]
    congr 2
    have h3 : i < a.data.size := h1
    simp only [ByteArray.get!, Array.getElem_toList]
    exact getElem!_pos a.data i h3
theorem ba_toList (a : ByteArray) : a.toList = a.data.toList := by
  unfold ByteArray.toList
  rw [ba_loop a _ 0 [] rfl (by omega)]; simp
theorem ba_get (s : List UInt8) (i : Nat) : (⟨⟨s⟩⟩ : ByteArray)[i]? = s[i]? := by
  by_cases h : i < s.length
  · have h' : i < (⟨⟨s⟩⟩ : ByteArray).size := h
    rw [getElem?_pos (⟨⟨s⟩⟩ : ByteArray) i h', List.getElem?_eq_getElem h]; rfl
  · have h' : ¬ i < (⟨⟨s⟩⟩ : ByteArray).size := h
    rw [getElem?_neg (⟨⟨s⟩⟩ : ByteArray) i h', List.getElem?_eq_none (by omega)]
theorem ba_append (s t : List UInt8) : (⟨⟨s⟩⟩ : ByteArray) ++ ⟨⟨t⟩⟩ = ⟨⟨s ++ t⟩⟩ := by ext1; simp
theorem ba_extract (s : List UInt8) (a b : Nat) : (⟨⟨s⟩⟩ : ByteArray).extract a b = ⟨⟨(s.drop a).take (b - a)⟩⟩ := by ext1; simp
theorem strEq_eq : ∀ (a b : List UInt8), strEq a b = (a == b)
  | [], [] => rfl
  | [], _ :: _ => rfl
  | _ :: _, [] => rfl
  | a :: x, b :: y => by
    simp only [strEq, strEq_eq x y, List.cons_beq_cons, beq_eq]
    congr 1
    rw [Bool.eq_iff_iff]; simp [UInt8.toNat_inj]

theorem wrapF_eq (k : IntKind) (n : Int) : wrapF k n = k.wrap n := by
  unfold wrapF
  split
  · next m =>
    split
    · next h =>
      have h : m < 9223372036854775808 := by simpa [Nat.blt, Nat.lt_iff_add_one_le] using h
      rw [Int.ofNat_eq_natCast, IntWalk.i64_in _ (by constructor <;> omega)]
    · rfl
  · rfl

section
variable {P : Program} {G : Nat → Option Nat} {ι : Gh} {h : Hp} {w : World} {tm : List AVal} {ρ : Operand → Value}

/-! ### The shapes again -/
theorem VR.bool_inv {b : Bool} {V : Value} (x : VR ι (.bool b) V) : V = .bool b := by simpa only [VR] using x
theorem VR.int_inv {k : IntKind} {n : Int} {V : Value} (x : VR ι (.int k n) V) : V = .int k n := by simpa only [VR] using x
theorem VR.str_inv {s : List UInt8} {V : Value} (x : VR ι (.str s) V) : V = .string ⟨⟨s⟩⟩ := by simpa only [VR] using x
theorem VR.agg_inv {l : List AVal} {V : Value} (x : VR ι (.agg l) V) : ∃ L, V = .agg ⟨L⟩ ∧ VRL ι l L := by simpa only [VR] using x
theorem VR.tup_inv {l : List AVal} {V : Value} (x : VR ι (.tup l) V) : ∃ L, V = .tuple ⟨L⟩ ∧ VRL ι l L := by simpa only [VR] using x
theorem VR.of_bool (b : Bool) : VR ι (.bool b) (.bool b) := by simp only [VR]
theorem VR.of_int (k : IntKind) (n : Int) : VR ι (.int k n) (.int k n) := by simp only [VR]
theorem VR.of_str (s : List UInt8) : VR ι (.str s) (.string ⟨⟨s⟩⟩) := by simp only [VR]
theorem VR.of_agg {l : List AVal} {L : List Value} (x : VRL ι l L) : VR ι (.agg l) (.agg ⟨L⟩) := by simp only [VR]; exact ⟨L, rfl, x⟩
theorem VR.of_tup {l : List AVal} {L : List Value} (x : VRL ι l L) : VR ι (.tup l) (.tuple ⟨L⟩) := by simp only [VR]; exact ⟨L, rfl, x⟩
theorem VR.und : VR ι und undef := by simp [VR, VRL, undef]

theorem sim_pick (R : Rel G ι h w) (ho : OpR G ι tm ρ) {x y z : Operand} {a b c : AOpd} (e1 : copd G x = some a) (e2 : copd G y = some b) (e3 : copd G z = some c) {o : Oper} (hop : o.op = .pick x y z)
    {t : Bool} (ht : opd tm a = .bool t) : RSim P G ι h w (.val (if t then opd tm b else opd tm c) h) ((execOp ρ o).run P w) := by
  have h1 := ho.one e1
  rw [ht] at h1
  have h1 := h1.bool_inv
  cases t with
  | true => exact .same R (ho.one e2) (by simp [execOp, hop, h1, asBool])
  | false => exact .same R (ho.one e3) (by simp [execOp, hop, h1, asBool])

theorem intBin_ok {op : BinOp} {k : IntKind} {x y : Int} {v : AVal} (e : intBin op k x y = some v) (hs : op ≠ .shl) (hs' : op ≠ .shr) (t : TypeId) (w : World) :
    ∃ V, VR ι v V ∧ (binOp op t (.int k x) (.int k y)).run P w = .ok V w := by
  unfold intBin at e
  cases op <;> simp only at e <;> first
    | exact absurd rfl hs
    | exact absurd rfl hs'
    | (cases e; simp [binOp, Op.intArith, Op.intBits, Op.intCmp, VR, wrapF_eq]; done)
    | (split at e
       · cases e
       · rename_i hy; cases e; simp [binOp, Op.intDiv, VR, hy])

theorem shiftBin_ok {op : BinOp} {k yk : IntKind} {x y : Int} {v : AVal} (e : shiftBin op k x y = some v) (t : TypeId) (w : World) :
    ∃ V, VR ι v V ∧ (binOp op t (.int k x) (.int yk y)).run P w = .ok V w := by
  unfold shiftBin at e
  split at e
  · cases e
  · next hy =>
    cases op <;> simp only at e <;> first
      | (cases e; done)
      | (cases e; simp [binOp, Op.shift, hy, VR])

theorem strBin_ok {op : BinOp} {x y : List UInt8} {v : AVal} (e : strBin op x y = some v) (t : TypeId) (w : World) :
    ∃ V, VR ι v V ∧ (binOp op t (.string ⟨⟨x⟩⟩) (.string ⟨⟨y⟩⟩)).run P w = .ok V w := by
  unfold strBin at e
  cases op <;> simp only at e <;> first
    | (cases e; done)
    | (cases e; simp [binOp, Op.stringOp, VR, ba_toList, strEq_eq]; done)
    | (split at e
       · next hle =>
         cases e
         have hle := Nat.le_of_ble_eq_true hle
         simp only [ln_eq] at hle
         have h1 : ¬ (((⟨⟨x⟩⟩ : ByteArray).size + (⟨⟨y⟩⟩ : ByteArray).size : Nat) : Int) > IntKind.i64.max := by
           have a1 : (⟨⟨x⟩⟩ : ByteArray).size = x.length := rfl
           have a2 : (⟨⟨y⟩⟩ : ByteArray).size = y.length := rfl
           rw [a1, a2]
           have : IntKind.i64.max = 9223372036854775807 := by decide
           omega
         refine ⟨.string ⟨⟨x ++ y⟩⟩, by rw [cat_eq]; exact VR.of_str _, ?_⟩
         simp only [binOp, Op.stringOp, if_neg h1, ba_append]; rfl
       · cases e)

theorem binV_ok {op : BinOp} {a b v : AVal} {A B : Value} (e : binV op a b = some v) (ha : VR ι a A) (hb : VR ι b B) (t : TypeId) (x y : Operand) (w : World) :
    ∃ V, VR ι v V ∧ (eqGuard op t x y A B).run P w = .ok () w ∧ (binOp op t A B).run P w = .ok V w := by
  unfold binV at e
  split at e
  · next k a k' b =>
    rw [ha.int_inv, hb.int_inv]
    have hg : (eqGuard op t x y (.int k a) (.int k' b)).run P w = .ok () w := by
      unfold eqGuard; cases op <;> simp
    split at e
    · obtain ⟨V, h1, h2⟩ := shiftBin_ok (P := P) (ι := ι) e t w; exact ⟨V, h1, hg, h2⟩
    · obtain ⟨V, h1, h2⟩ := shiftBin_ok (P := P) (ι := ι) e t w; exact ⟨V, h1, hg, h2⟩
    · split at e
      · next hk =>
        subst hk
        obtain ⟨V, h1, h2⟩ := intBin_ok (P := P) (ι := ι) e (by rintro rfl; simp_all) (by rintro rfl; simp_all) t w
        exact ⟨V, h1, hg, h2⟩
      · cases e
  · rw [ha.str_inv, hb.str_inv]
    obtain ⟨V, h1, h2⟩ := strBin_ok (P := P) (ι := ι) e t w
    exact ⟨V, h1, by unfold eqGuard; cases op <;> simp, h2⟩
  · cases e

theorem sim_bin (R : Rel G ι h w) (ho : OpR G ι tm ρ) {x y : Operand} {a b : AOpd} (e1 : copd G x = some a) (e2 : copd G y = some b) {op : BinOp} {t yt : TypeId} {o : Oper} (hop : o.op = .binOp op t x y yt)
    {v : AVal} (e : binV op (opd tm a) (opd tm b) = some v) : RSim P G ι h w (.val v h) ((execOp ρ o).run P w) := by
  obtain ⟨V, h1, h2, h3⟩ := binV_ok (P := P) e (ho.one e1) (ho.one e2) t x y w
  exact .same R h1 (by simp [execOp, hop, h2, h3])

theorem sim_un (R : Rel G ι h w) (ho : OpR G ι tm ρ) {x : Operand} {a : AOpd} (e1 : copd G x = some a) {op : UnOp} {t : TypeId} {o : Oper} (hop : o.op = .unOp op t x)
    {r : ARes} (e : aop tm h (.un op a) = some r) : RSim P G ι h w r ((execOp ρ o).run P w) := by
  have hx := ho.one e1
  simp only [aop] at e
  split at e
  · next k n hv =>
    rw [hv] at hx
    simp only [vl, intBin] at e; cases e
    exact .same R (VR.of_int _ _) (by simp [execOp, hop, hx.int_inv, Op.unary, Op.intArith, wrapF_eq])
  · next k n hv =>
    rw [hv] at hx
    simp only [vl, intBin] at e; cases e
    exact .same R (VR.of_int _ _) (by simp [execOp, hop, hx.int_inv, Op.unary, Op.intBits])
  · next b hv =>
    rw [hv] at hx
    cases e
    exact .same R (VR.of_bool _) (by simp [execOp, hop, hx.bool_inv, Op.unary])
  · cases e

theorem sim_ext (R : Rel G ι h w) (ho : OpR G ι tm ρ) {x : Operand} {a : AOpd} (e1 : copd G x = some a) {i : Nat} {o : Oper} (hop : o.op = .extract x i)
    {l : List AVal} (hl : opd tm a = .tup l) {v : AVal} (e : nth l i = some v) : RSim P G ι h w (.val v h) ((execOp ρ o).run P w) := by
  have hx := ho.one e1
  rw [hl] at hx
  obtain ⟨L, h1, h2⟩ := hx.tup_inv
  rw [nth_eq] at e
  obtain ⟨V, h3, h4⟩ := h2.get i e
  exact .same R h4 (by simp [execOp, hop, h1, Instr.extract, h3])

theorem sim_mki (R : Rel G ι h w) (ho : OpR G ι tm ρ) {x : Operand} {a : AOpd} (e1 : copd G x = some a) {t : TypeId} {o : Oper} (hop : o.op = .makeInterface t x)
    {d : TypeDesc} (hd : P.underlying t = some d) (hn : ∀ ms, d ≠ .interface ms) : RSim P G ι h w (.val (.ifc t (opd tm a)) h) ((execOp ρ o).run P w) := by
  refine .same R (V := .iface t (ρ x)) (by simp only [VR]; exact ⟨_, rfl, ho.one e1⟩) ?_
  cases d <;> first | exact absurd rfl (hn _) | simp [execOp, hop, Instr.makeInterface, run_underlying' hd]

theorem sim_mkf (R : Rel G ι h w) (ho : OpR G ι tm ρ) {xs ys : Array Operand} {a c : List AOpd} (e1 : copds G xs.toList = some a) (e2 : copds G ys.toList = some c) {f : Fn} {o : Oper} (hop : o.op = .makeFunc f xs ys) :
    RSim P G ι h w (.val (.fn f (opds tm a) (opds tm c)) h) ((execOp ρ o).run P w) := by
  refine .same R (V := .func f (xs.map ρ) (ys.map ρ)) ?_ (by simp [execOp, hop, Instr.makeFunc])
  simp only [VR]
  refine ⟨(xs.map ρ).toList, (ys.map ρ).toList, rfl, ?_, ?_⟩
  · simpa using ho.list e1
  · simpa using ho.list e2

theorem sim_convI (R : Rel G ι h w) (ho : OpR G ι tm ρ) {x : Operand} {a : AOpd} (e1 : copd G x = some a) {s d : TypeId} {o : Oper} (hop : o.op = .convert s d x) {k0 k : IntKind}
    (hs : P.underlying s = some (.int k0)) (hd : P.underlying d = some (.int k)) {k1 : IntKind} {n : Int} (hv : opd tm a = .int k1 n) : RSim P G ι h w (.val (.int k (wrapF k n)) h) ((execOp ρ o).run P w) := by
  have hx := ho.one e1
  rw [hv] at hx
  exact .same R (VR.of_int _ _) (by simp [execOp, hop, convert, run_underlying' hs, run_underlying' hd, hx.int_inv, Conv.intToInt, wrapF_eq])

theorem sim_convS (R : Rel G ι h w) (ho : OpR G ι tm ρ) {x : Operand} {a : AOpd} (e1 : copd G x = some a) {s d : TypeId} {o : Oper} (hop : o.op = .convert s d x)
    (hs : P.underlying s = some .string) (hd : P.underlying d = some .string) {l : List UInt8} (hv : opd tm a = .str l) : RSim P G ι h w (.val (opd tm a) h) ((execOp ρ o).run P w) := by
  have hx := ho.one e1
  have hx' := hx
  rw [hv] at hx'
  exact .same R hx (by simp [execOp, hop, convert, run_underlying' hs, run_underlying' hd, hx'.str_inv])

theorem natOf_ok {a : AVal} {n : Nat} {A : Value} (e : natOf a = some n) (ha : VR ι a A) : ∃ k, a = .int k n ∧ A = .int k n := by
  unfold natOf at e
  split at e
  · next k m => cases e; exact ⟨k, rfl, ha.int_inv⟩
  · cases e

theorem sim_faddr (R : Rel G ι h w) (ho : OpR G ι tm ρ) {x : Operand} {a : AOpd} (e1 : copd G x = some a) {s : TypeId} {f : Nat} {o : Oper} (hop : o.op = .fieldAddr s x f)
    {fs : Array Field} (hs : P.underlying s = some (.struct fs)) {fd : Field} (hf : fs[f]? = some fd) {m : Nat} (hm : szP P fd.type = some (m + 1)) {g of : Nat} (hp : opd tm a = .ptr g of) :
    RSim P G ι h w (.val (.ptr g (of + fd.offset)) h) ((execOp ρ o).run P w) := by
  have hx := ho.one e1
  rw [hp] at hx
  obtain ⟨i, h1, h2⟩ := hx.ptr_inv
  refine .same R (V := .pointer (some ⟨i.b, of + fd.offset + i.d, none⟩)) (by simp only [VR]; exact ⟨i, h1, rfl⟩) ?_
  simp [execOp, hop, Instr.fieldAt, run_underlying' hs, hf, Instr.sureAddr, h2, fieldPlace, run_sizeOf' hm, add_none]
  omega

theorem VRL.take {ι : Gh} : ∀ (n : Nat) {l : List AVal} {L : List Value}, VRL ι l L → VRL ι (l.take n) (L.take n)
  | 0, l, L, _ => by simp [VRL]
  | n + 1, [], L, x => by simp only [VRL] at x; subst x; simp [VRL]
  | n + 1, a :: l, L, x => by
    obtain ⟨V, L', rfl, h1, h2⟩ := VRL.cons_iff.1 x
    simp only [List.take_succ_cons]; exact VRL.cons_iff.2 ⟨_, _, rfl, h1, VRL.take n h2⟩
theorem VRL.drop {ι : Gh} : ∀ (n : Nat) {l : List AVal} {L : List Value}, VRL ι l L → VRL ι (l.drop n) (L.drop n)
  | 0, l, L, x => by simpa using x
  | n + 1, [], L, x => by simp only [VRL] at x; subst x; simp [VRL]
  | n + 1, a :: l, L, x => by
    obtain ⟨V, L', rfl, h1, h2⟩ := VRL.cons_iff.1 x
    simpa using VRL.drop n h2

theorem part_one {t : TypeId} (ht : aggP P t = some false) {l : List AVal} {L : List Value} (hl : VRL ι l L) {off : Nat} {v : AVal} (e : nth l off = some v) (w : World) :
    ∃ V, VR ι v V ∧ (part t ⟨L⟩ off).run P w = .ok V w := by
  rw [nth_eq] at e
  obtain ⟨V, h3, h4⟩ := hl.get off e
  exact ⟨V, h4, by simp [part, run_isAgg' ht, h3]⟩
theorem part_agg {t : TypeId} (ht : aggP P t = some true) {m : Nat} (hm : szP P t = some m) {l : List AVal} {L : List Value} (hl : VRL ι l L) (off : Nat) (w : World) :
    ∃ V, VR ι (.agg (takeN m (dropN off l))) V ∧ (part t ⟨L⟩ off).run P w = .ok V w := by
  refine ⟨.agg ⟨(L.drop off).take m⟩, ?_, ?_⟩
  · rw [takeN_eq, dropN_eq]; exact VR.of_agg (VRL.take m (VRL.drop off hl))
  · have : (Array.mk L).extract off (off + m) = ⟨(L.drop off).take m⟩ := by
      apply Array.toList_inj.1; simp
    simp [part, run_isAgg' ht, run_sizeOf' hm, this]

theorem sim_fld (R : Rel G ι h w) (ho : OpR G ι tm ρ) {x : Operand} {a : AOpd} (e1 : copd G x = some a) {s : TypeId} {f : Nat} {o : Oper} (hop : o.op = .field s x f)
    {fs : Array Field} (hs : P.underlying s = some (.struct fs)) {fd : Field} (hf : fs[f]? = some fd) {l : List AVal} (hp : opd tm a = .agg l) {v : AVal}
    (hv : (aggP P fd.type = some false ∧ nth l fd.offset = some v) ∨ (∃ m, aggP P fd.type = some true ∧ szP P fd.type = some m ∧ v = .agg (takeN m (dropN fd.offset l)))) :
    RSim P G ι h w (.val v h) ((execOp ρ o).run P w) := by
  have hx := ho.one e1
  rw [hp] at hx
  obtain ⟨L, h1, h2⟩ := hx.agg_inv
  rcases hv with ⟨k1, k2⟩ | ⟨m, k1, k2, rfl⟩
  · obtain ⟨V, q1, q2⟩ := part_one (P := P) k1 h2 k2 w
    exact .same R q1 (by simp [execOp, hop, Instr.field, run_underlying' hs, hf, h1, asAgg, q2])
  · obtain ⟨V, q1, q2⟩ := part_agg (P := P) k1 k2 h2 fd.offset w
    exact .same R q1 (by simp [execOp, hop, Instr.field, run_underlying' hs, hf, h1, asAgg, q2])
end
end Go.Am

/- The abstract machine, part 9: indexing, slicing, new slices. Conditions: none. -/
namespace Go.Am

section
variable {P : Program} {G : Nat → Option Nat} {ι : Gh} {h : Hp} {w : World} {tm : List AVal} {ρ : Operand → Value}

theorem blt_lt {a b : Nat} (e : Nat.blt a b = true) : a < b := by simpa [Nat.blt, Nat.lt_iff_add_one_le] using e
theorem ble_le {a b : Nat} (e : Nat.ble a b = true) : a ≤ b := Nat.le_of_ble_eq_true e

/-- What is known of a slice's value. -/
theorem VR.sl_inv {g o n : Nat} {c : Option Nat} {V : Value} (x : VR ι (.sl g o n c) V) :
    (∃ i C, ι g = some i ∧ n ≤ C ∧ V = .slice (some ⟨i.b, o + i.d, none⟩) n C ∧ (∀ c', c = some c' → C = c') ∧ (c = none → o + i.d + C * i.k = i.e)) ∨
    (n = 0 ∧ (∃ A, V = .slice (some A) 0 0) ∧ (∀ c', c = some c' → c' = 0) ∧ (c = none → ∃ i, ι g = some i ∧ o + i.d = i.e)) := by
  cases c with
  | none =>
    simp only [VR] at x
    rcases x with ⟨i, h1, ⟨C, h2, h3, rfl⟩ | ⟨h2, h3, A, rfl⟩⟩
    · exact .inl ⟨i, C, h1, h2, rfl, (fun c' hc => by cases hc), fun _ => h3⟩
    · exact .inr ⟨h2, ⟨A, rfl⟩, (fun c' hc => by cases hc), fun _ => ⟨i, h1, h3⟩⟩
  | some c =>
    simp only [VR] at x
    rcases x with ⟨i, h1, h2, rfl⟩ | ⟨rfl, rfl, A, rfl⟩
    · exact .inl ⟨i, c, h1, h2, rfl, (fun c' hc => by cases hc; rfl), (fun hc => by cases hc)⟩
    · exact .inr ⟨rfl, ⟨A, rfl⟩, (fun c' hc => by cases hc; rfl), (fun hc => by cases hc)⟩

theorem sim_iaddrS (R : Rel G ι h w) (ho : OpR G ι tm ρ) {x y : Operand} {a b : AOpd} (e1 : copd G x = some a) (e2 : copd G y = some b) {t : TypeId} {o : Oper} (hop : o.op = .indexAddr t x y)
    {el : TypeId} (ht : P.underlying t = some (.slice el)) {k : Nat} (hk : szP P el = some k) {g of n : Nat} {c : Option Nat} (hp : opd tm a = .sl g of n c) {i : Nat} (hi : natOf (opd tm b) = some i) (hlt : i < n) :
    RSim P G ι h w (.val (.ptr g (of + i * k)) h) ((execOp ρ o).run P w) := by
  have hx := ho.one e1
  rw [hp] at hx
  obtain ⟨ki, hb, hB⟩ := natOf_ok hi (ho.one e2)
  rcases hx.sl_inv with ⟨j, C, h1, h2, h3, _, _⟩ | ⟨rfl, _⟩
  · refine .same R (V := .pointer (some ⟨j.b, of + i * k + j.d, none⟩)) (by simp only [VR]; exact ⟨j, h1, rfl⟩) ?_
    have h4 : (i : Int) < n := by omega
    simp [execOp, hop, Instr.indexAt, asIntOf, hB, run_underlying' ht, h3, h4, hlt, run_sizeOf' hk, add_none]
    omega
  · omega

theorem sim_iaddrA (R : Rel G ι h w) (ho : OpR G ι tm ρ) {x y : Operand} {a b : AOpd} (e1 : copd G x = some a) (e2 : copd G y = some b) {t : TypeId} {o : Oper} (hop : o.op = .indexAddr t x y)
    {el : TypeId} {n : Nat} (ht : P.underlying t = some (.array n el)) {k : Nat} (hk : szP P el = some k) {g of : Nat} (hp : opd tm a = .ptr g of) {i : Nat} (hi : natOf (opd tm b) = some i) (hlt : i < n) :
    RSim P G ι h w (.val (.ptr g (of + i * k)) h) ((execOp ρ o).run P w) := by
  have hx := ho.one e1
  rw [hp] at hx
  obtain ⟨ki, hb, hB⟩ := natOf_ok hi (ho.one e2)
  obtain ⟨j, h1, h3⟩ := hx.ptr_inv
  refine .same R (V := .pointer (some ⟨j.b, of + i * k + j.d, none⟩)) (by simp only [VR]; exact ⟨j, h1, rfl⟩) ?_
  have h4 : (i : Int) < n := by omega
  simp [execOp, hop, Instr.indexAt, asIntOf, hB, run_underlying' ht, h3, Instr.sureAddr, h4, hlt, run_sizeOf' hk, add_none]
  omega

theorem sim_idxA (R : Rel G ι h w) (ho : OpR G ι tm ρ) {x y : Operand} {a b : AOpd} (e1 : copd G x = some a) (e2 : copd G y = some b) {t : TypeId} {o : Oper} (hop : o.op = .index t x y)
    {el : TypeId} {n : Nat} (ht : P.underlying t = some (.array n el)) {k : Nat} (hk : szP P el = some k) {l : List AVal} (hp : opd tm a = .agg l) {i : Nat} (hi : natOf (opd tm b) = some i) (hlt : i < n)
    {v : AVal} (hv : (aggP P el = some false ∧ nth l (i * k) = some v) ∨ (aggP P el = some true ∧ v = .agg (takeN k (dropN (i * k) l)))) :
    RSim P G ι h w (.val v h) ((execOp ρ o).run P w) := by
  have hx := ho.one e1
  rw [hp] at hx
  obtain ⟨ki, hb, hB⟩ := natOf_ok hi (ho.one e2)
  obtain ⟨L, h1, h2⟩ := hx.agg_inv
  have h4 : (i : Int) < n := by omega
  rcases hv with ⟨k1, k2⟩ | ⟨k1, rfl⟩
  · obtain ⟨V, q1, q2⟩ := part_one (P := P) k1 h2 k2 w
    exact .same R q1 (by simp [execOp, hop, Instr.index, asIntOf, hB, run_underlying' ht, h1, h4, hlt, run_sizeOf' hk, q2])
  · obtain ⟨V, q1, q2⟩ := part_agg (P := P) k1 hk h2 (i * k) w
    exact .same R q1 (by simp [execOp, hop, Instr.index, asIntOf, hB, run_underlying' ht, h1, h4, hlt, run_sizeOf' hk, q2])

theorem sim_idxS (R : Rel G ι h w) (ho : OpR G ι tm ρ) {x y : Operand} {a b : AOpd} (e1 : copd G x = some a) (e2 : copd G y = some b) {t : TypeId} {o : Oper} (hop : o.op = .index t x y)
    (ht : P.underlying t = some .string) {s : List UInt8} (hp : opd tm a = .str s) {i : Nat} (hi : natOf (opd tm b) = some i) {u : UInt8} (hu : nth s i = some u) :
    RSim P G ι h w (.val (.int .u8 u.toNat) h) ((execOp ρ o).run P w) := by
  have hx := ho.one e1
  rw [hp] at hx
  obtain ⟨ki, hb, hB⟩ := natOf_ok hi (ho.one e2)
  rw [nth_eq] at hu
  refine .same R (VR.of_int _ _) ?_
  simp [execOp, hop, Instr.index, asIntOf, hB, run_underlying' ht, hx.str_inv, ba_get, hu]

/-! ### Slicing -/
theorem bound_ok (ho : OpR G ι tm ρ) {x : Option Operand} {a : Option AOpd} (e : copdO G x = some a) {d n : Nat} (hb : bound tm a d = some n) :
    (x = none ∧ n = d) ∨ ∃ y, x = some y ∧ ∃ k, ρ y = .int k n := by
  cases x with
  | none => simp [copdO] at e; subst e; simp [bound] at hb; exact .inl ⟨rfl, hb.symm⟩
  | some y =>
    simp only [copdO] at e
    split at e
    · next b hb' =>
      cases e
      simp only [bound] at hb
      obtain ⟨k, _, h2⟩ := natOf_ok hb (ho.one hb')
      exact .inr ⟨y, rfl, k, h2⟩
    · cases e

theorem run_sliceBound {k : IntKind} {n y : Nat} (hle : n ≤ y) (c : BoundsCode) (w : World) : (Instr.sliceBound (.int k n) y c).run P w = .ok n w := by
  have : (n : Int) ≤ y := by omega
  simp [Instr.sliceBound, asIntOf, this]

/-- The bounds of x[lo:hi:mx]. -/
theorem run_sliceBounds (ho : OpR G ι tm ρ) {lo hi mx : Option Operand} {alo ahi amx : Option AOpd} (e1 : copdO G lo = some alo) (e2 : copdO G hi = some ahi) (e3 : copdO G mx = some amx)
    {n : Nat} {c : Option Nat} {C : Nat} (hn : n ≤ C) (hc : ∀ c', c = some c' → C = c') {l u : Nat} {c' : Option Nat} (e : cutB tm n c alo ahi amx = some (l, u, c')) (sl : Bool) (w : World) (hsl : mx ≠ none → hi ≠ none) :
    ∃ m, (Instr.sliceBounds sl n C (lo.map ρ) (hi.map ρ) (mx.map ρ)).run P w = .ok (l, u, m) w ∧ l ≤ u ∧ u ≤ m ∧ m ≤ C ∧ (amx = none → m = C ∧ u ≤ c.getD n ∧ c' = c.map (· - l)) ∧ (amx ≠ none → c' = some (m - l)) := by
  unfold cutB at e
  split at e
  · next l' u' hl hu =>
    have hgc : c.getD n ≤ C := by
      cases c with
      | none => simpa using hn
      | some x => simp [hc x rfl]
    split at e
    · -- no maximum
      have hmx : mx = none := by cases mx with | none => rfl | some y => simp only [copdO] at e3; split at e3 <;> cases e3
      subst hmx
      split at e
      · next hle =>
        simp only [Bool.and_eq_true] at hle
        have a1 := ble_le hle.1
        have a2 := ble_le hle.2
        cases e
        refine ⟨C, ?_, a1, by omega, Nat.le_refl _, fun _ => ⟨rfl, a2, by cases c <;> rfl⟩, fun hh => absurd rfl hh⟩
        rcases bound_ok ho e1 hl with ⟨rfl, rfl⟩ | ⟨y, rfl, ky, hy⟩ <;> rcases bound_ok ho e2 hu with ⟨rfl, rfl⟩ | ⟨z, rfl, kz, hz⟩
        · simp [Instr.sliceBounds]
        · simp [Instr.sliceBounds, hz, run_sliceBound (P := P) (show u ≤ C by omega)]
        · simp [Instr.sliceBounds, hy, run_sliceBound (P := P) a1]
        · simp [Instr.sliceBounds, hz, hy, run_sliceBound (P := P) (show u ≤ C by omega), run_sliceBound (P := P) a1]
      · cases e
    · next m hm =>
      split at e
      · next m' hm' =>
        split at e
        · next hle =>
          simp only [Bool.and_eq_true] at hle
          have a1 := ble_le hle.1.1
          have a2 := ble_le hle.1.2
          have a3 := ble_le hle.2
          cases e
          refine ⟨m', ?_, a1, a2, by omega, fun hh => (by cases hh), fun _ => rfl⟩
          have hmx : ∃ y, mx = some y ∧ ∃ k, ρ y = .int k m' := by
            rcases bound_ok ho e3 (d := 0) (n := m') (by simpa [bound] using hm') with ⟨rfl, _⟩ | hh
            · simp [copdO] at e3
            · exact hh
          obtain ⟨z', rfl, kz', hz'⟩ := hmx
          rcases bound_ok ho e2 hu with ⟨rfl, rfl⟩ | ⟨z, rfl, kz, hz⟩
          · exact absurd rfl (hsl (by simp))
          · rcases bound_ok ho e1 hl with ⟨rfl, rfl⟩ | ⟨y, rfl, ky, hy⟩
            · simp [Instr.sliceBounds, hz, hz', run_sliceBound (P := P) (show m' ≤ C by omega), run_sliceBound (P := P) a2]
            · simp [Instr.sliceBounds, hz, hz', hy, run_sliceBound (P := P) (show m' ≤ C by omega), run_sliceBound (P := P) a2, run_sliceBound (P := P) a1]
        · cases e
      · cases e
  · cases e

theorem cutB_le {n : Nat} {c : Option Nat} {lo hi mx : Option AOpd} {l u : Nat} {c' : Option Nat} (e : cutB tm n c lo hi mx = some (l, u, c')) : l ≤ u := by
  unfold cutB at e
  split at e
  · split at e
    · split at e
      · next hle => simp only [Bool.and_eq_true] at hle; cases e; exact ble_le hle.1
      · cases e
    · split at e
      · split at e
        · next hle => simp only [Bool.and_eq_true] at hle; cases e; exact ble_le hle.1.1
        · cases e
      · cases e
  · cases e

theorem sim_slcS (R : Rel G ι h w) (ho : OpR G ι tm ρ) {x : Operand} {a : AOpd} (e0 : copd G x = some a) {lo hi : Option Operand} {alo ahi : Option AOpd} (e1 : copdO G lo = some alo) (e2 : copdO G hi = some ahi)
    {t : TypeId} {o : Oper} (hop : o.op = .slice t x lo hi none) (ht : P.underlying t = some .string) {s : List UInt8} (hp : opd tm a = .str s) {l u : Nat} {c' : Option Nat} (e : cutB tm (ln s) (some (ln s)) alo ahi none = some (l, u, c')) :
    RSim P G ι h w (.val (.str (takeN (u - l) (dropN l s))) h) ((execOp ρ o).run P w) := by
  have hx := ho.one e0
  rw [hp] at hx
  rw [ln_eq] at e
  obtain ⟨m, k1, _⟩ := run_sliceBounds (P := P) ho e1 e2 (mx := none) (by simp [copdO]) (Nat.le_refl _) (fun c' hc => by cases hc; rfl) e false w (fun hh => absurd rfl hh)
  refine .same R (VR.of_str _) ?_
  rw [takeN_eq, dropN_eq, ← ba_extract]
  simp only [Option.map_none] at k1
  have hs : (⟨⟨s⟩⟩ : ByteArray).size = s.length := rfl
  simp [execOp, hop, Instr.sliceAt, Instr.slice, run_underlying' ht, hx.str_inv, hs, k1]

theorem sim_slc (R : Rel G ι h w) (ho : OpR G ι tm ρ) {x : Operand} {a : AOpd} (e0 : copd G x = some a) {lo hi mx : Option Operand} {alo ahi amx : Option AOpd} (e1 : copdO G lo = some alo) (e2 : copdO G hi = some ahi) (e3 : copdO G mx = some amx)
    (hsl : mx ≠ none → hi ≠ none) {t : TypeId} {o : Oper} (hop : o.op = .slice t x lo hi mx) {el : TypeId} (ht : P.underlying t = some (.slice el)) {k : Nat} (hk : szP P el = some k)
    {v : AVal} (e : slcV tm h k (opd tm a) alo ahi amx = some v) :
    RSim P G ι h w (.val v h) ((execOp ρ o).run P w) := by
  have hx := ho.one e0
  unfold slcV at e
  split at e
  · next g of n c hs =>
    rw [hs] at hx
    split at e
    · next l u c' hcut =>
      have hkc : v = .sl g (of + l * k) (u - l) c' ∧ (c = none → ∀ i, ι g = some i → i.k = k) := by
        split at e
        · cases e; exact ⟨rfl, fun hc => by cases hc⟩
        · split at e
          · next t' z' k' n' ow' hg =>
            split at e
            · next hkk =>
              cases e
              refine ⟨rfl, fun _ i hi => ?_⟩
              obtain ⟨i', q1, q2⟩ := R.ob g _ hg
              rw [hi] at q1; cases q1
              rw [q2.2.2.1]; exact Nat.eq_of_beq_eq_true hkk
            · cases e
          · cases e
      obtain ⟨rfl, hkc⟩ := hkc
      rcases hx.sl_inv with ⟨i, C, h1, h2, h3, h4, h5⟩ | ⟨rfl, ⟨A, h3⟩, h4, h5⟩
      · obtain ⟨m, k1, k2, k3, k4, k5, k6⟩ := run_sliceBounds (P := P) ho e1 e2 e3 h2 h4 hcut true w hsl
        refine .same R (V := .slice (some (if m = l then ⟨i.b, of + i.d, none⟩ else ⟨i.b, of + l * k + i.d, none⟩)) (u - l) (m - l)) ?_ ?_
        · by_cases hmx : amx = none
          · obtain ⟨q1, q2, q3⟩ := k5 hmx
            subst q3 q1
            cases c with
            | none =>
              have h6 := h5 rfl
              have h7 := hkc rfl i h1
              simp only [Option.getD_none] at q2
              simp only [VR, Option.map_none]
              refine ⟨i, h1, ?_⟩
              have h8 : m * i.k = l * k + (m - l) * i.k := by
                rw [h7, ← Nat.add_mul]; congr 1; omega
              by_cases hm : m = l
              · refine .inr ⟨by omega, ?_, ?_⟩
                · rw [hm] at h6 h8
                  simp only [Nat.sub_self, Nat.zero_mul] at h8
                  omega
                · exact ⟨_, by rw [show u - l = 0 from by omega, show m - l = 0 from by omega]⟩
              · refine .inl ⟨m - l, by omega, by omega, ?_⟩
                rw [if_neg hm]
            | some c =>
              have hcm := h4 c rfl
              simp only [VR, Option.map_some]
              by_cases hm : m = l
              · exact .inr ⟨by omega, by omega, _, by rw [show u - l = 0 from by omega, show m - l = 0 from by omega]⟩
              · exact .inl ⟨i, h1, by omega, by rw [if_neg hm, hcm]⟩
          · have := k6 hmx
            subst this
            simp only [VR]
            by_cases hm : m = l
            · exact .inr ⟨by omega, by omega, _, by rw [show u - l = 0 from by omega, show m - l = 0 from by omega]⟩
            · exact .inl ⟨i, h1, by omega, by rw [if_neg hm]⟩
        · simp only [execOp, hop, Instr.sliceAt, Instr.slice, Sem.run_bind, run_underlying' ht, h3, Result.andThen_ok, k1, run_sizeOf' hk]
          by_cases hm : m = l
          · simp [hm]
          · simp [hm, add_none]; omega
      · -- an empty slice without room
        obtain ⟨m, k1, k2, k3, k4, k5, k6⟩ := run_sliceBounds (P := P) (C := 0) ho e1 e2 e3 (Nat.le_refl 0) (fun c' hc => (h4 c' hc).symm) hcut true w hsl
        have hl : l = 0 := by omega
        have hu : u = 0 := by omega
        have hm : m = 0 := by omega
        subst hl hu hm
        refine .same R (V := .slice (some A) 0 0) ?_ ?_
        · simp only [Nat.zero_mul, Nat.add_zero]
          by_cases hmx : amx = none
          · obtain ⟨q1, q2, q3⟩ := k5 hmx
            subst q3
            cases c with
            | none =>
              obtain ⟨i, h6, h7⟩ := h5 rfl
              simp only [VR, Option.map_none]
              exact ⟨i, h6, .inr ⟨trivial, h7, A, rfl⟩⟩
            | some c => simp only [VR, Option.map_some]; exact .inr ⟨trivial, by rw [h4 c rfl], A, rfl⟩
          · have := k6 hmx
            subst this
            simp only [VR]; exact .inr ⟨trivial, trivial, A, rfl⟩
        · simp [execOp, hop, Instr.sliceAt, Instr.slice, run_underlying' ht, h3, k1, run_sizeOf' hk]
    · cases e
  · next hs =>
    rw [hs] at hx
    split at e
    · next r hcut =>
      obtain ⟨l, u, c'⟩ := r
      cases e
      obtain ⟨m, k1, k2, k3, k4, _⟩ := run_sliceBounds (P := P) (C := 0) ho e1 e2 e3 (Nat.le_refl 0) (fun c' hc => by cases hc; rfl) hcut true w hsl
      have hl : l = 0 := by omega
      have hu : u = 0 := by omega
      have hm : m = 0 := by omega
      subst hl hu hm
      have h3 : ρ x = .slice none 0 0 := by simpa only [VR] using hx
      refine .same R (V := .slice none 0 0) (by simp only [VR]) ?_
      simp [execOp, hop, Instr.sliceAt, Instr.slice, run_underlying' ht, h3, k1, run_sizeOf' hk]
    · cases e
  · cases e

theorem sim_slcA (R : Rel G ι h w) (ho : OpR G ι tm ρ) {x : Operand} {a : AOpd} (e0 : copd G x = some a) {lo hi : Option Operand} {alo ahi : Option AOpd} (e1 : copdO G lo = some alo) (e2 : copdO G hi = some ahi)
    {t : TypeId} {o : Oper} (hop : o.op = .slice t x lo hi none) {el : TypeId} {n : Nat} (ht : P.underlying t = some (.array n el) ∨ ∃ t', P.underlying t = some (.pointer t') ∧ P.underlying t' = some (.array n el)) {k : Nat} (hk : szP P el = some k)
    {g of : Nat} (hp : opd tm a = .ptr g of) {l u : Nat} {c' : Option Nat} (hcut : cutB tm n (some n) alo ahi none = some (l, u, c')) :
    RSim P G ι h w (.val (.sl g (of + l * k) (u - l) c') h) ((execOp ρ o).run P w) := by
  have hx := ho.one e0
  rw [hp] at hx
  obtain ⟨i, h1, h2⟩ := hx.ptr_inv
  obtain ⟨m, k1, k2, k3, k4, k5, _⟩ := run_sliceBounds (P := P) ho e1 e2 (mx := none) (by simp [copdO]) (Nat.le_refl n) (fun c' hc => by cases hc; rfl) hcut false w (fun hh => absurd rfl hh)
  obtain ⟨q1, q2, q3⟩ := k5 rfl
  subst q1 q3
  simp only [Option.map_none] at k1
  refine .same R (V := .slice (some (if m = l then ⟨i.b, of + i.d, none⟩ else ⟨i.b, of + l * k + i.d, none⟩)) (u - l) (m - l)) ?_ ?_
  · simp only [VR, Option.map_some]
    by_cases hm : m = l
    · exact .inr ⟨by omega, by omega, _, by rw [show u - l = 0 from by omega, show m - l = 0 from by omega]⟩
    · exact .inl ⟨i, h1, by omega, by rw [if_neg hm]⟩
  · rcases ht with ht | ⟨t', ht, ht'⟩
    · by_cases hm : m = l
      · simp [execOp, hop, Instr.sliceAt, run_underlying' ht, Instr.sureAddr, h2, k1, run_sizeOf' hk, hm]
        simp [hm] at k1; simp [k1]
      · simp [execOp, hop, Instr.sliceAt, run_underlying' ht, Instr.sureAddr, h2, k1, run_sizeOf' hk, hm, add_none]; omega
    · by_cases hm : m = l
      · simp [execOp, hop, Instr.sliceAt, Instr.slice, run_underlying' ht, run_underlying' ht', asAddr, h2, k1, run_sizeOf' hk, hm]
        simp [hm] at k1; simp [k1]
      · simp [execOp, hop, Instr.sliceAt, Instr.slice, run_underlying' ht, run_underlying' ht', asAddr, h2, k1, run_sizeOf' hk, hm, add_none]; omega
end
end Go.Am
end
