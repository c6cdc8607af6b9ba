/- The abstract machine, part 10: literals, new slices and maps, conversions of bytes. Conditions: none. -/
import Derived.Test.YtfaeabhbeolpgaaGreatDoorMa4
import Derived.Lib.ConvBytes
import Derived.Laws.BytesString
set_option linter.all false
noncomputable section
namespace Go.Am

section
variable {P : Program} {G : Nat → Option Nat} {ι : Gh} {h : Hp} {w : World} {tm : List AVal} {ρ : Operand → Value}

/-! ### Filling a row -/
theorem foldl_wrote (off : Nat) : ∀ (L : List Value) (s : Nat) (C : Array Value), (L.zipIdx s).foldl (fun cs (x : Value × Nat) => cs.setIfInBounds (off + x.2) x.1) C = wrote C (off + s) L
  | [], s, C => rfl
  | V :: L, s, C => by
    simp only [List.zipIdx_cons, List.foldl_cons, wrote]
    rw [foldl_wrote off L (s + 1)]; rfl
theorem fill_foldl (off : Nat) (v : Value) (C : Array Value) : v.cells.zipIdx.foldl (fun cs (x : Value × Nat) => cs.setIfInBounds (off + x.2) x.1) C = wrote C off v.cells.toList := by
  rw [← Array.foldl_toList, Array.toList_zipIdx, foldl_wrote]; rfl

theorem blit_ok {cs l : List AVal} {C L : List Value} (hc : VRL ι cs C) (hl : VRL ι l L) {off : Nat} (hle : off + l.length ≤ cs.length) : VRL ι (blit cs off l) (wrote ⟨C⟩ off L).toList := by
  have h1 := hc.length
  have h2 := hl.length
  unfold blit
  rw [takeN_eq, cat_eq, cat_eq, dropN_eq, ln_eq]
  refine VRL.of_get ?_ fun n v hv => ?_
  · simp [wrote_size]; omega
  · have hg := wrote_get L ⟨C⟩ off n (by simp; omega)
    have hg' : (wrote ⟨C⟩ off L).toList[n]? = if off ≤ n ∧ n < off + L.length then L[n - off]? else C[n]? := by simpa using hg
    rw [hg']
    rw [List.getElem?_append] at hv
    split at hv
    · next hlt =>
      simp at hlt
      rw [if_neg (by omega)]
      rw [List.getElem?_take_of_lt (by omega)] at hv
      exact hc.get n hv
    · next hlt =>
      simp only [List.length_take] at hlt hv
      have hm : min off cs.length = off := by omega
      rw [hm] at hlt hv
      rw [List.getElem?_append] at hv
      split at hv
      · next h3 =>
        rw [if_pos (by omega)]
        exact hl.get _ hv
      · next h3 =>
        rw [if_neg (by omega)]
        rw [List.getElem?_drop] at hv
        have : off + l.length + (n - off - l.length) = n := by omega
        rw [this] at hv
        exact hc.get n hv

theorem cparts_place {place : Nat → Option (Nat × Nat)} : ∀ {ps : List (Nat × Operand)} {as : List (Nat × Nat × AOpd)}, cparts G place ps = some as → ∀ (ho : OpR G ι tm ρ) {cs : List AVal} {C : List Value} {r : List AVal},
    VRL ι cs C → fillA tm as cs = some r → ∃ D : Array Value, Instr.fill place ⟨C⟩ (ps.map fun (i, x) => (i, ρ x)) = some D ∧ VRL ι r D.toList
  | [], as, e, ho, cs, C, r, hc, hf => by
    simp [cparts] at e; subst e
    simp [fillA] at hf; subst hf
    exact ⟨⟨C⟩, by simp [Instr.fill], hc⟩
  | (i, x) :: ps, as, e, ho, cs, C, r, hc, hf => by
    simp only [cparts] at e
    split at e
    · next o s a rr h1 h2 h3 =>
      cases e
      simp only [fillA] at hf
      split at hf
      · next hcond =>
        simp only [Bool.and_eq_true, ln_eq] at hcond
        have q1 := Nat.eq_of_beq_eq_true hcond.1
        have q2 := ble_le hcond.2
        have hx := (ho.one h2).cells
        have hlen := hx.length
        have hcl := hc.length
        obtain ⟨D, k1, k2⟩ := cparts_place h3 ho (blit_ok hc hx (by omega)) hf
        refine ⟨D, ?_, k2⟩
        have hsz : (ρ x).cells.size = s := by have : (ρ x).cells.size = (ρ x).cells.toList.length := by simp
                                              omega
        simp only [List.map_cons, Instr.fill, h1]
        rw [if_neg (by simp only [hsz]; simp; omega), fill_foldl]
        exact k1
      · cases hf
    · cases e

theorem run_places : ∀ (fs : List Field), (fs.all fun f => (szP P f.type).isSome) = true → ∀ (w : World),
    ∃ L : List (Nat × Nat), (fs.mapM fun f => do pure (f.offset, ← sizeOf f.type) : Sem (List (Nat × Nat))).run P w = .ok L w ∧ ∀ (i : Nat), L[i]? = (fs[i]?).bind fun (f : Field) => (szP P f.type).map fun s => (f.offset, s)
  | [], _, w => ⟨[], by simp, fun i => by simp⟩
  | f :: fs, e, w => by
    simp only [List.all_cons, Bool.and_eq_true] at e
    obtain ⟨L, h1, h2⟩ := run_places fs e.2 w
    obtain ⟨s, hs⟩ := Option.isSome_iff_exists.1 e.1
    refine ⟨(f.offset, s) :: L, ?_, fun i => ?_⟩
    · simp only [List.mapM_cons, Sem.run_bind, run_sizeOf' hs, Result.andThen_ok, Sem.run_pure, h1]
    · cases i with
      | zero => simp [hs]
      | succ i => simpa using h2 i

theorem sim_build (R : Rel G ι h w) (ho : OpR G ι tm ρ) {t : TypeId} {ps : Array (Nat × Operand)} {z : List AVal} (hz : zeroP P t = some z) {as : List (Nat × Nat × AOpd)} {o : Oper} (hop : o.op = .build t ps)
    (hp : (∃ fs, P.underlying t = some (.struct fs) ∧ (fs.toList.all fun f => (szP P f.type).isSome) = true ∧ cparts G (fieldPl P fs) ps.toList = some as) ∨
      (∃ n e s, P.underlying t = some (.array n e) ∧ szP P e = some s ∧ cparts G (fun i => some (i * s, s)) ps.toList = some as))
    {l : List AVal} (e : fillA tm as z = some l) : RSim P G ι h w (.val (.agg l) h) ((execOp ρ o).run P w) := by
  obtain ⟨V, z1, z2⟩ := zeroP_some hz
  have hparts : (ps.map fun (i, x) => (i, ρ x)).toList = ps.toList.map fun (i, x) => (i, ρ x) := by simp
  rcases hp with ⟨fs, k1, k2, k3⟩ | ⟨n, el, s, k1, k2, k3⟩
  · obtain ⟨L, q1, q2⟩ := run_places (P := P) fs.toList k2 w
    obtain ⟨D, d1, d2⟩ := cparts_place k3 ho (z2 ι) e
    refine .same R (V := .agg D) (VR.of_agg d2) ?_
    have hpl : (fun i : Nat => L.toArray[i]?) = fieldPl P fs := by
      funext i
      simp only [List.getElem?_toArray, q2, fieldPl, Array.getElem?_toList]
      cases fs[i]? with
      | none => rfl
      | some f => simp only [Option.bind_some]; cases szP P f.type <;> rfl
    have hm : (fs.mapM fun f => do pure (f.offset, ← sizeOf f.type) : Sem (Array (Nat × Nat))).run P w = .ok L.toArray w := by
      rw [Array.mapM_eq_mapM_toList]
      simp only [Sem.run_map, q1, Result.andThen_ok]
    have hfill : Instr.fill (fun i => L.toArray[i]?) V.cells (ps.toList.map fun (i, x) => (i, ρ x)) = some D := by rw [hpl]; exact d1
    simp only [execOp, hop, Instr.build, Sem.run_bind, z1, Result.andThen_ok, run_underlying' k1, hm, hparts, hfill, Sem.run_pure]
  · obtain ⟨D, d1, d2⟩ := cparts_place k3 ho (z2 ι) e
    refine .same R (V := .agg D) (VR.of_agg d2) ?_
    have hfill : Instr.fill (fun i => some (i * s, s)) V.cells (ps.toList.map fun (i, x) => (i, ρ x)) = some D := d1
    simp only [execOp, hop, Instr.build, Sem.run_bind, z1, Result.andThen_ok, run_underlying' k1, run_sizeOf' k2, hparts, hfill, Sem.run_pure]

theorem cpartsS_ok {k n : Nat} {z : List AVal} : ∀ {ps : List (Nat × Operand)} {as : List (Nat × AOpd)}, cpartsS G ps = some as → ∀ (ho : OpR G ι tm ρ) {t t' : Tree (List AVal)} {C : Array Value}, C.size = n * k → ElemsOK t z k →
    (∀ j, j < n * k → ∃ v V, cellAt' t z k j = some v ∧ C[j]? = some V ∧ VR ι v V) → fillS tm k n as t = some t' →
    ∃ D : Array Value, Instr.fill (fun i => some (i * k, k)) C (ps.map fun (i, x) => (i, ρ x)) = some D ∧ D.size = n * k ∧ ElemsOK t' z k ∧ ∀ j, j < n * k → ∃ v V, cellAt' t' z k j = some v ∧ D[j]? = some V ∧ VR ι v V
  | [], as, e, ho, t, t', C, hs, hE, hg, hf => by
    simp [cpartsS] at e; subst e
    simp [fillS] at hf; subst hf
    exact ⟨C, by simp [Instr.fill], hs, hE, hg⟩
  | (i, x) :: ps, as, e, ho, t, t', C, hs, hE, hg, hf => by
    simp only [cpartsS] at e
    split at e
    · next a rr h2 h3 =>
      cases e
      simp only [fillS] at hf
      split at hf
      · next hcond =>
        simp only [Bool.and_eq_true, ln_eq] at hcond
        have q1 := Nat.eq_of_beq_eq_true hcond.1
        have q2 := blt_lt hcond.2
        have hx := (ho.one h2).cells
        have hlen := hx.length
        have hle : i * k + k ≤ n * k := by rw [← Nat.succ_mul]; exact Nat.mul_le_mul_right k q2
        have hsz : (ρ x).cells.size = k := by have : (ρ x).cells.size = (ρ x).cells.toList.length := by simp
                                              omega
        have hg' : ∀ j, j < n * k → ∃ v V, cellAt' (t.put i (some (cellsOf (opd tm a)))) z k j = some v ∧ (wrote C (i * k) (ρ x).cells.toList)[j]? = some V ∧ VR ι v V := by
          intro j hj
          rw [wrote_get _ _ _ _ (by omega)]
          have hk : 0 < k := by rcases Nat.eq_zero_or_pos k with rfl | hk; simp at hj; exact hk
          simp only [cellAt', elemAt_put, nth_eq]
          by_cases e2 : j / k = i
          · have hj2 := Nat.div_add_mod j k
            have hj3 := Nat.mod_lt j hk
            rw [e2] at hj2
            rw [Nat.mul_comm] at hj2
            rw [if_pos e2, if_pos (by omega)]
            have : (cellsOf (opd tm a))[j % k]? = some ((cellsOf (opd tm a))[j % k]'(by omega)) := by simp
            obtain ⟨V, p1, p2⟩ := hx.get _ this
            exact ⟨_, V, this, by rw [show j - i * k = j % k from by omega]; exact p1, p2⟩
          · rw [if_neg e2, if_neg]
            · obtain ⟨v, V, p1, p2, p3⟩ := hg j hj
              simp only [cellAt', nth_eq] at p1
              exact ⟨v, V, p1, p2, p3⟩
            · intro hh
              apply e2
              exact Nat.div_eq_of_lt_le hh.1 (by rw [Nat.succ_mul]; omega)
        obtain ⟨D, k1, k2⟩ := cpartsS_ok h3 ho (by rw [wrote_size]; exact hs) (hE.put i q1) hg' hf
        refine ⟨D, ?_, k2⟩
        simp only [List.map_cons, Instr.fill]
        rw [if_neg (by simp only [hsz]; simp; omega), fill_foldl]
        exact k1
      · cases hf
    · cases e

theorem zeros_get (Z : Array Value) (n j : Nat) (hj : j < n) (hZ : 0 < Z.size) : ((Array.range n).map (Z[· % Z.size]!))[j]? = Z[j % Z.size]? := by
  have : j % Z.size < Z.size := Nat.mod_lt _ hZ
  simp [hj, this]

theorem zeros_ok {z : List AVal} {Z : Array Value} (hz : VRL ι z Z.toList) {k n : Nat} (hk : z.length = k) : ∀ j, j < n * k → ∃ v V, cellAt' .leaf z k j = some v ∧ ((Array.range (n * k)).map (Z[· % Z.size]!))[j]? = some V ∧ VR ι v V := by
  intro j hj
  have hk0 : 0 < k := by rcases Nat.eq_zero_or_pos k with rfl | h; simp at hj; exact h
  have hsz : Z.size = k := by have := hz.length; simp at this; omega
  have hlt : j % k < k := Nat.mod_lt _ hk0
  have : z[j % k]? = some (z[j % k]'(by omega)) := by simp
  obtain ⟨V, h1, h2⟩ := hz.get _ this
  refine ⟨_, V, by rw [cellAt_leaf]; exact this, ?_, h2⟩
  rw [zeros_get Z _ _ hj (by omega), hsz]
  simpa using h1

theorem new_bslice (ho : OpR G ι tm ρ) {t el : TypeId} {n : Nat} {ps : Array (Nat × Operand)} (ht : P.underlying t = some (.slice el)) {z : List AVal} (hz : zeroP P el = some z) {k : Nat} (hk : szP P el = some k) (hzk : z.length = k)
    (hn : n * k ≤ 16777216) {as : List (Nat × AOpd)} (hps : cpartsS G ps.toList = some as) {o : Oper} (hop : o.op = .buildSlice t n ps) {t' : Tree (List AVal)} (e : fillS tm k n as .leaf = some t') :
    NewR ι w (.cells t' z k n true) (.sl · 0 n (some n)) ((execOp ρ o).run P w) := by
  obtain ⟨V, z1, z2⟩ := zeroP_some hz
  have hleaf : ElemsOK .leaf z k := hzk ▸ elemsOK_leaf z
  have hparts : (ps.map fun (i, x) => (i, ρ x)).toList = ps.toList.map fun (i, x) => (i, ρ x) := by simp
  -- the row of zeros, as the model makes it
  have hC : ∃ Z : Array Value, (n * k = 0 → Z = #[]) ∧ (n * k ≠ 0 → Z = V.cells) ∧
      ((Array.range (n * k)).map (Z[· % Z.size]!)).size = n * k ∧ ∀ j, j < n * k → ∃ v V, cellAt' .leaf z k j = some v ∧ ((Array.range (n * k)).map (Z[· % Z.size]!))[j]? = some V ∧ VR ι v V := by
    by_cases h0 : n * k = 0
    · exact ⟨#[], fun _ => rfl, fun hh => absurd h0 hh, by simp, fun j hj => by omega⟩
    · exact ⟨V.cells, fun hh => absurd hh h0, fun _ => rfl, by simp, zeros_ok (z2 ι) hzk⟩
  obtain ⟨Z, c0, c1, c2, c3⟩ := hC
  obtain ⟨D, d1, d2, d3, d4⟩ := cpartsS_ok hps ho c2 hleaf c3 e
  refine .of_alloc (.cells ⟨D.toList⟩ el) ⟨w.heap.size, 0, k, n * k⟩ (.slice (some ⟨w.heap.size, 0, none⟩) n n) rfl
    (objOK_core d3 (C := D.toList) (fun j hj => by simpa using d4 j hj) (heap_alloc_new w _) _ (by simp [d2]) (Nat.le_refl _) (.inl rfl)) (fun ι' q hq => by simp only [VR]; exact .inl ⟨_, hq, Nat.le_refl _, by simp⟩) ?_
  have hbig : ¬ (n * k > 2 ^ 24) := by omega
  by_cases h0 : n * k = 0
  · rw [c0 h0] at d1
    simp only [execOp, hop, Instr.buildSlice, Sem.run_bind, run_underlying' ht, Result.andThen_ok, run_sizeOf' hk, if_neg hbig, Sem.run_pure, if_pos h0, hparts, d1, newRow, run_newObj]
    rfl
  · rw [c1 h0] at d1
    simp only [execOp, hop, Instr.buildSlice, Sem.run_bind, run_underlying' ht, Result.andThen_ok, run_sizeOf' hk, if_neg hbig, Sem.run_pure, if_neg h0, z1, hparts, d1, newRow, run_newObj]
    rfl

theorem sim_bslice (R : Rel G ι h w) (ho : OpR G ι tm ρ) {t el : TypeId} {n : Nat} {ps : Array (Nat × Operand)} (ht : P.underlying t = some (.slice el)) {z : List AVal} (hz : zeroP P el = some z) {k : Nat} (hk : szP P el = some k) (hzk : z.length = k)
    (hn : n * k ≤ 16777216) {as : List (Nat × AOpd)} (hps : cpartsS G ps.toList = some as) {o : Oper} (hop : o.op = .buildSlice t n ps) {t' : Tree (List AVal)} (e : fillS tm k n as .leaf = some t') :
    RSim P G ι h w (.val (.sl h.next 0 n (some n)) (h.new (.cells t' z k n true))) ((execOp ρ o).run P w) := .of_new R (new_bslice ho ht hz hk hzk hn hps hop e)

theorem sim_mkmap (R : Rel G ι h w) {t : TypeId} {o : Oper} (hop : o.op = .makeMap t none) : RSim P G ι h w (.val (.map h.next) (h.new (.map []))) ((execOp ρ o).run P w) := by
  obtain ⟨r1, r2⟩ := rel_new R (.map []) (.map #[] 0) ⟨w.heap.size, 0, 0, 0⟩ rfl ⟨by simp, #[], 0, heap_alloc_new w _, by simp [EsR]⟩
  refine .val r1 r2 (V := .map (some w.heap.size)) (by simp only [VR]; exact ⟨_, Gh.ext_same _ _ _, rfl⟩) ?_
  simp [execOp, hop, Instr.makeMap]

theorem i64uwrap_nat {n : Nat} (hn : n ≤ 9223372036854775807) : IntKind.i64.wrap (n : Int) = n := IntWalk.i64_in _ (by constructor <;> omega)

theorem new_mksl (ho : OpR G ι tm ρ) {t el : TypeId} (ht : P.underlying t = some (.slice el)) {z : List AVal} (hz : zeroP P el = some z) {i : TypeInfo} (hi : P.info? el = some i) (hzk : z.length = i.size)
    {x y : Operand} {a b : AOpd} (e1 : copd G x = some a) (e2 : copd G y = some b) {o : Oper} (hop : o.op = .makeSlice t x y) {l c : Nat} (hl : natOf (opd tm a) = some l) (hc : natOf (opd tm b) = some c) (hle : l ≤ c) (hsm : c * (i.bytes + 1) ≤ 100000000000) :
    NewR ι w (.cells .leaf z z.length c true) (.sl · 0 l (some c)) ((execOp ρ o).run P w) := by
  obtain ⟨V, z1, z2⟩ := zeroP_some hz
  obtain ⟨k1, _, hA⟩ := natOf_ok hl (ho.one e1)
  obtain ⟨k2, _, hB⟩ := natOf_ok hc (ho.one e2)
  have hk : szP P el = some z.length := by unfold szP; rw [hi]; simp [hzk]
  have hcb : c ≤ 100000000000 := by have : c * 1 ≤ c * (i.bytes + 1) := Nat.mul_le_mul_left c (by omega); omega
  have hbc : i.bytes * c ≤ 100000000000 := by rw [Nat.mul_comm]; rw [Nat.mul_add] at hsm; omega
  have hwl := i64uwrap_nat (n := l) (by omega)
  have hwc := i64uwrap_nat (n := c) (by omega)
  have hl1 : ¬ ((c : Int) < 0) := by omega
  have hl2 : ¬ ((i.bytes : Int) * (c : Int) > 2 ^ 48) := by
    have : ((i.bytes * c : Nat) : Int) = (i.bytes : Int) * (c : Int) := by simp
    omega
  have hl3 : ¬ ((l : Int) < 0) := by omega
  have hl4 : ¬ ((l : Int) > (c : Int)) := by omega
  obtain ⟨Z, c0, c1, c2, c3⟩ : ∃ Z : Array Value, (c * z.length = 0 → Z = #[]) ∧ (c * z.length ≠ 0 → Z = V.cells) ∧
      ((Array.range (c * z.length)).map (Z[· % Z.size]!)).size = c * z.length ∧ ∀ j, j < c * z.length → ∃ v V, cellAt' .leaf z z.length j = some v ∧ ((Array.range (c * z.length)).map (Z[· % Z.size]!))[j]? = some V ∧ VR ι v V := by
    by_cases h0 : c * z.length = 0
    · exact ⟨#[], fun _ => rfl, fun hh => absurd h0 hh, by simp, fun j hj => by omega⟩
    · exact ⟨V.cells, fun hh => absurd hh h0, fun _ => rfl, by simp, zeros_ok (z2 ι) rfl⟩
  obtain ⟨D, hD⟩ : ∃ D, D = (Array.range (c * z.length)).map (Z[· % Z.size]!) := ⟨_, rfl⟩
  rw [← hD] at c2 c3
  refine .of_alloc (.cells ⟨D.toList⟩ el) ⟨w.heap.size, 0, z.length, c * z.length⟩ (.slice (some ⟨w.heap.size, 0, none⟩) l c) rfl
    (objOK_core (elemsOK_leaf z) (C := D.toList) (fun j hj => by simpa using c3 j hj) (heap_alloc_new w _) _ (by simp [c2]) (Nat.le_refl _) (.inl rfl)) (fun ι' q hq => by simp only [VR]; exact .inl ⟨_, hq, hle, by simp⟩) ?_
  have hcn : ((c : Int)).toNat = c := by simp
  have hln : ((l : Int)).toNat = l := by simp
  have hb1 : (decide ((c : Int) < 0) || decide ((i.bytes : Int) * (c : Int) > 2 ^ 48)) = false := by simp only [Bool.or_eq_false_iff, decide_eq_false_iff_not]; exact ⟨hl1, hl2⟩
  have hb2 : decide ((l : Int) < 0) = false := decide_eq_false hl3
  have hb3 : decide ((l : Int) > (c : Int)) = false := by simpa using hl4
  by_cases h0 : c * z.length = 0
  · have hDe : D = (Array.range (c * z.length)).map ((#[] : Array Value)[· % (#[] : Array Value).size]!) := by rw [hD, c0 h0]
    simp only [execOp, hop, Instr.makeSlice, Sem.run_bind, run_underlying' ht, Result.andThen_ok, hA, hB, asInt, asIntOf, Sem.run_pure, run_typeInfo' hi, hwl, hwc, hb1, hb2, hb3, Bool.or_false, Bool.false_eq_true, if_false, run_askRoom, hcn, hln, run_sizeOf' hk, if_pos h0, newRow, run_newObj, ← hDe]
    rfl
  · have hDe : D = (Array.range (c * z.length)).map (V.cells[· % V.cells.size]!) := by rw [hD, c1 h0]
    simp only [execOp, hop, Instr.makeSlice, Sem.run_bind, run_underlying' ht, Result.andThen_ok, hA, hB, asInt, asIntOf, Sem.run_pure, run_typeInfo' hi, hwl, hwc, hb1, hb2, hb3, Bool.or_false, Bool.false_eq_true, if_false, run_askRoom, hcn, hln, run_sizeOf' hk, if_neg h0, z1, newRow, run_newObj, ← hDe]
    rfl

/-! ### Bytes and strings -/
theorem sim_mksl (R : Rel G ι h w) (ho : OpR G ι tm ρ) {t el : TypeId} (ht : P.underlying t = some (.slice el)) {z : List AVal} (hz : zeroP P el = some z) {i : TypeInfo} (hi : P.info? el = some i) (hzk : z.length = i.size)
    {x y : Operand} {a b : AOpd} (e1 : copd G x = some a) (e2 : copd G y = some b) {o : Oper} (hop : o.op = .makeSlice t x y) {l c : Nat} (hl : natOf (opd tm a) = some l) (hc : natOf (opd tm b) = some c) (hle : l ≤ c) (hsm : c * (i.bytes + 1) ≤ 100000000000) :
    RSim P G ι h w (.val (.sl h.next 0 l (some c)) (h.new (.cells .leaf z z.length c true))) ((execOp ρ o).run P w) := .of_new R (new_mksl ho ht hz hi hzk e1 e2 hop hl hc hle hsm)

theorem byteCells_eq (s : List UInt8) : byteCells s = s.map fun b => .int .u8 b.toNat := by
  induction s with
  | nil => rfl
  | cons b s ih => simp [byteCells, ih]
theorem byteCells_ok (ι : Gh) (s : List UInt8) : VRL ι (byteCells s) (s.map fun b => Value.int .u8 b.toNat) := by
  rw [byteCells_eq]
  refine VRL.of_get (by simp) fun n v hv => ?_
  simp only [List.getElem?_map, Option.map_eq_some_iff] at hv ⊢
  obtain ⟨b, h1, rfl⟩ := hv
  exact ⟨_, ⟨b, h1, rfl⟩, VR.of_int _ _⟩

theorem chunks_ok {k : Nat} {z : List AVal} : ∀ (n : Nat) (l : List AVal) (e : Nat) (t : Tree (List AVal)), n * k ≤ l.length → ElemsOK t z k →
    ElemsOK (chunks k n l e t) z k ∧ ∀ x, elemAt (chunks k n l e t) z x = if e ≤ x ∧ x < e + n then (l.drop ((x - e) * k)).take k else elemAt t z x
  | 0, l, e, t, hl, hE => ⟨hE, fun x => by
      have : ¬ (e ≤ x ∧ x < e) := by omega
      simp [chunks, this]⟩
  | n + 1, l, e, t, hl, hE => by
    rw [Nat.succ_mul] at hl
    simp only [chunks, takeN_eq, dropN_eq]
    obtain ⟨h1, h2⟩ := chunks_ok (z := z) n (l.drop k) (e + 1) (t.put e (some (l.take k))) (by simp; omega) (hE.put e (by simp; omega))
    refine ⟨h1, fun x => ?_⟩
    rw [h2 x, elemAt_put]
    by_cases e1 : e + 1 ≤ x ∧ x < e + 1 + n
    · rw [if_pos e1, if_pos (by omega), List.drop_drop]
      congr 2
      rw [show x - e = (x - (e + 1)) + 1 from by omega, Nat.succ_mul]; omega
    · rw [if_neg e1]
      by_cases e2 : x = e
      · subst e2; simp
      · rw [if_neg e2, if_neg (by omega)]

theorem chunks_cell {k : Nat} {z : List AVal} {n : Nat} {l : List AVal} {e : Nat} {t : Tree (List AVal)} (hl : n * k ≤ l.length) (hE : ElemsOK t z k) {j : Nat} (hk : 0 < k) :
    cellAt' (chunks k n l e t) z k j = if e * k ≤ j ∧ j < (e + n) * k then l[j - e * k]? else cellAt' t z k j := by
  have hd := Nat.div_add_mod j k
  have hm := Nat.mod_lt j hk
  simp only [cellAt', nth_eq, (chunks_ok n l e t hl hE).2]
  by_cases c : e ≤ j / k ∧ j / k < e + n
  · have c1 : e * k ≤ j := by
      have := Nat.mul_le_mul_right k c.1
      rw [Nat.mul_comm k] at hd; omega
    have c2 : j < (e + n) * k := by
      have := Nat.mul_le_mul_right k (show j / k + 1 ≤ e + n from c.2)
      rw [Nat.succ_mul] at this; rw [Nat.mul_comm k] at hd; omega
    rw [if_pos c, if_pos ⟨c1, c2⟩, List.getElem?_take_of_lt hm, List.getElem?_drop]
    congr 1
    rw [Nat.sub_mul]; rw [Nat.mul_comm k] at hd
    have := Nat.mul_le_mul_right k c.1
    omega
  · rw [if_neg c, if_neg]
    intro hh
    apply c
    constructor
    · exact (Nat.le_div_iff_mul_le hk).2 hh.1
    · exact (Nat.div_lt_iff_lt_mul hk).2 hh.2

theorem new_convSB (ho : OpR G ι tm ρ) {x : Operand} {a : AOpd} (e1 : copd G x = some a) {s d el : TypeId} {o : Oper} (hop : o.op = .convert s d x)
    (hs : P.underlying s = some .string) (hd : P.underlying d = some (.slice el)) (he : P.underlying el = some (.int .u8)) {l : List UInt8} (hv : opd tm a = .str l) :
    NewR ι w (.cells (chunks 1 (ln l) (byteCells l) 0 .leaf) [.int .u8 0] 1 (ln l) true) (.sl · 0 (ln l) none) ((execOp ρ o).run P w) := by
  have hx := ho.one e1
  rw [hv] at hx
  rw [ln_eq]
  have hrun := Lib.run_convert_string_bytes (P := P) w s d el ⟨⟨l⟩⟩ hs hd he
  have hnew := Lib.bytesWorld_at_new w el ⟨⟨l⟩⟩
  generalize hcap : grownCap w (⟨⟨l⟩⟩ : ByteArray).size 0 el = cap at hrun
  have hcells : Lib.bytesCells w el ⟨⟨l⟩⟩ = ⟨(l.map fun b => Value.int .u8 b.toNat) ++ List.replicate (cap - l.length) (.int .u8 0)⟩ := by
    have : (⟨⟨l⟩⟩ : ByteArray).size = l.length := rfl
    rw [this] at hcap
    simp only [Lib.bytesCells, this, hcap]
    apply Array.toList_inj.1; simp
  have hle : l.length ≤ cap := by
    have h1 : (⟨⟨l⟩⟩ : ByteArray).size = l.length := rfl
    rw [← hcap, h1]; unfold grownCap; simp [Question.cut]
  rw [hcells] at hnew
  have hbl := byteCells_ok ι l
  have hlen : (byteCells l).length = l.length := by rw [byteCells_eq]; simp
  have hE : ElemsOK (.leaf : Tree (List AVal)) [.int .u8 0] 1 := elemsOK_leaf [.int .u8 0]
  refine ⟨⟨w.heap.size, 0, 1, cap⟩, Lib.bytesWorld w el ⟨⟨l⟩⟩, .slice (some ⟨w.heap.size, 0, none⟩) l.length cap, rfl, Lib.bytesWorld_size w el _, fun B hB => Lib.bytesWorld_at_old w el _ B hB,
    ⟨by simp [Lib.bytesWorld, World.freeze]; rfl, by simp [Lib.bytesWorld, World.freeze], by simp [Lib.bytesWorld, World.freeze]; rfl⟩,
    (objOK_core (chunks_ok l.length (byteCells l) 0 .leaf (by omega) hE).1 (fun j hj => by
      rw [chunks_cell (by omega) hE (by omega)]
      rw [if_pos (by omega)]
      simp only [Nat.zero_mul, Nat.sub_zero]
      have : (byteCells l)[j]? = some ((byteCells l)[j]'(by omega)) := by simp
      obtain ⟨V, q1, q2⟩ := hbl.get j this
      exact ⟨_, V, this, by rw [List.getElem?_append_left (by simp; omega)]; exact q1, q2⟩) hnew _ (by simp; omega) (by omega) (.inr (by simp))),
    fun ι' q hq => by simp only [VR]; exact ⟨_, hq, .inl ⟨cap, hle, by simp, by simp⟩⟩, ?_⟩
  have h1 : (⟨⟨l⟩⟩ : ByteArray).size = l.length := rfl
  rw [h1] at hrun
  simp [execOp, hop, hx.str_inv, hrun]

theorem sim_convSB (R : Rel G ι h w) (ho : OpR G ι tm ρ) {x : Operand} {a : AOpd} (e1 : copd G x = some a) {s d el : TypeId} {o : Oper} (hop : o.op = .convert s d x)
    (hs : P.underlying s = some .string) (hd : P.underlying d = some (.slice el)) (he : P.underlying el = some (.int .u8)) {l : List UInt8} (hv : opd tm a = .str l) :
    RSim P G ι h w (.val (.sl h.next 0 (ln l) none) (h.new (.cells (chunks 1 (ln l) (byteCells l) 0 .leaf) [.int .u8 0] 1 (ln l) true))) ((execOp ρ o).run P w) := .of_new R (new_convSB ho e1 hop hs hd he hv)

end
end Go.Am

/- The abstract machine, part 11: append, copy, clear, len and the conversions that read. Conditions: none. -/
namespace Go.Am

section
variable {P : Program} {G : Nat → Option Nat} {ι : Gh} {h : Hp} {w : World} {tm : List AVal} {ρ : Operand → Value}

theorem rdS_ok (R : Rel G ι h w) {k : Nat} {x : AVal} {X : Value} {n : Nat} {l : List AVal} (e : rdS h k x = some (n, l)) (hx : VR ι x X) :
    (Builtin.lenOf X).run P w = .ok n w ∧ l.length = n * k ∧ ∃ L, (Builtin.firstCells k n X).run P w = .ok ⟨L⟩ w ∧ VRL ι l L := by
  unfold rdS at e
  split at e
  · next s =>
    split at e
    · next hk =>
      have hk := Nat.eq_of_beq_eq_true hk
      subst hk
      cases e
      rw [hx.str_inv, ln_eq]
      have hsz : (⟨⟨s⟩⟩ : ByteArray).size = s.length := rfl
      refine ⟨by simp [Builtin.lenOf, hsz], by rw [byteCells_eq]; simp, s.map fun b => Value.int .u8 b.toNat, ?_, byteCells_ok ι s⟩
      simp only [Builtin.firstCells, ba_extract, Sem.run_pure, Nat.sub_zero, List.drop_zero, List.take_length]
      congr 1
      apply Array.toList_inj.1; simp
    · cases e
  · cases e
    have hX : X = .slice none 0 0 := by simpa only [VR] using hx
    subst hX
    exact ⟨by simp [Builtin.lenOf], by simp, [], by simp [Builtin.firstCells], by simp [VRL]⟩
  · next g o m c =>
    split at e
    · next ob hg =>
      split at e
      · next l' hr =>
        cases e
        obtain ⟨i, h1, hO⟩ := R.ob g ob hg
        obtain ⟨L, k1, k2, k3⟩ := load_many hO hr
        rcases hx.sl_inv with ⟨j, C, h2, h3, rfl, _, _⟩ | ⟨rfl, ⟨A, rfl⟩, _, _⟩
        · rw [h1] at h2; cases h2
          refine ⟨by simp [Builtin.lenOf], by rw [k2.length, k1], L, ?_, k2⟩
          simp only [Builtin.firstCells]
          exact run_loadCells P w _ _ _ L k1 k3
        · have hl : L = [] := List.length_eq_zero_iff.1 (by omega)
          subst hl
          refine ⟨by simp [Builtin.lenOf], by rw [k2.length, k1], [], ?_, k2⟩
          simp [Builtin.firstCells, loadCells, loadCellsFrom]
      · cases e
    · cases e
  · cases e

theorem sim_convBS (R : Rel G ι h w) (ho : OpR G ι tm ρ) {x : Operand} {a : AOpd} (e1 : copd G x = some a) {s d el : TypeId} {o : Oper} (hop : o.op = .convert s d x)
    (hs : P.underlying s = some (.slice el)) (hd : P.underlying d = some .string) (he : P.underlying el = some (.int .u8)) {n : Nat} {l : List AVal} (hr : rdS h 1 (opd tm a) = some (n, l)) (hns : ∀ s, opd tm a ≠ .str s)
    {r : List UInt8} (hc : cellBytes l = some r) : RSim P G ι h w (.val (.str r) h) ((execOp ρ o).run P w) := by
  have hx := ho.one e1
  have hbytes : ∀ {l : List AVal} {r : List UInt8} {L : List Value}, cellBytes l = some r → VRL ι l L → ∃ ns : List Int, L = ns.map (Value.int .u8) ∧ ∀ s : List UInt8, ns.foldl (fun (r : ByteArray) n => r.push (UInt8.ofNat n.toNat)) ⟨⟨s⟩⟩ = ⟨⟨s ++ r⟩⟩ := by
    intro l
    induction l with
    | nil => intro r L e hv; simp [cellBytes] at e; subst e; simp only [VRL] at hv; subst hv; exact ⟨[], rfl, fun s => by simp⟩
    | cons v l ih =>
      intro r L e hv
      obtain ⟨V, L', rfl, h1, h2⟩ := VRL.cons_iff.1 hv
      unfold cellBytes at e
      split at e
      · next heq => cases heq
      · next n l' heq =>
        cases heq
        split at e
        · next r' hr' =>
          cases e
          obtain ⟨ns, q1, q2⟩ := ih hr' h2
          refine ⟨n :: ns, by rw [h1.int_inv, q1]; rfl, fun s => ?_⟩
          simp only [List.foldl_cons]
          have : (⟨⟨s⟩⟩ : ByteArray).push (UInt8.ofNat n.toNat) = ⟨⟨s ++ [UInt8.ofNat n.toNat]⟩⟩ := by ext1; simp
          rw [this, q2]; simp
        · cases e
      · cases e
  unfold rdS at hr
  split at hr
  · next s hs' => exact absurd hs' (hns s)
  · next hv =>
    cases hr
    simp [cellBytes] at hc; subst hc
    rw [hv] at hx
    have hX : ρ x = .slice none 0 0 := by simpa only [VR] using hx
    refine .same R (VR.of_str _) ?_
    simp [execOp, hop, hX, run_convert_bytes_string w s d el none 0 0 hs he hd, Conv.bytesToString]; rfl
  · next g o' m c hv =>
    split at hr
    · next ob hg =>
      split at hr
      · next l' hr' =>
        cases hr
        rw [hv] at hx
        obtain ⟨i, h1, hO⟩ := R.ob g ob hg
        obtain ⟨L, k1, k2, k3⟩ := load_many hO hr'
        obtain ⟨ns, q1, q2⟩ := hbytes hc k2
        rcases hx.sl_inv with ⟨j, C, h2, h3, h4, _, _⟩ | ⟨rfl, ⟨A, h4⟩, _, _⟩
        · rw [h1] at h2; cases h2
          have hld := run_loadCells P w _ _ _ L k1 k3
          rw [q1] at hld
          refine .same R (VR.of_str _) ?_
          have hb := run_bytesToString (P := P) w ⟨i.b, o' + i.d, none⟩ n C ns (by simpa using hld)
          have := q2 []
          simp only [List.nil_append] at this
          have h0 : ByteArray.empty = ⟨⟨[]⟩⟩ := rfl
          rw [h0, this] at hb
          simp [execOp, hop, h4, run_convert_bytes_string w s d el _ _ _ hs he hd, hb]
        · have hl : L = [] := List.length_eq_zero_iff.1 (by omega)
          have hns : ns = [] := by rw [hl] at q1; simpa using q1.symm
          subst hns
          have := q2 []
          simp only [List.foldl_nil, List.nil_append] at this
          refine .same R (V := .string ByteArray.empty) ?_ ?_
          · rw [show ByteArray.empty = ⟨⟨[]⟩⟩ from rfl, this]; exact VR.of_str r
          · have hb := run_bytesToString (P := P) w A 0 0 [] (by simp [loadCells, loadCellsFrom])
            simp [execOp, hop, h4, run_convert_bytes_string w s d el _ _ _ hs he hd, hb]
      · cases hr
    · cases hr
  · cases hr

theorem freeze_heap (w : World) (b o : Nat) {cs : Array Value} {el : TypeId} {fz : Nat × Nat} (hb : w.heap[b]? = some (.cells cs el fz)) :
    (w.freeze ⟨b, o, none⟩ 1).heap[b]? = some (.cells cs el (if fz.1 == fz.2 then (o, o + 1) else (min fz.1 o, max fz.2 (o + 1)))) ∧ (∀ B, B ≠ b → (w.freeze ⟨b, o, none⟩ 1).heap[B]? = w.heap[B]?) ∧ (w.freeze ⟨b, o, none⟩ 1).heap.size = w.heap.size := by
  obtain ⟨lo, hi⟩ := fz
  refine ⟨?_, fun B hB => ?_, ?_⟩
  · simp [World.freeze, Array.getElem?_modify, hb]
  · simp [World.freeze, Array.getElem?_modify, Ne.symm hB]
  · simp [World.freeze]

theorem Hp.set_same (h : Hp) {g : Nat} {o : Obj} (hg : h.m.get g = some o) : ∀ x, (h.set g o).m.get x = h.m.get x := by
  intro x
  simp only [Hp.set, Tree.get_put]
  split
  · next e => subst e; exact hg.symm
  · rfl

/-- Two heaps that read alike are alike. -/
theorem Rel.congr {h' : Hp} (R : Rel G ι h w) (e : ∀ x, h'.m.get x = h.m.get x) (en : h'.next = h.next) : Rel G ι h' w :=
  ⟨fun g o hg => R.ob g o (by rw [← e]; exact hg), fun g hg => R.nx g (by omega), fun g g' o o' i i' a b => R.sp g g' o o' i i' (by rw [← e]; exact a) (by rw [← e]; exact b), R.gl⟩

theorem sim_convSS (R : Rel G ι h w) (ho : OpR G ι tm ρ) {x : Operand} {a : AOpd} (e1 : copd G x = some a) {s el : TypeId} {o : Oper} (hop : o.op = .convert s s x)
    (hs : P.underlying s = some (.slice el)) (he : P.underlying el = some (.int .u8)) {g of n : Nat} {c : Option Nat} (hv : opd tm a = .sl g of (n + 1) c) {t : Tree (List AVal)} {z : List AVal} {k m : Nat} (hg : h.m.get g = some (.cells t z k m true)) :
    RSim P G ι h w (.val (.sl g of (n + 1) c) h) ((execOp ρ o).run P w) := by
  have hx := ho.one e1
  rw [hv] at hx
  rcases hx.sl_inv with ⟨i, C, h1, h2, h3, _, _⟩ | ⟨hn, _⟩
  · obtain ⟨i', q1, hO⟩ := R.ob g _ hg
    rw [h1] at q1; cases q1
    obtain ⟨hb, hE, hik, hC, hW⟩ := hO
    obtain ⟨cs, elc, fz, k1, k2, k3, k4⟩ := hW rfl
    obtain ⟨f1, f2, f3⟩ := freeze_heap w i.b cs.size k1
    have hO' : ObjOK ι (.cells t z k m true) i (w.freeze ⟨i.b, cs.size, none⟩ 1) := by
      refine ⟨by rw [f3]; exact hb, hE, hik, fun j hj => ?_, fun _ => ⟨cs, elc, _, f1, k2, k3, .inr ?_⟩⟩
      · obtain ⟨v, V, p1, p2, p3⟩ := hC j hj
        refine ⟨v, V, p1, ?_, p3⟩
        rw [← p2]; simp [World.cell?, f1, k1]
      · rcases k4 with rfl | k4
        · simp
        · split
          · simp
          · simp; omega
    obtain ⟨r1, r2⟩ := rel_set R hg rfl h1 f3 f2 (by simp [World.freeze]) (by simp [World.freeze]) (by simp [World.freeze]) hO'
    have r1' := r1.congr (h' := h) (fun x => (Hp.set_same h hg x).symm) rfl
    refine ⟨ι, _, _, r1', ⟨r2.le, r2.os, r2.tp, r2.out, r2.sz, r2.fr, fun B hB => .inl hB, fun B hB => .inl hB, Nat.le_refl _, fun _ _ => ⟨rfl, id⟩⟩, by rw [← hv]; exact ho.one e1, .inl ?_⟩
    have hsh : w.shape? i.b = some (elc, cs.size) := by simp [World.shape?, k1]
    simp [execOp, hop, convert, run_underlying' hs, h3, run_underlying' he, markStringish, hsh]
  · omega

/-! ### Growth -/
theorem nextslicecap_le (n c : Nat) (hlt : c < n) : Builtin.nextslicecap n c ≤ 4 * n + 2000 := by
  unfold Builtin.nextslicecap
  split
  · omega
  · split
    · omega
    · have step : ∀ r c, Builtin.growBy n r c ≤ max c (4 * n + 2000) ∨ True := fun _ _ => .inr trivial
      simp only [Builtin.growBy]
      repeat (first | omega | split)

theorem run_cut (need old : Nat) (el : TypeId) (hn : need < 2 ^ 63) (w : World) : ∃ cap, need ≤ cap ∧ (choose (.appendCap need old el)).run P w = .ok cap w.drew := by
  refine ⟨_, ?_, by simp [Question.forced]; rfl⟩
  simp [Question.cut]

end
end Go.Am

/- The abstract machine, part 12: append. Conditions: none. -/
namespace Go.Am

section
variable {P : Program} {G : Nat → Option Nat} {ι : Gh} {h : Hp} {w : World} {tm : List AVal} {ρ : Operand → Value}

theorem Rel.drew (R : Rel G ι h w) : Rel G ι h w.drew := R.of_heap rfl

/-- What the types of append's arguments must be. -/
def AppT (P : Program) (ts : Array TypeId) (el : TypeId) (k by_ : Nat) : Prop :=
  (∃ t, ts[0]? = some t ∧ P.underlying t = some (.slice el)) ∧ (∃ i z, P.info? el = some i ∧ i.size = k ∧ i.bytes = by_ ∧ zeroP P el = some z ∧ z.length = k) ∧
  (ts[1]? = none ∨ ∃ t d, ts[1]? = some t ∧ P.underlying t = some d ∧ ∀ q, d ≠ .int q)

theorem append_grow {ts : Array TypeId} {el : TypeId} {k by_ : Nat} (hT : AppT P ts el k by_) {base : Option Addr} {sLen C m : Nat} {X : Value} {L1 L2 : List Value}
    (hlen : (Builtin.lenOf X).run P w = .ok m w) (h1 : (Builtin.firstCells k sLen (.slice base sLen C)).run P w.drew = .ok ⟨L1⟩ w.drew) (h2 : (Builtin.firstCells k m X).run P w.drew = .ok ⟨L2⟩ w.drew)
    (hgt : C < sLen + m) (hb : (4 * (sLen + m) + 2000) * (by_ + 1) ≤ 100000000000) (ty : TypeId) :
    ∃ cap, ∃ rest : List Value, sLen + m ≤ cap ∧ rest.length = (cap - (sLen + m)) * k ∧
      (Builtin.append_ ts ty #[.slice base sLen C, X]).run P w = .ok (.slice (some ⟨w.heap.size, 0, none⟩) (sLen + m) cap) (w.drew.alloc (.cells ⟨L1 ++ L2 ++ rest⟩ el)) := by
  obtain ⟨⟨t, t1, t2⟩, ⟨i, z, i1, i2, i3, i4, i5⟩, hz⟩ := hT
  obtain ⟨V, z1, z2⟩ := zeroP_some i4
  have hneed : sLen + m ≤ 25000000000 := by
    have : (4 * (sLen + m) + 2000) * 1 ≤ (4 * (sLen + m) + 2000) * (by_ + 1) := Nat.mul_le_mul_left _ (by omega)
    omega
  obtain ⟨cap, c1, c2⟩ := run_cut (P := P) (sLen + m) C el (by omega) w
  have hk : szP P el = some k := by unfold szP; rw [i1]; simp [i2]
  have hVs : V.cells.size = k := by have := (z2 (fun _ => none)).length; simp at this; omega
  refine ⟨cap, (Builtin.zeroCells V.cells (cap - (sLen + m))).toList, c1, by simp [Builtin.zeroCells, hVs], ?_⟩
  have n1 : ¬ (sLen + m ≤ C) := by omega
  have n2 : ¬ (((sLen + m : Nat) : Int) > IntKind.i64.max ∧ ((false = true) ∨ i.bytes = 0)) := by
    have : IntKind.i64.max = 9223372036854775807 := by decide
    intro hh; have := hh.1; omega
  have n3 : ¬ (Builtin.nextslicecap (sLen + m) C * i.bytes > 2 ^ 48) := by
    have q1 := nextslicecap_le (sLen + m) C hgt
    have q2 : Builtin.nextslicecap (sLen + m) C * i.bytes ≤ (4 * (sLen + m) + 2000) * (by_ + 1) := Nat.mul_le_mul q1 (by omega)
    omega
  have n2' : ¬ (((sLen + m : Nat) : Int) > IntKind.i64.max) := by
    have : IntKind.i64.max = 9223372036854775807 := by decide
    omega
  have hArr : ∀ Z : Array Value, (⟨L1⟩ : Array Value) ++ ⟨L2⟩ ++ Z = ⟨L1 ++ L2 ++ Z.toList⟩ := fun Z => by apply Array.toList_inj.1; simp
  have g0 : (#[Value.slice base sLen C, X] : Array Value)[0]? = some (.slice base sLen C) := rfl
  have g1 : (#[Value.slice base sLen C, X] : Array Value)[1]? = some X := rfl
  have n2'' : ¬ (((sLen + m : Nat) : Int) > IntKind.i64.max ∧ (False ∨ i.bytes = 0)) := fun hh => n2' hh.1
  rcases hz with hz | ⟨xt, d, hz, hd, hn⟩
  · unfold Builtin.append_
    rw [t1, g0, g1, hz]
    simp only [Sem.run_bind, run_underlying' t2, Result.andThen_ok, run_sizeOf' hk, Sem.run_pure, Bool.false_eq_true, if_false, hlen, if_neg n1, run_typeInfo' i1, false_or, if_neg n3]
    rw [if_neg (fun hh => n2' hh.1)]
    simp only [Sem.run_bind, run_typeInfo' i1, Result.andThen_ok, if_neg n3, c2, run_askRoom, h1, h2, Bool.not_false, if_true, z1, newRow, run_newObj, Sem.run_pure, hArr]
    rfl
  · have hd' : (match d with | .int _ => true | _ => false) = false := by cases d <;> first | rfl | exact absurd rfl (hn _)
    unfold Builtin.append_
    rw [t1, g0, g1, hz]
    simp only [Sem.run_bind, run_underlying' t2, run_underlying' hd, Result.andThen_ok, run_sizeOf' hk, Sem.run_pure]
    simp only [hd', Bool.false_eq_true, if_false, Sem.run_bind, hlen, Result.andThen_ok, if_neg n1, run_typeInfo' i1, false_or, if_neg n3]
    rw [if_neg (fun hh => n2' hh.1)]
    simp only [Sem.run_bind, run_typeInfo' i1, Result.andThen_ok, if_neg n3, c2, run_askRoom, h1, h2, Bool.not_false, if_true, z1, newRow, run_newObj, Sem.run_pure, hArr]
    rfl

theorem append_in {ts : Array TypeId} {el : TypeId} {k by_ : Nat} (hT : AppT P ts el k by_) {A : Addr} {sLen C m : Nat} {X : Value} {L2 : List Value} {w' : World}
    (hlen : (Builtin.lenOf X).run P w = .ok m w) (h2 : (Builtin.firstCells k m X).run P w = .ok ⟨L2⟩ w) (hle : sLen + m ≤ C) (hst : (storeCells (A.add (sLen * k)) L2).run P w = .ok () w') (ty : TypeId) :
    (Builtin.append_ ts ty #[.slice (some A) sLen C, X]).run P w = .ok (.slice (some A) (sLen + m) C) w' := by
  obtain ⟨⟨t, t1, t2⟩, ⟨i, z, i1, i2, i3, i4, i5⟩, hz⟩ := hT
  have hk : szP P el = some k := by unfold szP; rw [i1]; simp [i2]
  have g0 : (#[Value.slice (some A) sLen C, X] : Array Value)[0]? = some (.slice (some A) sLen C) := rfl
  have g1 : (#[Value.slice (some A) sLen C, X] : Array Value)[1]? = some X := rfl
  rcases hz with hz | ⟨xt, d, hz, hd, hn⟩
  · unfold Builtin.append_
    rw [t1, g0, g1, hz]
    simp only [Sem.run_bind, run_underlying' t2, Result.andThen_ok, run_sizeOf' hk, Sem.run_pure, Bool.false_eq_true, if_false, hlen, if_pos hle, Bool.not_false, if_true, h2, hst]
  · have hd' : (match d with | .int _ => true | _ => false) = false := by cases d <;> first | rfl | exact absurd rfl (hn _)
    unfold Builtin.append_
    rw [t1, g0, g1, hz]
    simp only [Sem.run_bind, run_underlying' t2, run_underlying' hd, Result.andThen_ok, run_sizeOf' hk, Sem.run_pure]
    simp only [hd', Sem.run_bind, Bool.false_eq_true, if_false, hlen, Result.andThen_ok, if_pos hle, Bool.not_false, if_true, h2, hst, Sem.run_pure]

theorem append_nil {ts : Array TypeId} {el : TypeId} {k by_ : Nat} (hT : AppT P ts el k by_) {X : Value} {L2 : List Value}
    (hlen : (Builtin.lenOf X).run P w = .ok 0 w) (h2 : (Builtin.firstCells k 0 X).run P w = .ok ⟨L2⟩ w) (ty : TypeId) :
    (Builtin.append_ ts ty #[.slice none 0 0, X]).run P w = .ok (.slice none 0 0) w := by
  obtain ⟨⟨t, t1, t2⟩, ⟨i, z, i1, i2, i3, i4, i5⟩, hz⟩ := hT
  have hk : szP P el = some k := by unfold szP; rw [i1]; simp [i2]
  have g0 : (#[Value.slice none 0 0, X] : Array Value)[0]? = some (.slice none 0 0) := rfl
  have g1 : (#[Value.slice none 0 0, X] : Array Value)[1]? = some X := rfl
  rcases hz with hz | ⟨xt, d, hz, hd, hn⟩
  · unfold Builtin.append_
    rw [t1, g0, g1, hz]
    simp only [Sem.run_bind, run_underlying' t2, Result.andThen_ok, run_sizeOf' hk, Sem.run_pure, Bool.false_eq_true, if_false, hlen, Nat.add_zero, Nat.le_refl, if_true, Bool.not_false, h2]
  · have hd' : (match d with | .int _ => true | _ => false) = false := by cases d <;> first | rfl | exact absurd rfl (hn _)
    unfold Builtin.append_
    rw [t1, g0, g1, hz]
    simp only [Sem.run_bind, run_underlying' t2, run_underlying' hd, Result.andThen_ok, run_sizeOf' hk, Sem.run_pure]
    simp only [hd', Sem.run_bind, Bool.false_eq_true, if_false, hlen, Result.andThen_ok, Nat.add_zero, Nat.le_refl, if_true, Bool.not_false, h2, Sem.run_pure]

theorem getElem?_app {l r : List Value} {j : Nat} {V : Value} (e : l[j]? = some V) : (l ++ r)[j]? = some V := by
  have := (List.getElem?_eq_some_iff.1 e).1
  rw [List.getElem?_append_left this]; exact e

/-- A slice's elements n0 on, laid out behind the elements that are there. -/
theorem chunks_grown {t : Tree (List AVal)} {z : List AVal} {k n m : Nat} {cx : List AVal} {L1 L2 : List Value} (hE : ElemsOK t z k) (hl1 : L1.length = n * k) (hx : VRL ι cx L2) (hcx : cx.length = m * k)
    (h1 : ∀ j, j < n * k → ∃ v V, cellAt' t z k j = some v ∧ L1[j]? = some V ∧ VR ι v V) (rest : List Value) :
    ∀ j, j < (n + m) * k → ∃ v V, cellAt' (chunks k m cx n t) z k j = some v ∧ (L1 ++ L2 ++ rest)[j]? = some V ∧ VR ι v V := by
  intro j hj
  have hk : 0 < k := by rcases Nat.eq_zero_or_pos k with rfl | hk; simp at hj; exact hk
  rw [Nat.add_mul] at hj
  rw [chunks_cell (by omega) hE hk, Nat.add_mul]
  have hlx := hx.length
  by_cases c : n * k ≤ j ∧ j < n * k + m * k
  · rw [if_pos c]
    have : cx[j - n * k]? = some (cx[j - n * k]'(by omega)) := by simp
    obtain ⟨V, q1, q2⟩ := hx.get _ this
    refine ⟨_, V, this, getElem?_app ?_, q2⟩
    rw [List.getElem?_append_right (by omega), hl1]; exact q1
  · rw [if_neg c]
    obtain ⟨v, V, q1, q2, q3⟩ := h1 j (by omega)
    exact ⟨v, V, q1, getElem?_app (getElem?_app q2), q3⟩

/-- The cells of a part of an object. -/
theorem cells_range {t : Tree (List AVal)} {z : List AVal} {k n : Nat} {ow : Bool} {i : Inf} (hO : ObjOK ι (.cells t z k n ow) i w) {o m : Nat} (hle : o + m ≤ n * k) :
    ∃ L : List Value, L.length = m ∧ (∀ (j : Nat) (V : Value), L[j]? = some V → w.cell? ⟨i.b, o + i.d + j, none⟩ = some V) ∧ ∀ j, j < m → ∃ v V, cellAt' t z k (o + j) = some v ∧ L[j]? = some V ∧ VR ι v V := by
  have hp : ∀ j, j < m → ∃ V, w.cell? ⟨i.b, o + i.d + j, none⟩ = some V ∧ ∃ v, cellAt' t z k (o + j) = some v ∧ VR ι v V := by
    intro j hj
    obtain ⟨v, V, k1, k2, k3⟩ := hO.2.2.2.1 (o + j) (by omega)
    exact ⟨V, by rw [show o + i.d + j = o + j + i.d from by omega]; exact k2, v, k1, k3⟩
  obtain ⟨L, k1, k2⟩ := exists_list m hp
  refine ⟨L, k1, fun j V hj => (k2 j V hj).1, fun j hj => ?_⟩
  have : L[j]? = some (L[j]'(by omega)) := by simp
  obtain ⟨_, v, q1, q2⟩ := k2 j _ this
  exact ⟨v, _, q1, this, q2⟩

theorem firstCells_of {k n : Nat} {A : Addr} {C : Nat} {L : List Value} {b o : Nat} (hA : n = 0 ∨ A = ⟨b, o, none⟩) (hl : L.length = n * k) (hc : ∀ (j : Nat) (V : Value), L[j]? = some V → w.cell? ⟨b, o + j, none⟩ = some V) :
    (Builtin.firstCells k n (.slice (some A) n C)).run P w = .ok ⟨L⟩ w := by
  rcases hA with rfl | rfl
  · have : L = [] := List.length_eq_zero_iff.1 (by omega)
    subst this
    simp [Builtin.firstCells, loadCells, loadCellsFrom]
  · simp only [Builtin.firstCells]
    exact run_loadCells P w b o _ L hl hc
end
end Go.Am

/- The abstract machine, part 13: append, joined. Conditions: none. -/
namespace Go.Am

section
variable {P : Program} {G : Nat → Option Nat} {ι : Gh} {h : Hp} {w : World} {tm : List AVal} {ρ : Operand → Value}

def VSim (P : Program) (G : Nat → Option Nat) (ι : Gh) (h : Hp) (w : World) (v : AVal) (h' : Hp) (m : Sem Value) : Prop :=
  ∃ ι' w' V, Rel G ι' h' w' ∧ Fr ι h w ι' h' w' ∧ VR ι' v V ∧ m.run P w = .ok V w'

theorem app_growth {ts : Array TypeId} {el : TypeId} {k by_ : Nat} (hT : AppT P ts el k by_) (ty : TypeId) (R : Rel G ι h w) {x : AVal} {X : Value} {m : Nat} {cx : List AVal} (hx : VR ι x X) (hr : rdS h k x = some (m, cx))
    {h0 : Hp} (R0 : Rel G ι h0 w) (F0 : Fr ι h w ι h0 w) {t0 : Tree (List AVal)} {z : List AVal} {n C : Nat} (hE : ElemsOK t0 z k) {base : Option Addr} {L1 : List Value} (hl1 : L1.length = n * k) (hgt : C < n + m)
    (hf1 : (Builtin.firstCells k n (.slice base n C)).run P w.drew = .ok ⟨L1⟩ w.drew)
    (h1 : ∀ j, j < n * k → ∃ v V, cellAt' t0 z k j = some v ∧ L1[j]? = some V ∧ VR ι v V) (hb : (4 * (n + m) + 2000) * (by_ + 1) ≤ 100000000000) :
    VSim P G ι h w (.sl h0.next 0 (n + m) none) (h0.new (.cells (chunks k m cx n t0) z k (n + m) true)) (Builtin.append_ ts ty #[.slice base n C, X]) := by
  obtain ⟨a1, a2, L2, a3, a4⟩ := rdS_ok (P := P) R hr hx
  obtain ⟨b1, b2, L2', b3, b4⟩ := rdS_ok (P := P) R.drew hr hx
  obtain ⟨cap, rest, c1, c2, c3⟩ := append_grow hT a1 hf1 b3 hgt hb ty
  have hcx : m * k ≤ cx.length := by omega
  obtain ⟨r1, r2⟩ := rel_new' R0 (.cells (chunks k m cx n t0) z k (n + m) true) (w' := w.drew.alloc (.cells ⟨L1 ++ L2' ++ rest⟩ el)) ⟨w.heap.size, 0, k, cap * k⟩ rfl (by simp)
    (fun B hB => by rw [heap_alloc_lt _ _ (by simpa using hB)]; rfl) rfl rfl rfl
    (objOK_core (chunks_ok m cx n t0 hcx hE).1 (chunks_grown hE hl1 b4 b2 h1 rest) (heap_alloc_new w.drew _) _ (by
        have hlb := b4.length
        simp only [List.length_append, hl1, c2, ← hlb, b2]
        rw [← Nat.add_mul, ← Nat.add_mul]; exact Nat.mul_le_mul_right k (by omega)) (Nat.mul_le_mul_right k c1) (.inl rfl))
  refine ⟨_, _, _, r1, F0.trans r2, ?_, c3⟩
  simp only [VR]
  exact ⟨_, Gh.ext_same _ _ _, .inl ⟨cap, c1, by simp, by simp⟩⟩

theorem cell_of_cs (w : World) (b o : Nat) {cs : Array Value} {el : TypeId} {fz : Nat × Nat} (hb : w.heap[b]? = some (.cells cs el fz)) : w.cell? ⟨b, o, none⟩ = cs[o]? := by
  simp only [World.cell?, hb]; simp

theorem elemsOK_take {k m : Nat} {cx : List AVal} (h1 : cx.length = m * k) (h2 : m ≠ 0) : ElemsOK (.leaf : Tree (List AVal)) (takeN k cx) k := by
  have : (takeN k cx).length = k := by
    rw [takeN_eq, List.length_take, h1]
    exact Nat.min_eq_left (Nat.le_mul_of_pos_left k (by omega))
  have h3 := elemsOK_leaf (takeN k cx)
  rwa [this] at h3

theorem nbeq_ne {a b : Nat} (h : ¬ (Nat.beq a b = true)) : a ≠ b := fun e => h (by subst e; simp)

theorem app_ok {ts : Array TypeId} {el : TypeId} {k by_ : Nat} (hT : AppT P ts el k by_) (ty : TypeId) (R : Rel G ι h w) {s x : AVal} {S X : Value} (hs : VR ι s S) (hx : VR ι x X) {r : ARes} (e : appV h k by_ s x = some r) :
    ∃ v h', r = .val v h' ∧ VSim P G ι h w v h' (Builtin.append_ ts ty #[S, X]) := by
  unfold appV at e
  split at e
  · cases e
  · next m cx hr =>
    obtain ⟨a1, a2, L2, a3, a4⟩ := rdS_ok (P := P) R hr hx
    split at e
    · next hones =>
      split at e
      · -- a nil slice
        have hS : S = .slice none 0 0 := by simpa only [VR] using hs
        subst hS
        split at e
        · next hm =>
          have hm := Nat.eq_of_beq_eq_true hm
          subst hm
          cases e
          exact ⟨_, _, rfl, ι, w, _, R, Fr.refl _ _ _, by simp only [VR], append_nil hT a1 a3 ty⟩
        · next hm =>
          have hm := nbeq_ne hm
          split at e
          · next hb =>
            cases e
            refine ⟨_, _, rfl, ?_⟩
            have := app_growth hT ty R hx hr R (Fr.refl _ _ _) (t0 := .leaf) (z := takeN k cx) (n := 0) (C := 0) (base := none) (elemsOK_take a2 hm) (L1 := []) (by simp) (by omega) (by simp [Builtin.firstCells]) (fun j hj => by omega) (by simpa using ble_le hb)
            simpa using this
          · cases e
      · next g o n c =>
        split at e
        · cases e
        · next ob hg =>
          obtain ⟨i, hi, hO⟩ := R.ob g ob hg
          split at e
          · next hm =>
            -- nothing is appended
            have hm := Nat.eq_of_beq_eq_true hm
            subst hm
            cases e
            have hL2 : L2 = [] := by have := a4.length; rw [a2] at this; exact List.length_eq_zero_iff.1 (by omega)
            subst hL2
            refine ⟨_, _, rfl, ι, w, S, R, Fr.refl _ _ _, hs, ?_⟩
            rcases hs.sl_inv with ⟨i', C, k1, k2, rfl, _, _⟩ | ⟨rfl, ⟨A, rfl⟩, _, _⟩
            · exact append_in hT a1 a3 (by omega) (by simp [storeCells]) ty
            · exact append_in hT a1 a3 (by omega) (by simp [storeCells]) ty
          · next hm =>
            have hm := nbeq_ne hm
            split at e
            · next hb =>
              have hb := ble_le hb
              split at e
              · next c =>
                -- the capacity is known
                split at e
                · next hle =>
                  have hle := ble_le hle
                  split at e
                  · next ob' hw =>
                    cases e
                    refine ⟨_, _, rfl, ?_⟩
                    rcases hs.sl_inv with ⟨i', C, k1, k2, rfl, k3, _⟩ | ⟨rfl, _, k3, _⟩
                    · rw [hi] at k1; cases k1
                      have hC := k3 c rfl
                      subst hC
                      obtain ⟨w', q1, q2, q3⟩ := store_obj (P := P) R hg hi hw a4
                      refine ⟨ι, w', _, q2, q3, ?_, append_in hT a1 a3 hle (by rw [add_none, show o + i.d + n * k = o + n * k + i.d from by omega]; exact q1) ty⟩
                      simp only [VR]; exact .inl ⟨i, hi, hle, rfl⟩
                    · have := k3 c rfl; omega
                  · cases e
                · next hle =>
                  have hle : ¬ (n + m ≤ c) := fun hh => hle (Nat.ble_eq_true_of_le hh)
                  split at e
                  · next l hl =>
                    cases e
                    refine ⟨_, _, rfl, ?_⟩
                    obtain ⟨L1, p1, p2, p3⟩ := load_many hO hl
                    have hll := p2.length
                    have hE0 : ElemsOK (chunks k n l 0 .leaf) (takeN k cx) k := (chunks_ok n l 0 .leaf (by omega) (elemsOK_take a2 hm)).1
                    have hcells : ∀ j, j < n * k → ∃ v V, cellAt' (chunks k n l 0 .leaf) (takeN k cx) k j = some v ∧ L1[j]? = some V ∧ VR ι v V := by
                      intro j hj
                      have hk : 0 < k := by rcases Nat.eq_zero_or_pos k with rfl | hk; simp at hj; exact hk
                      rw [chunks_cell (by omega) (elemsOK_take a2 hm) hk, if_pos (by simp; omega)]
                      have this : l[j]? = some (l[j]'(by omega)) := List.getElem?_eq_getElem _
                      obtain ⟨V, q1, q2⟩ := p2.get j this
                      exact ⟨_, V, by rw [show j - 0 * k = j from by simp]; exact this, q1, q2⟩
                    rcases hs.sl_inv with ⟨i', C, k1, k2, rfl, k3, _⟩ | ⟨rfl, ⟨A, rfl⟩, k3, _⟩
                    · rw [hi] at k1; cases k1
                      have hC := k3 c rfl
                      subst hC
                      exact app_growth hT ty R hx hr R (Fr.refl _ _ _) hE0 p1 (by omega) (firstCells_of (.inr rfl) p1 (fun j V hj => p3 j V hj)) hcells hb
                    · exact app_growth hT ty R hx hr R (Fr.refl _ _ _) hE0 p1 (by omega) (firstCells_of (b := i.b) (o := o + i.d) (.inl rfl) p1 (fun j V hj => p3 j V hj)) hcells hb
                  · cases e
              · -- the capacity is not known
                split at e
                · next t z k' n' =>
                  split at e
                  · next hkk =>
                    have hkk := Nat.eq_of_beq_eq_true hkk
                    subst hkk
                    have hE := hO.2.1
                    have hik := hO.2.2.1
                    split at e
                    · next htip =>
                      have htip := Nat.eq_of_beq_eq_true htip
                      obtain ⟨D0, F0⟩ := rel_del R g
                      obtain ⟨L1, p1, p2, p3⟩ := cells_range hO (o := o) (m := n * k) (by omega)
                      -- the object that the slice becomes, ahead of the new elements: its cells from 0 on are the slice's
                      have key : ∃ t0, r = .val (.sl h.next 0 (n + m) none) ((h.del g).new (.cells (chunks k m cx n t0) z k (n + m) true)) ∧ ElemsOK t0 z k ∧ ∀ j, j < n * k → ∃ v V, cellAt' t0 z k j = some v ∧ L1[j]? = some V ∧ VR ι v V := by
                        split at e
                        · next h0 =>
                          have h0 := Nat.eq_of_beq_eq_true h0
                          subst h0
                          cases e
                          exact ⟨t, rfl, hE, fun j hj => by simpa using p3 j hj⟩
                        · split at e
                          · next l hl =>
                            cases e
                            obtain ⟨d1, d2, d3⟩ := rd_ok hE hl
                            refine ⟨_, rfl, (chunks_ok n l 0 .leaf (by omega) ⟨hE.1, fun e => by simp [elemAt, Tree.get_leaf, hE.1]⟩).1, fun j hj => ?_⟩
                            have hk : 0 < k := by rcases Nat.eq_zero_or_pos k with rfl | hk; simp at hj; exact hk
                            rw [chunks_cell (by omega) ⟨hE.1, fun e => by simp [elemAt, Tree.get_leaf, hE.1]⟩ hk, if_pos (by simp; omega)]
                            obtain ⟨v, V, q1, q2, q3⟩ := p3 j hj
                            exact ⟨v, V, by rw [← q1, ← d3 j hj]; simp, q2, q3⟩
                          · cases e
                      obtain ⟨t0, rfl, hE0, hcells⟩ := key
                      refine ⟨_, _, rfl, ?_⟩
                      rcases hs.sl_inv with ⟨i', C, k1, k2, rfl, _, k3⟩ | ⟨rfl, ⟨A, rfl⟩, _, _⟩
                      · rw [hi] at k1; cases k1
                        have hcap := k3 rfl
                        by_cases hle : n + m ≤ C
                        · -- there is room: in place
                          obtain ⟨cs, elc, fz, w1, w2, w3, w4⟩ := hO.2.2.2.2 rfl
                          have hlen2 := a4.length
                          have hCk : (n + m) * k ≤ C * k := Nat.mul_le_mul_right k hle
                          rw [hik] at hcap
                          rw [Nat.add_mul] at hCk
                          obtain ⟨w', s1, s2, s3, s4, s5, s6, s7⟩ := run_storeCells P i.b (o + i.d + n * k) L2 w 0 w1 (by omega) w4 (ones_ok a4 hones)
                          have hO' : ObjOK ι (.cells (chunks k m cx n t0) z k (n + m) true) ⟨i.b, o + i.d, k, i.e⟩ w' := by
                            refine ⟨by rw [s3]; exact hO.1, (chunks_ok m cx n t0 (by omega) hE0).1, rfl, fun j hj => ?_, fun _ => ⟨_, elc, fz, s2, by rw [wrote_size]; exact w2, by rw [Nat.add_mul]; simp; omega, by rw [wrote_size]; exact w4⟩⟩
                            obtain ⟨v, V, q1, q2, q3⟩ := chunks_grown hE0 p1 a4 a2 hcells [] j hj
                            refine ⟨v, V, q1, ?_, q3⟩
                            have hcell : w'.cell? ⟨i.b, j + (o + i.d), none⟩ = (wrote cs (o + i.d + n * k + 0) L2)[j + (o + i.d)]? := cell_of_cs w' i.b _ s2
                            rw [hcell, wrote_get L2 cs _ _ (by omega)]
                            simp only [List.append_nil] at q2
                            rw [Nat.add_mul] at hj
                            rw [List.getElem?_append] at q2
                            split at q2
                            · next hlt =>
                              rw [if_neg (by omega)]
                              have := p2 j V q2
                              have hc' := cell_of_cs w i.b (o + i.d + j) w1
                              exact (congrArg (fun q => cs[q]?) (show j + (o + i.d) = o + i.d + j by omega)).trans (hc'.symm.trans this)
                            · next hlt =>
                              rw [if_pos (by omega), ← q2]
                              exact congrArg (fun q => L2[q]?) (by omega)
                          obtain ⟨r1, r2⟩ := rel_move R hg rfl hi (i' := ⟨i.b, o + i.d, k, i.e⟩) rfl s3 s4 s5 s6 s7 hO'
                          refine ⟨_, w', _, r1, r2, ?_, append_in hT a1 a3 hle (by rw [add_none]; exact s1) ty⟩
                          simp only [VR]
                          exact ⟨_, Gh.ext_same _ _ _, .inl ⟨C, hle, by simp; omega, by simp⟩⟩
                        · exact app_growth hT ty R hx hr D0 F0 hE0 p1 (by omega) (firstCells_of (.inr rfl) p1 (fun j V hj => p2 j V hj)) hcells hb
                      · exact app_growth hT ty R hx hr D0 F0 hE0 p1 (by omega) (firstCells_of (b := i.b) (o := o + i.d) (.inl rfl) p1 (fun j V hj => p2 j V hj)) hcells hb
                    · next htip =>
                      have htip := nbeq_ne htip
                      split at e
                      · next ob' hw =>
                        cases e
                        refine ⟨_, _, rfl, ?_⟩
                        obtain ⟨_, _, _, _, _, hq1, _, hle, _, _⟩ := wr_ok hw
                        cases hq1
                        obtain ⟨cs, elc, fz, w1, w2, w3, w4⟩ := hO.2.2.2.2 rfl
                        rw [a2] at hle
                        rcases hs.sl_inv with ⟨i', C, k1, k2, rfl, _, k3⟩ | ⟨rfl, ⟨A, rfl⟩, _, k3⟩
                        · rw [hi] at k1; cases k1
                          have hcap := k3 rfl
                          rw [hik] at hcap
                          have hk : 0 < k := by rcases Nat.eq_zero_or_pos k with rfl | hk; simp at *; omega; exact hk
                          have hle2 : n + m ≤ C := by
                            have : (n + m) * k ≤ C * k := by rw [Nat.add_mul]; omega
                            exact Nat.le_of_mul_le_mul_right this hk
                          obtain ⟨w', q1, q2, q3⟩ := store_obj (P := P) R hg hi hw a4
                          refine ⟨ι, w', _, q2, q3, ?_, append_in hT a1 a3 hle2 (by rw [add_none, show o + i.d + n * k = o + n * k + i.d from by omega]; exact q1) ty⟩
                          simp only [VR]; exact ⟨i, hi, .inl ⟨C, hle2, by rw [hik]; exact hcap, rfl⟩⟩
                        · exfalso
                          obtain ⟨i', q1, q2⟩ := k3 rfl
                          rw [hi] at q1; cases q1
                          simp only [Nat.zero_mul, Nat.add_zero] at htip hle
                          have : m * k = 0 := by omega
                          have hk0 : k = 0 := by rcases Nat.mul_eq_zero.1 this with h | h; exact absurd h hm; exact h
                          subst hk0
                          simp at hle htip w3
                          omega
                      · cases e
                  · cases e
                · cases e
            · cases e
      · cases e
    · cases e
end
end Go.Am
end
