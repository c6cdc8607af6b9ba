/- Normalizers, part 8: the reference reads a message. Conditions: none. -/
import Derived.Test.YtfaeabhbeolpgaaGreatDoorSb7
set_option linter.all false
noncomputable section
open Go Go.Am Univ
namespace Go.Proofs.YtfaeabhbeolpgaaGreatDoor
theorem step_rf {D : ND} {s : St} {b : Nat} (h : s.rf = false) (h2 : (step D s b).rf = true) : (step D s b).pos = 0 := by
  unfold step at h2 ⊢
  rw [if_neg (by rw [h]; simp)] at h2 ⊢
  split at h2
  · cases h2
  · next h0 =>
    rw [if_neg h0]
    split at h2
    · cases h2
    · next h1 =>
      rw [if_neg h1]
      split at h2
      · next h3 => rw [if_pos h3]
      · cases h2
theorem runS_rf0 {D : ND} {f : Nat → Nat} : ∀ i, (runS D f i).rf = true → (runS D f i).pos = 0
  | 0, h => by cases h
  | i + 1, h => by
    simp only [runS] at h ⊢
    cases hr : (runS D f i).rf
    · exact step_rf hr h
    · have : step D (runS D f i) (f i) = runS D f i := by unfold step; rw [if_pos hr]
      rw [this]; exact runS_rf0 i hr
theorem runS_stop {D : ND} {f : Nat → Nat} {i : Nat} (h : (runS D f i).rf = true) : ∀ d, runS D f (i + d) = runS D f i
  | 0 => rfl
  | d + 1 => by
    rw [← Nat.add_assoc]
    simp only [runS]
    rw [runS_stop h d]
    unfold step; rw [if_pos h]
section
variable {O : Orc} (hO : Only O)
include hO

theorem c73 {vc vr ve : AVal} {rv : Nat → AVal} {D : ND} {h : Hp} (N : NZ h vc vr ve rv D) (V : ValidR D) {a : Nat} (ha : a < D.m) (rf : Bool) :
    RunsP O E0 73 [.agg [vc, vr, ve], .agg [.int .i64 (a : Nat), .bool rf]] h (fun v h' => v = .bool true ∧ Ext h h') := by
  refine q_fn (L := 20) E73 (hO _ _ _ rfl) rfl rfl ?_
  refine q_seq (q_reg ?_)
  simp (disch := omega) only [JJ, opds, updD, ln, Nat.reduceLT, Nat.reduceLeDiff, Nat.reduceEqDiff, Nat.reduceAdd, Nat.reduceMul, ↓reduceIte, if_true, if_false, Bool.false_eq_true, beq_self_eq_true, Bool.not_true, Bool.not_false, reduceCtorEq, decide_true, decide_false, Nat.add_zero, Nat.zero_add, F73u0]
  have l2 := (Lob.new h [vc, vr, ve] (Nat.succ_pos _)).newL (l' := [.int .i64 (a : Nat), .bool rf])
  have l3 := Lob.new (newL h [vc, vr, ve]) [.int .i64 (a : Nat), .bool rf] (Nat.succ_pos _)
  have x1 := (Ext.newL h [vc, vr, ve]).trans (Ext.newL _ [.int .i64 (a : Nat), .bool rf])
  rw [QM] at l3
  generalize newL (newL h [vc, vr, ve]) [.int .i64 (a : Nat), .bool rf] = h1 at *
  refine q_seq (q_reg ?_)
  simp (disch := omega) only [JJ, opds, updD, ln, Nat.reduceLT, Nat.reduceLeDiff, Nat.reduceEqDiff, Nat.reduceAdd, Nat.reduceMul, ↓reduceIte, if_true, if_false, Bool.false_eq_true, beq_self_eq_true, Bool.not_true, Bool.not_false, reduceCtorEq, decide_true, decide_false, Nat.add_zero, Nat.zero_add, F73u1, l2.ldN' (m := 3) rfl]
  refine q_call (c21 hO (N.ext x1)) ?_
  rintro v1 h2 ⟨⟨q, rfl, hq⟩, x2⟩
  obtain rfl := hq.2 V
  replace l2 := l2.ext x2
  replace l3 := l3.ext x2
  replace x1 := x1.trans x2
  have N2 := N.ext x1
  have r1 : gld1 h2 h.next 1 = some vr := l2.ld (k := 3) rfl (by omega)
  have s0 : gld1 h2 (h.next + 1) 0 = some (.int .i64 (a : Nat)) := l3.ld (k := 2) rfl (by omega)
  have t1 : 0 ≤ a := by omega
  simp (disch := omega) only [JJ, opds, updD, ln, Nat.reduceLT, Nat.reduceLeDiff, Nat.reduceEqDiff, Nat.reduceAdd, Nat.reduceMul, ↓reduceIte, if_true, if_false, Bool.false_eq_true, beq_self_eq_true, Bool.not_true, Bool.not_false, reduceCtorEq, decide_true, decide_false, Nat.add_zero, Nat.zero_add, s0, r1, N2.rows.len, b_lss, b_geq, c_lt, c_le, t1, ha]
  refine q_ret (wpRes_tmp (by decide) ?_)
  simp (disch := omega) only [JJ, opds, updD, ln, Nat.reduceLT, Nat.reduceLeDiff, Nat.reduceEqDiff, Nat.reduceAdd, Nat.reduceMul, ↓reduceIte, if_true, if_false, Bool.false_eq_true, beq_self_eq_true, Bool.not_true, Bool.not_false, reduceCtorEq, decide_true, decide_false, Nat.add_zero, Nat.zero_add]
  exact ⟨trivial, x1⟩

theorem c43 {vc vr ve : AVal} {rv : Nat → AVal} {D : ND} {h : Hp} (N : NZ h vc vr ve rv D) (V : ValidR D) {a : Nat} (ha : a < D.m) (rf : Bool) :
    RunsP O E0 43 [.agg [vc, vr, ve], .agg [.int .i64 (a : Nat), .bool rf]] h (fun v h' => v = .bool (!rf && D.E a) ∧ Ext h h') := by
  refine q_fn (L := 21) E43 (hO _ _ _ rfl) rfl rfl ?_
  refine q_seq (q_reg ?_)
  simp (disch := omega) only [JJ, opds, updD, ln, Nat.reduceLT, Nat.reduceLeDiff, Nat.reduceEqDiff, Nat.reduceAdd, Nat.reduceMul, ↓reduceIte, if_true, if_false, Bool.false_eq_true, beq_self_eq_true, Bool.not_true, Bool.not_false, reduceCtorEq, decide_true, decide_false, Nat.add_zero, Nat.zero_add, F43u0]
  have l2 := (Lob.new h [vc, vr, ve] (Nat.succ_pos _)).newL (l' := [.int .i64 (a : Nat), .bool rf])
  have l3 := Lob.new (newL h [vc, vr, ve]) [.int .i64 (a : Nat), .bool rf] (Nat.succ_pos _)
  have x1 := (Ext.newL h [vc, vr, ve]).trans (Ext.newL _ [.int .i64 (a : Nat), .bool rf])
  rw [QM] at l3
  generalize newL (newL h [vc, vr, ve]) [.int .i64 (a : Nat), .bool rf] = h1 at *
  refine q_seq (q_reg ?_)
  simp (disch := omega) only [JJ, opds, updD, ln, Nat.reduceLT, Nat.reduceLeDiff, Nat.reduceEqDiff, Nat.reduceAdd, Nat.reduceMul, ↓reduceIte, if_true, if_false, Bool.false_eq_true, beq_self_eq_true, Bool.not_true, Bool.not_false, reduceCtorEq, decide_true, decide_false, Nat.add_zero, Nat.zero_add, F43u1, l2.ldN' (m := 3) rfl, l3.ldN' (m := 2) rfl]
  refine q_call (c73 hO (N.ext x1) V ha rf) ?_
  rintro v1 h2 ⟨rfl, x2⟩
  replace l2 := l2.ext x2
  replace l3 := l3.ext x2
  replace x1 := x1.trans x2
  have N2 := N.ext x1
  have r2 : gld1 h2 h.next 2 = some ve := l2.ld (k := 3) rfl (by omega)
  have s0 : gld1 h2 (h.next + 1) 0 = some (.int .i64 (a : Nat)) := l3.ld (k := 2) rfl (by omega)
  have s1 : gld1 h2 (h.next + 1) 1 = some (.bool rf) := l3.ld (k := 2) rfl (by omega)
  have hne : a < D.ne := by have := V.2.2.2.1; omega
  obtain ⟨ga, oa, a1, a2⟩ := N2.ends.addr hne
  cases rf
  · simp (disch := omega) only [JJ, opds, updD, ln, Nat.reduceLT, Nat.reduceLeDiff, Nat.reduceEqDiff, Nat.reduceAdd, Nat.reduceMul, ↓reduceIte, if_true, if_false, Bool.false_eq_true, beq_self_eq_true, Bool.not_true, Bool.not_false, reduceCtorEq, decide_true, decide_false, Nat.add_zero, Nat.zero_add, s0, s1, r2, a1, (a2 _ (Ext.refl _)).2 rfl, Jx]
    refine q_ret (wpRes_tmp (by decide) ?_)
    simp (disch := omega) only [JJ, opds, updD, ln, Nat.reduceLT, Nat.reduceLeDiff, Nat.reduceEqDiff, Nat.reduceAdd, Nat.reduceMul, ↓reduceIte, if_true, if_false, Bool.false_eq_true, beq_self_eq_true, Bool.not_true, Bool.not_false, reduceCtorEq, decide_true, decide_false, Nat.add_zero, Nat.zero_add]
    exact ⟨by simp, x1⟩
  · simp (disch := omega) only [JJ, opds, updD, ln, Nat.reduceLT, Nat.reduceLeDiff, Nat.reduceEqDiff, Nat.reduceAdd, Nat.reduceMul, ↓reduceIte, if_true, if_false, Bool.false_eq_true, beq_self_eq_true, Bool.not_true, Bool.not_false, reduceCtorEq, decide_true, decide_false, Nat.add_zero, Nat.zero_add, s0, s1, r2]
    refine q_ret (wpRes_tmp (by decide) ?_)
    simp (disch := omega) only [JJ, opds, updD, ln, Nat.reduceLT, Nat.reduceLeDiff, Nat.reduceEqDiff, Nat.reduceAdd, Nat.reduceMul, ↓reduceIte, if_true, if_false, Bool.false_eq_true, beq_self_eq_true, Bool.not_true, Bool.not_false, reduceCtorEq, decide_true, decide_false, Nat.add_zero, Nat.zero_add]
    exact ⟨by simp, x1⟩

set_option maxHeartbeats 4000000 in
theorem c42 {vc vr ve : AVal} {rv : Nat → AVal} {D : ND} {h : Hp} (N : NZ h vc vr ve rv D) (V : ValidR D) {vm : AVal} {k : Nat} {f : Nat → Nat} (M : Msg h vm k f) (hk : k < 2 ^ 29) :
    RunsP O E0 42 [.agg [vc, vr, ve], .agg [.int .i64 ((0 : Nat) : Int), .bool false], vm] h (fun v h' => (∃ vo, v = .tup [.agg [.int .i64 ((runS D f k).pos : Nat), .bool (runS D f k).rf], vo] ∧ Out h' (h.next ≤ ·) vo (runS D f k).out) ∧ Ext h h') := by
  refine q_fn (L := 75) E42 (hO _ _ _ rfl) rfl rfl ?_
  refine q_seq (q_reg ?_)
  simp (disch := omega) only [JJ, opds, updD, ln, Nat.reduceLT, Nat.reduceLeDiff, Nat.reduceEqDiff, Nat.reduceAdd, Nat.reduceMul, ↓reduceIte, if_true, if_false, Bool.false_eq_true, beq_self_eq_true, Bool.not_true, Bool.not_false, reduceCtorEq, decide_true, decide_false, Nat.add_zero, Nat.zero_add, F42u0]
  have l3 := ((Lob.new h [vc, vr, ve] (Nat.succ_pos _)).newL (l' := [.int .i64 ((0 : Nat) : Int), .bool false])).newL (l' := [.int .i64 ((0 : Nat) : Int), .bool false])
  have l4 := (Lob.new (newL h [vc, vr, ve]) [.int .i64 ((0 : Nat) : Int), .bool false] (Nat.succ_pos _)).newL (l' := [.int .i64 ((0 : Nat) : Int), .bool false])
  have l6 := Lob.new (newL (newL h [vc, vr, ve]) [.int .i64 ((0 : Nat) : Int), .bool false]) [.int .i64 ((0 : Nat) : Int), .bool false] (Nat.succ_pos _)
  have x1 := ((Ext.newL h [vc, vr, ve]).trans (Ext.newL _ [.int .i64 ((0 : Nat) : Int), .bool false])).trans (Ext.newL _ [.int .i64 ((0 : Nat) : Int), .bool false])
  have n1 : (newL (newL (newL h [vc, vr, ve]) [.int .i64 ((0 : Nat) : Int), .bool false]) [.int .i64 ((0 : Nat) : Int), .bool false]).next = h.next + 1 + 1 + 1 := rfl
  rw [QM] at l4
  rw [QM, QM] at l6
  generalize newL (newL (newL h [vc, vr, ve]) [.int .i64 ((0 : Nat) : Int), .bool false]) [.int .i64 ((0 : Nat) : Int), .bool false] = h1 at *
  refine q_seq (q_seq (q_reg ?_))
  simp (disch := omega) only [JJ, opds, updD, ln, Nat.reduceLT, Nat.reduceLeDiff, Nat.reduceEqDiff, Nat.reduceAdd, Nat.reduceMul, ↓reduceIte, if_true, if_false, Bool.false_eq_true, beq_self_eq_true, Bool.not_true, Bool.not_false, reduceCtorEq, decide_true, decide_false, Nat.add_zero, Nat.zero_add, F42u1, l3.ldN' (m := 3) rfl, l4.ldN' (m := 2) rfl]
  have hm : 0 < D.m := by have := V.2.1; omega
  refine q_call (c73 hO (N.ext x1) V hm false) ?_
  rintro v1 h2 ⟨rfl, x2⟩
  replace l3 := l3.ext x2
  replace l4 := l4.ext x2
  replace l6 := l6.ext x2
  replace x1 := x1.trans x2
  have n2 : h.next + 1 + 1 + 1 ≤ h2.next := by have := x2.1; omega
  simp (disch := omega) only [JJ, opds, updD, ln, Nat.reduceLT, Nat.reduceLeDiff, Nat.reduceEqDiff, Nat.reduceAdd, Nat.reduceMul, ↓reduceIte, if_true, if_false, Bool.false_eq_true, beq_self_eq_true, Bool.not_true, Bool.not_false, reduceCtorEq, decide_true, decide_false, Nat.add_zero, Nat.zero_add]
  refine q_cond (q := false) (by simp (disch := omega) only [JJ, opds, updD, ln, Nat.reduceLT, Nat.reduceLeDiff, Nat.reduceEqDiff, Nat.reduceAdd, Nat.reduceMul, ↓reduceIte, if_true, if_false, Bool.false_eq_true, beq_self_eq_true, Bool.not_true, Bool.not_false, reduceCtorEq, decide_true, decide_false, Nat.add_zero, Nat.zero_add]) (fun h => by cases h) (fun _ => ?_)
  refine q_skip ?_
  refine q_seq (q_reg ?_)
  simp (disch := omega) only [JJ, opds, updD, ln, Nat.reduceLT, Nat.reduceLeDiff, Nat.reduceEqDiff, Nat.reduceAdd, Nat.reduceMul, ↓reduceIte, if_true, if_false, Bool.false_eq_true, beq_self_eq_true, Bool.not_true, Bool.not_false, reduceCtorEq, decide_true, decide_false, Nat.add_zero, Nat.zero_add, F42u3, fillS, empB_fold]
  have Q3 : Out (empB h2) (h.next + 1 + 1 + 1 ≤ ·) (.sl h2.next 0 0 (some 0)) [] := Out.emp n2
  have xe := Ext.empB h2
  have n3 : h.next + 1 + 1 + 1 ≤ (empB h2).next := by rw [empB_next]; omega
  generalize empB h2 = h3 at *
  replace l3 := l3.ext xe
  replace l4 := l4.ext xe
  replace l6 := l6.ext xe
  replace x1 := x1.trans xe
  have s0 : gld1 h3 (h.next + 1) 0 = some (.int .i64 ((0 : Nat) : Int)) := l4.ld (k := 2) rfl (by omega)
  have s1 : gld1 h3 (h.next + 1) 1 = some (.bool false) := l4.ld (k := 2) rfl (by omega)
  refine q_seq (q_reg ?_)
  simp (disch := omega) only [JJ, opds, updD, ln, Nat.reduceLT, Nat.reduceLeDiff, Nat.reduceEqDiff, Nat.reduceAdd, Nat.reduceMul, ↓reduceIte, if_true, if_false, Bool.false_eq_true, beq_self_eq_true, Bool.not_true, Bool.not_false, reduceCtorEq, decide_true, decide_false, Nat.add_zero, Nat.zero_add, F42u4, s0]
  refine q_seq (q_reg ?_)
  simp (disch := omega) only [JJ, opds, updD, ln, Nat.reduceLT, Nat.reduceLeDiff, Nat.reduceEqDiff, Nat.reduceAdd, Nat.reduceMul, ↓reduceIte, if_true, if_false, Bool.false_eq_true, beq_self_eq_true, Bool.not_true, Bool.not_false, reduceCtorEq, decide_true, decide_false, Nat.add_zero, Nat.zero_add, F42u5, s1]
  refine q_seq (q_seq (q_reg ?_))
  simp (disch := omega) only [JJ, opds, updD, ln, Nat.reduceLT, Nat.reduceLeDiff, Nat.reduceEqDiff, Nat.reduceAdd, Nat.reduceMul, ↓reduceIte, if_true, if_false, Bool.false_eq_true, beq_self_eq_true, Bool.not_true, Bool.not_false, reduceCtorEq, decide_true, decide_false, Nat.add_zero, Nat.zero_add, F42u6]
  refine q_block ?_
  refine q_loop (fun m e h' => ∃ i p, i ≤ k ∧ m = k - i ∧ e 11 = .int .i64 (i : Nat) ∧ e 2 = vm ∧ e 3 = .ptr h.next 0 ∧ e 6 = .ptr (h.next + 1 + 1) 0 ∧ e 9 = .int .i64 (p : Nat) ∧ ((runS D f i).rf = false → p = (runS D f i).pos) ∧ e 10 = .bool (runS D f i).rf ∧
    Out h' (h.next + 1 + 1 + 1 ≤ ·) (e 8) (runS D f i).out ∧ Lob h' h.next [vc, vr, ve] ∧ Lob h' (h.next + 1 + 1) [.int .i64 ((0 : Nat) : Int), .bool false] ∧ Ext h h' ∧ h.next + 1 + 1 + 1 ≤ h'.next) k
    ⟨0, 0, by omega, by omega, by simp (disch := omega) only [JJ, opds, updD, ln, Nat.reduceLT, Nat.reduceLeDiff, Nat.reduceEqDiff, Nat.reduceAdd, Nat.reduceMul, ↓reduceIte, if_true, if_false, Bool.false_eq_true, beq_self_eq_true, Bool.not_true, Bool.not_false, reduceCtorEq, decide_true, decide_false, Nat.add_zero, Nat.zero_add], by simp (disch := omega) only [JJ, opds, updD, ln, Nat.reduceLT, Nat.reduceLeDiff, Nat.reduceEqDiff, Nat.reduceAdd, Nat.reduceMul, ↓reduceIte, if_true, if_false, Bool.false_eq_true, beq_self_eq_true, Bool.not_true, Bool.not_false, reduceCtorEq, decide_true, decide_false, Nat.add_zero, Nat.zero_add], by simp (disch := omega) only [JJ, opds, updD, ln, Nat.reduceLT, Nat.reduceLeDiff, Nat.reduceEqDiff, Nat.reduceAdd, Nat.reduceMul, ↓reduceIte, if_true, if_false, Bool.false_eq_true, beq_self_eq_true, Bool.not_true, Bool.not_false, reduceCtorEq, decide_true, decide_false, Nat.add_zero, Nat.zero_add], by simp (disch := omega) only [JJ, opds, updD, ln, Nat.reduceLT, Nat.reduceLeDiff, Nat.reduceEqDiff, Nat.reduceAdd, Nat.reduceMul, ↓reduceIte, if_true, if_false, Bool.false_eq_true, beq_self_eq_true, Bool.not_true, Bool.not_false, reduceCtorEq, decide_true, decide_false, Nat.add_zero, Nat.zero_add], by simp (disch := omega) only [JJ, opds, updD, ln, Nat.reduceLT, Nat.reduceLeDiff, Nat.reduceEqDiff, Nat.reduceAdd, Nat.reduceMul, ↓reduceIte, if_true, if_false, Bool.false_eq_true, beq_self_eq_true, Bool.not_true, Bool.not_false, reduceCtorEq, decide_true, decide_false, Nat.add_zero, Nat.zero_add], fun _ => rfl, by simp (disch := omega) only [JJ, opds, updD, ln, Nat.reduceLT, Nat.reduceLeDiff, Nat.reduceEqDiff, Nat.reduceAdd, Nat.reduceMul, ↓reduceIte, if_true, if_false, Bool.false_eq_true, beq_self_eq_true, Bool.not_true, Bool.not_false, reduceCtorEq, decide_true, decide_false, Nat.add_zero, Nat.zero_add, runS], by simp (disch := omega) only [JJ, opds, updD, ln, Nat.reduceLT, Nat.reduceLeDiff, Nat.reduceEqDiff, Nat.reduceAdd, Nat.reduceMul, ↓reduceIte, if_true, if_false, Bool.false_eq_true, beq_self_eq_true, Bool.not_true, Bool.not_false, reduceCtorEq, decide_true, decide_false, Nat.add_zero, Nat.zero_add]; exact Q3, l3, l6, x1, n3⟩ ?_
  clear l3 l4 l6 x1 n1 n2 n3 Q3 xe s0 s1 x2
  rintro m e h' ⟨i, p, hi, rfl, e11, e2, e3, e6, e9, hp, e10, Q, l3, l6, x1, n1⟩
  have M1 := M.ext x1
  refine q_seq (q_seq (q_reg ?_))
  -- the end of the loop
  have fin : (i = k ∨ (runS D f i).rf = true) → ∀ (e' : Env), e' 8 = e 8 → e' 6 = .ptr (h.next + 1 + 1) 0 → e' 9 = .int .i64 (p : Nat) → e' 10 = .bool (runS D f i).rf → ∀ (X0 : Nat → Env → Hp → Prop),
      Wp O E0 75 (.seq (.seq (.reg F42u17) (.cond (.t 69) (.seq (.reg F42u18) .ret) .skip)) (.seq (.reg F42u19) .ret)) e' h'
        (WpRes 75 [.cell 6 (some 2), .tmp 7] fun v h' => (∃ vo, v = .tup [.agg [.int .i64 ((runS D f k).pos : Nat), .bool (runS D f k).rf], vo] ∧ Out h' (h.next ≤ ·) vo (runS D f k).out) ∧ Ext h h') X0
        (WpRes 75 [.cell 6 (some 2), .tmp 7] fun v h' => (∃ vo, v = .tup [.agg [.int .i64 ((runS D f k).pos : Nat), .bool (runS D f k).rf], vo] ∧ Out h' (h.next ≤ ·) vo (runS D f k).out) ∧ Ext h h') := by
    intro hend e' q8 q6 q9 q10 X0
    have hke : runS D f k = runS D f i := by
      rcases hend with rfl | hr
      · rfl
      · rw [show k = i + (k - i) from by omega]; exact runS_stop hr _
    rw [hke]
    have res : ∀ (ob : Am.Obj) (e'' : Env) (a : Nat) (r : Bool), Lob (h'.set (h.next + 1 + 1) ob) (h.next + 1 + 1) [.int .i64 (a : Nat), .bool r] → a = (runS D f i).pos → r = (runS D f i).rf → e'' 6 = .ptr (h.next + 1 + 1) 0 → e'' 7 = e 8 →
        WpRes 75 [.cell 6 (some 2), .tmp 7] (fun v h' => (∃ vo, v = .tup [.agg [.int .i64 ((runS D f i).pos : Nat), .bool (runS D f i).rf], vo] ∧ Out h' (h.next ≤ ·) vo (runS D f i).out) ∧ Ext h h') e'' (h'.set (h.next + 1 + 1) ob) := by
      intro ob e'' a r hl ha hr k6 k7
      subst ha; subst hr
      refine wpRes_cellN_tmp (by decide) (by decide) k6 hl rfl ?_
      rw [k7]
      exact ⟨⟨e 8, rfl, (Q.frame (h' := h'.set (h.next + 1 + 1) ob) (Nat.le_refl _) (fun k hk1 hk2 => get_set_ne (by omega))).imp (fun k hk => by omega)⟩, x1.set (by omega) _⟩
    refine q_seq (q_seq (q_reg ?_))
    simp (disch := omega) only [JJ, opds, updD, ln, Nat.reduceLT, Nat.reduceLeDiff, Nat.reduceEqDiff, Nat.reduceAdd, Nat.reduceMul, ↓reduceIte, if_true, if_false, Bool.false_eq_true, beq_self_eq_true, Bool.not_true, Bool.not_false, reduceCtorEq, decide_true, decide_false, Nat.add_zero, Nat.zero_add, F42u17, q10]
    cases hr : (runS D f i).rf
    · refine q_cond (q := false) (by simp (disch := omega) only [JJ, opds, updD, ln, Nat.reduceLT, Nat.reduceLeDiff, Nat.reduceEqDiff, Nat.reduceAdd, Nat.reduceMul, ↓reduceIte, if_true, if_false, Bool.false_eq_true, beq_self_eq_true, Bool.not_true, Bool.not_false, reduceCtorEq, decide_true, decide_false, Nat.add_zero, Nat.zero_add]) (fun h => by cases h) (fun _ => ?_)
      refine q_skip ?_
      obtain ⟨ob, g1, g2⟩ := l6.st (o := 0) (vs := [.int .i64 (p : Nat), .bool false]) (by simp) rfl (by simp)
      refine q_seq (q_reg ?_)
      simp (disch := omega) only [JJ, opds, updD, ln, Nat.reduceLT, Nat.reduceLeDiff, Nat.reduceEqDiff, Nat.reduceAdd, Nat.reduceMul, ↓reduceIte, if_true, if_false, Bool.false_eq_true, beq_self_eq_true, Bool.not_true, Bool.not_false, reduceCtorEq, decide_true, decide_false, Nat.add_zero, Nat.zero_add, F42u19, q9, q8, q6, fillA, blit_eq, cat, takeN, dropN, nble, Bool.and_self, Nat.le_refl, g1]
      refine q_ret ?_
      rw [hr] at res
      refine res ob _ p false g2 (hp hr) rfl ?_ ?_
      · simp (disch := omega) only [JJ, opds, updD, ln, Nat.reduceLT, Nat.reduceLeDiff, Nat.reduceEqDiff, Nat.reduceAdd, Nat.reduceMul, ↓reduceIte, if_true, if_false, Bool.false_eq_true, beq_self_eq_true, Bool.not_true, Bool.not_false, reduceCtorEq, decide_true, decide_false, Nat.add_zero, Nat.zero_add, q6]
      · simp (disch := omega) only [JJ, opds, updD, ln, Nat.reduceLT, Nat.reduceLeDiff, Nat.reduceEqDiff, Nat.reduceAdd, Nat.reduceMul, ↓reduceIte, if_true, if_false, Bool.false_eq_true, beq_self_eq_true, Bool.not_true, Bool.not_false, reduceCtorEq, decide_true, decide_false, Nat.add_zero, Nat.zero_add]
    · refine q_cond (q := true) (by simp (disch := omega) only [JJ, opds, updD, ln, Nat.reduceLT, Nat.reduceLeDiff, Nat.reduceEqDiff, Nat.reduceAdd, Nat.reduceMul, ↓reduceIte, if_true, if_false, Bool.false_eq_true, beq_self_eq_true, Bool.not_true, Bool.not_false, reduceCtorEq, decide_true, decide_false, Nat.add_zero, Nat.zero_add]) (fun _ => ?_) (fun h => by cases h)
      obtain ⟨ob, g1, g2⟩ := l6.st (o := 0) (vs := [.int .i64 ((0 : Nat) : Int), .bool true]) (by simp) rfl (by simp)
      refine q_seq (q_reg ?_)
      simp (disch := omega) only [JJ, opds, updD, ln, Nat.reduceLT, Nat.reduceLeDiff, Nat.reduceEqDiff, Nat.reduceAdd, Nat.reduceMul, ↓reduceIte, if_true, if_false, Bool.false_eq_true, beq_self_eq_true, Bool.not_true, Bool.not_false, reduceCtorEq, decide_true, decide_false, Nat.add_zero, Nat.zero_add, F42u18, q8, q6, fillA, blit_eq, cat, takeN, dropN, nble, Bool.and_self, Nat.le_refl, g1]
      refine q_ret ?_
      rw [hr] at res
      refine res ob _ 0 true g2 (runS_rf0 i hr).symm rfl ?_ ?_
      · simp (disch := omega) only [JJ, opds, updD, ln, Nat.reduceLT, Nat.reduceLeDiff, Nat.reduceEqDiff, Nat.reduceAdd, Nat.reduceMul, ↓reduceIte, if_true, if_false, Bool.false_eq_true, beq_self_eq_true, Bool.not_true, Bool.not_false, reduceCtorEq, decide_true, decide_false, Nat.add_zero, Nat.zero_add, q6]
      · simp (disch := omega) only [JJ, opds, updD, ln, Nat.reduceLT, Nat.reduceLeDiff, Nat.reduceEqDiff, Nat.reduceAdd, Nat.reduceMul, ↓reduceIte, if_true, if_false, Bool.false_eq_true, beq_self_eq_true, Bool.not_true, Bool.not_false, reduceCtorEq, decide_true, decide_false, Nat.add_zero, Nat.zero_add]
  by_cases hik : i < k
  case neg =>
    simp (disch := omega) only [JJ, opds, updD, ln, Nat.reduceLT, Nat.reduceLeDiff, Nat.reduceEqDiff, Nat.reduceAdd, Nat.reduceMul, ↓reduceIte, if_true, if_false, Bool.false_eq_true, beq_self_eq_true, Bool.not_true, Bool.not_false, reduceCtorEq, decide_true, decide_false, Nat.add_zero, Nat.zero_add, F42u7, e11, e2, M1.1.len, b_lss, c_lt, hik]
    refine q_cond (q := false) (by simp (disch := omega) only [JJ, opds, updD, ln, Nat.reduceLT, Nat.reduceLeDiff, Nat.reduceEqDiff, Nat.reduceAdd, Nat.reduceMul, ↓reduceIte, if_true, if_false, Bool.false_eq_true, beq_self_eq_true, Bool.not_true, Bool.not_false, reduceCtorEq, decide_true, decide_false, Nat.add_zero, Nat.zero_add]) (fun h => by cases h) (fun _ => ?_)
    refine q_exit ?_
    simp (disch := omega) only [JJ, opds, updD, ln, Nat.reduceLT, Nat.reduceLeDiff, Nat.reduceEqDiff, Nat.reduceAdd, Nat.reduceMul, ↓reduceIte, if_true, if_false, Bool.false_eq_true, beq_self_eq_true, Bool.not_true, Bool.not_false, reduceCtorEq, decide_true, decide_false, Nat.add_zero, Nat.zero_add]
    exact fin (.inl (by omega)) _ (by simp (disch := omega) only [JJ, opds, updD, ln, Nat.reduceLT, Nat.reduceLeDiff, Nat.reduceEqDiff, Nat.reduceAdd, Nat.reduceMul, ↓reduceIte, if_true, if_false, Bool.false_eq_true, beq_self_eq_true, Bool.not_true, Bool.not_false, reduceCtorEq, decide_true, decide_false, Nat.add_zero, Nat.zero_add]) (by simp (disch := omega) only [JJ, opds, updD, ln, Nat.reduceLT, Nat.reduceLeDiff, Nat.reduceEqDiff, Nat.reduceAdd, Nat.reduceMul, ↓reduceIte, if_true, if_false, Bool.false_eq_true, beq_self_eq_true, Bool.not_true, Bool.not_false, reduceCtorEq, decide_true, decide_false, Nat.add_zero, Nat.zero_add, e6]) (by simp (disch := omega) only [JJ, opds, updD, ln, Nat.reduceLT, Nat.reduceLeDiff, Nat.reduceEqDiff, Nat.reduceAdd, Nat.reduceMul, ↓reduceIte, if_true, if_false, Bool.false_eq_true, beq_self_eq_true, Bool.not_true, Bool.not_false, reduceCtorEq, decide_true, decide_false, Nat.add_zero, Nat.zero_add, e9]) (by simp (disch := omega) only [JJ, opds, updD, ln, Nat.reduceLT, Nat.reduceLeDiff, Nat.reduceEqDiff, Nat.reduceAdd, Nat.reduceMul, ↓reduceIte, if_true, if_false, Bool.false_eq_true, beq_self_eq_true, Bool.not_true, Bool.not_false, reduceCtorEq, decide_true, decide_false, Nat.add_zero, Nat.zero_add, e10]) _
  cases hr : (runS D f i).rf
  case true =>
    simp (disch := omega) only [JJ, opds, updD, ln, Nat.reduceLT, Nat.reduceLeDiff, Nat.reduceEqDiff, Nat.reduceAdd, Nat.reduceMul, ↓reduceIte, if_true, if_false, Bool.false_eq_true, beq_self_eq_true, Bool.not_true, Bool.not_false, reduceCtorEq, decide_true, decide_false, Nat.add_zero, Nat.zero_add, F42u7, e11, e2, e10, hr, M1.1.len, b_lss, c_lt, hik]
    refine q_cond (q := false) (by simp (disch := omega) only [JJ, opds, updD, ln, Nat.reduceLT, Nat.reduceLeDiff, Nat.reduceEqDiff, Nat.reduceAdd, Nat.reduceMul, ↓reduceIte, if_true, if_false, Bool.false_eq_true, beq_self_eq_true, Bool.not_true, Bool.not_false, reduceCtorEq, decide_true, decide_false, Nat.add_zero, Nat.zero_add]) (fun h => by cases h) (fun _ => ?_)
    refine q_exit ?_
    simp (disch := omega) only [JJ, opds, updD, ln, Nat.reduceLT, Nat.reduceLeDiff, Nat.reduceEqDiff, Nat.reduceAdd, Nat.reduceMul, ↓reduceIte, if_true, if_false, Bool.false_eq_true, beq_self_eq_true, Bool.not_true, Bool.not_false, reduceCtorEq, decide_true, decide_false, Nat.add_zero, Nat.zero_add]
    exact fin (.inr hr) _ (by simp (disch := omega) only [JJ, opds, updD, ln, Nat.reduceLT, Nat.reduceLeDiff, Nat.reduceEqDiff, Nat.reduceAdd, Nat.reduceMul, ↓reduceIte, if_true, if_false, Bool.false_eq_true, beq_self_eq_true, Bool.not_true, Bool.not_false, reduceCtorEq, decide_true, decide_false, Nat.add_zero, Nat.zero_add]) (by simp (disch := omega) only [JJ, opds, updD, ln, Nat.reduceLT, Nat.reduceLeDiff, Nat.reduceEqDiff, Nat.reduceAdd, Nat.reduceMul, ↓reduceIte, if_true, if_false, Bool.false_eq_true, beq_self_eq_true, Bool.not_true, Bool.not_false, reduceCtorEq, decide_true, decide_false, Nat.add_zero, Nat.zero_add, e6]) (by simp (disch := omega) only [JJ, opds, updD, ln, Nat.reduceLT, Nat.reduceLeDiff, Nat.reduceEqDiff, Nat.reduceAdd, Nat.reduceMul, ↓reduceIte, if_true, if_false, Bool.false_eq_true, beq_self_eq_true, Bool.not_true, Bool.not_false, reduceCtorEq, decide_true, decide_false, Nat.add_zero, Nat.zero_add, e9]) (by simp (disch := omega) only [JJ, opds, updD, ln, Nat.reduceLT, Nat.reduceLeDiff, Nat.reduceEqDiff, Nat.reduceAdd, Nat.reduceMul, ↓reduceIte, if_true, if_false, Bool.false_eq_true, beq_self_eq_true, Bool.not_true, Bool.not_false, reduceCtorEq, decide_true, decide_false, Nat.add_zero, Nat.zero_add, e10, hr]) _
  clear fin
  have hpp := hp hr
  simp (disch := omega) only [JJ, opds, updD, ln, Nat.reduceLT, Nat.reduceLeDiff, Nat.reduceEqDiff, Nat.reduceAdd, Nat.reduceMul, ↓reduceIte, if_true, if_false, Bool.false_eq_true, beq_self_eq_true, Bool.not_true, Bool.not_false, reduceCtorEq, decide_true, decide_false, Nat.add_zero, Nat.zero_add, F42u7, e11, e2, e10, hr, M1.1.len, b_lss, c_lt, hik]
  refine q_cond (q := true) (by simp (disch := omega) only [JJ, opds, updD, ln, Nat.reduceLT, Nat.reduceLeDiff, Nat.reduceEqDiff, Nat.reduceAdd, Nat.reduceMul, ↓reduceIte, if_true, if_false, Bool.false_eq_true, beq_self_eq_true, Bool.not_true, Bool.not_false, reduceCtorEq, decide_true, decide_false, Nat.add_zero, Nat.zero_add]) (fun _ => ?_) (fun h => by cases h)
  refine q_skip ?_
  refine q_seq (q_block (q_seq (q_dreg ?_)))
  have hs : (runS D f i).pos < D.m := runS_pos V i fun j hj => M.2 j (by omega)
  have hb := M.2 i hik
  have hln := runS_len (D := D) (f := f) i
  obtain ⟨i1, i2, i3⟩ := ix_ok V hb
  obtain ⟨d1, d2, d3, d4⟩ := cell_ok V hs i1
  have hrow := (V.2.2.2.2.2 _ hs).1
  have n62 := N.n62
  have xb := Ext.bump h' 1
  have nb : (bump h' 1).next = h'.next + 1 := rfl
  have Nb := N.ext (x1.trans xb)
  have Mb := M.ext (x1.trans xb)
  have lb := l3.ext xb
  generalize bump h' 1 = hb1 at *
  obtain ⟨ga, oa, a1, a2⟩ := Nb.rows.addr hs
  obtain ⟨gm, om, m1, m2⟩ := Mb.1.addr hik
  have f0 : gld1 hb1 h.next 0 = some vc := lb.ld (k := 3) rfl (by omega)
  have f1 : gld1 hb1 h.next 1 = some vr := lb.ld (k := 3) rfl (by omega)
  simp (disch := omega) only [Ja, Jb, Jc, Jd, Je, Jf, Jg, Jh, Ji, Jj, Jk, Jl, Jm, Jn, Jp, Jq, Jr, Js, Jt, Ju, Jv, Jw, Jx, Jy, true_and, and_true, JJ, opds, updD, ln, Nat.reduceLT, Nat.reduceLeDiff, Nat.reduceEqDiff, Nat.reduceAdd, Nat.reduceMul, ↓reduceIte, if_true, if_false, Bool.false_eq_true, beq_self_eq_true, Bool.not_true, Bool.not_false, reduceCtorEq, decide_true, decide_false, Nat.add_zero, Nat.zero_add, F42u20, F42u20p, e2, e3, e9, e11, hpp, f0, f1, a1, (a2 _ (Ext.refl _)).2 rfl, m1, (m2 _ (Ext.refl _)).2 rfl]
  refine q_call (c74 hO vc D.n D.C (f i) _ Nb.cls n62 hb i1 i2 i3) ?_
  rintro v1 h2 ⟨rfl, x2⟩
  have lb2 := lb.ext x2
  have N2 := Nb.ext x2
  have e1' : gld1 h2 h.next 1 = some vr := lb2.ld (k := 3) rfl (by omega)
  have hix : ix D (f i) < D.len (runS D f i).pos := by omega
  obtain ⟨gb, ob, b1, b2⟩ := (N2.row _ hs).addr hix
  have v1 := N2.rows.veq
  have v2 := (N2.row _ hs).veq
  have n2 : h'.next + 1 ≤ h2.next := by have := x2.1; omega
  have lc : ln (cellv D (runS D f i).pos (ix D (f i))) = 3 := rfl
  have l4 := Lob.setL (h := h2) (k := h'.next) (n := 3) (l := [.int .i64 ((0 : Nat) : Int), .int .i64 ((0 : Nat) : Int), .int .u8 ((0 : Nat) : Int)]) (by omega) rfl (by omega)
  obtain ⟨ob2, g1, g2⟩ := l4.st (o := 0) (vs := cellv D (runS D f i).pos (ix D (f i))) (Nat.le_refl _) rfl (Nat.succ_pos _)
  rw [blit_all (by rfl)] at g2
  simp (disch := omega) only [Ja, Jb, Jc, Jd, Je, Jf, Jg, Jh, Ji, Jj, Jk, Jl, Jm, Jn, Jp, Jq, Jr, Js, Jt, Ju, Jv, Jw, Jx, Jy, true_and, and_true, JJ, opds, updD, ln, Nat.reduceLT, Nat.reduceLeDiff, Nat.reduceEqDiff, Nat.reduceAdd, Nat.reduceMul, ↓reduceIte, if_true, if_false, Bool.false_eq_true, beq_self_eq_true, Bool.not_true, Bool.not_false, reduceCtorEq, decide_true, decide_false, Nat.add_zero, Nat.zero_add, F42u20, e3, e9, hpp, e1', a1, (a2 _ x2).2 rfl, veq_int, veq_ptr, v1, v2, b1, (b2 _ (Ext.refl _)).1, mk_set, and_self, lc, g1]
  have x4 : Ext h' ((h2.set h'.next (.cells .leaf [.int .i64 ((0 : Nat) : Int), .int .i64 ((0 : Nat) : Int), .int .u8 ((0 : Nat) : Int)] 3 1 true)).set h'.next ob2) := ((xb.trans x2).set (Nat.le_refl _) _).set (Nat.le_refl _) _
  have n4 : h'.next + 1 ≤ ((h2.set h'.next (.cells .leaf [.int .i64 ((0 : Nat) : Int), .int .i64 ((0 : Nat) : Int), .int .u8 ((0 : Nat) : Int)] 3 1 true)).set h'.next ob2).next := by rw [set_next, set_next]; exact n2
  clear l4 g1 lb2 e1' a1 a2 b1 b2 f0 f1 lb
  generalize (h2.set h'.next (.cells .leaf [.int .i64 ((0 : Nat) : Int), .int .i64 ((0 : Nat) : Int), .int .u8 ((0 : Nat) : Int)] 3 1 true)).set h'.next ob2 = h4 at *
  have c0 : gld1 h4 h'.next 0 = some (.int .i64 (tn D (runS D f i).pos (ix D (f i)) : Nat)) := by rw [← d1]; exact g2.ld (k := 3) rfl (by omega)
  have c1 : gld1 h4 h'.next 1 = some (.int .i64 (an D (runS D f i).pos (ix D (f i)) : Nat)) := by rw [← d3]; exact g2.ld (k := 3) rfl (by omega)
  have c2 : gld1 h4 h'.next 2 = some (.int .u8 (D.B (runS D f i).pos (ix D (f i)) : Nat)) := g2.ld (k := 3) rfl (by omega)
  have Q4 : Out h4 (fun k => h.next + 1 + 1 + 1 ≤ k ∧ k ≠ h'.next) (e 8) (runS D f i).out := (Q.lt.ext x4).imp (fun g hg => ⟨hg.1, by omega⟩)
  have M4 := M.ext (x1.trans x4)
  have hb256 := N.b256 (runS D f i).pos (ix D (f i))
  -- what follows the choice
  have post : ∀ (e' : Env) (h5 : Hp) (s' : St), s' = runS D f (i + 1) → e' 11 = .int .i64 (i : Nat) → e' 2 = vm → e' 3 = .ptr h.next 0 → e' 6 = .ptr (h.next + 1 + 1) 0 → e' 12 = .ptr h'.next 0 → e' 10 = .bool s'.rf → (s'.rf = false → tn D (runS D f i).pos (ix D (f i)) = s'.pos) →
      gld1 h5 h'.next 0 = some (.int .i64 (tn D (runS D f i).pos (ix D (f i)) : Nat)) → Out h5 (h.next + 1 + 1 + 1 ≤ ·) (e' 8) s'.out → Lob h5 h.next [vc, vr, ve] → Lob h5 (h.next + 1 + 1) [.int .i64 ((0 : Nat) : Int), .bool false] → Ext h h5 → h.next + 1 + 1 + 1 ≤ h5.next →
      ∀ (X0 X1 : Nat → Env → Hp → Prop) (R0 : Env → Hp → Prop) (N0 : Env → Hp → Prop), (∀ e'' : Env, (∃ m, m < k - i ∧ ∃ i p, i ≤ k ∧ m = k - i ∧ e'' 11 = .int .i64 (i : Nat) ∧ e'' 2 = vm ∧ e'' 3 = .ptr h.next 0 ∧ e'' 6 = .ptr (h.next + 1 + 1) 0 ∧ e'' 9 = .int .i64 (p : Nat) ∧ ((runS D f i).rf = false → p = (runS D f i).pos) ∧ e'' 10 = .bool (runS D f i).rf ∧
        Out h5 (h.next + 1 + 1 + 1 ≤ ·) (e'' 8) (runS D f i).out ∧ Lob h5 h.next [vc, vr, ve] ∧ Lob h5 (h.next + 1 + 1) [.int .i64 ((0 : Nat) : Int), .bool false] ∧ Ext h h5 ∧ h.next + 1 + 1 + 1 ≤ h5.next) → N0 e'' h5) →
      Wp O E0 75 (.reg F42u15) e' h5 (fun e'' h'' => Wp O E0 75 (.reg F42u16) e'' h'' N0 X1 R0) X0 R0 := by
    intro e' h5 s' hs' q11 q2 q3 q6 q12 q10 hpos hc0 hQ hl3 hl6 hx hn X0 X1 R0 N0 hN
    refine q_reg ?_
    simp (disch := omega) only [JJ, opds, updD, ln, Nat.reduceLT, Nat.reduceLeDiff, Nat.reduceEqDiff, Nat.reduceAdd, Nat.reduceMul, ↓reduceIte, if_true, if_false, Bool.false_eq_true, beq_self_eq_true, Bool.not_true, Bool.not_false, reduceCtorEq, decide_true, decide_false, Nat.add_zero, Nat.zero_add, F42u15, q12, hc0]
    refine q_reg ?_
    simp (disch := omega) only [JJ, opds, updD, ln, Nat.reduceLT, Nat.reduceLeDiff, Nat.reduceEqDiff, Nat.reduceAdd, Nat.reduceMul, ↓reduceIte, if_true, if_false, Bool.false_eq_true, beq_self_eq_true, Bool.not_true, Bool.not_false, reduceCtorEq, decide_true, decide_false, Nat.add_zero, Nat.zero_add, F42u16, q11, b_add_i64]
    subst hs'
    exact hN _ ⟨k - (i + 1), by omega, i + 1, tn D (runS D f i).pos (ix D (f i)), by omega, rfl, by simp (disch := omega) only [JJ, opds, updD, ln, Nat.reduceLT, Nat.reduceLeDiff, Nat.reduceEqDiff, Nat.reduceAdd, Nat.reduceMul, ↓reduceIte, if_true, if_false, Bool.false_eq_true, beq_self_eq_true, Bool.not_true, Bool.not_false, reduceCtorEq, decide_true, decide_false, Nat.add_zero, Nat.zero_add], by simp (disch := omega) only [JJ, opds, updD, ln, Nat.reduceLT, Nat.reduceLeDiff, Nat.reduceEqDiff, Nat.reduceAdd, Nat.reduceMul, ↓reduceIte, if_true, if_false, Bool.false_eq_true, beq_self_eq_true, Bool.not_true, Bool.not_false, reduceCtorEq, decide_true, decide_false, Nat.add_zero, Nat.zero_add, q2], by simp (disch := omega) only [JJ, opds, updD, ln, Nat.reduceLT, Nat.reduceLeDiff, Nat.reduceEqDiff, Nat.reduceAdd, Nat.reduceMul, ↓reduceIte, if_true, if_false, Bool.false_eq_true, beq_self_eq_true, Bool.not_true, Bool.not_false, reduceCtorEq, decide_true, decide_false, Nat.add_zero, Nat.zero_add, q3], by simp (disch := omega) only [JJ, opds, updD, ln, Nat.reduceLT, Nat.reduceLeDiff, Nat.reduceEqDiff, Nat.reduceAdd, Nat.reduceMul, ↓reduceIte, if_true, if_false, Bool.false_eq_true, beq_self_eq_true, Bool.not_true, Bool.not_false, reduceCtorEq, decide_true, decide_false, Nat.add_zero, Nat.zero_add, q6], by simp (disch := omega) only [JJ, opds, updD, ln, Nat.reduceLT, Nat.reduceLeDiff, Nat.reduceEqDiff, Nat.reduceAdd, Nat.reduceMul, ↓reduceIte, if_true, if_false, Bool.false_eq_true, beq_self_eq_true, Bool.not_true, Bool.not_false, reduceCtorEq, decide_true, decide_false, Nat.add_zero, Nat.zero_add], hpos, by simp (disch := omega) only [JJ, opds, updD, ln, Nat.reduceLT, Nat.reduceLeDiff, Nat.reduceEqDiff, Nat.reduceAdd, Nat.reduceMul, ↓reduceIte, if_true, if_false, Bool.false_eq_true, beq_self_eq_true, Bool.not_true, Bool.not_false, reduceCtorEq, decide_true, decide_false, Nat.add_zero, Nat.zero_add, q10], by simp (disch := omega) only [JJ, opds, updD, ln, Nat.reduceLT, Nat.reduceLeDiff, Nat.reduceEqDiff, Nat.reduceAdd, Nat.reduceMul, ↓reduceIte, if_true, if_false, Bool.false_eq_true, beq_self_eq_true, Bool.not_true, Bool.not_false, reduceCtorEq, decide_true, decide_false, Nat.add_zero, Nat.zero_add]; exact hQ, hl3, hl6, hx, hn⟩
  refine q_seq (q_seq (q_reg ?_))
  simp (disch := omega) only [JJ, opds, updD, ln, Nat.reduceLT, Nat.reduceLeDiff, Nat.reduceEqDiff, Nat.reduceAdd, Nat.reduceMul, ↓reduceIte, if_true, if_false, Bool.false_eq_true, beq_self_eq_true, Bool.not_true, Bool.not_false, reduceCtorEq, decide_true, decide_false, Nat.add_zero, Nat.zero_add, F42u8, c1]
  refine q_block (q_seq (q_reg ?_))
  simp (disch := omega) only [JJ, opds, updD, ln, Nat.reduceLT, Nat.reduceLeDiff, Nat.reduceEqDiff, Nat.reduceAdd, Nat.reduceMul, ↓reduceIte, if_true, if_false, Bool.false_eq_true, beq_self_eq_true, Bool.not_true, Bool.not_false, reduceCtorEq, decide_true, decide_false, Nat.add_zero, Nat.zero_add, F42u9, b_eql, c_eq]
  by_cases k0 : an D (runS D f i).pos (ix D (f i)) = 0
  · have hst : (⟨tn D (runS D f i).pos (ix D (f i)), false, (runS D f i).out ++ [f i]⟩ : St) = runS D f (i + 1) := by
      simp only [runS, step]; rw [if_neg (by rw [hr]; simp), if_pos k0]
    refine q_cond (q := true) (by simp (disch := omega) only [JJ, opds, updD, ln, Nat.reduceLT, Nat.reduceLeDiff, Nat.reduceEqDiff, Nat.reduceAdd, Nat.reduceMul, ↓reduceIte, if_true, if_false, Bool.false_eq_true, beq_self_eq_true, Bool.not_true, Bool.not_false, reduceCtorEq, decide_true, decide_false, Nat.add_zero, Nat.zero_add, k0]) (fun _ => ?_) (fun h => by cases h)
    refine q_reg ?_
    obtain ⟨gm, om, m1, m2⟩ := M4.1.addr hik
    obtain ⟨v', h6, g4, g5, g6, g7⟩ := Q4.app1 (b := f i) (c := some 1) (by omega) ⟨by omega, by omega⟩
    simp (disch := omega) only [JJ, opds, updD, ln, Nat.reduceLT, Nat.reduceLeDiff, Nat.reduceEqDiff, Nat.reduceAdd, Nat.reduceMul, ↓reduceIte, if_true, if_false, Bool.false_eq_true, beq_self_eq_true, Bool.not_true, Bool.not_false, reduceCtorEq, decide_true, decide_false, Nat.add_zero, Nat.zero_add, F42u10, e2, e11, m1, (m2 _ (Ext.refl _)).2 rfl, Jx, fillS_one, fill1uint, oneB_fold, g4]
    have k1 := l3.lt
    have k2 := l6.lt
    refine post _ h6 _ hst (by simp (disch := omega) only [JJ, opds, updD, ln, Nat.reduceLT, Nat.reduceLeDiff, Nat.reduceEqDiff, Nat.reduceAdd, Nat.reduceMul, ↓reduceIte, if_true, if_false, Bool.false_eq_true, beq_self_eq_true, Bool.not_true, Bool.not_false, reduceCtorEq, decide_true, decide_false, Nat.add_zero, Nat.zero_add, e11]) (by simp (disch := omega) only [JJ, opds, updD, ln, Nat.reduceLT, Nat.reduceLeDiff, Nat.reduceEqDiff, Nat.reduceAdd, Nat.reduceMul, ↓reduceIte, if_true, if_false, Bool.false_eq_true, beq_self_eq_true, Bool.not_true, Bool.not_false, reduceCtorEq, decide_true, decide_false, Nat.add_zero, Nat.zero_add, e2]) (by simp (disch := omega) only [JJ, opds, updD, ln, Nat.reduceLT, Nat.reduceLeDiff, Nat.reduceEqDiff, Nat.reduceAdd, Nat.reduceMul, ↓reduceIte, if_true, if_false, Bool.false_eq_true, beq_self_eq_true, Bool.not_true, Bool.not_false, reduceCtorEq, decide_true, decide_false, Nat.add_zero, Nat.zero_add, e3]) (by simp (disch := omega) only [JJ, opds, updD, ln, Nat.reduceLT, Nat.reduceLeDiff, Nat.reduceEqDiff, Nat.reduceAdd, Nat.reduceMul, ↓reduceIte, if_true, if_false, Bool.false_eq_true, beq_self_eq_true, Bool.not_true, Bool.not_false, reduceCtorEq, decide_true, decide_false, Nat.add_zero, Nat.zero_add, e6]) (by simp (disch := omega) only [JJ, opds, updD, ln, Nat.reduceLT, Nat.reduceLeDiff, Nat.reduceEqDiff, Nat.reduceAdd, Nat.reduceMul, ↓reduceIte, if_true, if_false, Bool.false_eq_true, beq_self_eq_true, Bool.not_true, Bool.not_false, reduceCtorEq, decide_true, decide_false, Nat.add_zero, Nat.zero_add]) (by simp (disch := omega) only [JJ, opds, updD, ln, Nat.reduceLT, Nat.reduceLeDiff, Nat.reduceEqDiff, Nat.reduceAdd, Nat.reduceMul, ↓reduceIte, if_true, if_false, Bool.false_eq_true, beq_self_eq_true, Bool.not_true, Bool.not_false, reduceCtorEq, decide_true, decide_false, Nat.add_zero, Nat.zero_add, e10, hr]) (fun _ => rfl) ?_ (g5.imp (fun _ q => q.1)) ((l3.ext x4).frame (g7 _ (by omega) (by omega)) (by omega)) ((l6.ext x4).frame (g7 _ (by omega) (by omega)) (by omega)) ⟨by omega, fun c hc => by rw [g7 c (by omega) (by omega), x4.2 c (by omega), x1.2 c hc]⟩ (by omega) _ _ _ _ (fun _ q => q)
    rw [← c0]
    simp only [gld1, g7 h'.next (by omega) (fun q => q.2 rfl)]
  refine q_cond (q := false) (by simp (disch := omega) only [JJ, opds, updD, ln, Nat.reduceLT, Nat.reduceLeDiff, Nat.reduceEqDiff, Nat.reduceAdd, Nat.reduceMul, ↓reduceIte, if_true, if_false, Bool.false_eq_true, beq_self_eq_true, Bool.not_true, Bool.not_false, reduceCtorEq, decide_true, decide_false, Nat.add_zero, Nat.zero_add, k0]) (fun h => by cases h) (fun _ => ?_)
  refine q_seq (q_reg ?_)
  simp (disch := omega) only [JJ, opds, updD, ln, Nat.reduceLT, Nat.reduceLeDiff, Nat.reduceEqDiff, Nat.reduceAdd, Nat.reduceMul, ↓reduceIte, if_true, if_false, Bool.false_eq_true, beq_self_eq_true, Bool.not_true, Bool.not_false, reduceCtorEq, decide_true, decide_false, Nat.add_zero, Nat.zero_add, F42u11, b_eql, c_eq]
  by_cases k2 : an D (runS D f i).pos (ix D (f i)) = 2
  · have hst : (⟨tn D (runS D f i).pos (ix D (f i)), false, (runS D f i).out ++ [D.B (runS D f i).pos (ix D (f i))]⟩ : St) = runS D f (i + 1) := by
      simp only [runS, step]; rw [if_neg (by rw [hr]; simp), if_neg k0, if_pos k2]
    refine q_cond (q := true) (by simp (disch := omega) only [JJ, opds, updD, ln, Nat.reduceLT, Nat.reduceLeDiff, Nat.reduceEqDiff, Nat.reduceAdd, Nat.reduceMul, ↓reduceIte, if_true, if_false, Bool.false_eq_true, beq_self_eq_true, Bool.not_true, Bool.not_false, reduceCtorEq, decide_true, decide_false, Nat.add_zero, Nat.zero_add, k2]) (fun _ => ?_) (fun h => by cases h)
    refine q_reg ?_
    obtain ⟨v', h6, g4, g5, g6, g7⟩ := Q4.app1 (b := D.B (runS D f i).pos (ix D (f i))) (c := some 1) (by omega) ⟨by omega, by omega⟩
    simp (disch := omega) only [JJ, opds, updD, ln, Nat.reduceLT, Nat.reduceLeDiff, Nat.reduceEqDiff, Nat.reduceAdd, Nat.reduceMul, ↓reduceIte, if_true, if_false, Bool.false_eq_true, beq_self_eq_true, Bool.not_true, Bool.not_false, reduceCtorEq, decide_true, decide_false, Nat.add_zero, Nat.zero_add, F42u12, c2, fillS_one, fill1uint, oneB_fold, g4]
    have k1 := l3.lt
    have k2 := l6.lt
    refine post _ h6 _ hst (by simp (disch := omega) only [JJ, opds, updD, ln, Nat.reduceLT, Nat.reduceLeDiff, Nat.reduceEqDiff, Nat.reduceAdd, Nat.reduceMul, ↓reduceIte, if_true, if_false, Bool.false_eq_true, beq_self_eq_true, Bool.not_true, Bool.not_false, reduceCtorEq, decide_true, decide_false, Nat.add_zero, Nat.zero_add, e11]) (by simp (disch := omega) only [JJ, opds, updD, ln, Nat.reduceLT, Nat.reduceLeDiff, Nat.reduceEqDiff, Nat.reduceAdd, Nat.reduceMul, ↓reduceIte, if_true, if_false, Bool.false_eq_true, beq_self_eq_true, Bool.not_true, Bool.not_false, reduceCtorEq, decide_true, decide_false, Nat.add_zero, Nat.zero_add, e2]) (by simp (disch := omega) only [JJ, opds, updD, ln, Nat.reduceLT, Nat.reduceLeDiff, Nat.reduceEqDiff, Nat.reduceAdd, Nat.reduceMul, ↓reduceIte, if_true, if_false, Bool.false_eq_true, beq_self_eq_true, Bool.not_true, Bool.not_false, reduceCtorEq, decide_true, decide_false, Nat.add_zero, Nat.zero_add, e3]) (by simp (disch := omega) only [JJ, opds, updD, ln, Nat.reduceLT, Nat.reduceLeDiff, Nat.reduceEqDiff, Nat.reduceAdd, Nat.reduceMul, ↓reduceIte, if_true, if_false, Bool.false_eq_true, beq_self_eq_true, Bool.not_true, Bool.not_false, reduceCtorEq, decide_true, decide_false, Nat.add_zero, Nat.zero_add, e6]) (by simp (disch := omega) only [JJ, opds, updD, ln, Nat.reduceLT, Nat.reduceLeDiff, Nat.reduceEqDiff, Nat.reduceAdd, Nat.reduceMul, ↓reduceIte, if_true, if_false, Bool.false_eq_true, beq_self_eq_true, Bool.not_true, Bool.not_false, reduceCtorEq, decide_true, decide_false, Nat.add_zero, Nat.zero_add]) (by simp (disch := omega) only [JJ, opds, updD, ln, Nat.reduceLT, Nat.reduceLeDiff, Nat.reduceEqDiff, Nat.reduceAdd, Nat.reduceMul, ↓reduceIte, if_true, if_false, Bool.false_eq_true, beq_self_eq_true, Bool.not_true, Bool.not_false, reduceCtorEq, decide_true, decide_false, Nat.add_zero, Nat.zero_add, e10, hr]) (fun _ => rfl) ?_ (g5.imp (fun _ q => q.1)) ((l3.ext x4).frame (g7 _ (by omega) (by omega)) (by omega)) ((l6.ext x4).frame (g7 _ (by omega) (by omega)) (by omega)) ⟨by omega, fun c hc => by rw [g7 c (by omega) (by omega), x4.2 c (by omega), x1.2 c hc]⟩ (by omega) _ _ _ _ (fun _ q => q)
    rw [← c0]
    simp only [gld1, g7 h'.next (by omega) (fun q => q.2 rfl)]
  refine q_cond (q := false) (by simp (disch := omega) only [JJ, opds, updD, ln, Nat.reduceLT, Nat.reduceLeDiff, Nat.reduceEqDiff, Nat.reduceAdd, Nat.reduceMul, ↓reduceIte, if_true, if_false, Bool.false_eq_true, beq_self_eq_true, Bool.not_true, Bool.not_false, reduceCtorEq, decide_true, decide_false, Nat.add_zero, Nat.zero_add, k2]) (fun h => by cases h) (fun _ => ?_)
  refine q_seq (q_reg ?_)
  simp (disch := omega) only [JJ, opds, updD, ln, Nat.reduceLT, Nat.reduceLeDiff, Nat.reduceEqDiff, Nat.reduceAdd, Nat.reduceMul, ↓reduceIte, if_true, if_false, Bool.false_eq_true, beq_self_eq_true, Bool.not_true, Bool.not_false, reduceCtorEq, decide_true, decide_false, Nat.add_zero, Nat.zero_add, F42u13, b_eql, c_eq]
  have x5 := x1.trans x4
  have n5 : h.next + 1 + 1 + 1 ≤ h4.next := by omega
  by_cases k3 : an D (runS D f i).pos (ix D (f i)) = 3
  · have hst : (⟨0, true, (runS D f i).out⟩ : St) = runS D f (i + 1) := by
      simp only [runS, step]; rw [if_neg (by rw [hr]; simp), if_neg k0, if_neg k2, if_pos k3]
    refine q_cond (q := true) (by simp (disch := omega) only [JJ, opds, updD, ln, Nat.reduceLT, Nat.reduceLeDiff, Nat.reduceEqDiff, Nat.reduceAdd, Nat.reduceMul, ↓reduceIte, if_true, if_false, Bool.false_eq_true, beq_self_eq_true, Bool.not_true, Bool.not_false, reduceCtorEq, decide_true, decide_false, Nat.add_zero, Nat.zero_add, k3]) (fun _ => ?_) (fun h => by cases h)
    refine q_reg ?_
    simp (disch := omega) only [JJ, opds, updD, ln, Nat.reduceLT, Nat.reduceLeDiff, Nat.reduceEqDiff, Nat.reduceAdd, Nat.reduceMul, ↓reduceIte, if_true, if_false, Bool.false_eq_true, beq_self_eq_true, Bool.not_true, Bool.not_false, reduceCtorEq, decide_true, decide_false, Nat.add_zero, Nat.zero_add, F42u14]
    refine post _ h4 _ hst ?_ ?_ ?_ ?_ ?_ ?_ (fun h => by cases h) c0 ?_ (l3.ext x4) (l6.ext x4) x5 n5 _ _ _ _ (fun _ q => q)
    · simp (disch := omega) only [JJ, opds, updD, ln, Nat.reduceLT, Nat.reduceLeDiff, Nat.reduceEqDiff, Nat.reduceAdd, Nat.reduceMul, ↓reduceIte, if_true, if_false, Bool.false_eq_true, beq_self_eq_true, Bool.not_true, Bool.not_false, reduceCtorEq, decide_true, decide_false, Nat.add_zero, Nat.zero_add, e11]
    · simp (disch := omega) only [JJ, opds, updD, ln, Nat.reduceLT, Nat.reduceLeDiff, Nat.reduceEqDiff, Nat.reduceAdd, Nat.reduceMul, ↓reduceIte, if_true, if_false, Bool.false_eq_true, beq_self_eq_true, Bool.not_true, Bool.not_false, reduceCtorEq, decide_true, decide_false, Nat.add_zero, Nat.zero_add, e2]
    · simp (disch := omega) only [JJ, opds, updD, ln, Nat.reduceLT, Nat.reduceLeDiff, Nat.reduceEqDiff, Nat.reduceAdd, Nat.reduceMul, ↓reduceIte, if_true, if_false, Bool.false_eq_true, beq_self_eq_true, Bool.not_true, Bool.not_false, reduceCtorEq, decide_true, decide_false, Nat.add_zero, Nat.zero_add, e3]
    · simp (disch := omega) only [JJ, opds, updD, ln, Nat.reduceLT, Nat.reduceLeDiff, Nat.reduceEqDiff, Nat.reduceAdd, Nat.reduceMul, ↓reduceIte, if_true, if_false, Bool.false_eq_true, beq_self_eq_true, Bool.not_true, Bool.not_false, reduceCtorEq, decide_true, decide_false, Nat.add_zero, Nat.zero_add, e6]
    · simp (disch := omega) only [JJ, opds, updD, ln, Nat.reduceLT, Nat.reduceLeDiff, Nat.reduceEqDiff, Nat.reduceAdd, Nat.reduceMul, ↓reduceIte, if_true, if_false, Bool.false_eq_true, beq_self_eq_true, Bool.not_true, Bool.not_false, reduceCtorEq, decide_true, decide_false, Nat.add_zero, Nat.zero_add]
    · simp (disch := omega) only [JJ, opds, updD, ln, Nat.reduceLT, Nat.reduceLeDiff, Nat.reduceEqDiff, Nat.reduceAdd, Nat.reduceMul, ↓reduceIte, if_true, if_false, Bool.false_eq_true, beq_self_eq_true, Bool.not_true, Bool.not_false, reduceCtorEq, decide_true, decide_false, Nat.add_zero, Nat.zero_add]
    · simp (disch := omega) only [JJ, opds, updD, ln, Nat.reduceLT, Nat.reduceLeDiff, Nat.reduceEqDiff, Nat.reduceAdd, Nat.reduceMul, ↓reduceIte, if_true, if_false, Bool.false_eq_true, beq_self_eq_true, Bool.not_true, Bool.not_false, reduceCtorEq, decide_true, decide_false, Nat.add_zero, Nat.zero_add]
      exact Q4.imp (fun _ q => q.1)
  · have hst : (⟨tn D (runS D f i).pos (ix D (f i)), false, (runS D f i).out⟩ : St) = runS D f (i + 1) := by
      simp only [runS, step]; rw [if_neg (by rw [hr]; simp), if_neg k0, if_neg k2, if_neg k3]
    refine q_cond (q := false) (by simp (disch := omega) only [JJ, opds, updD, ln, Nat.reduceLT, Nat.reduceLeDiff, Nat.reduceEqDiff, Nat.reduceAdd, Nat.reduceMul, ↓reduceIte, if_true, if_false, Bool.false_eq_true, beq_self_eq_true, Bool.not_true, Bool.not_false, reduceCtorEq, decide_true, decide_false, Nat.add_zero, Nat.zero_add, k3]) (fun h => by cases h) (fun _ => ?_)
    refine q_skip ?_
    refine post _ h4 _ hst ?_ ?_ ?_ ?_ ?_ ?_ (fun _ => rfl) c0 ?_ (l3.ext x4) (l6.ext x4) x5 n5 _ _ _ _ (fun _ q => q)
    · simp (disch := omega) only [JJ, opds, updD, ln, Nat.reduceLT, Nat.reduceLeDiff, Nat.reduceEqDiff, Nat.reduceAdd, Nat.reduceMul, ↓reduceIte, if_true, if_false, Bool.false_eq_true, beq_self_eq_true, Bool.not_true, Bool.not_false, reduceCtorEq, decide_true, decide_false, Nat.add_zero, Nat.zero_add, e11]
    · simp (disch := omega) only [JJ, opds, updD, ln, Nat.reduceLT, Nat.reduceLeDiff, Nat.reduceEqDiff, Nat.reduceAdd, Nat.reduceMul, ↓reduceIte, if_true, if_false, Bool.false_eq_true, beq_self_eq_true, Bool.not_true, Bool.not_false, reduceCtorEq, decide_true, decide_false, Nat.add_zero, Nat.zero_add, e2]
    · simp (disch := omega) only [JJ, opds, updD, ln, Nat.reduceLT, Nat.reduceLeDiff, Nat.reduceEqDiff, Nat.reduceAdd, Nat.reduceMul, ↓reduceIte, if_true, if_false, Bool.false_eq_true, beq_self_eq_true, Bool.not_true, Bool.not_false, reduceCtorEq, decide_true, decide_false, Nat.add_zero, Nat.zero_add, e3]
    · simp (disch := omega) only [JJ, opds, updD, ln, Nat.reduceLT, Nat.reduceLeDiff, Nat.reduceEqDiff, Nat.reduceAdd, Nat.reduceMul, ↓reduceIte, if_true, if_false, Bool.false_eq_true, beq_self_eq_true, Bool.not_true, Bool.not_false, reduceCtorEq, decide_true, decide_false, Nat.add_zero, Nat.zero_add, e6]
    · simp (disch := omega) only [JJ, opds, updD, ln, Nat.reduceLT, Nat.reduceLeDiff, Nat.reduceEqDiff, Nat.reduceAdd, Nat.reduceMul, ↓reduceIte, if_true, if_false, Bool.false_eq_true, beq_self_eq_true, Bool.not_true, Bool.not_false, reduceCtorEq, decide_true, decide_false, Nat.add_zero, Nat.zero_add]
    · simp (disch := omega) only [JJ, opds, updD, ln, Nat.reduceLT, Nat.reduceLeDiff, Nat.reduceEqDiff, Nat.reduceAdd, Nat.reduceMul, ↓reduceIte, if_true, if_false, Bool.false_eq_true, beq_self_eq_true, Bool.not_true, Bool.not_false, reduceCtorEq, decide_true, decide_false, Nat.add_zero, Nat.zero_add, e10, hr]
    · simp (disch := omega) only [JJ, opds, updD, ln, Nat.reduceLT, Nat.reduceLeDiff, Nat.reduceEqDiff, Nat.reduceAdd, Nat.reduceMul, ↓reduceIte, if_true, if_false, Bool.false_eq_true, beq_self_eq_true, Bool.not_true, Bool.not_false, reduceCtorEq, decide_true, decide_false, Nat.add_zero, Nat.zero_add]
      exact Q4.imp (fun _ q => q.1)
end
end Go.Proofs.YtfaeabhbeolpgaaGreatDoor
end
