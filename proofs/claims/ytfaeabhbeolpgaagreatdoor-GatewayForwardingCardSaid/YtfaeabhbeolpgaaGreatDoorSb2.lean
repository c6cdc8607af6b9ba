/- Normalizers, part 2: the program's test of validity. Conditions: none. -/
import Derived.Test.YtfaeabhbeolpgaaGreatDoorSb1
set_option linter.all false
noncomputable section
open Go Go.Am Univ
namespace Go.Proofs.YtfaeabhbeolpgaaGreatDoor

def sumS (C : Nat → Nat → Nat) : Nat → Nat
  | 0 => 0
  | k + 1 => sumS C k + sz (C k)
theorem sumS_le (C : Nat → Nat → Nat) : ∀ k, sumS C k ≤ 256 * k
  | 0 => Nat.le_refl _
  | k + 1 => by have := sumS_le C k; have := sz_le (C k); simp only [sumS]; omega
def ovl (C : Nat → Nat → Nat) : Nat → Nat
  | 0 => 0
  | k + 1 => ovl C k + cnt (fun b => un C k b && has (C k) b) 256
theorem sum_ovl (C : Nat → Nat → Nat) : ∀ k, sumS C k = cnt (un C k) 256 + ovl C k
  | 0 => by
    have : cnt (un C 0) 256 = 0 := (cnt_zero_iff _ _).2 fun _ _ => rfl
    simp only [sumS, ovl, this]
  | k + 1 => by
    have h1 := sum_ovl C k
    have h2 := cnt_or_and (un C k) (has (C k)) 256
    have h3 : cnt (un C (k + 1)) 256 = cnt (fun b => un C k b || has (C k) b) 256 := rfl
    have h4 : sz (C k) = cnt (has (C k)) 256 := rfl
    simp only [sumS, ovl]
    omega
theorem ovl_zero (C : Nat → Nat → Nat) : ∀ n, ovl C n = 0 ↔ ∀ i, i < n → cnt (fun b => un C i b && has (C i) b) 256 = 0
  | 0 => by simp [ovl]
  | n + 1 => by
    have ih := ovl_zero C n
    simp only [ovl]
    constructor
    · intro h i hi
      by_cases hin : i = n
      · subst hin; omega
      · exact ih.1 (by omega) i (by omega)
    · intro h
      have := ih.2 fun i hi => h i (by omega)
      have := h n (by omega)
      omega
/-- The two tests of a partition agree. -/
theorem part_iff (C : Nat → Nat → Nat) (n : Nat) : ((∀ i, i < n → sz (C i) ≠ 0) ∧ sumS C n = 256 ∧ cnt (un C n) 256 = 256) ↔ PartR C n := by
  have h := sum_ovl C n
  constructor
  · rintro ⟨h1, h2, h3⟩
    exact ⟨fun i hi => ⟨h1 i hi, (ovl_zero C n).1 (by omega) i hi⟩, h3⟩
  · rintro ⟨h1, h2⟩
    have := (ovl_zero C n).2 fun i hi => (h1 i hi).2
    exact ⟨fun i hi => (h1 i hi).1, by omega, h2⟩
theorem Set.or {u w : Nat → Nat} {p : Nat → Bool} (x : Set u p) (hw : ∀ j, w j < 2 ^ 64) : Set (fun j => u j ||| w j) (fun b => p b || has w b) :=
  ⟨fun j => Nat.or_lt_two_pow (x.1 j) (hw j), fun b hb => by
    have := x.2 b hb
    unfold has at this ⊢
    rw [Nat.testBit_or, this]⟩

section
variable {O : Orc} (hO : Only O)
include hO

set_option maxHeartbeats 2000000 in
theorem c19 {vc vr ve : AVal} {rv : Nat → AVal} {D : ND} {h : Hp} (N : NZ h vc vr ve rv D) : RunsP O E0 19 [.agg [vc, vr, ve]] h (fun v h' => BoolP v (ValidR D) ∧ Ext h h') := by
  refine q_fn (L := 78) E19 (hO _ _ _ rfl) rfl rfl ?_
  refine q_seq (q_reg ?_)
  simp (disch := omega) only [JJ, opds, updD, ln, Nat.reduceLT, Nat.reduceLeDiff, Nat.reduceEqDiff, Nat.reduceAdd, Nat.reduceMul, ↓reduceIte, if_true, if_false, Bool.false_eq_true, beq_self_eq_true, Bool.not_true, Bool.not_false, reduceCtorEq, decide_true, decide_false, Nat.add_zero, Nat.zero_add, F19u0]
  have l1 := Lob.new h [vc, vr, ve] (Nat.succ_pos _)
  have x1 := Ext.newL h [vc, vr, ve]
  have n1 : (newL h [vc, vr, ve]).next = h.next + 1 := rfl
  have N1 := N.ext x1
  generalize newL h [vc, vr, ve] = h1 at *
  have r0 : gld1 h1 h.next 0 = some vc := l1.ld (k := 3) rfl (by omega)
  have r1 : gld1 h1 h.next 1 = some vr := l1.ld (k := 3) rfl (by omega)
  have r2 : gld1 h1 h.next 2 = some ve := l1.ld (k := 3) rfl (by omega)
  have n62 := N.n62
  have m62 := N.m62
  refine q_seq (q_seq (q_reg ?_))
  -- a way on which the answer is no
  have no : ∀ (N0 : Env → Hp → Prop) (X0 : Nat → Env → Hp → Prop) (e : Env) (h' : Hp), ¬ ValidR D → Ext h h' → Wp O E0 78 (.seq (.reg F19u2) .ret) e h' N0 X0 (WpRes 78 [.tmp 2] fun v h' => BoolP v (ValidR D) ∧ Ext h h') := by
    intro N0 X0 e h' hV hx
    refine q_seq (q_reg ?_)
    simp (disch := omega) only [JJ, opds, updD, ln, Nat.reduceLT, Nat.reduceLeDiff, Nat.reduceEqDiff, Nat.reduceAdd, Nat.reduceMul, ↓reduceIte, if_true, if_false, Bool.false_eq_true, beq_self_eq_true, Bool.not_true, Bool.not_false, reduceCtorEq, decide_true, decide_false, Nat.add_zero, Nat.zero_add, F19u2]
    refine q_ret (wpRes_tmp (by decide) ?_)
    simp (disch := omega) only [JJ, opds, updD, ln, Nat.reduceLT, Nat.reduceLeDiff, Nat.reduceEqDiff, Nat.reduceAdd, Nat.reduceMul, ↓reduceIte, if_true, if_false, Bool.false_eq_true, beq_self_eq_true, Bool.not_true, Bool.not_false, reduceCtorEq, decide_true, decide_false, Nat.add_zero, Nat.zero_add]
    exact ⟨bp_false hV, hx⟩
  by_cases t1 : 256 < D.n
  · simp (disch := omega) only [JJ, opds, updD, ln, Nat.reduceLT, Nat.reduceLeDiff, Nat.reduceEqDiff, Nat.reduceAdd, Nat.reduceMul, ↓reduceIte, if_true, if_false, Bool.false_eq_true, beq_self_eq_true, Bool.not_true, Bool.not_false, reduceCtorEq, decide_true, decide_false, Nat.add_zero, Nat.zero_add, F19u1, r0, N1.cls.1.len, b_gtr, c_lt, t1]
    refine q_cond (q := true) (by simp (disch := omega) only [JJ, opds, updD, ln, Nat.reduceLT, Nat.reduceLeDiff, Nat.reduceEqDiff, Nat.reduceAdd, Nat.reduceMul, ↓reduceIte, if_true, if_false, Bool.false_eq_true, beq_self_eq_true, Bool.not_true, Bool.not_false, reduceCtorEq, decide_true, decide_false, Nat.add_zero, Nat.zero_add]) (fun _ => ?_) (fun h => by cases h)
    exact no _ _ _ _ (fun hV => by have := hV.1; omega) x1
  by_cases t2 : D.m < 1
  · simp (disch := omega) only [JJ, opds, updD, ln, Nat.reduceLT, Nat.reduceLeDiff, Nat.reduceEqDiff, Nat.reduceAdd, Nat.reduceMul, ↓reduceIte, if_true, if_false, Bool.false_eq_true, beq_self_eq_true, Bool.not_true, Bool.not_false, reduceCtorEq, decide_true, decide_false, Nat.add_zero, Nat.zero_add, F19u1, r0, r1, N1.cls.1.len, N1.rows.len, b_gtr, b_lss, c_lt, t1, t2]
    refine q_cond (q := true) (by simp (disch := omega) only [JJ, opds, updD, ln, Nat.reduceLT, Nat.reduceLeDiff, Nat.reduceEqDiff, Nat.reduceAdd, Nat.reduceMul, ↓reduceIte, if_true, if_false, Bool.false_eq_true, beq_self_eq_true, Bool.not_true, Bool.not_false, reduceCtorEq, decide_true, decide_false, Nat.add_zero, Nat.zero_add]) (fun _ => ?_) (fun h => by cases h)
    exact no _ _ _ _ (fun hV => by have := hV.2.1; omega) x1
  by_cases t3 : 64 < D.m
  · simp (disch := omega) only [JJ, opds, updD, ln, Nat.reduceLT, Nat.reduceLeDiff, Nat.reduceEqDiff, Nat.reduceAdd, Nat.reduceMul, ↓reduceIte, if_true, if_false, Bool.false_eq_true, beq_self_eq_true, Bool.not_true, Bool.not_false, reduceCtorEq, decide_true, decide_false, Nat.add_zero, Nat.zero_add, F19u1, r0, r1, N1.cls.1.len, N1.rows.len, b_gtr, b_lss, c_lt, t1, t2, t3]
    refine q_cond (q := true) (by simp (disch := omega) only [JJ, opds, updD, ln, Nat.reduceLT, Nat.reduceLeDiff, Nat.reduceEqDiff, Nat.reduceAdd, Nat.reduceMul, ↓reduceIte, if_true, if_false, Bool.false_eq_true, beq_self_eq_true, Bool.not_true, Bool.not_false, reduceCtorEq, decide_true, decide_false, Nat.add_zero, Nat.zero_add]) (fun _ => ?_) (fun h => by cases h)
    exact no _ _ _ _ (fun hV => by have := hV.2.2.1; omega) x1
  by_cases t4 : D.ne ≠ D.m
  · simp (disch := omega) only [JJ, opds, updD, ln, Nat.reduceLT, Nat.reduceLeDiff, Nat.reduceEqDiff, Nat.reduceAdd, Nat.reduceMul, ↓reduceIte, if_true, if_false, Bool.false_eq_true, beq_self_eq_true, Bool.not_true, Bool.not_false, reduceCtorEq, decide_true, decide_false, Nat.add_zero, Nat.zero_add, F19u1, r0, r1, r2, N1.cls.1.len, N1.rows.len, N1.ends.len, b_gtr, b_lss, b_neq, c_lt, c_ne, t1, t2, t3, t4]
    refine q_cond (q := true) (by simp (disch := omega) only [JJ, opds, updD, ln, Nat.reduceLT, Nat.reduceLeDiff, Nat.reduceEqDiff, Nat.reduceAdd, Nat.reduceMul, ↓reduceIte, if_true, if_false, Bool.false_eq_true, beq_self_eq_true, Bool.not_true, Bool.not_false, reduceCtorEq, decide_true, decide_false, Nat.add_zero, Nat.zero_add, t4, ne_eq, not_false_eq_true]) (fun _ => ?_) (fun h => by cases h)
    exact no _ _ _ _ (fun hV => t4 hV.2.2.2.1) x1
  simp (disch := omega) only [JJ, opds, updD, ln, Nat.reduceLT, Nat.reduceLeDiff, Nat.reduceEqDiff, Nat.reduceAdd, Nat.reduceMul, ↓reduceIte, if_true, if_false, Bool.false_eq_true, beq_self_eq_true, Bool.not_true, Bool.not_false, reduceCtorEq, decide_true, decide_false, Nat.add_zero, Nat.zero_add, F19u1, r0, r1, r2, N1.cls.1.len, N1.rows.len, N1.ends.len, b_gtr, b_lss, b_neq, c_lt, c_ne, t1, t2, t3]
  refine q_cond (q := false) (by simp (disch := omega) only [JJ, opds, updD, ln, Nat.reduceLT, Nat.reduceLeDiff, Nat.reduceEqDiff, Nat.reduceAdd, Nat.reduceMul, ↓reduceIte, if_true, if_false, Bool.false_eq_true, beq_self_eq_true, Bool.not_true, Bool.not_false, reduceCtorEq, decide_true, decide_false, Nat.add_zero, Nat.zero_add, t4]) (fun h => by cases h) (fun _ => ?_)
  have t4 : D.ne = D.m := Classical.byContradiction fun h => t4 h
  refine q_skip ?_
  refine q_seq (q_reg ?_)
  simp (disch := omega) only [JJ, opds, updD, ln, Nat.reduceLT, Nat.reduceLeDiff, Nat.reduceEqDiff, Nat.reduceAdd, Nat.reduceMul, ↓reduceIte, if_true, if_false, Bool.false_eq_true, beq_self_eq_true, Bool.not_true, Bool.not_false, reduceCtorEq, decide_true, decide_false, Nat.add_zero, Nat.zero_add, F19u3, zero_cw, n1]
  have l3 := Lob.new h1 (cw fun _ => 0) (Nat.succ_pos _)
  rw [n1] at l3
  replace l1 := l1.newL (l' := cw fun _ => 0)
  replace x1 := x1.trans (Ext.newL h1 (cw fun _ => 0))
  have n2 : (newL h1 (cw fun _ => 0)).next = h.next + 1 + 1 := by rw [QM, n1]
  clear r0 r1 r2 N1
  generalize newL h1 (cw fun _ => 0) = h2 at *
  have N2 := N.ext x1
  refine q_seq (q_reg ?_)
  simp (disch := omega) only [JJ, opds, updD, ln, Nat.reduceLT, Nat.reduceLeDiff, Nat.reduceEqDiff, Nat.reduceAdd, Nat.reduceMul, ↓reduceIte, if_true, if_false, Bool.false_eq_true, beq_self_eq_true, Bool.not_true, Bool.not_false, reduceCtorEq, decide_true, decide_false, Nat.add_zero, Nat.zero_add, F19u4]
  have r0 : gld1 h2 h.next 0 = some vc := l1.ld (k := 3) rfl (by omega)
  refine q_seq (q_seq (q_reg ?_))
  simp (disch := omega) only [JJ, opds, updD, ln, Nat.reduceLT, Nat.reduceLeDiff, Nat.reduceEqDiff, Nat.reduceAdd, Nat.reduceMul, ↓reduceIte, if_true, if_false, Bool.false_eq_true, beq_self_eq_true, Bool.not_true, Bool.not_false, reduceCtorEq, decide_true, decide_false, Nat.add_zero, Nat.zero_add, F19u5, r0, N2.cls.1.len]
  refine q_block ?_
  refine q_loop (fun k e h' => ∃ i u, i ≤ D.n ∧ k = D.n - i ∧ e 37 = .int .i64 (i : Nat) ∧ e 36 = .int .i64 (D.n : Nat) ∧ e 35 = vc ∧ e 1 = .ptr h.next 0 ∧ e 3 = .ptr (h.next + 1) 0 ∧ e 4 = .int .i64 (sumS D.C i : Nat) ∧
    Set u (un D.C i) ∧ (∀ k, k < i → sz (D.C k) ≠ 0) ∧ Lob h' h.next [vc, vr, ve] ∧ Lob h' (h.next + 1) (cw u) ∧ Ext h h' ∧ h.next + 1 + 1 ≤ h'.next) D.n
    ⟨0, fun _ => 0, by omega, by omega, by simp (disch := omega) only [JJ, opds, updD, ln, Nat.reduceLT, Nat.reduceLeDiff, Nat.reduceEqDiff, Nat.reduceAdd, Nat.reduceMul, ↓reduceIte, if_true, if_false, Bool.false_eq_true, beq_self_eq_true, Bool.not_true, Bool.not_false, reduceCtorEq, decide_true, decide_false, Nat.add_zero, Nat.zero_add], by simp (disch := omega) only [JJ, opds, updD, ln, Nat.reduceLT, Nat.reduceLeDiff, Nat.reduceEqDiff, Nat.reduceAdd, Nat.reduceMul, ↓reduceIte, if_true, if_false, Bool.false_eq_true, beq_self_eq_true, Bool.not_true, Bool.not_false, reduceCtorEq, decide_true, decide_false, Nat.add_zero, Nat.zero_add], by simp (disch := omega) only [JJ, opds, updD, ln, Nat.reduceLT, Nat.reduceLeDiff, Nat.reduceEqDiff, Nat.reduceAdd, Nat.reduceMul, ↓reduceIte, if_true, if_false, Bool.false_eq_true, beq_self_eq_true, Bool.not_true, Bool.not_false, reduceCtorEq, decide_true, decide_false, Nat.add_zero, Nat.zero_add], by simp (disch := omega) only [JJ, opds, updD, ln, Nat.reduceLT, Nat.reduceLeDiff, Nat.reduceEqDiff, Nat.reduceAdd, Nat.reduceMul, ↓reduceIte, if_true, if_false, Bool.false_eq_true, beq_self_eq_true, Bool.not_true, Bool.not_false, reduceCtorEq, decide_true, decide_false, Nat.add_zero, Nat.zero_add], by simp (disch := omega) only [JJ, opds, updD, ln, Nat.reduceLT, Nat.reduceLeDiff, Nat.reduceEqDiff, Nat.reduceAdd, Nat.reduceMul, ↓reduceIte, if_true, if_false, Bool.false_eq_true, beq_self_eq_true, Bool.not_true, Bool.not_false, reduceCtorEq, decide_true, decide_false, Nat.add_zero, Nat.zero_add], by simp (disch := omega) only [JJ, opds, updD, ln, Nat.reduceLT, Nat.reduceLeDiff, Nat.reduceEqDiff, Nat.reduceAdd, Nat.reduceMul, ↓reduceIte, if_true, if_false, Bool.false_eq_true, beq_self_eq_true, Bool.not_true, Bool.not_false, reduceCtorEq, decide_true, decide_false, Nat.add_zero, Nat.zero_add, sumS], Set.zero.imp (fun _ _ => rfl), by omega, l1, l3, x1, by omega⟩ ?_
  clear l1 l3 x1 n2 n1 N2 r0
  rintro k e h' ⟨i, u, hi, rfl, e37, e36, e35, e1, e3, e4, su, hz, l1, l3, x1, n1⟩
  have N1 := N.ext x1
  refine q_seq (q_reg ?_)
  simp (disch := omega) only [JJ, opds, updD, ln, Nat.reduceLT, Nat.reduceLeDiff, Nat.reduceEqDiff, Nat.reduceAdd, Nat.reduceMul, ↓reduceIte, if_true, if_false, Bool.false_eq_true, beq_self_eq_true, Bool.not_true, Bool.not_false, reduceCtorEq, decide_true, decide_false, Nat.add_zero, Nat.zero_add, F19u6, e37, e36, b_lss, c_lt]
  refine q_seq (q_cond (q := decide (i < D.n)) (by simp (disch := omega) only [JJ, opds, updD, ln, Nat.reduceLT, Nat.reduceLeDiff, Nat.reduceEqDiff, Nat.reduceAdd, Nat.reduceMul, ↓reduceIte, if_true, if_false, Bool.false_eq_true, beq_self_eq_true, Bool.not_true, Bool.not_false, reduceCtorEq, decide_true, decide_false, Nat.add_zero, Nat.zero_add]) (fun hc => ?_) (fun hc => ?_))
  · have hin := of_decide_eq_true hc
    obtain ⟨ga, oa, a1, a2⟩ := N1.cls.1.addr hin
    refine q_skip ?_
    refine q_seq (q_block (q_seq (q_reg ?_)))
    have l6 := Lob.new h' (cw fun _ => 0) (Nat.succ_pos _)
    obtain ⟨ob, g1, g2⟩ := l6.st (o := 0) (vs := cw (D.C i)) (Nat.le_refl _) rfl (Nat.succ_pos _)
    rw [blit_all (by rfl)] at g2
    simp (disch := omega) only [JJ, opds, updD, ln, Nat.reduceLT, Nat.reduceLeDiff, Nat.reduceEqDiff, Nat.reduceAdd, Nat.reduceMul, ↓reduceIte, if_true, if_false, Bool.false_eq_true, beq_self_eq_true, Bool.not_true, Bool.not_false, reduceCtorEq, decide_true, decide_false, Nat.add_zero, Nat.zero_add, F19u7, e35, e37, a1, (a2 _ (Ext.refl _)).1, zero_cw, ln_cw, g1]
    have x2 : Ext h' ((newL h' (cw fun _ => 0)).set h'.next ob) := (Ext.newL h' _).set (Nat.le_refl _) ob
    have n2 : ((newL h' (cw fun _ => 0)).set h'.next ob).next = h'.next + 1 := rfl
    generalize (newL h' (cw fun _ => 0)).set h'.next ob = h3 at *
    refine q_seq (q_seq (q_reg ?_))
    simp (disch := omega) only [JJ, opds, updD, ln, Nat.reduceLT, Nat.reduceLeDiff, Nat.reduceEqDiff, Nat.reduceAdd, Nat.reduceMul, ↓reduceIte, if_true, if_false, Bool.false_eq_true, beq_self_eq_true, Bool.not_true, Bool.not_false, reduceCtorEq, decide_true, decide_false, Nat.add_zero, Nat.zero_add, F19u8, g2.ldN' (m := 4) rfl]
    refine q_call (c35' hO (D.C i) _ (N.cls.2 i)) ?_
    rintro v1 h4 ⟨rfl, x3⟩
    simp (disch := omega) only [JJ, opds, updD, ln, Nat.reduceLT, Nat.reduceLeDiff, Nat.reduceEqDiff, Nat.reduceAdd, Nat.reduceMul, ↓reduceIte, if_true, if_false, Bool.false_eq_true, beq_self_eq_true, Bool.not_true, Bool.not_false, reduceCtorEq, decide_true, decide_false, Nat.add_zero, Nat.zero_add, b_eql, c_eq]
    by_cases hzi : sz (D.C i) = 0
    · refine q_cond (q := true) (by simp (disch := omega) only [JJ, opds, updD, ln, Nat.reduceLT, Nat.reduceLeDiff, Nat.reduceEqDiff, Nat.reduceAdd, Nat.reduceMul, ↓reduceIte, if_true, if_false, Bool.false_eq_true, beq_self_eq_true, Bool.not_true, Bool.not_false, reduceCtorEq, decide_true, decide_false, Nat.add_zero, Nat.zero_add, hzi]) (fun _ => ?_) (fun h => by cases h)
      refine q_seq (q_reg ?_)
      simp (disch := omega) only [JJ, opds, updD, ln, Nat.reduceLT, Nat.reduceLeDiff, Nat.reduceEqDiff, Nat.reduceAdd, Nat.reduceMul, ↓reduceIte, if_true, if_false, Bool.false_eq_true, beq_self_eq_true, Bool.not_true, Bool.not_false, reduceCtorEq, decide_true, decide_false, Nat.add_zero, Nat.zero_add, F19u9]
      refine q_ret (wpRes_tmp (by decide) ?_)
      simp (disch := omega) only [JJ, opds, updD, ln, Nat.reduceLT, Nat.reduceLeDiff, Nat.reduceEqDiff, Nat.reduceAdd, Nat.reduceMul, ↓reduceIte, if_true, if_false, Bool.false_eq_true, beq_self_eq_true, Bool.not_true, Bool.not_false, reduceCtorEq, decide_true, decide_false, Nat.add_zero, Nat.zero_add]
      exact ⟨bp_false fun hV => (hV.2.2.2.2.1.1 i hin).1 hzi, (x1.trans x2).trans x3⟩
    · refine q_cond (q := false) (by simp (disch := omega) only [JJ, opds, updD, ln, Nat.reduceLT, Nat.reduceLeDiff, Nat.reduceEqDiff, Nat.reduceAdd, Nat.reduceMul, ↓reduceIte, if_true, if_false, Bool.false_eq_true, beq_self_eq_true, Bool.not_true, Bool.not_false, reduceCtorEq, decide_true, decide_false, Nat.add_zero, Nat.zero_add, hzi]) (fun h => by cases h) (fun _ => ?_)
      refine q_skip ?_
      have x4 := x2.trans x3
      have l3' := l3.ext x4
      have g3 := g2.ext x3
      refine q_seq (q_reg ?_)
      simp (disch := omega) only [JJ, opds, updD, ln, Nat.reduceLT, Nat.reduceLeDiff, Nat.reduceEqDiff, Nat.reduceAdd, Nat.reduceMul, ↓reduceIte, if_true, if_false, Bool.false_eq_true, beq_self_eq_true, Bool.not_true, Bool.not_false, reduceCtorEq, decide_true, decide_false, Nat.add_zero, Nat.zero_add, F19u10, e3, l3'.ldN' (m := 4) rfl, g3.ldN' (m := 4) rfl]
      refine q_call (c36 hO u (D.C i) _ su.1 (N.cls.2 i)) ?_
      rintro v2 h5 ⟨rfl, x5⟩
      have x6 := x4.trans x5
      have g4 := g3.ext x5
      obtain ⟨ob2, g5, g6⟩ := (l3.ext x6).st (o := 0) (vs := cw fun j => u j ||| D.C i j) (Nat.le_refl _) rfl (Nat.succ_pos _)
      rw [blit_all (by rfl)] at g6
      have hne : h'.next ≠ h.next + 1 := by omega
      have g7 := g4.set_ne (ob := ob2) hne
      have l7 := (l1.ext x6).set_ne (g := h.next + 1) (ob := ob2) (by omega)
      have x7 : Ext h (h5.set (h.next + 1) ob2) := (x1.trans x6).set (by omega) ob2
      have n7 : h.next + 1 + 1 ≤ (h5.set (h.next + 1) ob2).next := by rw [set_next]; have := x6.1; omega
      simp (disch := omega) only [JJ, opds, updD, ln, Nat.reduceLT, Nat.reduceLeDiff, Nat.reduceEqDiff, Nat.reduceAdd, Nat.reduceMul, ↓reduceIte, if_true, if_false, Bool.false_eq_true, beq_self_eq_true, Bool.not_true, Bool.not_false, reduceCtorEq, decide_true, decide_false, Nat.add_zero, Nat.zero_add, e3, ln_cw, g5]
      generalize h5.set (h.next + 1) ob2 = h6 at *
      refine q_reg ?_
      simp (disch := omega) only [JJ, opds, updD, ln, Nat.reduceLT, Nat.reduceLeDiff, Nat.reduceEqDiff, Nat.reduceAdd, Nat.reduceMul, ↓reduceIte, if_true, if_false, Bool.false_eq_true, beq_self_eq_true, Bool.not_true, Bool.not_false, reduceCtorEq, decide_true, decide_false, Nat.add_zero, Nat.zero_add, F19u11, e4, g7.ldN' (m := 4) rfl]
      refine q_call (c35' hO (D.C i) _ (N.cls.2 i)) ?_
      rintro v3 h7 ⟨rfl, x8⟩
      have b1 := sumS_le D.C i
      have b2 := sz_le (D.C i)
      simp (disch := omega) only [JJ, opds, updD, ln, Nat.reduceLT, Nat.reduceLeDiff, Nat.reduceEqDiff, Nat.reduceAdd, Nat.reduceMul, ↓reduceIte, if_true, if_false, Bool.false_eq_true, beq_self_eq_true, Bool.not_true, Bool.not_false, reduceCtorEq, decide_true, decide_false, Nat.add_zero, Nat.zero_add, b_add_i64]
      refine q_reg ?_
      simp (disch := omega) only [JJ, opds, updD, ln, Nat.reduceLT, Nat.reduceLeDiff, Nat.reduceEqDiff, Nat.reduceAdd, Nat.reduceMul, ↓reduceIte, if_true, if_false, Bool.false_eq_true, beq_self_eq_true, Bool.not_true, Bool.not_false, reduceCtorEq, decide_true, decide_false, Nat.add_zero, Nat.zero_add, F19u12, e37, b_add_i64]
      refine ⟨D.n - (i + 1), by omega, i + 1, fun j => u j ||| D.C i j, by omega, rfl, by simp (disch := omega) only [JJ, opds, updD, ln, Nat.reduceLT, Nat.reduceLeDiff, Nat.reduceEqDiff, Nat.reduceAdd, Nat.reduceMul, ↓reduceIte, if_true, if_false, Bool.false_eq_true, beq_self_eq_true, Bool.not_true, Bool.not_false, reduceCtorEq, decide_true, decide_false, Nat.add_zero, Nat.zero_add], by simp (disch := omega) only [JJ, opds, updD, ln, Nat.reduceLT, Nat.reduceLeDiff, Nat.reduceEqDiff, Nat.reduceAdd, Nat.reduceMul, ↓reduceIte, if_true, if_false, Bool.false_eq_true, beq_self_eq_true, Bool.not_true, Bool.not_false, reduceCtorEq, decide_true, decide_false, Nat.add_zero, Nat.zero_add, e36], by simp (disch := omega) only [JJ, opds, updD, ln, Nat.reduceLT, Nat.reduceLeDiff, Nat.reduceEqDiff, Nat.reduceAdd, Nat.reduceMul, ↓reduceIte, if_true, if_false, Bool.false_eq_true, beq_self_eq_true, Bool.not_true, Bool.not_false, reduceCtorEq, decide_true, decide_false, Nat.add_zero, Nat.zero_add, e35], by simp (disch := omega) only [JJ, opds, updD, ln, Nat.reduceLT, Nat.reduceLeDiff, Nat.reduceEqDiff, Nat.reduceAdd, Nat.reduceMul, ↓reduceIte, if_true, if_false, Bool.false_eq_true, beq_self_eq_true, Bool.not_true, Bool.not_false, reduceCtorEq, decide_true, decide_false, Nat.add_zero, Nat.zero_add, e1], by simp (disch := omega) only [JJ, opds, updD, ln, Nat.reduceLT, Nat.reduceLeDiff, Nat.reduceEqDiff, Nat.reduceAdd, Nat.reduceMul, ↓reduceIte, if_true, if_false, Bool.false_eq_true, beq_self_eq_true, Bool.not_true, Bool.not_false, reduceCtorEq, decide_true, decide_false, Nat.add_zero, Nat.zero_add, e3], by simp (disch := omega) only [JJ, opds, updD, ln, Nat.reduceLT, Nat.reduceLeDiff, Nat.reduceEqDiff, Nat.reduceAdd, Nat.reduceMul, ↓reduceIte, if_true, if_false, Bool.false_eq_true, beq_self_eq_true, Bool.not_true, Bool.not_false, reduceCtorEq, decide_true, decide_false, Nat.add_zero, Nat.zero_add, sumS], (su.or (N.cls.2 i)).imp (fun b hb => rfl), ?_, l7.ext x8, g6.ext x8, x7.trans x8, by have := x8.1; omega⟩
      intro k hk
      by_cases hki : k = i
      · subst hki; exact hzi
      · exact hz k (by omega)
  · have hin : i = D.n := by have := of_decide_eq_false hc; omega
    subst hin
    refine q_exit ?_
    simp (disch := omega) only [JJ, opds, updD, ln, Nat.reduceLT, Nat.reduceLeDiff, Nat.reduceEqDiff, Nat.reduceAdd, Nat.reduceMul, ↓reduceIte, if_true, if_false, Bool.false_eq_true, beq_self_eq_true, Bool.not_true, Bool.not_false, reduceCtorEq, decide_true, decide_false, Nat.add_zero, Nat.zero_add]
    refine q_seq (q_seq (q_reg ?_))
    have no2 : ∀ (N0 : Env → Hp → Prop) (X0 : Nat → Env → Hp → Prop) (e : Env) (h' : Hp), ¬ ValidR D → Ext h h' → Wp O E0 78 (.seq (.reg F19u14) .ret) e h' N0 X0 (WpRes 78 [.tmp 2] fun v h' => BoolP v (ValidR D) ∧ Ext h h') := no
    have no3 : ∀ (N0 : Env → Hp → Prop) (X0 : Nat → Env → Hp → Prop) (e : Env) (h' : Hp), ¬ ValidR D → Ext h h' → Wp O E0 78 (.seq (.reg F19u19) .ret) e h' N0 X0 (WpRes 78 [.tmp 2] fun v h' => BoolP v (ValidR D) ∧ Ext h h') := no
    by_cases hs : sumS D.C D.n ≠ 256
    · simp (disch := omega) only [JJ, opds, updD, ln, Nat.reduceLT, Nat.reduceLeDiff, Nat.reduceEqDiff, Nat.reduceAdd, Nat.reduceMul, ↓reduceIte, if_true, if_false, Bool.false_eq_true, beq_self_eq_true, Bool.not_true, Bool.not_false, reduceCtorEq, decide_true, decide_false, Nat.add_zero, Nat.zero_add, F19u13, e4, b_neq, c_ne, hs, ne_eq, not_false_eq_true]
      refine q_cond (q := true) (by simp (disch := omega) only [JJ, opds, updD, ln, Nat.reduceLT, Nat.reduceLeDiff, Nat.reduceEqDiff, Nat.reduceAdd, Nat.reduceMul, ↓reduceIte, if_true, if_false, Bool.false_eq_true, beq_self_eq_true, Bool.not_true, Bool.not_false, reduceCtorEq, decide_true, decide_false, Nat.add_zero, Nat.zero_add]) (fun _ => ?_) (fun h => by cases h)
      exact no2 _ _ _ _ (fun hV => hs ((part_iff _ _).2 hV.2.2.2.2.1).2.1) x1
    have hs : sumS D.C D.n = 256 := Classical.byContradiction fun h => hs h
    simp (disch := omega) only [JJ, opds, updD, ln, Nat.reduceLT, Nat.reduceLeDiff, Nat.reduceEqDiff, Nat.reduceAdd, Nat.reduceMul, ↓reduceIte, if_true, if_false, Bool.false_eq_true, beq_self_eq_true, Bool.not_true, Bool.not_false, reduceCtorEq, decide_true, decide_false, Nat.add_zero, Nat.zero_add, F19u13, e4, e3, b_neq, c_ne, hs, ne_eq, not_true_eq_false, l3.ldN' (m := 4) rfl]
    refine q_call (c35' hO u _ su.1) ?_
    rintro v1 h3 ⟨rfl, x2⟩
    simp (disch := omega) only [JJ, opds, updD, ln, Nat.reduceLT, Nat.reduceLeDiff, Nat.reduceEqDiff, Nat.reduceAdd, Nat.reduceMul, ↓reduceIte, if_true, if_false, Bool.false_eq_true, beq_self_eq_true, Bool.not_true, Bool.not_false, reduceCtorEq, decide_true, decide_false, Nat.add_zero, Nat.zero_add, b_neq, c_ne]
    by_cases hu : sz u = 256
    case neg =>
      refine q_cond (q := true) (by simp (disch := omega) only [JJ, opds, updD, ln, Nat.reduceLT, Nat.reduceLeDiff, Nat.reduceEqDiff, Nat.reduceAdd, Nat.reduceMul, ↓reduceIte, if_true, if_false, Bool.false_eq_true, beq_self_eq_true, Bool.not_true, Bool.not_false, reduceCtorEq, decide_true, decide_false, Nat.add_zero, Nat.zero_add, hu, ne_eq, not_false_eq_true]) (fun _ => ?_) (fun h => by cases h)
      exact no2 _ _ _ _ (fun hV => hu (by rw [su.sz]; exact hV.2.2.2.2.1.2)) (x1.trans x2)
    refine q_cond (q := false) (by simp (disch := omega) only [JJ, opds, updD, ln, Nat.reduceLT, Nat.reduceLeDiff, Nat.reduceEqDiff, Nat.reduceAdd, Nat.reduceMul, ↓reduceIte, if_true, if_false, Bool.false_eq_true, beq_self_eq_true, Bool.not_true, Bool.not_false, reduceCtorEq, decide_true, decide_false, Nat.add_zero, Nat.zero_add, hu, ne_eq, not_true_eq_false]) (fun h => by cases h) (fun _ => ?_)
    have hP : PartR D.C D.n := (part_iff _ _).1 ⟨hz, hs, by rw [← su.sz]; exact hu⟩
    refine q_skip ?_
    have l1' := l1.ext x2
    have N3 := N1.ext x2
    have r1 : gld1 h3 h.next 1 = some vr := l1'.ld (k := 3) rfl (by omega)
    refine q_seq (q_seq (q_reg ?_))
    simp (disch := omega) only [JJ, opds, updD, ln, Nat.reduceLT, Nat.reduceLeDiff, Nat.reduceEqDiff, Nat.reduceAdd, Nat.reduceMul, ↓reduceIte, if_true, if_false, Bool.false_eq_true, beq_self_eq_true, Bool.not_true, Bool.not_false, reduceCtorEq, decide_true, decide_false, Nat.add_zero, Nat.zero_add, F19u15, e1, r1, N3.rows.len]
    refine q_block ?_
    refine q_loop (fun k e h' => ∃ i, i ≤ D.m ∧ k = D.m - i ∧ e 62 = .int .i64 (i : Nat) ∧ e 61 = .int .i64 (D.m : Nat) ∧ e 60 = vr ∧ e 1 = .ptr h.next 0 ∧ (∀ s, s < i → D.len s = D.n ∧ RowOK D s) ∧ Lob h' h.next [vc, vr, ve] ∧ Ext h h') D.m
      ⟨0, by omega, by omega, by simp (disch := omega) only [JJ, opds, updD, ln, Nat.reduceLT, Nat.reduceLeDiff, Nat.reduceEqDiff, Nat.reduceAdd, Nat.reduceMul, ↓reduceIte, if_true, if_false, Bool.false_eq_true, beq_self_eq_true, Bool.not_true, Bool.not_false, reduceCtorEq, decide_true, decide_false, Nat.add_zero, Nat.zero_add], by simp (disch := omega) only [JJ, opds, updD, ln, Nat.reduceLT, Nat.reduceLeDiff, Nat.reduceEqDiff, Nat.reduceAdd, Nat.reduceMul, ↓reduceIte, if_true, if_false, Bool.false_eq_true, beq_self_eq_true, Bool.not_true, Bool.not_false, reduceCtorEq, decide_true, decide_false, Nat.add_zero, Nat.zero_add], by simp (disch := omega) only [JJ, opds, updD, ln, Nat.reduceLT, Nat.reduceLeDiff, Nat.reduceEqDiff, Nat.reduceAdd, Nat.reduceMul, ↓reduceIte, if_true, if_false, Bool.false_eq_true, beq_self_eq_true, Bool.not_true, Bool.not_false, reduceCtorEq, decide_true, decide_false, Nat.add_zero, Nat.zero_add], by simp (disch := omega) only [JJ, opds, updD, ln, Nat.reduceLT, Nat.reduceLeDiff, Nat.reduceEqDiff, Nat.reduceAdd, Nat.reduceMul, ↓reduceIte, if_true, if_false, Bool.false_eq_true, beq_self_eq_true, Bool.not_true, Bool.not_false, reduceCtorEq, decide_true, decide_false, Nat.add_zero, Nat.zero_add, e1], by omega, l1', x1.trans x2⟩ ?_
    clear x1 x2 l1 l1' N1 N3 r1 e1
    rintro k e h' ⟨i, hi, rfl, e62, e61, e60, e1, hr, l1, x1⟩
    have N1 := N.ext x1
    refine q_seq (q_reg ?_)
    simp (disch := omega) only [JJ, opds, updD, ln, Nat.reduceLT, Nat.reduceLeDiff, Nat.reduceEqDiff, Nat.reduceAdd, Nat.reduceMul, ↓reduceIte, if_true, if_false, Bool.false_eq_true, beq_self_eq_true, Bool.not_true, Bool.not_false, reduceCtorEq, decide_true, decide_false, Nat.add_zero, Nat.zero_add, F19u16, e62, e61, b_lss, c_lt]
    refine q_seq (q_cond (q := decide (i < D.m)) (by simp (disch := omega) only [JJ, opds, updD, ln, Nat.reduceLT, Nat.reduceLeDiff, Nat.reduceEqDiff, Nat.reduceAdd, Nat.reduceMul, ↓reduceIte, if_true, if_false, Bool.false_eq_true, beq_self_eq_true, Bool.not_true, Bool.not_false, reduceCtorEq, decide_true, decide_false, Nat.add_zero, Nat.zero_add]) (fun hc => ?_) (fun hc => ?_))
    · have him := of_decide_eq_true hc
      obtain ⟨ga, oa, a1, a2⟩ := N1.rows.addr him
      refine q_skip ?_
      refine q_seq (q_block (q_seq (q_reg ?_)))
      simp (disch := omega) only [JJ, opds, updD, ln, Nat.reduceLT, Nat.reduceLeDiff, Nat.reduceEqDiff, Nat.reduceAdd, Nat.reduceMul, ↓reduceIte, if_true, if_false, Bool.false_eq_true, beq_self_eq_true, Bool.not_true, Bool.not_false, reduceCtorEq, decide_true, decide_false, Nat.add_zero, Nat.zero_add, F19u17, e60, e62, a1, (a2 _ (Ext.refl _)).2 rfl, Jx]
      have r0 : gld1 h' h.next 0 = some vc := l1.ld (k := 3) rfl (by omega)
      refine q_seq (q_reg ?_)
      by_cases hl : D.len i = D.n
      case neg =>
        simp (disch := omega) only [JJ, opds, updD, ln, Nat.reduceLT, Nat.reduceLeDiff, Nat.reduceEqDiff, Nat.reduceAdd, Nat.reduceMul, ↓reduceIte, if_true, if_false, Bool.false_eq_true, beq_self_eq_true, Bool.not_true, Bool.not_false, reduceCtorEq, decide_true, decide_false, Nat.add_zero, Nat.zero_add, F19u18, e1, r0, (N1.row i him).len, N1.cls.1.len, b_neq, c_ne, hl, ne_eq, not_false_eq_true]
        refine q_cond (q := true) (by simp (disch := omega) only [JJ, opds, updD, ln, Nat.reduceLT, Nat.reduceLeDiff, Nat.reduceEqDiff, Nat.reduceAdd, Nat.reduceMul, ↓reduceIte, if_true, if_false, Bool.false_eq_true, beq_self_eq_true, Bool.not_true, Bool.not_false, reduceCtorEq, decide_true, decide_false, Nat.add_zero, Nat.zero_add]) (fun _ => ?_) (fun h => by cases h)
        exact no3 _ _ _ _ (fun hV => hl (hV.2.2.2.2.2 i him).1) x1
      simp (disch := omega) only [JJ, opds, updD, ln, Nat.reduceLT, Nat.reduceLeDiff, Nat.reduceEqDiff, Nat.reduceAdd, Nat.reduceMul, ↓reduceIte, if_true, if_false, Bool.false_eq_true, beq_self_eq_true, Bool.not_true, Bool.not_false, reduceCtorEq, decide_true, decide_false, Nat.add_zero, Nat.zero_add, F19u18, e1, r0, (N1.row i him).len, N1.cls.1.len, b_neq, c_ne, hl, ne_eq, not_true_eq_false]
      refine q_call (c37 hO N1 l1 him) ?_
      rintro v1 h3 ⟨⟨q, rfl, hq⟩, x2⟩
      simp (disch := omega) only [JJ, opds, updD, ln, Nat.reduceLT, Nat.reduceLeDiff, Nat.reduceEqDiff, Nat.reduceAdd, Nat.reduceMul, ↓reduceIte, if_true, if_false, Bool.false_eq_true, beq_self_eq_true, Bool.not_true, Bool.not_false, reduceCtorEq, decide_true, decide_false, Nat.add_zero, Nat.zero_add]
      refine q_cond (q := q) (by simp (disch := omega) only [JJ, opds, updD, ln, Nat.reduceLT, Nat.reduceLeDiff, Nat.reduceEqDiff, Nat.reduceAdd, Nat.reduceMul, ↓reduceIte, if_true, if_false, Bool.false_eq_true, beq_self_eq_true, Bool.not_true, Bool.not_false, reduceCtorEq, decide_true, decide_false, Nat.add_zero, Nat.zero_add]) (fun hqt => ?_) (fun hqf => ?_)
      · exact no3 _ _ _ _ (fun hV => hq.1 hqt (hV.2.2.2.2.2 i him).2) (x1.trans x2)
      · refine q_skip ?_
        refine q_reg ?_
        simp (disch := omega) only [JJ, opds, updD, ln, Nat.reduceLT, Nat.reduceLeDiff, Nat.reduceEqDiff, Nat.reduceAdd, Nat.reduceMul, ↓reduceIte, if_true, if_false, Bool.false_eq_true, beq_self_eq_true, Bool.not_true, Bool.not_false, reduceCtorEq, decide_true, decide_false, Nat.add_zero, Nat.zero_add, F19u20, e62, b_add_i64]
        refine ⟨D.m - (i + 1), by omega, i + 1, by omega, rfl, by simp (disch := omega) only [JJ, opds, updD, ln, Nat.reduceLT, Nat.reduceLeDiff, Nat.reduceEqDiff, Nat.reduceAdd, Nat.reduceMul, ↓reduceIte, if_true, if_false, Bool.false_eq_true, beq_self_eq_true, Bool.not_true, Bool.not_false, reduceCtorEq, decide_true, decide_false, Nat.add_zero, Nat.zero_add], by simp (disch := omega) only [JJ, opds, updD, ln, Nat.reduceLT, Nat.reduceLeDiff, Nat.reduceEqDiff, Nat.reduceAdd, Nat.reduceMul, ↓reduceIte, if_true, if_false, Bool.false_eq_true, beq_self_eq_true, Bool.not_true, Bool.not_false, reduceCtorEq, decide_true, decide_false, Nat.add_zero, Nat.zero_add, e61], by simp (disch := omega) only [JJ, opds, updD, ln, Nat.reduceLT, Nat.reduceLeDiff, Nat.reduceEqDiff, Nat.reduceAdd, Nat.reduceMul, ↓reduceIte, if_true, if_false, Bool.false_eq_true, beq_self_eq_true, Bool.not_true, Bool.not_false, reduceCtorEq, decide_true, decide_false, Nat.add_zero, Nat.zero_add, e60], by simp (disch := omega) only [JJ, opds, updD, ln, Nat.reduceLT, Nat.reduceLeDiff, Nat.reduceEqDiff, Nat.reduceAdd, Nat.reduceMul, ↓reduceIte, if_true, if_false, Bool.false_eq_true, beq_self_eq_true, Bool.not_true, Bool.not_false, reduceCtorEq, decide_true, decide_false, Nat.add_zero, Nat.zero_add, e1], ?_, l1.ext x2, x1.trans x2⟩
        intro k hk
        by_cases hki : k = i
        · subst hki
          refine ⟨hl, Classical.byContradiction fun hn => ?_⟩
          rw [hq.2 hn] at hqf; cases hqf
        · exact hr k (by omega)
    · have him : i = D.m := by have := of_decide_eq_false hc; omega
      refine q_exit ?_
      simp (disch := omega) only [JJ, opds, updD, ln, Nat.reduceLT, Nat.reduceLeDiff, Nat.reduceEqDiff, Nat.reduceAdd, Nat.reduceMul, ↓reduceIte, if_true, if_false, Bool.false_eq_true, beq_self_eq_true, Bool.not_true, Bool.not_false, reduceCtorEq, decide_true, decide_false, Nat.add_zero, Nat.zero_add]
      refine q_seq (q_reg ?_)
      simp (disch := omega) only [JJ, opds, updD, ln, Nat.reduceLT, Nat.reduceLeDiff, Nat.reduceEqDiff, Nat.reduceAdd, Nat.reduceMul, ↓reduceIte, if_true, if_false, Bool.false_eq_true, beq_self_eq_true, Bool.not_true, Bool.not_false, reduceCtorEq, decide_true, decide_false, Nat.add_zero, Nat.zero_add, F19u21]
      refine q_ret (wpRes_tmp (by decide) ?_)
      simp (disch := omega) only [JJ, opds, updD, ln, Nat.reduceLT, Nat.reduceLeDiff, Nat.reduceEqDiff, Nat.reduceAdd, Nat.reduceMul, ↓reduceIte, if_true, if_false, Bool.false_eq_true, beq_self_eq_true, Bool.not_true, Bool.not_false, reduceCtorEq, decide_true, decide_false, Nat.add_zero, Nat.zero_add]
      exact ⟨bp_true ⟨by omega, by omega, by omega, t4, hP, fun s hs => hr s (by omega)⟩, x1⟩
end
end Go.Proofs.YtfaeabhbeolpgaaGreatDoor
end
