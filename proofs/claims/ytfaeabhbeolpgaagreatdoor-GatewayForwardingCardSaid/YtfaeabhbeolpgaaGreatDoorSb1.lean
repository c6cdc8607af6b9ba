/- Normalizers, part 1: what they are in memory; a cell's and a row's validity. Conditions: none. -/
import Derived.Test.YtfaeabhbeolpgaaGreatDoorSa5
set_option linter.all false
noncomputable section
open Go Go.Am Univ
namespace Go.Proofs.YtfaeabhbeolpgaaGreatDoor

/-- The data of a normalizer: classes, cells, ends. -/
structure ND where
  n : Nat
  C : Nat → Nat → Nat
  m : Nat
  len : Nat → Nat
  T : Nat → Nat → Int
  A : Nat → Nat → Int
  B : Nat → Nat → Nat
  ne : Nat
  E : Nat → Bool
def cellv (D : ND) (s i : Nat) : List AVal := [.int .i64 (D.T s i), .int .i64 (D.A s i), .int .u8 (D.B s i : Nat)]
structure NZ (h : Hp) (vc vr ve : AVal) (rv : Nat → AVal) (D : ND) : Prop where
  cls : Cls h vc D.n D.C
  rows : SlN h 1 vr D.m (fun s => [rv s])
  row : ∀ s, s < D.m → SlN h 3 (rv s) (D.len s) (cellv D s)
  ends : SlN h 1 ve D.ne (fun i => [.bool (D.E i)])
  n62 : D.n < 2 ^ 63
  m62 : D.m < 2 ^ 63
  l62 : ∀ s, s < D.m → D.len s < 2 ^ 63
  b256 : ∀ s i, D.B s i < 256
theorem NZ.ext {h h' : Hp} {vc vr ve : AVal} {rv : Nat → AVal} {D : ND} (x : NZ h vc vr ve rv D) (e : Ext h h') : NZ h' vc vr ve rv D :=
  ⟨x.cls.ext e, x.rows.ext e, fun s hs => (x.row s hs).ext e, x.ends.ext e, x.n62, x.m62, x.l62, x.b256⟩

def CellOK (D : ND) (s i : Nat) : Prop := ¬ D.T s i < ((0 : Nat) : Int) ∧ ¬ ((D.m : Nat) : Int) ≤ D.T s i ∧ ¬ D.A s i < ((0 : Nat) : Int) ∧ ¬ ((3 : Nat) : Int) < D.A s i ∧ ¬ (D.A s i ≠ ((2 : Nat) : Int) ∧ D.B s i ≠ 0)
def RowOK (D : ND) (s : Nat) : Prop := ∀ i, i < D.len s → CellOK D s i
def ValidR (D : ND) : Prop := D.n ≤ 256 ∧ 1 ≤ D.m ∧ D.m ≤ 64 ∧ D.ne = D.m ∧ PartR D.C D.n ∧ ∀ s, s < D.m → D.len s = D.n ∧ RowOK D s

section
variable {O : Orc} (hO : Only O)
include hO

set_option maxHeartbeats 1000000 in
theorem c38 {vc vr ve : AVal} {rv : Nat → AVal} {D : ND} {h : Hp} (N : NZ h vc vr ve rv D) {gn : Nat} (ln0 : Lob h gn [vc, vr, ve]) (s i : Nat) :
    RunsP O E0 38 [.agg (cellv D s i), .ptr gn 0] h (fun v h' => BoolP v (¬ CellOK D s i) ∧ Ext h h') := by
  refine q_fn (L := 35) E38 (hO _ _ _ rfl) rfl rfl ?_
  refine q_seq (q_reg ?_)
  simp (disch := omega) only [JJ, opds, updD, ln, Nat.reduceLT, Nat.reduceLeDiff, Nat.reduceEqDiff, Nat.reduceAdd, Nat.reduceMul, ↓reduceIte, if_true, if_false, Bool.false_eq_true, beq_self_eq_true, Bool.not_true, Bool.not_false, reduceCtorEq, decide_true, decide_false, Nat.add_zero, Nat.zero_add, F38u0]
  have l2 := Lob.new h (cellv D s i) (Nat.succ_pos _)
  have l1 := ln0.newL (l' := cellv D s i)
  have x1 := Ext.newL h (cellv D s i)
  have n1 := N.ext x1
  generalize newL h (cellv D s i) = h1 at *
  have r0 : gld1 h1 h.next 0 = some (.int .i64 (D.T s i)) := l2.ld (k := 3) rfl (by omega)
  have r1 : gld1 h1 h.next 1 = some (.int .i64 (D.A s i)) := l2.ld (k := 3) rfl (by omega)
  have r2 : gld1 h1 h.next 2 = some (.int .u8 (D.B s i : Nat)) := l2.ld (k := 3) rfl (by omega)
  have r3 : gld1 h1 gn 1 = some vr := l1.ld (k := 3) rfl (by omega)
  refine q_seq (q_reg ?_)
  by_cases t1 : D.T s i < ((0 : Nat) : Int)
  · simp (disch := omega) only [JJ, opds, updD, ln, Nat.reduceLT, Nat.reduceLeDiff, Nat.reduceEqDiff, Nat.reduceAdd, Nat.reduceMul, ↓reduceIte, if_true, if_false, Bool.false_eq_true, beq_self_eq_true, Bool.not_true, Bool.not_false, reduceCtorEq, decide_true, decide_false, Nat.add_zero, Nat.zero_add, F38u1, r0, b_lss, t1]
    refine q_ret (wpRes_tmp (by decide) ?_)
    simp (disch := omega) only [JJ, opds, updD, ln, Nat.reduceLT, Nat.reduceLeDiff, Nat.reduceEqDiff, Nat.reduceAdd, Nat.reduceMul, ↓reduceIte, if_true, if_false, Bool.false_eq_true, beq_self_eq_true, Bool.not_true, Bool.not_false, reduceCtorEq, decide_true, decide_false, Nat.add_zero, Nat.zero_add]
    exact ⟨bp_true fun hc => hc.1 t1, x1⟩
  by_cases t2 : ((D.m : Nat) : Int) ≤ D.T s i
  · simp (disch := omega) only [JJ, opds, updD, ln, Nat.reduceLT, Nat.reduceLeDiff, Nat.reduceEqDiff, Nat.reduceAdd, Nat.reduceMul, ↓reduceIte, if_true, if_false, Bool.false_eq_true, beq_self_eq_true, Bool.not_true, Bool.not_false, reduceCtorEq, decide_true, decide_false, Nat.add_zero, Nat.zero_add, F38u1, r0, r3, b_lss, b_geq, n1.rows.len, t1, t2]
    refine q_ret (wpRes_tmp (by decide) ?_)
    simp (disch := omega) only [JJ, opds, updD, ln, Nat.reduceLT, Nat.reduceLeDiff, Nat.reduceEqDiff, Nat.reduceAdd, Nat.reduceMul, ↓reduceIte, if_true, if_false, Bool.false_eq_true, beq_self_eq_true, Bool.not_true, Bool.not_false, reduceCtorEq, decide_true, decide_false, Nat.add_zero, Nat.zero_add]
    exact ⟨bp_true fun hc => hc.2.1 t2, x1⟩
  by_cases t3 : D.A s i < ((0 : Nat) : Int)
  · simp (disch := omega) only [JJ, opds, updD, ln, Nat.reduceLT, Nat.reduceLeDiff, Nat.reduceEqDiff, Nat.reduceAdd, Nat.reduceMul, ↓reduceIte, if_true, if_false, Bool.false_eq_true, beq_self_eq_true, Bool.not_true, Bool.not_false, reduceCtorEq, decide_true, decide_false, Nat.add_zero, Nat.zero_add, F38u1, r0, r1, r3, b_lss, b_geq, n1.rows.len, t1, t2, t3]
    refine q_ret (wpRes_tmp (by decide) ?_)
    simp (disch := omega) only [JJ, opds, updD, ln, Nat.reduceLT, Nat.reduceLeDiff, Nat.reduceEqDiff, Nat.reduceAdd, Nat.reduceMul, ↓reduceIte, if_true, if_false, Bool.false_eq_true, beq_self_eq_true, Bool.not_true, Bool.not_false, reduceCtorEq, decide_true, decide_false, Nat.add_zero, Nat.zero_add]
    exact ⟨bp_true fun hc => hc.2.2.1 t3, x1⟩
  by_cases t4 : ((3 : Nat) : Int) < D.A s i
  · simp (disch := omega) only [JJ, opds, updD, ln, Nat.reduceLT, Nat.reduceLeDiff, Nat.reduceEqDiff, Nat.reduceAdd, Nat.reduceMul, ↓reduceIte, if_true, if_false, Bool.false_eq_true, beq_self_eq_true, Bool.not_true, Bool.not_false, reduceCtorEq, decide_true, decide_false, Nat.add_zero, Nat.zero_add, F38u1, r0, r1, r3, b_lss, b_geq, b_gtr, n1.rows.len, t1, t2, t3, t4]
    refine q_ret (wpRes_tmp (by decide) ?_)
    simp (disch := omega) only [JJ, opds, updD, ln, Nat.reduceLT, Nat.reduceLeDiff, Nat.reduceEqDiff, Nat.reduceAdd, Nat.reduceMul, ↓reduceIte, if_true, if_false, Bool.false_eq_true, beq_self_eq_true, Bool.not_true, Bool.not_false, reduceCtorEq, decide_true, decide_false, Nat.add_zero, Nat.zero_add]
    exact ⟨bp_true fun hc => hc.2.2.2.1 t4, x1⟩
  by_cases t5 : D.A s i = ((2 : Nat) : Int)
  · simp (disch := omega) only [JJ, opds, updD, ln, Nat.reduceLT, Nat.reduceLeDiff, Nat.reduceEqDiff, Nat.reduceAdd, Nat.reduceMul, ↓reduceIte, if_true, if_false, Bool.false_eq_true, beq_self_eq_true, Bool.not_true, Bool.not_false, reduceCtorEq, decide_true, decide_false, Nat.add_zero, Nat.zero_add, F38u1, r0, r1, r3, b_lss, b_geq, b_gtr, b_neq, n1.rows.len, t1, t2, t3, t4, t5, ne_eq, not_true_eq_false, c_lt]
    refine q_ret (wpRes_tmp (by decide) ?_)
    simp (disch := omega) only [JJ, opds, updD, ln, Nat.reduceLT, Nat.reduceLeDiff, Nat.reduceEqDiff, Nat.reduceAdd, Nat.reduceMul, ↓reduceIte, if_true, if_false, Bool.false_eq_true, beq_self_eq_true, Bool.not_true, Bool.not_false, reduceCtorEq, decide_true, decide_false, Nat.add_zero, Nat.zero_add]
    exact ⟨bp_false fun hc => hc ⟨t1, t2, t3, t4, fun q => q.1 t5⟩, x1⟩
  by_cases t6 : D.B s i = 0
  · simp (disch := omega) only [JJ, opds, updD, ln, Nat.reduceLT, Nat.reduceLeDiff, Nat.reduceEqDiff, Nat.reduceAdd, Nat.reduceMul, ↓reduceIte, if_true, if_false, Bool.false_eq_true, beq_self_eq_true, Bool.not_true, Bool.not_false, reduceCtorEq, decide_true, decide_false, Nat.add_zero, Nat.zero_add, F38u1, r0, r1, r2, r3, b_lss, b_geq, b_gtr, b_neq, n1.rows.len, t1, t2, t3, t4, t5, t6, ne_eq, not_true_eq_false, not_false_eq_true]
    refine q_ret (wpRes_tmp (by decide) ?_)
    simp (disch := omega) only [JJ, opds, updD, ln, Nat.reduceLT, Nat.reduceLeDiff, Nat.reduceEqDiff, Nat.reduceAdd, Nat.reduceMul, ↓reduceIte, if_true, if_false, Bool.false_eq_true, beq_self_eq_true, Bool.not_true, Bool.not_false, reduceCtorEq, decide_true, decide_false, Nat.add_zero, Nat.zero_add]
    exact ⟨bp_false fun hc => hc ⟨t1, t2, t3, t4, fun q => q.2 t6⟩, x1⟩
  · simp (disch := omega) only [JJ, opds, updD, ln, Nat.reduceLT, Nat.reduceLeDiff, Nat.reduceEqDiff, Nat.reduceAdd, Nat.reduceMul, ↓reduceIte, if_true, if_false, Bool.false_eq_true, beq_self_eq_true, Bool.not_true, Bool.not_false, reduceCtorEq, decide_true, decide_false, Nat.add_zero, Nat.zero_add, F38u1, r0, r1, r2, r3, b_lss, b_geq, b_gtr, b_neq, n1.rows.len, t1, t2, t3, t4, t5, c_ne, t6, ne_eq, not_true_eq_false, not_false_eq_true]
    refine q_ret (wpRes_tmp (by decide) ?_)
    simp (disch := omega) only [JJ, opds, updD, ln, Nat.reduceLT, Nat.reduceLeDiff, Nat.reduceEqDiff, Nat.reduceAdd, Nat.reduceMul, ↓reduceIte, if_true, if_false, Bool.false_eq_true, beq_self_eq_true, Bool.not_true, Bool.not_false, reduceCtorEq, decide_true, decide_false, Nat.add_zero, Nat.zero_add]
    exact ⟨bp_true fun hc => hc.2.2.2.2 ⟨t5, t6⟩, x1⟩

set_option maxHeartbeats 1000000 in
theorem c66 {vc vr ve : AVal} {rv : Nat → AVal} {D : ND} {h : Hp} (N : NZ h vc vr ve rv D) {gn : Nat} (ln0 : Lob h gn [vc, vr, ve]) {s : Nat} (hs : s < D.m) :
    RunsP O E0 66 [rv s, .fn (.func 38) [] [.ptr gn 0]] h (fun v h' => ((RowOK D s ∧ v = .int .i64 (.negSucc 0)) ∨ (¬ RowOK D s ∧ ∃ i : Nat, v = .int .i64 (i : Nat))) ∧ Ext h h') := by
  refine q_fn (L := 19) E66 (hO _ _ _ rfl) rfl rfl ?_
  refine q_seq (q_reg ?_)
  simp (disch := omega) only [JJ, opds, updD, ln, Nat.reduceLT, Nat.reduceLeDiff, Nat.reduceEqDiff, Nat.reduceAdd, Nat.reduceMul, ↓reduceIte, if_true, if_false, Bool.false_eq_true, beq_self_eq_true, Bool.not_true, Bool.not_false, reduceCtorEq, decide_true, decide_false, Nat.add_zero, Nat.zero_add, F66u0]
  have hl := N.l62 s hs
  refine q_seq (q_seq (q_reg ?_))
  simp (disch := omega) only [JJ, opds, updD, ln, Nat.reduceLT, Nat.reduceLeDiff, Nat.reduceEqDiff, Nat.reduceAdd, Nat.reduceMul, ↓reduceIte, if_true, if_false, Bool.false_eq_true, beq_self_eq_true, Bool.not_true, Bool.not_false, reduceCtorEq, decide_true, decide_false, Nat.add_zero, Nat.zero_add, F66u1, (N.row s hs).len]
  refine q_block ?_
  refine q_loop (fun m e h' => ∃ i, i ≤ D.len s ∧ m = D.len s - i ∧ e 8 = .int .i64 (i : Nat) ∧ e 7 = .int .i64 (D.len s : Nat) ∧ e 0 = rv s ∧ e 1 = .fn (.func 38) [] [.ptr gn 0] ∧ (∀ k, k < i → CellOK D s k) ∧ Ext h h') (D.len s)
    ⟨0, by omega, by omega, by simp (disch := omega) only [JJ, opds, updD, ln, Nat.reduceLT, Nat.reduceLeDiff, Nat.reduceEqDiff, Nat.reduceAdd, Nat.reduceMul, ↓reduceIte, if_true, if_false, Bool.false_eq_true, beq_self_eq_true, Bool.not_true, Bool.not_false, reduceCtorEq, decide_true, decide_false, Nat.add_zero, Nat.zero_add], by simp (disch := omega) only [JJ, opds, updD, ln, Nat.reduceLT, Nat.reduceLeDiff, Nat.reduceEqDiff, Nat.reduceAdd, Nat.reduceMul, ↓reduceIte, if_true, if_false, Bool.false_eq_true, beq_self_eq_true, Bool.not_true, Bool.not_false, reduceCtorEq, decide_true, decide_false, Nat.add_zero, Nat.zero_add], by simp (disch := omega) only [JJ, opds, updD, ln, Nat.reduceLT, Nat.reduceLeDiff, Nat.reduceEqDiff, Nat.reduceAdd, Nat.reduceMul, ↓reduceIte, if_true, if_false, Bool.false_eq_true, beq_self_eq_true, Bool.not_true, Bool.not_false, reduceCtorEq, decide_true, decide_false, Nat.add_zero, Nat.zero_add], by simp (disch := omega) only [JJ, opds, updD, ln, Nat.reduceLT, Nat.reduceLeDiff, Nat.reduceEqDiff, Nat.reduceAdd, Nat.reduceMul, ↓reduceIte, if_true, if_false, Bool.false_eq_true, beq_self_eq_true, Bool.not_true, Bool.not_false, reduceCtorEq, decide_true, decide_false, Nat.add_zero, Nat.zero_add], by omega, Ext.refl _⟩ ?_
  rintro m e h' ⟨i, hi, rfl, e8, e7, e0, e1, hok, x1⟩
  have N' := N.ext x1
  refine q_seq (q_reg ?_)
  simp (disch := omega) only [JJ, opds, updD, ln, Nat.reduceLT, Nat.reduceLeDiff, Nat.reduceEqDiff, Nat.reduceAdd, Nat.reduceMul, ↓reduceIte, if_true, if_false, Bool.false_eq_true, beq_self_eq_true, Bool.not_true, Bool.not_false, reduceCtorEq, decide_true, decide_false, Nat.add_zero, Nat.zero_add, F66u2, e8, e7, b_lss, c_lt]
  refine q_seq (q_cond (q := decide (i < D.len s)) (by simp (disch := omega) only [JJ, opds, updD, ln, Nat.reduceLT, Nat.reduceLeDiff, Nat.reduceEqDiff, Nat.reduceAdd, Nat.reduceMul, ↓reduceIte, if_true, if_false, Bool.false_eq_true, beq_self_eq_true, Bool.not_true, Bool.not_false, reduceCtorEq, decide_true, decide_false, Nat.add_zero, Nat.zero_add]) (fun hc => ?_) (fun hc => ?_))
  · have hin := of_decide_eq_true hc
    obtain ⟨ga, oa, a1, a2⟩ := (N'.row s hs).addr hin
    refine q_skip ?_
    refine q_seq (q_block (q_seq (q_reg ?_)))
    simp (disch := omega) only [JJ, opds, updD, ln, Nat.reduceLT, Nat.reduceLeDiff, Nat.reduceEqDiff, Nat.reduceAdd, Nat.reduceMul, ↓reduceIte, if_true, if_false, Bool.false_eq_true, beq_self_eq_true, Bool.not_true, Bool.not_false, reduceCtorEq, decide_true, decide_false, Nat.add_zero, Nat.zero_add, F66u3, e8]
    refine q_seq (q_reg ?_)
    simp (disch := omega) only [JJ, opds, updD, ln, Nat.reduceLT, Nat.reduceLeDiff, Nat.reduceEqDiff, Nat.reduceAdd, Nat.reduceMul, ↓reduceIte, if_true, if_false, Bool.false_eq_true, beq_self_eq_true, Bool.not_true, Bool.not_false, reduceCtorEq, decide_true, decide_false, Nat.add_zero, Nat.zero_add, F66u4, e0, e1, a1, (a2 _ (Ext.refl _)).1, cat]
    refine q_call (c38 hO N' (ln0.ext x1) s i) ?_
    rintro v1 h3 ⟨⟨q, rfl, hq⟩, x2⟩
    simp (disch := omega) only [JJ, opds, updD, ln, Nat.reduceLT, Nat.reduceLeDiff, Nat.reduceEqDiff, Nat.reduceAdd, Nat.reduceMul, ↓reduceIte, if_true, if_false, Bool.false_eq_true, beq_self_eq_true, Bool.not_true, Bool.not_false, reduceCtorEq, decide_true, decide_false, Nat.add_zero, Nat.zero_add]
    refine q_cond (q := q) (by simp (disch := omega) only [JJ, opds, updD, ln, Nat.reduceLT, Nat.reduceLeDiff, Nat.reduceEqDiff, Nat.reduceAdd, Nat.reduceMul, ↓reduceIte, if_true, if_false, Bool.false_eq_true, beq_self_eq_true, Bool.not_true, Bool.not_false, reduceCtorEq, decide_true, decide_false, Nat.add_zero, Nat.zero_add]) (fun hqt => ?_) (fun hqf => ?_)
    · refine q_seq (q_reg ?_)
      simp (disch := omega) only [JJ, opds, updD, ln, Nat.reduceLT, Nat.reduceLeDiff, Nat.reduceEqDiff, Nat.reduceAdd, Nat.reduceMul, ↓reduceIte, if_true, if_false, Bool.false_eq_true, beq_self_eq_true, Bool.not_true, Bool.not_false, reduceCtorEq, decide_true, decide_false, Nat.add_zero, Nat.zero_add, F66u5]
      refine q_ret ?_
      refine wpRes_tmp (by decide) ?_
      simp (disch := omega) only [JJ, opds, updD, ln, Nat.reduceLT, Nat.reduceLeDiff, Nat.reduceEqDiff, Nat.reduceAdd, Nat.reduceMul, ↓reduceIte, if_true, if_false, Bool.false_eq_true, beq_self_eq_true, Bool.not_true, Bool.not_false, reduceCtorEq, decide_true, decide_false, Nat.add_zero, Nat.zero_add]
      exact ⟨.inr ⟨fun hr => hq.1 hqt (hr i hin), i, rfl⟩, x1.trans x2⟩
    · refine q_skip ?_
      refine q_reg ?_
      simp (disch := omega) only [JJ, opds, updD, ln, Nat.reduceLT, Nat.reduceLeDiff, Nat.reduceEqDiff, Nat.reduceAdd, Nat.reduceMul, ↓reduceIte, if_true, if_false, Bool.false_eq_true, beq_self_eq_true, Bool.not_true, Bool.not_false, reduceCtorEq, decide_true, decide_false, Nat.add_zero, Nat.zero_add, F66u6, e8, b_add_i64]
      refine ⟨D.len s - (i + 1), by omega, i + 1, by omega, rfl, by simp (disch := omega) only [JJ, opds, updD, ln, Nat.reduceLT, Nat.reduceLeDiff, Nat.reduceEqDiff, Nat.reduceAdd, Nat.reduceMul, ↓reduceIte, if_true, if_false, Bool.false_eq_true, beq_self_eq_true, Bool.not_true, Bool.not_false, reduceCtorEq, decide_true, decide_false, Nat.add_zero, Nat.zero_add], by simp (disch := omega) only [JJ, opds, updD, ln, Nat.reduceLT, Nat.reduceLeDiff, Nat.reduceEqDiff, Nat.reduceAdd, Nat.reduceMul, ↓reduceIte, if_true, if_false, Bool.false_eq_true, beq_self_eq_true, Bool.not_true, Bool.not_false, reduceCtorEq, decide_true, decide_false, Nat.add_zero, Nat.zero_add, e7], by simp (disch := omega) only [JJ, opds, updD, ln, Nat.reduceLT, Nat.reduceLeDiff, Nat.reduceEqDiff, Nat.reduceAdd, Nat.reduceMul, ↓reduceIte, if_true, if_false, Bool.false_eq_true, beq_self_eq_true, Bool.not_true, Bool.not_false, reduceCtorEq, decide_true, decide_false, Nat.add_zero, Nat.zero_add, e0], by simp (disch := omega) only [JJ, opds, updD, ln, Nat.reduceLT, Nat.reduceLeDiff, Nat.reduceEqDiff, Nat.reduceAdd, Nat.reduceMul, ↓reduceIte, if_true, if_false, Bool.false_eq_true, beq_self_eq_true, Bool.not_true, Bool.not_false, reduceCtorEq, decide_true, decide_false, Nat.add_zero, Nat.zero_add, e1], ?_, x1.trans x2⟩
      intro k hk
      by_cases hki : k = i
      · subst hki
        refine Classical.byContradiction fun hn => ?_
        rw [hq.2 hn] at hqf; cases hqf
      · exact hok k (by omega)
  · have hin : i = D.len s := by have := of_decide_eq_false hc; omega
    subst hin
    refine q_exit ?_
    simp (disch := omega) only [JJ, opds, updD, ln, Nat.reduceLT, Nat.reduceLeDiff, Nat.reduceEqDiff, Nat.reduceAdd, Nat.reduceMul, ↓reduceIte, if_true, if_false, Bool.false_eq_true, beq_self_eq_true, Bool.not_true, Bool.not_false, reduceCtorEq, decide_true, decide_false, Nat.add_zero, Nat.zero_add]
    refine q_seq (q_reg ?_)
    simp (disch := omega) only [JJ, opds, updD, ln, Nat.reduceLT, Nat.reduceLeDiff, Nat.reduceEqDiff, Nat.reduceAdd, Nat.reduceMul, ↓reduceIte, if_true, if_false, Bool.false_eq_true, beq_self_eq_true, Bool.not_true, Bool.not_false, reduceCtorEq, decide_true, decide_false, Nat.add_zero, Nat.zero_add, F66u7]
    refine q_ret ?_
    refine wpRes_tmp (by decide) ?_
    simp (disch := omega) only [JJ, opds, updD, ln, Nat.reduceLT, Nat.reduceLeDiff, Nat.reduceEqDiff, Nat.reduceAdd, Nat.reduceMul, ↓reduceIte, if_true, if_false, Bool.false_eq_true, beq_self_eq_true, Bool.not_true, Bool.not_false, reduceCtorEq, decide_true, decide_false, Nat.add_zero, Nat.zero_add]
    exact ⟨.inl ⟨hok, trivial⟩, x1⟩

theorem c37 {vc vr ve : AVal} {rv : Nat → AVal} {D : ND} {h : Hp} (N : NZ h vc vr ve rv D) {gn : Nat} (ln0 : Lob h gn [vc, vr, ve]) {s : Nat} (hs : s < D.m) :
    RunsP O E0 37 [rv s, .fn (.func 38) [] [.ptr gn 0]] h (fun v h' => BoolP v (¬ RowOK D s) ∧ Ext h h') := by
  refine q_fn (L := 9) E37 (hO _ _ _ rfl) rfl rfl ?_
  refine q_seq (q_reg ?_)
  simp (disch := omega) only [JJ, opds, updD, ln, Nat.reduceLT, Nat.reduceLeDiff, Nat.reduceEqDiff, Nat.reduceAdd, Nat.reduceMul, ↓reduceIte, if_true, if_false, Bool.false_eq_true, beq_self_eq_true, Bool.not_true, Bool.not_false, reduceCtorEq, decide_true, decide_false, Nat.add_zero, Nat.zero_add, F37u0]
  refine q_seq (q_reg ?_)
  simp (disch := omega) only [JJ, opds, updD, ln, Nat.reduceLT, Nat.reduceLeDiff, Nat.reduceEqDiff, Nat.reduceAdd, Nat.reduceMul, ↓reduceIte, if_true, if_false, Bool.false_eq_true, beq_self_eq_true, Bool.not_true, Bool.not_false, reduceCtorEq, decide_true, decide_false, Nat.add_zero, Nat.zero_add, F37u1]
  refine q_call (c66 hO N ln0 hs) ?_
  rintro v1 h3 ⟨⟨hr, rfl⟩ | ⟨hr, i, rfl⟩, x1⟩
  · have hneg : ¬ ((0 : Nat) : Int) ≤ Int.negSucc 0 := by decide
    simp (disch := omega) only [JJ, opds, updD, ln, Nat.reduceLT, Nat.reduceLeDiff, Nat.reduceEqDiff, Nat.reduceAdd, Nat.reduceMul, ↓reduceIte, if_true, if_false, Bool.false_eq_true, beq_self_eq_true, Bool.not_true, Bool.not_false, reduceCtorEq, decide_true, decide_false, Nat.add_zero, Nat.zero_add, b_geq, hneg]
    refine q_ret (wpRes_tmp (by decide) ?_)
    simp (disch := omega) only [JJ, opds, updD, ln, Nat.reduceLT, Nat.reduceLeDiff, Nat.reduceEqDiff, Nat.reduceAdd, Nat.reduceMul, ↓reduceIte, if_true, if_false, Bool.false_eq_true, beq_self_eq_true, Bool.not_true, Bool.not_false, reduceCtorEq, decide_true, decide_false, Nat.add_zero, Nat.zero_add]
    exact ⟨bp_false fun h => h hr, x1⟩
  · have hpos : 0 ≤ i := Nat.zero_le i
    simp (disch := omega) only [JJ, opds, updD, ln, Nat.reduceLT, Nat.reduceLeDiff, Nat.reduceEqDiff, Nat.reduceAdd, Nat.reduceMul, ↓reduceIte, if_true, if_false, Bool.false_eq_true, beq_self_eq_true, Bool.not_true, Bool.not_false, reduceCtorEq, decide_true, decide_false, Nat.add_zero, Nat.zero_add, b_geq, c_le, hpos]
    refine q_ret (wpRes_tmp (by decide) ?_)
    simp (disch := omega) only [JJ, opds, updD, ln, Nat.reduceLT, Nat.reduceLeDiff, Nat.reduceEqDiff, Nat.reduceAdd, Nat.reduceMul, ↓reduceIte, if_true, if_false, Bool.false_eq_true, beq_self_eq_true, Bool.not_true, Bool.not_false, reduceCtorEq, decide_true, decide_false, Nat.add_zero, Nat.zero_add]
    exact ⟨bp_true hr, x1⟩
end
end Go.Proofs.YtfaeabhbeolpgaaGreatDoor
end
