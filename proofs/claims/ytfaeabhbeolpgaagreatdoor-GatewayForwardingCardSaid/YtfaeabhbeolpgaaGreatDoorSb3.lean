/- Normalizers, part 3: the reference's test of validity. Conditions: none. -/
import Derived.Test.YtfaeabhbeolpgaaGreatDoorSb2
set_option linter.all false
noncomputable section
open Go Go.Am Univ
namespace Go.Proofs.YtfaeabhbeolpgaaGreatDoor
section
variable {O : Orc} (hO : Only O)
include hO

set_option maxHeartbeats 4000000 in
theorem c21 {vc vr ve : AVal} {rv : Nat → AVal} {D : ND} {h : Hp} (N : NZ h vc vr ve rv D) : RunsP O E0 21 [.agg [vc, vr, ve]] h (fun v h' => BoolP v (ValidR D) ∧ Ext h h') := by
  refine q_fn (L := 103) E21 (hO _ _ _ rfl) rfl rfl ?_
  refine q_seq (q_reg ?_)
  simp (disch := omega) only [JJ, opds, updD, ln, Nat.reduceLT, Nat.reduceLeDiff, Nat.reduceEqDiff, Nat.reduceAdd, Nat.reduceMul, ↓reduceIte, if_true, if_false, Bool.false_eq_true, beq_self_eq_true, Bool.not_true, Bool.not_false, reduceCtorEq, decide_true, decide_false, Nat.add_zero, Nat.zero_add, F21u0]
  have l1 := Lob.new h [vc, vr, ve] (Nat.succ_pos _)
  have x1 := Ext.newL h [vc, vr, ve]
  have n1 : (newL h [vc, vr, ve]).next = h.next + 1 := rfl
  generalize newL h [vc, vr, ve] = h1 at *
  have N1 := N.ext x1
  have r0 : gld1 h1 h.next 0 = some vc := l1.ld (k := 3) rfl (by omega)
  have n62 := N.n62
  have m62 := N.m62
  refine q_seq (q_seq (q_reg ?_))
  have no : ∀ (N0 : Env → Hp → Prop) (X0 : Nat → Env → Hp → Prop) (e : Env) (h' : Hp), ¬ ValidR D → Ext h h' → Wp O E0 103 (.seq (.reg F21u2) .ret) e h' N0 X0 (WpRes 103 [.tmp 2] fun v h' => BoolP v (ValidR D) ∧ Ext h h') := by
    intro N0 X0 e h' hV hx
    refine q_seq (q_reg ?_)
    simp (disch := omega) only [JJ, opds, updD, ln, Nat.reduceLT, Nat.reduceLeDiff, Nat.reduceEqDiff, Nat.reduceAdd, Nat.reduceMul, ↓reduceIte, if_true, if_false, Bool.false_eq_true, beq_self_eq_true, Bool.not_true, Bool.not_false, reduceCtorEq, decide_true, decide_false, Nat.add_zero, Nat.zero_add, F21u2]
    refine q_ret (wpRes_tmp (by decide) ?_)
    simp (disch := omega) only [JJ, opds, updD, ln, Nat.reduceLT, Nat.reduceLeDiff, Nat.reduceEqDiff, Nat.reduceAdd, Nat.reduceMul, ↓reduceIte, if_true, if_false, Bool.false_eq_true, beq_self_eq_true, Bool.not_true, Bool.not_false, reduceCtorEq, decide_true, decide_false, Nat.add_zero, Nat.zero_add]
    exact ⟨bp_false hV, hx⟩
  by_cases t1 : 256 < D.n
  · simp (disch := omega) only [JJ, opds, updD, ln, Nat.reduceLT, Nat.reduceLeDiff, Nat.reduceEqDiff, Nat.reduceAdd, Nat.reduceMul, ↓reduceIte, if_true, if_false, Bool.false_eq_true, beq_self_eq_true, Bool.not_true, Bool.not_false, reduceCtorEq, decide_true, decide_false, Nat.add_zero, Nat.zero_add, F21u1, r0, N1.cls.1.len, b_gtr, c_lt, t1]
    refine q_cond (q := true) (by simp (disch := omega) only [JJ, opds, updD, ln, Nat.reduceLT, Nat.reduceLeDiff, Nat.reduceEqDiff, Nat.reduceAdd, Nat.reduceMul, ↓reduceIte, if_true, if_false, Bool.false_eq_true, beq_self_eq_true, Bool.not_true, Bool.not_false, reduceCtorEq, decide_true, decide_false, Nat.add_zero, Nat.zero_add]) (fun _ => ?_) (fun h => by cases h)
    exact no _ _ _ _ (fun hV => by have := hV.1; omega) x1
  simp (disch := omega) only [JJ, opds, updD, ln, Nat.reduceLT, Nat.reduceLeDiff, Nat.reduceEqDiff, Nat.reduceAdd, Nat.reduceMul, ↓reduceIte, if_true, if_false, Bool.false_eq_true, beq_self_eq_true, Bool.not_true, Bool.not_false, reduceCtorEq, decide_true, decide_false, Nat.add_zero, Nat.zero_add, F21u1, r0, N1.cls.1.len, b_gtr, c_lt, t1]
  refine q_call (c41 hO vc D.n D.C _ N1.cls n62) ?_
  rintro v1 h2 ⟨⟨q, rfl, hq⟩, x2⟩
  replace x1 := x1.trans x2
  replace l1 := l1.ext x2
  have n2 : h.next + 1 ≤ h2.next := by have := x2.1; omega
  clear r0 N1
  have N1 := N.ext x1
  have r0 : gld1 h2 h.next 0 = some vc := l1.ld (k := 3) rfl (by omega)
  have r1 : gld1 h2 h.next 1 = some vr := l1.ld (k := 3) rfl (by omega)
  have r2 : gld1 h2 h.next 2 = some ve := l1.ld (k := 3) rfl (by omega)
  cases q
  · simp (disch := omega) only [JJ, opds, updD, ln, Nat.reduceLT, Nat.reduceLeDiff, Nat.reduceEqDiff, Nat.reduceAdd, Nat.reduceMul, ↓reduceIte, if_true, if_false, Bool.false_eq_true, beq_self_eq_true, Bool.not_true, Bool.not_false, reduceCtorEq, decide_true, decide_false, Nat.add_zero, Nat.zero_add]
    refine q_cond (q := true) (by simp (disch := omega) only [JJ, opds, updD, ln, Nat.reduceLT, Nat.reduceLeDiff, Nat.reduceEqDiff, Nat.reduceAdd, Nat.reduceMul, ↓reduceIte, if_true, if_false, Bool.false_eq_true, beq_self_eq_true, Bool.not_true, Bool.not_false, reduceCtorEq, decide_true, decide_false, Nat.add_zero, Nat.zero_add]) (fun _ => ?_) (fun h => by cases h)
    exact no _ _ _ _ (fun hV => by have := hq.2 hV.2.2.2.2.1; cases this) x1
  have hP := hq.1 rfl
  by_cases t2 : D.m < 1
  · simp (disch := omega) only [JJ, opds, updD, ln, Nat.reduceLT, Nat.reduceLeDiff, Nat.reduceEqDiff, Nat.reduceAdd, Nat.reduceMul, ↓reduceIte, if_true, if_false, Bool.false_eq_true, beq_self_eq_true, Bool.not_true, Bool.not_false, reduceCtorEq, decide_true, decide_false, Nat.add_zero, Nat.zero_add, r1, N1.rows.len, b_gtr, b_lss, c_lt, t2]
    refine q_cond (q := true) (by simp (disch := omega) only [JJ, opds, updD, ln, Nat.reduceLT, Nat.reduceLeDiff, Nat.reduceEqDiff, Nat.reduceAdd, Nat.reduceMul, ↓reduceIte, if_true, if_false, Bool.false_eq_true, beq_self_eq_true, Bool.not_true, Bool.not_false, reduceCtorEq, decide_true, decide_false, Nat.add_zero, Nat.zero_add]) (fun _ => ?_) (fun h => by cases h)
    exact no _ _ _ _ (fun hV => by have := hV.2.1; omega) x1
  by_cases t3 : 64 < D.m
  · simp (disch := omega) only [JJ, opds, updD, ln, Nat.reduceLT, Nat.reduceLeDiff, Nat.reduceEqDiff, Nat.reduceAdd, Nat.reduceMul, ↓reduceIte, if_true, if_false, Bool.false_eq_true, beq_self_eq_true, Bool.not_true, Bool.not_false, reduceCtorEq, decide_true, decide_false, Nat.add_zero, Nat.zero_add, r1, N1.rows.len, b_gtr, b_lss, c_lt, t2, t3]
    refine q_cond (q := true) (by simp (disch := omega) only [JJ, opds, updD, ln, Nat.reduceLT, Nat.reduceLeDiff, Nat.reduceEqDiff, Nat.reduceAdd, Nat.reduceMul, ↓reduceIte, if_true, if_false, Bool.false_eq_true, beq_self_eq_true, Bool.not_true, Bool.not_false, reduceCtorEq, decide_true, decide_false, Nat.add_zero, Nat.zero_add]) (fun _ => ?_) (fun h => by cases h)
    exact no _ _ _ _ (fun hV => by have := hV.2.2.1; omega) x1
  by_cases t4 : D.ne = D.m
  case neg =>
    simp (disch := omega) only [JJ, opds, updD, ln, Nat.reduceLT, Nat.reduceLeDiff, Nat.reduceEqDiff, Nat.reduceAdd, Nat.reduceMul, ↓reduceIte, if_true, if_false, Bool.false_eq_true, beq_self_eq_true, Bool.not_true, Bool.not_false, reduceCtorEq, decide_true, decide_false, Nat.add_zero, Nat.zero_add, r1, r2, N1.rows.len, N1.ends.len, b_gtr, b_lss, b_neq, c_lt, c_ne, t2, t3, t4, ne_eq, not_false_eq_true]
    refine q_cond (q := true) (by simp (disch := omega) only [JJ, opds, updD, ln, Nat.reduceLT, Nat.reduceLeDiff, Nat.reduceEqDiff, Nat.reduceAdd, Nat.reduceMul, ↓reduceIte, if_true, if_false, Bool.false_eq_true, beq_self_eq_true, Bool.not_true, Bool.not_false, reduceCtorEq, decide_true, decide_false, Nat.add_zero, Nat.zero_add]) (fun _ => ?_) (fun h => by cases h)
    exact no _ _ _ _ (fun hV => t4 hV.2.2.2.1) x1
  simp (disch := omega) only [JJ, opds, updD, ln, Nat.reduceLT, Nat.reduceLeDiff, Nat.reduceEqDiff, Nat.reduceAdd, Nat.reduceMul, ↓reduceIte, if_true, if_false, Bool.false_eq_true, beq_self_eq_true, Bool.not_true, Bool.not_false, reduceCtorEq, decide_true, decide_false, Nat.add_zero, Nat.zero_add, r1, r2, N1.rows.len, N1.ends.len, b_gtr, b_lss, b_neq, c_lt, c_ne, t2, t3, t4, ne_eq, not_true_eq_false]
  refine q_cond (q := false) (by simp (disch := omega) only [JJ, opds, updD, ln, Nat.reduceLT, Nat.reduceLeDiff, Nat.reduceEqDiff, Nat.reduceAdd, Nat.reduceMul, ↓reduceIte, if_true, if_false, Bool.false_eq_true, beq_self_eq_true, Bool.not_true, Bool.not_false, reduceCtorEq, decide_true, decide_false, Nat.add_zero, Nat.zero_add]) (fun h => by cases h) (fun _ => ?_)
  refine q_skip ?_
  refine q_seq (q_seq (q_reg ?_))
  simp (disch := omega) only [JJ, opds, updD, ln, Nat.reduceLT, Nat.reduceLeDiff, Nat.reduceEqDiff, Nat.reduceAdd, Nat.reduceMul, ↓reduceIte, if_true, if_false, Bool.false_eq_true, beq_self_eq_true, Bool.not_true, Bool.not_false, reduceCtorEq, decide_true, decide_false, Nat.add_zero, Nat.zero_add, F21u3]
  refine q_block ?_
  refine q_loop (fun k e h' => ∃ i, i ≤ D.m ∧ k = D.m - i ∧ e 3 = .int .i64 (i : Nat) ∧ e 1 = .ptr h.next 0 ∧ (∀ s, s < i → D.len s = D.n ∧ RowOK D s) ∧ Lob h' h.next [vc, vr, ve] ∧ Ext h h' ∧ h.next + 1 ≤ h'.next) D.m
    ⟨0, by omega, by omega, by simp (disch := omega) only [JJ, opds, updD, ln, Nat.reduceLT, Nat.reduceLeDiff, Nat.reduceEqDiff, Nat.reduceAdd, Nat.reduceMul, ↓reduceIte, if_true, if_false, Bool.false_eq_true, beq_self_eq_true, Bool.not_true, Bool.not_false, reduceCtorEq, decide_true, decide_false, Nat.add_zero, Nat.zero_add], by simp (disch := omega) only [JJ, opds, updD, ln, Nat.reduceLT, Nat.reduceLeDiff, Nat.reduceEqDiff, Nat.reduceAdd, Nat.reduceMul, ↓reduceIte, if_true, if_false, Bool.false_eq_true, beq_self_eq_true, Bool.not_true, Bool.not_false, reduceCtorEq, decide_true, decide_false, Nat.add_zero, Nat.zero_add], by omega, l1, x1, n2⟩ ?_
  clear x1 x2 l1 N1 n2 r0 r1 r2 n1
  rintro k e h' ⟨i, hi, rfl, e3, e1, hr, l1, x1, n1⟩
  have N1 := N.ext x1
  have r0 : gld1 h' h.next 0 = some vc := l1.ld (k := 3) rfl (by omega)
  have r1 : gld1 h' h.next 1 = some vr := l1.ld (k := 3) rfl (by omega)
  refine q_seq (q_seq (q_reg ?_))
  simp (disch := omega) only [JJ, opds, updD, ln, Nat.reduceLT, Nat.reduceLeDiff, Nat.reduceEqDiff, Nat.reduceAdd, Nat.reduceMul, ↓reduceIte, if_true, if_false, Bool.false_eq_true, beq_self_eq_true, Bool.not_true, Bool.not_false, reduceCtorEq, decide_true, decide_false, Nat.add_zero, Nat.zero_add, F21u4, e3, e1, r1, N1.rows.len, b_lss, c_lt]
  refine q_cond (q := decide (i < D.m)) (by simp (disch := omega) only [JJ, opds, updD, ln, Nat.reduceLT, Nat.reduceLeDiff, Nat.reduceEqDiff, Nat.reduceAdd, Nat.reduceMul, ↓reduceIte, if_true, if_false, Bool.false_eq_true, beq_self_eq_true, Bool.not_true, Bool.not_false, reduceCtorEq, decide_true, decide_false, Nat.add_zero, Nat.zero_add]) (fun hc => ?_) (fun hc => ?_)
  · have him := of_decide_eq_true hc
    obtain ⟨ga, oa, a1, a2⟩ := N1.rows.addr him
    have lb := N.l62 i him
    refine q_skip ?_
    refine q_seq (q_block (q_seq (q_seq (q_dreg0 ?_))))
    simp (disch := omega) only [Ja, Jb, Jc, Jd, Je, Jf, Jg, Jh, Ji, Jj, Jk, Jl, Jm, Jn, Jp, Jq, Jr, Js, Jt, Ju, Jv, Jw, Jx, Jy, true_and, and_true, JJ, opds, updD, ln, Nat.reduceLT, Nat.reduceLeDiff, Nat.reduceEqDiff, Nat.reduceAdd, Nat.reduceMul, ↓reduceIte, if_true, if_false, Bool.false_eq_true, beq_self_eq_true, Bool.not_true, Bool.not_false, reduceCtorEq, decide_true, decide_false, Nat.add_zero, Nat.zero_add, F21u14, F21u14p, e1, e3, r0, r1, a1, (a2 _ (Ext.refl _)).2 rfl, (N1.row i him).len, N1.cls.1.len, b_neq, c_ne]
    have no5 : ∀ (N0 : Env → Hp → Prop) (X0 : Nat → Env → Hp → Prop) (e : Env) (h' : Hp), ¬ ValidR D → Ext h h' → Wp O E0 103 (.seq (.reg F21u5) .ret) e h' N0 X0 (WpRes 103 [.tmp 2] fun v h' => BoolP v (ValidR D) ∧ Ext h h') := no
    have no10 : ∀ (N0 : Env → Hp → Prop) (X0 : Nat → Env → Hp → Prop) (e : Env) (h' : Hp), ¬ ValidR D → Ext h h' → Wp O E0 103 (.seq (.reg F21u10) .ret) e h' N0 X0 (WpRes 103 [.tmp 2] fun v h' => BoolP v (ValidR D) ∧ Ext h h') := no
    by_cases hl : D.len i = D.n
    case neg =>
      refine q_cond (q := true) (by simp (disch := omega) only [JJ, opds, updD, ln, Nat.reduceLT, Nat.reduceLeDiff, Nat.reduceEqDiff, Nat.reduceAdd, Nat.reduceMul, ↓reduceIte, if_true, if_false, Bool.false_eq_true, beq_self_eq_true, Bool.not_true, Bool.not_false, reduceCtorEq, decide_true, decide_false, Nat.add_zero, Nat.zero_add, hl, ne_eq, not_false_eq_true]) (fun _ => ?_) (fun h => by cases h)
      exact no5 _ _ _ _ (fun hV => hl (hV.2.2.2.2.2 i him).1) x1
    refine q_cond (q := false) (by simp (disch := omega) only [JJ, opds, updD, ln, Nat.reduceLT, Nat.reduceLeDiff, Nat.reduceEqDiff, Nat.reduceAdd, Nat.reduceMul, ↓reduceIte, if_true, if_false, Bool.false_eq_true, beq_self_eq_true, Bool.not_true, Bool.not_false, reduceCtorEq, decide_true, decide_false, Nat.add_zero, Nat.zero_add, hl, ne_eq, not_true_eq_false]) (fun h => by cases h) (fun _ => ?_)
    refine q_skip ?_
    refine q_seq (q_reg ?_)
    simp (disch := omega) only [JJ, opds, updD, ln, Nat.reduceLT, Nat.reduceLeDiff, Nat.reduceEqDiff, Nat.reduceAdd, Nat.reduceMul, ↓reduceIte, if_true, if_false, Bool.false_eq_true, beq_self_eq_true, Bool.not_true, Bool.not_false, reduceCtorEq, decide_true, decide_false, Nat.add_zero, Nat.zero_add, F21u6]
    refine q_block ?_
    refine q_loop (fun k e h' => ∃ j, j ≤ D.len i ∧ k = D.len i - j ∧ e 4 = .int .i64 (j : Nat) ∧ e 3 = .int .i64 (i : Nat) ∧ e 1 = .ptr h.next 0 ∧ (∀ k, k < j → CellOK D i k) ∧ Lob h' h.next [vc, vr, ve] ∧ Ext h h' ∧ h.next + 1 ≤ h'.next) (D.len i)
      ⟨0, by omega, by omega, by simp (disch := omega) only [JJ, opds, updD, ln, Nat.reduceLT, Nat.reduceLeDiff, Nat.reduceEqDiff, Nat.reduceAdd, Nat.reduceMul, ↓reduceIte, if_true, if_false, Bool.false_eq_true, beq_self_eq_true, Bool.not_true, Bool.not_false, reduceCtorEq, decide_true, decide_false, Nat.add_zero, Nat.zero_add], by simp (disch := omega) only [JJ, opds, updD, ln, Nat.reduceLT, Nat.reduceLeDiff, Nat.reduceEqDiff, Nat.reduceAdd, Nat.reduceMul, ↓reduceIte, if_true, if_false, Bool.false_eq_true, beq_self_eq_true, Bool.not_true, Bool.not_false, reduceCtorEq, decide_true, decide_false, Nat.add_zero, Nat.zero_add, e3], by simp (disch := omega) only [JJ, opds, updD, ln, Nat.reduceLT, Nat.reduceLeDiff, Nat.reduceEqDiff, Nat.reduceAdd, Nat.reduceMul, ↓reduceIte, if_true, if_false, Bool.false_eq_true, beq_self_eq_true, Bool.not_true, Bool.not_false, reduceCtorEq, decide_true, decide_false, Nat.add_zero, Nat.zero_add, e1], by omega, l1, x1, n1⟩ ?_
    clear l1 x1 n1 e1 e3 N1 a1 a2 r0 r1
    rintro k e h' ⟨j, hj, rfl, e4, e3, e1, hok, l1, x1, n1⟩
    have N1 := N.ext x1
    have r1 : gld1 h' h.next 1 = some vr := l1.ld (k := 3) rfl (by omega)
    obtain ⟨ga, oa, a1, a2⟩ := N1.rows.addr him
    refine q_seq (q_seq (q_reg ?_))
    simp (disch := omega) only [JJ, opds, updD, ln, Nat.reduceLT, Nat.reduceLeDiff, Nat.reduceEqDiff, Nat.reduceAdd, Nat.reduceMul, ↓reduceIte, if_true, if_false, Bool.false_eq_true, beq_self_eq_true, Bool.not_true, Bool.not_false, reduceCtorEq, decide_true, decide_false, Nat.add_zero, Nat.zero_add, F21u7, e1, e3, e4, r1, a1, (a2 _ (Ext.refl _)).2 rfl, Jx, (N1.row i him).len, b_lss, c_lt]
    refine q_cond (q := decide (j < D.len i)) (by simp (disch := omega) only [JJ, opds, updD, ln, Nat.reduceLT, Nat.reduceLeDiff, Nat.reduceEqDiff, Nat.reduceAdd, Nat.reduceMul, ↓reduceIte, if_true, if_false, Bool.false_eq_true, beq_self_eq_true, Bool.not_true, Bool.not_false, reduceCtorEq, decide_true, decide_false, Nat.add_zero, Nat.zero_add]) (fun hc => ?_) (fun hc => ?_)
    · have hjl := of_decide_eq_true hc
      obtain ⟨gb, ob', b1, b2⟩ := (N1.row i him).addr hjl
      refine q_skip ?_
      refine q_seq (q_block (q_seq (q_reg ?_)))
      have l5 := Lob.new h' [.int .i64 ((0 : Nat) : Int), .int .i64 ((0 : Nat) : Int), .int .u8 ((0 : Nat) : Int)] (Nat.succ_pos _)
      obtain ⟨ob, g1, g2⟩ := l5.st (o := 0) (vs := cellv D i j) (Nat.le_refl _) rfl (Nat.succ_pos _)
      rw [blit_all (by rfl)] at g2
      have lc : ln (cellv D i j) = 3 := rfl
      simp (disch := omega) only [JJ, opds, updD, ln, Nat.reduceLT, Nat.reduceLeDiff, Nat.reduceEqDiff, Nat.reduceAdd, Nat.reduceMul, ↓reduceIte, if_true, if_false, Bool.false_eq_true, beq_self_eq_true, Bool.not_true, Bool.not_false, reduceCtorEq, decide_true, decide_false, Nat.add_zero, Nat.zero_add, F21u8, e1, e3, e4, r1, a1, (a2 _ (Ext.refl _)).2 rfl, Jx, b1, (b2 _ (Ext.refl _)).1, lc, g1]
      have x2 : Ext h' ((newL h' [.int .i64 ((0 : Nat) : Int), .int .i64 ((0 : Nat) : Int), .int .u8 ((0 : Nat) : Int)]).set h'.next ob) := (Ext.newL h' _).set (Nat.le_refl _) ob
      generalize (newL h' [.int .i64 ((0 : Nat) : Int), .int .i64 ((0 : Nat) : Int), .int .u8 ((0 : Nat) : Int)]).set h'.next ob = h3 at *
      have l3 := l1.ext x2
      have x3 := x1.trans x2
      have N3 := N.ext x3
      have s0 : gld1 h3 h'.next 0 = some (.int .i64 (D.T i j)) := g2.ld (k := 3) rfl (by omega)
      have s1 : gld1 h3 h'.next 1 = some (.int .i64 (D.A i j)) := g2.ld (k := 3) rfl (by omega)
      have s2 : gld1 h3 h'.next 2 = some (.int .u8 (D.B i j : Nat)) := g2.ld (k := 3) rfl (by omega)
      have s3 : gld1 h3 h.next 1 = some vr := l3.ld (k := 3) rfl (by omega)
      have n3 : h.next + 1 ≤ h3.next := by have := x2.1; omega
      clear g1 g2 l5
      refine q_seq (q_reg ?_)
      by_cases t1 : D.T i j < ((0 : Nat) : Int)
      · simp (disch := omega) only [JJ, opds, updD, ln, Nat.reduceLT, Nat.reduceLeDiff, Nat.reduceEqDiff, Nat.reduceAdd, Nat.reduceMul, ↓reduceIte, if_true, if_false, Bool.false_eq_true, beq_self_eq_true, Bool.not_true, Bool.not_false, reduceCtorEq, decide_true, decide_false, Nat.add_zero, Nat.zero_add, F21u9, s0, b_lss, t1]
        refine q_cond (q := true) (by simp (disch := omega) only [JJ, opds, updD, ln, Nat.reduceLT, Nat.reduceLeDiff, Nat.reduceEqDiff, Nat.reduceAdd, Nat.reduceMul, ↓reduceIte, if_true, if_false, Bool.false_eq_true, beq_self_eq_true, Bool.not_true, Bool.not_false, reduceCtorEq, decide_true, decide_false, Nat.add_zero, Nat.zero_add]) (fun _ => ?_) (fun h => by cases h)
        exact no10 _ _ _ _ (fun hV => ((hV.2.2.2.2.2 i him).2 j hjl).1 t1) x3
      by_cases t2 : ((D.m : Nat) : Int) ≤ D.T i j
      · simp (disch := omega) only [JJ, opds, updD, ln, Nat.reduceLT, Nat.reduceLeDiff, Nat.reduceEqDiff, Nat.reduceAdd, Nat.reduceMul, ↓reduceIte, if_true, if_false, Bool.false_eq_true, beq_self_eq_true, Bool.not_true, Bool.not_false, reduceCtorEq, decide_true, decide_false, Nat.add_zero, Nat.zero_add, F21u9, s0, e1, s3, b_lss, b_geq, N3.rows.len, t1, t2]
        refine q_cond (q := true) (by simp (disch := omega) only [JJ, opds, updD, ln, Nat.reduceLT, Nat.reduceLeDiff, Nat.reduceEqDiff, Nat.reduceAdd, Nat.reduceMul, ↓reduceIte, if_true, if_false, Bool.false_eq_true, beq_self_eq_true, Bool.not_true, Bool.not_false, reduceCtorEq, decide_true, decide_false, Nat.add_zero, Nat.zero_add]) (fun _ => ?_) (fun h => by cases h)
        exact no10 _ _ _ _ (fun hV => ((hV.2.2.2.2.2 i him).2 j hjl).2.1 t2) x3
      by_cases t3 : D.A i j < ((0 : Nat) : Int)
      · simp (disch := omega) only [JJ, opds, updD, ln, Nat.reduceLT, Nat.reduceLeDiff, Nat.reduceEqDiff, Nat.reduceAdd, Nat.reduceMul, ↓reduceIte, if_true, if_false, Bool.false_eq_true, beq_self_eq_true, Bool.not_true, Bool.not_false, reduceCtorEq, decide_true, decide_false, Nat.add_zero, Nat.zero_add, F21u9, s0, s1, e1, s3, b_lss, b_geq, N3.rows.len, t1, t2, t3]
        refine q_cond (q := true) (by simp (disch := omega) only [JJ, opds, updD, ln, Nat.reduceLT, Nat.reduceLeDiff, Nat.reduceEqDiff, Nat.reduceAdd, Nat.reduceMul, ↓reduceIte, if_true, if_false, Bool.false_eq_true, beq_self_eq_true, Bool.not_true, Bool.not_false, reduceCtorEq, decide_true, decide_false, Nat.add_zero, Nat.zero_add]) (fun _ => ?_) (fun h => by cases h)
        exact no10 _ _ _ _ (fun hV => ((hV.2.2.2.2.2 i him).2 j hjl).2.2.1 t3) x3
      by_cases t4' : ((3 : Nat) : Int) < D.A i j
      · simp (disch := omega) only [JJ, opds, updD, ln, Nat.reduceLT, Nat.reduceLeDiff, Nat.reduceEqDiff, Nat.reduceAdd, Nat.reduceMul, ↓reduceIte, if_true, if_false, Bool.false_eq_true, beq_self_eq_true, Bool.not_true, Bool.not_false, reduceCtorEq, decide_true, decide_false, Nat.add_zero, Nat.zero_add, F21u9, s0, s1, e1, s3, b_lss, b_geq, b_gtr, N3.rows.len, t1, t2, t3, t4']
        refine q_cond (q := true) (by simp (disch := omega) only [JJ, opds, updD, ln, Nat.reduceLT, Nat.reduceLeDiff, Nat.reduceEqDiff, Nat.reduceAdd, Nat.reduceMul, ↓reduceIte, if_true, if_false, Bool.false_eq_true, beq_self_eq_true, Bool.not_true, Bool.not_false, reduceCtorEq, decide_true, decide_false, Nat.add_zero, Nat.zero_add]) (fun _ => ?_) (fun h => by cases h)
        exact no10 _ _ _ _ (fun hV => ((hV.2.2.2.2.2 i him).2 j hjl).2.2.2.1 t4') x3
      -- the cell is all right
      have yes : CellOK D i j → ∀ (e' : Env), e' 102 = .bool false → e' 4 = .int .i64 (j : Nat) → e' 3 = .int .i64 (i : Nat) → e' 1 = .ptr h.next 0 → ∀ (X1 X2 : Nat → Env → Hp → Prop) (N0 : Env → Hp → Prop) (R0 : Env → Hp → Prop),
          (∀ e' : Env, (∃ k, k < D.len i - j ∧ ∃ j, j ≤ D.len i ∧ k = D.len i - j ∧ e' 4 = .int .i64 (j : Nat) ∧ e' 3 = .int .i64 (i : Nat) ∧ e' 1 = .ptr h.next 0 ∧ (∀ k, k < j → CellOK D i k) ∧ Lob h3 h.next [vc, vr, ve] ∧ Ext h h3 ∧ h.next + 1 ≤ h3.next) → N0 e' h3) →
          Wp O E0 103 (.cond (.t 102) (.seq (.reg F21u10) .ret) .skip) e' h3 (fun e'' h'' => Wp O E0 103 (.reg F21u11) e'' h'' N0 X1 R0) X2 R0 := by
        intro hcell e' q1 q2 q3 q4 X1 X2 N0 R0 hN
        refine q_cond (q := false) (by simp (disch := omega) only [JJ, opds, updD, ln, Nat.reduceLT, Nat.reduceLeDiff, Nat.reduceEqDiff, Nat.reduceAdd, Nat.reduceMul, ↓reduceIte, if_true, if_false, Bool.false_eq_true, beq_self_eq_true, Bool.not_true, Bool.not_false, reduceCtorEq, decide_true, decide_false, Nat.add_zero, Nat.zero_add, q1]) (fun h => by cases h) (fun _ => ?_)
        refine q_skip ?_
        refine q_reg ?_
        simp (disch := omega) only [JJ, opds, updD, ln, Nat.reduceLT, Nat.reduceLeDiff, Nat.reduceEqDiff, Nat.reduceAdd, Nat.reduceMul, ↓reduceIte, if_true, if_false, Bool.false_eq_true, beq_self_eq_true, Bool.not_true, Bool.not_false, reduceCtorEq, decide_true, decide_false, Nat.add_zero, Nat.zero_add, F21u11, q2, b_add_i64]
        refine hN _ ⟨D.len i - (j + 1), by omega, j + 1, by omega, rfl, by simp (disch := omega) only [JJ, opds, updD, ln, Nat.reduceLT, Nat.reduceLeDiff, Nat.reduceEqDiff, Nat.reduceAdd, Nat.reduceMul, ↓reduceIte, if_true, if_false, Bool.false_eq_true, beq_self_eq_true, Bool.not_true, Bool.not_false, reduceCtorEq, decide_true, decide_false, Nat.add_zero, Nat.zero_add], by simp (disch := omega) only [JJ, opds, updD, ln, Nat.reduceLT, Nat.reduceLeDiff, Nat.reduceEqDiff, Nat.reduceAdd, Nat.reduceMul, ↓reduceIte, if_true, if_false, Bool.false_eq_true, beq_self_eq_true, Bool.not_true, Bool.not_false, reduceCtorEq, decide_true, decide_false, Nat.add_zero, Nat.zero_add, q3], by simp (disch := omega) only [JJ, opds, updD, ln, Nat.reduceLT, Nat.reduceLeDiff, Nat.reduceEqDiff, Nat.reduceAdd, Nat.reduceMul, ↓reduceIte, if_true, if_false, Bool.false_eq_true, beq_self_eq_true, Bool.not_true, Bool.not_false, reduceCtorEq, decide_true, decide_false, Nat.add_zero, Nat.zero_add, q4], ?_, l3, x3, n3⟩
        intro k hk
        by_cases hkj : k = j
        · subst hkj; exact hcell
        · exact hok k (by omega)
      by_cases t5 : D.A i j = ((2 : Nat) : Int)
      · simp (disch := omega) only [JJ, opds, updD, ln, Nat.reduceLT, Nat.reduceLeDiff, Nat.reduceEqDiff, Nat.reduceAdd, Nat.reduceMul, ↓reduceIte, if_true, if_false, Bool.false_eq_true, beq_self_eq_true, Bool.not_true, Bool.not_false, reduceCtorEq, decide_true, decide_false, Nat.add_zero, Nat.zero_add, F21u9, s0, s1, e1, s3, b_lss, b_geq, b_gtr, b_neq, N3.rows.len, t1, t2, t3, t4', t5, ne_eq, not_true_eq_false, c_lt]
        exact yes ⟨t1, t2, t3, t4', fun q => q.1 t5⟩ _ (by simp (disch := omega) only [JJ, opds, updD, ln, Nat.reduceLT, Nat.reduceLeDiff, Nat.reduceEqDiff, Nat.reduceAdd, Nat.reduceMul, ↓reduceIte, if_true, if_false, Bool.false_eq_true, beq_self_eq_true, Bool.not_true, Bool.not_false, reduceCtorEq, decide_true, decide_false, Nat.add_zero, Nat.zero_add]) (by simp (disch := omega) only [JJ, opds, updD, ln, Nat.reduceLT, Nat.reduceLeDiff, Nat.reduceEqDiff, Nat.reduceAdd, Nat.reduceMul, ↓reduceIte, if_true, if_false, Bool.false_eq_true, beq_self_eq_true, Bool.not_true, Bool.not_false, reduceCtorEq, decide_true, decide_false, Nat.add_zero, Nat.zero_add, e4]) (by simp (disch := omega) only [JJ, opds, updD, ln, Nat.reduceLT, Nat.reduceLeDiff, Nat.reduceEqDiff, Nat.reduceAdd, Nat.reduceMul, ↓reduceIte, if_true, if_false, Bool.false_eq_true, beq_self_eq_true, Bool.not_true, Bool.not_false, reduceCtorEq, decide_true, decide_false, Nat.add_zero, Nat.zero_add, e3]) (by simp (disch := omega) only [JJ, opds, updD, ln, Nat.reduceLT, Nat.reduceLeDiff, Nat.reduceEqDiff, Nat.reduceAdd, Nat.reduceMul, ↓reduceIte, if_true, if_false, Bool.false_eq_true, beq_self_eq_true, Bool.not_true, Bool.not_false, reduceCtorEq, decide_true, decide_false, Nat.add_zero, Nat.zero_add, e1]) _ _ _ _ (fun _ h => h)
      by_cases t6 : D.B i j = 0
      · simp (disch := omega) only [JJ, opds, updD, ln, Nat.reduceLT, Nat.reduceLeDiff, Nat.reduceEqDiff, Nat.reduceAdd, Nat.reduceMul, ↓reduceIte, if_true, if_false, Bool.false_eq_true, beq_self_eq_true, Bool.not_true, Bool.not_false, reduceCtorEq, decide_true, decide_false, Nat.add_zero, Nat.zero_add, F21u9, s0, s1, s2, e1, s3, b_lss, b_geq, b_gtr, b_neq, N3.rows.len, t1, t2, t3, t4', t5, t6, ne_eq, not_true_eq_false, not_false_eq_true]
        exact yes ⟨t1, t2, t3, t4', fun q => q.2 t6⟩ _ (by simp (disch := omega) only [JJ, opds, updD, ln, Nat.reduceLT, Nat.reduceLeDiff, Nat.reduceEqDiff, Nat.reduceAdd, Nat.reduceMul, ↓reduceIte, if_true, if_false, Bool.false_eq_true, beq_self_eq_true, Bool.not_true, Bool.not_false, reduceCtorEq, decide_true, decide_false, Nat.add_zero, Nat.zero_add]) (by simp (disch := omega) only [JJ, opds, updD, ln, Nat.reduceLT, Nat.reduceLeDiff, Nat.reduceEqDiff, Nat.reduceAdd, Nat.reduceMul, ↓reduceIte, if_true, if_false, Bool.false_eq_true, beq_self_eq_true, Bool.not_true, Bool.not_false, reduceCtorEq, decide_true, decide_false, Nat.add_zero, Nat.zero_add, e4]) (by simp (disch := omega) only [JJ, opds, updD, ln, Nat.reduceLT, Nat.reduceLeDiff, Nat.reduceEqDiff, Nat.reduceAdd, Nat.reduceMul, ↓reduceIte, if_true, if_false, Bool.false_eq_true, beq_self_eq_true, Bool.not_true, Bool.not_false, reduceCtorEq, decide_true, decide_false, Nat.add_zero, Nat.zero_add, e3]) (by simp (disch := omega) only [JJ, opds, updD, ln, Nat.reduceLT, Nat.reduceLeDiff, Nat.reduceEqDiff, Nat.reduceAdd, Nat.reduceMul, ↓reduceIte, if_true, if_false, Bool.false_eq_true, beq_self_eq_true, Bool.not_true, Bool.not_false, reduceCtorEq, decide_true, decide_false, Nat.add_zero, Nat.zero_add, e1]) _ _ _ _ (fun _ h => h)
      · simp (disch := omega) only [JJ, opds, updD, ln, Nat.reduceLT, Nat.reduceLeDiff, Nat.reduceEqDiff, Nat.reduceAdd, Nat.reduceMul, ↓reduceIte, if_true, if_false, Bool.false_eq_true, beq_self_eq_true, Bool.not_true, Bool.not_false, reduceCtorEq, decide_true, decide_false, Nat.add_zero, Nat.zero_add, F21u9, s0, s1, s2, e1, s3, b_lss, b_geq, b_gtr, b_neq, N3.rows.len, t1, t2, t3, t4', t5, c_ne, t6, ne_eq, not_true_eq_false, not_false_eq_true]
        refine q_cond (q := true) (by simp (disch := omega) only [JJ, opds, updD, ln, Nat.reduceLT, Nat.reduceLeDiff, Nat.reduceEqDiff, Nat.reduceAdd, Nat.reduceMul, ↓reduceIte, if_true, if_false, Bool.false_eq_true, beq_self_eq_true, Bool.not_true, Bool.not_false, reduceCtorEq, decide_true, decide_false, Nat.add_zero, Nat.zero_add]) (fun _ => ?_) (fun h => by cases h)
        exact no10 _ _ _ _ (fun hV => ((hV.2.2.2.2.2 i him).2 j hjl).2.2.2.2 ⟨t5, t6⟩) x3
    · have hjl : j = D.len i := by have := of_decide_eq_false hc; omega
      refine q_exit ?_
      simp (disch := omega) only [JJ, opds, updD, ln, Nat.reduceLT, Nat.reduceLeDiff, Nat.reduceEqDiff, Nat.reduceAdd, Nat.reduceMul, ↓reduceIte, if_true, if_false, Bool.false_eq_true, beq_self_eq_true, Bool.not_true, Bool.not_false, reduceCtorEq, decide_true, decide_false, Nat.add_zero, Nat.zero_add]
      refine q_reg ?_
      simp (disch := omega) only [JJ, opds, updD, ln, Nat.reduceLT, Nat.reduceLeDiff, Nat.reduceEqDiff, Nat.reduceAdd, Nat.reduceMul, ↓reduceIte, if_true, if_false, Bool.false_eq_true, beq_self_eq_true, Bool.not_true, Bool.not_false, reduceCtorEq, decide_true, decide_false, Nat.add_zero, Nat.zero_add, F21u12, e3, b_add_i64]
      refine ⟨D.m - (i + 1), by omega, i + 1, by omega, rfl, by simp (disch := omega) only [JJ, opds, updD, ln, Nat.reduceLT, Nat.reduceLeDiff, Nat.reduceEqDiff, Nat.reduceAdd, Nat.reduceMul, ↓reduceIte, if_true, if_false, Bool.false_eq_true, beq_self_eq_true, Bool.not_true, Bool.not_false, reduceCtorEq, decide_true, decide_false, Nat.add_zero, Nat.zero_add], by simp (disch := omega) only [JJ, opds, updD, ln, Nat.reduceLT, Nat.reduceLeDiff, Nat.reduceEqDiff, Nat.reduceAdd, Nat.reduceMul, ↓reduceIte, if_true, if_false, Bool.false_eq_true, beq_self_eq_true, Bool.not_true, Bool.not_false, reduceCtorEq, decide_true, decide_false, Nat.add_zero, Nat.zero_add, e1], ?_, l1, x1, n1⟩
      intro k hk
      by_cases hki : k = i
      · subst hki; exact ⟨hl, fun c hc => hok c (by omega)⟩
      · exact hr k (by omega)
  · have him : i = D.m := by have := of_decide_eq_false hc; omega
    refine q_exit ?_
    simp (disch := omega) only [JJ, opds, updD, ln, Nat.reduceLT, Nat.reduceLeDiff, Nat.reduceEqDiff, Nat.reduceAdd, Nat.reduceMul, ↓reduceIte, if_true, if_false, Bool.false_eq_true, beq_self_eq_true, Bool.not_true, Bool.not_false, reduceCtorEq, decide_true, decide_false, Nat.add_zero, Nat.zero_add]
    refine q_seq (q_reg ?_)
    simp (disch := omega) only [JJ, opds, updD, ln, Nat.reduceLT, Nat.reduceLeDiff, Nat.reduceEqDiff, Nat.reduceAdd, Nat.reduceMul, ↓reduceIte, if_true, if_false, Bool.false_eq_true, beq_self_eq_true, Bool.not_true, Bool.not_false, reduceCtorEq, decide_true, decide_false, Nat.add_zero, Nat.zero_add, F21u13]
    refine q_ret (wpRes_tmp (by decide) ?_)
    simp (disch := omega) only [JJ, opds, updD, ln, Nat.reduceLT, Nat.reduceLeDiff, Nat.reduceEqDiff, Nat.reduceAdd, Nat.reduceMul, ↓reduceIte, if_true, if_false, Bool.false_eq_true, beq_self_eq_true, Bool.not_true, Bool.not_false, reduceCtorEq, decide_true, decide_false, Nat.add_zero, Nat.zero_add]
    exact ⟨bp_true ⟨by omega, by omega, by omega, t4, hP, fun s hs => hr s (by omega)⟩, x1⟩
end
end Go.Proofs.YtfaeabhbeolpgaaGreatDoor
end
