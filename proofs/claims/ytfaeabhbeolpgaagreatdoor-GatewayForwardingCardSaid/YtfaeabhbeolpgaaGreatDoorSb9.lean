/- Normalizers, part 9: the reference forwards a message. Conditions: none. -/
import Derived.Test.YtfaeabhbeolpgaaGreatDoorSb8
set_option linter.all false
noncomputable section
open Go Go.Am Univ
namespace Go.Proofs.YtfaeabhbeolpgaaGreatDoor
section
variable {O : Orc} (hO : Only O)
include hO

set_option maxHeartbeats 1000000 in
theorem c22 {vc vr ve : AVal} {rv : Nat → AVal} {D : ND} {h : Hp} (N : NZ h vc vr ve rv D) (V : ValidR D) {vm : AVal} {k : Nat} {f : Nat → Nat} (M : Msg h vm k f) (hk : k < 2 ^ 29) :
    RunsP O E0 22 [.agg [vc, vr, ve], vm] h (fun v h' => ((accS D f k = false ∧ v = .tup [.nils, .bool false]) ∨ (accS D f k = true ∧ ∃ vo, v = .tup [vo, .bool true] ∧ Out h' (h.next ≤ ·) vo (runS D f k).out)) ∧ Ext h h') := by
  refine q_fn (L := 20) E22 (hO _ _ _ rfl) rfl rfl ?_
  refine q_seq (q_reg ?_)
  simp (disch := omega) only [JJ, opds, updD, ln, Nat.reduceLT, Nat.reduceLeDiff, Nat.reduceEqDiff, Nat.reduceAdd, Nat.reduceMul, ↓reduceIte, if_true, if_false, Bool.false_eq_true, beq_self_eq_true, Bool.not_true, Bool.not_false, reduceCtorEq, decide_true, decide_false, Nat.add_zero, Nat.zero_add, F22u0]
  have l2 := Lob.new h [vc, vr, ve] (Nat.succ_pos _)
  have x1 := Ext.newL h [vc, vr, ve]
  have n1 : (newL h [vc, vr, ve]).next = h.next + 1 := rfl
  generalize newL h [vc, vr, ve] = h1 at *
  refine q_seq (q_reg ?_)
  simp (disch := omega) only [JJ, opds, updD, ln, Nat.reduceLT, Nat.reduceLeDiff, Nat.reduceEqDiff, Nat.reduceAdd, Nat.reduceMul, ↓reduceIte, if_true, if_false, Bool.false_eq_true, beq_self_eq_true, Bool.not_true, Bool.not_false, reduceCtorEq, decide_true, decide_false, Nat.add_zero, Nat.zero_add, F22u1, l2.ldN' (m := 3) rfl, fillA]
  refine q_call (c42 hO (N.ext x1) V (M.ext x1) hk) ?_
  rintro v1 h2 ⟨⟨vo, rfl, Q⟩, x2⟩
  have l6 := Lob.new h2 [.int .i64 ((0 : Nat) : Int), .bool false] (Nat.succ_pos _)
  obtain ⟨ob, g1, g2⟩ := l6.st (o := 0) (vs := [.int .i64 ((runS D f k).pos : Nat), .bool (runS D f k).rf]) (by simp) rfl (by simp)
  have g3 : Lob ((newL h2 [.int .i64 ((0 : Nat) : Int), .bool false]).set h2.next ob) h2.next [.int .i64 ((runS D f k).pos : Nat), .bool (runS D f k).rf] := g2
  have x3 : Ext h2 ((newL h2 [.int .i64 ((0 : Nat) : Int), .bool false]).set h2.next ob) := (Ext.newL h2 _).set (Nat.le_refl _) ob
  simp (disch := omega) only [JJ, opds, updD, ln, Nat.reduceLT, Nat.reduceLeDiff, Nat.reduceEqDiff, Nat.reduceAdd, Nat.reduceMul, ↓reduceIte, if_true, if_false, Bool.false_eq_true, beq_self_eq_true, Bool.not_true, Bool.not_false, reduceCtorEq, decide_true, decide_false, Nat.add_zero, Nat.zero_add, Jx, Jy, g1]
  clear g1 g2 l6
  generalize (newL h2 [.int .i64 ((0 : Nat) : Int), .bool false]).set h2.next ob = h3 at *
  have l3 := l2.ext (x2.trans x3)
  refine q_seq (q_seq (q_reg ?_))
  simp (disch := omega) only [JJ, opds, updD, ln, Nat.reduceLT, Nat.reduceLeDiff, Nat.reduceEqDiff, Nat.reduceAdd, Nat.reduceMul, ↓reduceIte, if_true, if_false, Bool.false_eq_true, beq_self_eq_true, Bool.not_true, Bool.not_false, reduceCtorEq, decide_true, decide_false, Nat.add_zero, Nat.zero_add, F22u2, l3.ldN' (m := 3) rfl, g3.ldN' (m := 2) rfl]
  refine q_call (c43 hO (N.ext ((x1.trans x2).trans x3)) V (runS_pos V k M.2) _) ?_
  rintro v2 h4 ⟨rfl, x4⟩
  simp (disch := omega) only [JJ, opds, updD, ln, Nat.reduceLT, Nat.reduceLeDiff, Nat.reduceEqDiff, Nat.reduceAdd, Nat.reduceMul, ↓reduceIte, if_true, if_false, Bool.false_eq_true, beq_self_eq_true, Bool.not_true, Bool.not_false, reduceCtorEq, decide_true, decide_false, Nat.add_zero, Nat.zero_add]
  have x5 := ((x1.trans x2).trans x3).trans x4
  cases ha : (!(runS D f k).rf && D.E (runS D f k).pos)
  · refine q_cond (q := true) (by simp (disch := omega) only [JJ, opds, updD, ln, Nat.reduceLT, Nat.reduceLeDiff, Nat.reduceEqDiff, Nat.reduceAdd, Nat.reduceMul, ↓reduceIte, if_true, if_false, Bool.false_eq_true, beq_self_eq_true, Bool.not_true, Bool.not_false, reduceCtorEq, decide_true, decide_false, Nat.add_zero, Nat.zero_add]) (fun _ => ?_) (fun h => by cases h)
    refine q_seq (q_reg ?_)
    simp (disch := omega) only [JJ, opds, updD, ln, Nat.reduceLT, Nat.reduceLeDiff, Nat.reduceEqDiff, Nat.reduceAdd, Nat.reduceMul, ↓reduceIte, if_true, if_false, Bool.false_eq_true, beq_self_eq_true, Bool.not_true, Bool.not_false, reduceCtorEq, decide_true, decide_false, Nat.add_zero, Nat.zero_add, F22u3]
    refine q_ret (wpRes_tmp2 (by decide) (by decide) ?_)
    simp (disch := omega) only [JJ, opds, updD, ln, Nat.reduceLT, Nat.reduceLeDiff, Nat.reduceEqDiff, Nat.reduceAdd, Nat.reduceMul, ↓reduceIte, if_true, if_false, Bool.false_eq_true, beq_self_eq_true, Bool.not_true, Bool.not_false, reduceCtorEq, decide_true, decide_false, Nat.add_zero, Nat.zero_add]
    exact ⟨.inl ⟨ha, trivial⟩, x5⟩
  · refine q_cond (q := false) (by simp (disch := omega) only [JJ, opds, updD, ln, Nat.reduceLT, Nat.reduceLeDiff, Nat.reduceEqDiff, Nat.reduceAdd, Nat.reduceMul, ↓reduceIte, if_true, if_false, Bool.false_eq_true, beq_self_eq_true, Bool.not_true, Bool.not_false, reduceCtorEq, decide_true, decide_false, Nat.add_zero, Nat.zero_add]) (fun h => by cases h) (fun _ => ?_)
    refine q_skip ?_
    refine q_seq (q_reg ?_)
    simp (disch := omega) only [JJ, opds, updD, ln, Nat.reduceLT, Nat.reduceLeDiff, Nat.reduceEqDiff, Nat.reduceAdd, Nat.reduceMul, ↓reduceIte, if_true, if_false, Bool.false_eq_true, beq_self_eq_true, Bool.not_true, Bool.not_false, reduceCtorEq, decide_true, decide_false, Nat.add_zero, Nat.zero_add, F22u4]
    refine q_ret (wpRes_tmp2 (by decide) (by decide) ?_)
    simp (disch := omega) only [JJ, opds, updD, ln, Nat.reduceLT, Nat.reduceLeDiff, Nat.reduceEqDiff, Nat.reduceAdd, Nat.reduceMul, ↓reduceIte, if_true, if_false, Bool.false_eq_true, beq_self_eq_true, Bool.not_true, Bool.not_false, reduceCtorEq, decide_true, decide_false, Nat.add_zero, Nat.zero_add]
    exact ⟨.inr ⟨ha, vo, rfl, ((Q.ext x3).ext x4).imp (fun g hg => by have := x1.1; omega)⟩, x5⟩

set_option maxHeartbeats 1000000 in
theorem c8 {vc vr ve : AVal} {rv : Nat → AVal} {D : ND} {h : Hp} (N : NZ h vc vr ve rv D) {vm : AVal} {k : Nat} {f : Nat → Nat} (M : Msg h vm k f) :
    RunsP O E0 8 [.agg [vc, vr, ve], vm] h (fun v h' => (∃ vo c bs, v = .tup [vo, .int .i64 (c : Nat)] ∧ Out h' (h.next ≤ ·) vo bs ∧ FwdR D f k c bs) ∧ Ext h h') := by
  refine q_fn (L := 25) E8 (hO _ _ _ rfl) rfl rfl ?_
  refine q_seq (q_reg ?_)
  simp (disch := omega) only [JJ, opds, updD, ln, Nat.reduceLT, Nat.reduceLeDiff, Nat.reduceEqDiff, Nat.reduceAdd, Nat.reduceMul, ↓reduceIte, if_true, if_false, Bool.false_eq_true, beq_self_eq_true, Bool.not_true, Bool.not_false, reduceCtorEq, decide_true, decide_false, Nat.add_zero, Nat.zero_add, F8u0]
  have l2 := Lob.new h [vc, vr, ve] (Nat.succ_pos _)
  have x1 := Ext.newL h [vc, vr, ve]
  generalize newL h [vc, vr, ve] = h1 at *
  refine q_seq (q_seq (q_reg ?_))
  simp (disch := omega) only [JJ, opds, updD, ln, Nat.reduceLT, Nat.reduceLeDiff, Nat.reduceEqDiff, Nat.reduceAdd, Nat.reduceMul, ↓reduceIte, if_true, if_false, Bool.false_eq_true, beq_self_eq_true, Bool.not_true, Bool.not_false, reduceCtorEq, decide_true, decide_false, Nat.add_zero, Nat.zero_add, F8u1, l2.ldN' (m := 3) rfl]
  refine q_call (c21 hO (N.ext x1)) ?_
  rintro v1 h2 ⟨⟨q, rfl, hq⟩, x2⟩
  replace l2 := l2.ext x2
  replace x1 := x1.trans x2
  have M2 := M.ext x1
  have no : ∀ (N0 : Env → Hp → Prop) (X0 : Nat → Env → Hp → Prop) (e : Env) (h' : Hp), ¬ (ValidR D ∧ k ≤ 4096) → Ext h h' → Wp O E0 25 (.seq (.reg F8u2) .ret) e h' N0 X0 (WpRes 25 [.tmp 4, .tmp 5] fun v h' => (∃ vo c bs, v = .tup [vo, .int .i64 (c : Nat)] ∧ Out h' (h.next ≤ ·) vo bs ∧ FwdR D f k c bs) ∧ Ext h h') := by
    intro N0 X0 e h' hV hx
    refine q_seq (q_reg ?_)
    simp (disch := omega) only [JJ, opds, updD, ln, Nat.reduceLT, Nat.reduceLeDiff, Nat.reduceEqDiff, Nat.reduceAdd, Nat.reduceMul, ↓reduceIte, if_true, if_false, Bool.false_eq_true, beq_self_eq_true, Bool.not_true, Bool.not_false, reduceCtorEq, decide_true, decide_false, Nat.add_zero, Nat.zero_add, F8u2]
    refine q_ret (wpRes_tmp2 (by decide) (by decide) ?_)
    simp (disch := omega) only [JJ, opds, updD, ln, Nat.reduceLT, Nat.reduceLeDiff, Nat.reduceEqDiff, Nat.reduceAdd, Nat.reduceMul, ↓reduceIte, if_true, if_false, Bool.false_eq_true, beq_self_eq_true, Bool.not_true, Bool.not_false, reduceCtorEq, decide_true, decide_false, Nat.add_zero, Nat.zero_add]
    exact ⟨⟨.nils, 1, [], rfl, .inl ⟨rfl, rfl⟩, .inl ⟨hV, rfl, rfl⟩⟩, hx⟩
  cases q
  · simp (disch := omega) only [JJ, opds, updD, ln, Nat.reduceLT, Nat.reduceLeDiff, Nat.reduceEqDiff, Nat.reduceAdd, Nat.reduceMul, ↓reduceIte, if_true, if_false, Bool.false_eq_true, beq_self_eq_true, Bool.not_true, Bool.not_false, reduceCtorEq, decide_true, decide_false, Nat.add_zero, Nat.zero_add]
    refine q_cond (q := true) (by simp (disch := omega) only [JJ, opds, updD, ln, Nat.reduceLT, Nat.reduceLeDiff, Nat.reduceEqDiff, Nat.reduceAdd, Nat.reduceMul, ↓reduceIte, if_true, if_false, Bool.false_eq_true, beq_self_eq_true, Bool.not_true, Bool.not_false, reduceCtorEq, decide_true, decide_false, Nat.add_zero, Nat.zero_add]) (fun _ => ?_) (fun h => by cases h)
    exact no _ _ _ _ (fun hV => by have := hq.2 hV.1; cases this) x1
  have V := hq.1 rfl
  simp (disch := omega) only [JJ, opds, updD, ln, Nat.reduceLT, Nat.reduceLeDiff, Nat.reduceEqDiff, Nat.reduceAdd, Nat.reduceMul, ↓reduceIte, if_true, if_false, Bool.false_eq_true, beq_self_eq_true, Bool.not_true, Bool.not_false, reduceCtorEq, decide_true, decide_false, Nat.add_zero, Nat.zero_add, M2.1.len, b_gtr, c_lt]
  by_cases hk : 4096 < k
  · refine q_cond (q := true) (by simp (disch := omega) only [JJ, opds, updD, ln, Nat.reduceLT, Nat.reduceLeDiff, Nat.reduceEqDiff, Nat.reduceAdd, Nat.reduceMul, ↓reduceIte, if_true, if_false, Bool.false_eq_true, beq_self_eq_true, Bool.not_true, Bool.not_false, reduceCtorEq, decide_true, decide_false, Nat.add_zero, Nat.zero_add, hk]) (fun _ => ?_) (fun h => by cases h)
    exact no _ _ _ _ (fun hV => by omega) x1
  refine q_cond (q := false) (by simp (disch := omega) only [JJ, opds, updD, ln, Nat.reduceLT, Nat.reduceLeDiff, Nat.reduceEqDiff, Nat.reduceAdd, Nat.reduceMul, ↓reduceIte, if_true, if_false, Bool.false_eq_true, beq_self_eq_true, Bool.not_true, Bool.not_false, reduceCtorEq, decide_true, decide_false, Nat.add_zero, Nat.zero_add, hk]) (fun h => by cases h) (fun _ => ?_)
  refine q_skip ?_
  refine q_seq (q_reg ?_)
  simp (disch := omega) only [JJ, opds, updD, ln, Nat.reduceLT, Nat.reduceLeDiff, Nat.reduceEqDiff, Nat.reduceAdd, Nat.reduceMul, ↓reduceIte, if_true, if_false, Bool.false_eq_true, beq_self_eq_true, Bool.not_true, Bool.not_false, reduceCtorEq, decide_true, decide_false, Nat.add_zero, Nat.zero_add, F8u3, l2.ldN' (m := 3) rfl]
  refine q_call (c22 hO (N.ext x1) V M2 (by omega)) ?_
  rintro v2 h3 ⟨⟨ha, rfl⟩ | ⟨ha, vo, rfl, Q⟩, x3⟩
  · simp (disch := omega) only [JJ, opds, updD, ln, Nat.reduceLT, Nat.reduceLeDiff, Nat.reduceEqDiff, Nat.reduceAdd, Nat.reduceMul, ↓reduceIte, if_true, if_false, Bool.false_eq_true, beq_self_eq_true, Bool.not_true, Bool.not_false, reduceCtorEq, decide_true, decide_false, Nat.add_zero, Nat.zero_add, Jx, Jy]
    refine q_seq (q_seq (q_reg ?_))
    simp (disch := omega) only [JJ, opds, updD, ln, Nat.reduceLT, Nat.reduceLeDiff, Nat.reduceEqDiff, Nat.reduceAdd, Nat.reduceMul, ↓reduceIte, if_true, if_false, Bool.false_eq_true, beq_self_eq_true, Bool.not_true, Bool.not_false, reduceCtorEq, decide_true, decide_false, Nat.add_zero, Nat.zero_add, F8u4]
    refine q_cond (q := true) (by simp (disch := omega) only [JJ, opds, updD, ln, Nat.reduceLT, Nat.reduceLeDiff, Nat.reduceEqDiff, Nat.reduceAdd, Nat.reduceMul, ↓reduceIte, if_true, if_false, Bool.false_eq_true, beq_self_eq_true, Bool.not_true, Bool.not_false, reduceCtorEq, decide_true, decide_false, Nat.add_zero, Nat.zero_add]) (fun _ => ?_) (fun h => by cases h)
    refine q_seq (q_reg ?_)
    simp (disch := omega) only [JJ, opds, updD, ln, Nat.reduceLT, Nat.reduceLeDiff, Nat.reduceEqDiff, Nat.reduceAdd, Nat.reduceMul, ↓reduceIte, if_true, if_false, Bool.false_eq_true, beq_self_eq_true, Bool.not_true, Bool.not_false, reduceCtorEq, decide_true, decide_false, Nat.add_zero, Nat.zero_add, F8u5]
    refine q_ret (wpRes_tmp2 (by decide) (by decide) ?_)
    simp (disch := omega) only [JJ, opds, updD, ln, Nat.reduceLT, Nat.reduceLeDiff, Nat.reduceEqDiff, Nat.reduceAdd, Nat.reduceMul, ↓reduceIte, if_true, if_false, Bool.false_eq_true, beq_self_eq_true, Bool.not_true, Bool.not_false, reduceCtorEq, decide_true, decide_false, Nat.add_zero, Nat.zero_add]
    exact ⟨⟨.nils, 3, [], rfl, .inl ⟨rfl, rfl⟩, .inr (.inl ⟨V, by omega, ha, rfl, rfl⟩)⟩, x1.trans x3⟩
  · simp (disch := omega) only [JJ, opds, updD, ln, Nat.reduceLT, Nat.reduceLeDiff, Nat.reduceEqDiff, Nat.reduceAdd, Nat.reduceMul, ↓reduceIte, if_true, if_false, Bool.false_eq_true, beq_self_eq_true, Bool.not_true, Bool.not_false, reduceCtorEq, decide_true, decide_false, Nat.add_zero, Nat.zero_add, Jx, Jy]
    refine q_seq (q_seq (q_reg ?_))
    simp (disch := omega) only [JJ, opds, updD, ln, Nat.reduceLT, Nat.reduceLeDiff, Nat.reduceEqDiff, Nat.reduceAdd, Nat.reduceMul, ↓reduceIte, if_true, if_false, Bool.false_eq_true, beq_self_eq_true, Bool.not_true, Bool.not_false, reduceCtorEq, decide_true, decide_false, Nat.add_zero, Nat.zero_add, F8u4]
    refine q_cond (q := false) (by simp (disch := omega) only [JJ, opds, updD, ln, Nat.reduceLT, Nat.reduceLeDiff, Nat.reduceEqDiff, Nat.reduceAdd, Nat.reduceMul, ↓reduceIte, if_true, if_false, Bool.false_eq_true, beq_self_eq_true, Bool.not_true, Bool.not_false, reduceCtorEq, decide_true, decide_false, Nat.add_zero, Nat.zero_add]) (fun h => by cases h) (fun _ => ?_)
    refine q_skip ?_
    refine q_seq (q_reg ?_)
    simp (disch := omega) only [JJ, opds, updD, ln, Nat.reduceLT, Nat.reduceLeDiff, Nat.reduceEqDiff, Nat.reduceAdd, Nat.reduceMul, ↓reduceIte, if_true, if_false, Bool.false_eq_true, beq_self_eq_true, Bool.not_true, Bool.not_false, reduceCtorEq, decide_true, decide_false, Nat.add_zero, Nat.zero_add, F8u6]
    refine q_ret (wpRes_tmp2 (by decide) (by decide) ?_)
    simp (disch := omega) only [JJ, opds, updD, ln, Nat.reduceLT, Nat.reduceLeDiff, Nat.reduceEqDiff, Nat.reduceAdd, Nat.reduceMul, ↓reduceIte, if_true, if_false, Bool.false_eq_true, beq_self_eq_true, Bool.not_true, Bool.not_false, reduceCtorEq, decide_true, decide_false, Nat.add_zero, Nat.zero_add]
    exact ⟨⟨vo, 0, _, rfl, Q.imp (fun g hg => by have := x1.1; omega), .inr (.inr ⟨V, by omega, ha, rfl, rfl⟩)⟩, x1.trans x3⟩
end
end Go.Proofs.YtfaeabhbeolpgaaGreatDoor
end
