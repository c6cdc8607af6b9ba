/- Classes of bytes, part 4: the reference's union. Conditions: none. -/
import Derived.Test.YtfaeabhbeolpgaaGreatDoorSa3
set_option linter.all false
noncomputable section
open Go Go.Am Univ
namespace Go.Proofs.YtfaeabhbeolpgaaGreatDoor
section
variable {O : Orc} (hO : Only O)
include hO
set_option maxHeartbeats 1000000 in
theorem c72 (a b : Nat → Nat) (h : Hp) (ha : ∀ j, a j < 2 ^ 64) (hb : ∀ j, b j < 2 ^ 64) : RunsP O E0 72 [.agg (cw a), .agg (cw b)] h (fun v h' => (∃ u, v = .agg (cw u) ∧ Set u (fun c => has a c || has b c)) ∧ Ext h h') := by
  refine q_fn (L := 27) E72 (hO _ _ _ rfl) rfl rfl ?_
  refine q_seq (q_reg ?_)
  simp (disch := omega) only [JJ, opds, updD, ln, Nat.reduceLT, Nat.reduceLeDiff, Nat.reduceEqDiff, Nat.reduceAdd, Nat.reduceMul, ↓reduceIte, if_true, if_false, Bool.false_eq_true, beq_self_eq_true, Bool.not_true, Bool.not_false, reduceCtorEq, decide_true, decide_false, Nat.add_zero, Nat.zero_add, F72u0, zero_cw]
  have l2 := ((Lob.new h (cw a) (Nat.succ_pos _)).newL (l' := cw b)).newL (l' := cw fun _ => 0)
  have l3 := (Lob.new (newL h (cw a)) (cw b) (Nat.succ_pos _)).newL (l' := cw fun _ => 0)
  have l4 := Lob.new (newL (newL h (cw a)) (cw b)) (cw fun _ => 0) (Nat.succ_pos _)
  have x1 := ((Ext.newL h (cw a)).trans (Ext.newL _ (cw b))).trans (Ext.newL _ (cw fun _ => 0))
  rw [QM] at l3
  rw [QM, QM] at l4
  have n1 : (newL (newL (newL h (cw a)) (cw b)) (cw fun _ => 0)).next = h.next + 1 + 1 + 1 := rfl
  generalize newL (newL (newL h (cw a)) (cw b)) (cw fun _ => 0) = h1 at *
  refine q_seq (q_reg ?_)
  have l5 := Lob.new h1 (cw fun _ => 0) (Nat.succ_pos _)
  replace l2 := l2.newL (l' := cw fun _ => 0)
  replace l3 := l3.newL (l' := cw fun _ => 0)
  replace l4 := l4.newL (l' := cw fun _ => 0)
  replace x1 := x1.trans (Ext.newL _ (cw fun _ => 0))
  obtain ⟨ob, g1, g2⟩ := l5.st (o := 0) (vs := cw fun _ => 0) (Nat.le_refl _) rfl (Nat.succ_pos _)
  rw [blit_all (by rfl)] at g2
  rw [n1] at l5 g1 g2
  have g1' : gst (newL h1 (cw fun _ => 0)) (h.next + 1 + 1 + 1) 0 [.int .u64 ((0 : Nat) : Int), .int .u64 ((0 : Nat) : Int), .int .u64 ((0 : Nat) : Int), .int .u64 ((0 : Nat) : Int)] = some ((newL h1 (cw fun _ => 0)).set (h.next + 1 + 1 + 1) ob) := g1
  simp (disch := omega) only [JJ, opds, updD, ln, Nat.reduceLT, Nat.reduceLeDiff, Nat.reduceEqDiff, Nat.reduceAdd, Nat.reduceMul, ↓reduceIte, if_true, if_false, Bool.false_eq_true, beq_self_eq_true, Bool.not_true, Bool.not_false, reduceCtorEq, decide_true, decide_false, Nat.add_zero, Nat.zero_add, F72u1, zero_cw, fillA, n1, g1']
  replace l2 := l2.set_ne (g := h.next + 1 + 1 + 1) (ob := ob) (by omega)
  replace l3 := l3.set_ne (g := h.next + 1 + 1 + 1) (ob := ob) (by omega)
  replace l4 := l4.set_ne (g := h.next + 1 + 1 + 1) (ob := ob) (by omega)
  replace x1 := x1.set (g := h.next + 1 + 1 + 1) (by omega) ob
  clear g1 g1' l5
  generalize (newL h1 (cw fun _ => 0)).set (h.next + 1 + 1 + 1) ob = h2 at *
  refine q_seq (q_seq (q_reg ?_))
  simp (disch := omega) only [JJ, opds, updD, ln, Nat.reduceLT, Nat.reduceLeDiff, Nat.reduceEqDiff, Nat.reduceAdd, Nat.reduceMul, ↓reduceIte, if_true, if_false, Bool.false_eq_true, beq_self_eq_true, Bool.not_true, Bool.not_false, reduceCtorEq, decide_true, decide_false, Nat.add_zero, Nat.zero_add, F72u2]
  refine q_block ?_
  refine q_loop (fun n e h' => ∃ i u, i ≤ 256 ∧ n = 256 - i ∧ e 6 = .int .i64 (i : Nat) ∧ e 2 = .ptr h.next 0 ∧ e 3 = .ptr (h.next + 1) 0 ∧ e 4 = .ptr (h.next + 1 + 1) 0 ∧ e 5 = .ptr (h.next + 1 + 1 + 1) 0 ∧ Set u (fun c => decide (c < i) && (has a c || has b c)) ∧
    Lob h' h.next (cw a) ∧ Lob h' (h.next + 1) (cw b) ∧ Lob h' (h.next + 1 + 1) (cw fun _ => 0) ∧ Lob h' (h.next + 1 + 1 + 1) (cw u) ∧ Ext h h') 256
    ⟨0, fun _ => 0, by omega, by omega, by simp (disch := omega) only [JJ, opds, updD, ln, Nat.reduceLT, Nat.reduceLeDiff, Nat.reduceEqDiff, Nat.reduceAdd, Nat.reduceMul, ↓reduceIte, if_true, if_false, Bool.false_eq_true, beq_self_eq_true, Bool.not_true, Bool.not_false, reduceCtorEq, decide_true, decide_false, Nat.add_zero, Nat.zero_add], by simp (disch := omega) only [JJ, opds, updD, ln, Nat.reduceLT, Nat.reduceLeDiff, Nat.reduceEqDiff, Nat.reduceAdd, Nat.reduceMul, ↓reduceIte, if_true, if_false, Bool.false_eq_true, beq_self_eq_true, Bool.not_true, Bool.not_false, reduceCtorEq, decide_true, decide_false, Nat.add_zero, Nat.zero_add], by simp (disch := omega) only [JJ, opds, updD, ln, Nat.reduceLT, Nat.reduceLeDiff, Nat.reduceEqDiff, Nat.reduceAdd, Nat.reduceMul, ↓reduceIte, if_true, if_false, Bool.false_eq_true, beq_self_eq_true, Bool.not_true, Bool.not_false, reduceCtorEq, decide_true, decide_false, Nat.add_zero, Nat.zero_add], by simp (disch := omega) only [JJ, opds, updD, ln, Nat.reduceLT, Nat.reduceLeDiff, Nat.reduceEqDiff, Nat.reduceAdd, Nat.reduceMul, ↓reduceIte, if_true, if_false, Bool.false_eq_true, beq_self_eq_true, Bool.not_true, Bool.not_false, reduceCtorEq, decide_true, decide_false, Nat.add_zero, Nat.zero_add], by simp (disch := omega) only [JJ, opds, updD, ln, Nat.reduceLT, Nat.reduceLeDiff, Nat.reduceEqDiff, Nat.reduceAdd, Nat.reduceMul, ↓reduceIte, if_true, if_false, Bool.false_eq_true, beq_self_eq_true, Bool.not_true, Bool.not_false, reduceCtorEq, decide_true, decide_false, Nat.add_zero, Nat.zero_add], Set.zero.imp (fun _ _ => by simp), l2, l3, l4, g2, x1⟩ ?_
  clear l2 l3 l4 g2 x1 n1
  rintro n e h' ⟨i, u, hi, rfl, e6, e2, e3, e4, e5, su, l2, l3, l4, l5, x1⟩
  refine q_seq (q_seq (q_reg ?_))
  simp (disch := omega) only [JJ, opds, updD, ln, Nat.reduceLT, Nat.reduceLeDiff, Nat.reduceEqDiff, Nat.reduceAdd, Nat.reduceMul, ↓reduceIte, if_true, if_false, Bool.false_eq_true, beq_self_eq_true, Bool.not_true, Bool.not_false, reduceCtorEq, decide_true, decide_false, Nat.add_zero, Nat.zero_add, F72u3, e6, b_lss, c_lt]
  refine q_cond (q := decide (i < 256)) (by simp (disch := omega) only [JJ, opds, updD, ln, Nat.reduceLT, Nat.reduceLeDiff, Nat.reduceEqDiff, Nat.reduceAdd, Nat.reduceMul, ↓reduceIte, if_true, if_false, Bool.false_eq_true, beq_self_eq_true, Bool.not_true, Bool.not_false, reduceCtorEq, decide_true, decide_false, Nat.add_zero, Nat.zero_add]) (fun hc => ?_) (fun hc => ?_)
  · have hi4 := of_decide_eq_true hc
    refine q_skip ?_
    refine q_seq (q_block (q_seq (q_reg ?_)))
    simp (disch := omega) only [JJ, opds, updD, ln, Nat.reduceLT, Nat.reduceLeDiff, Nat.reduceEqDiff, Nat.reduceAdd, Nat.reduceMul, ↓reduceIte, if_true, if_false, Bool.false_eq_true, beq_self_eq_true, Bool.not_true, Bool.not_false, reduceCtorEq, decide_true, decide_false, Nat.add_zero, Nat.zero_add, F72u4, e2, e3, e6, l2.ldN' (m := 4) rfl, k_u8]
    refine q_call (c113 hO a i _ ha hi4) ?_
    rintro v h3 ⟨rfl, x2⟩
    cases ha1 : has a i
    · have l3' := l3.ext x2
      simp (disch := omega) only [JJ, opds, updD, ln, Nat.reduceLT, Nat.reduceLeDiff, Nat.reduceEqDiff, Nat.reduceAdd, Nat.reduceMul, ↓reduceIte, if_true, if_false, Bool.false_eq_true, beq_self_eq_true, Bool.not_true, Bool.not_false, reduceCtorEq, decide_true, decide_false, Nat.add_zero, Nat.zero_add, e3, e6, l3'.ldN' (m := 4) rfl, k_u8]
      refine q_call (c113 hO b i _ hb hi4) ?_
      rintro v h4 ⟨rfl, x3⟩
      have x4 := x2.trans x3
      cases hb1 : has b i
      · have sn : Set u (fun c => decide (c < i + 1) && (has a c || has b c)) := su.imp fun c _ => by
          by_cases h1 : c = i
          · subst h1; simp [ha1, hb1]
          · have : c < i + 1 ↔ c < i := by omega
            simp [this]
        simp (disch := omega) only [JJ, opds, updD, ln, Nat.reduceLT, Nat.reduceLeDiff, Nat.reduceEqDiff, Nat.reduceAdd, Nat.reduceMul, ↓reduceIte, if_true, if_false, Bool.false_eq_true, beq_self_eq_true, Bool.not_true, Bool.not_false, reduceCtorEq, decide_true, decide_false, Nat.add_zero, Nat.zero_add]
        refine q_cond (q := false) (by simp (disch := omega) only [JJ, opds, updD, ln, Nat.reduceLT, Nat.reduceLeDiff, Nat.reduceEqDiff, Nat.reduceAdd, Nat.reduceMul, ↓reduceIte, if_true, if_false, Bool.false_eq_true, beq_self_eq_true, Bool.not_true, Bool.not_false, reduceCtorEq, decide_true, decide_false, Nat.add_zero, Nat.zero_add]) (fun h => by cases h) (fun _ => ?_)
        refine q_skip ?_
        refine q_reg ?_
        simp (disch := omega) only [JJ, opds, updD, ln, Nat.reduceLT, Nat.reduceLeDiff, Nat.reduceEqDiff, Nat.reduceAdd, Nat.reduceMul, ↓reduceIte, if_true, if_false, Bool.false_eq_true, beq_self_eq_true, Bool.not_true, Bool.not_false, reduceCtorEq, decide_true, decide_false, Nat.add_zero, Nat.zero_add, F72u6, e6, b_add_i64]
        exact ⟨256 - (i + 1), by omega, i + 1, u, by omega, rfl, by simp (disch := omega) only [JJ, opds, updD, ln, Nat.reduceLT, Nat.reduceLeDiff, Nat.reduceEqDiff, Nat.reduceAdd, Nat.reduceMul, ↓reduceIte, if_true, if_false, Bool.false_eq_true, beq_self_eq_true, Bool.not_true, Bool.not_false, reduceCtorEq, decide_true, decide_false, Nat.add_zero, Nat.zero_add], by simp (disch := omega) only [JJ, opds, updD, ln, Nat.reduceLT, Nat.reduceLeDiff, Nat.reduceEqDiff, Nat.reduceAdd, Nat.reduceMul, ↓reduceIte, if_true, if_false, Bool.false_eq_true, beq_self_eq_true, Bool.not_true, Bool.not_false, reduceCtorEq, decide_true, decide_false, Nat.add_zero, Nat.zero_add, e2], by simp (disch := omega) only [JJ, opds, updD, ln, Nat.reduceLT, Nat.reduceLeDiff, Nat.reduceEqDiff, Nat.reduceAdd, Nat.reduceMul, ↓reduceIte, if_true, if_false, Bool.false_eq_true, beq_self_eq_true, Bool.not_true, Bool.not_false, reduceCtorEq, decide_true, decide_false, Nat.add_zero, Nat.zero_add, e3], by simp (disch := omega) only [JJ, opds, updD, ln, Nat.reduceLT, Nat.reduceLeDiff, Nat.reduceEqDiff, Nat.reduceAdd, Nat.reduceMul, ↓reduceIte, if_true, if_false, Bool.false_eq_true, beq_self_eq_true, Bool.not_true, Bool.not_false, reduceCtorEq, decide_true, decide_false, Nat.add_zero, Nat.zero_add, e4], by simp (disch := omega) only [JJ, opds, updD, ln, Nat.reduceLT, Nat.reduceLeDiff, Nat.reduceEqDiff, Nat.reduceAdd, Nat.reduceMul, ↓reduceIte, if_true, if_false, Bool.false_eq_true, beq_self_eq_true, Bool.not_true, Bool.not_false, reduceCtorEq, decide_true, decide_false, Nat.add_zero, Nat.zero_add, e5], sn, l2.ext x4, l3.ext x4, l4.ext x4, l5.ext x4, x1.trans x4⟩
      · have sn : Set (withW u i) (fun c => decide (c < i + 1) && (has a c || has b c)) := su.add fun c _ => by
          by_cases h1 : c = i
          · subst h1; simp [ha1, hb1]
          · have : c < i + 1 ↔ c < i := by omega
            simp [this, h1]
        simp (disch := omega) only [JJ, opds, updD, ln, Nat.reduceLT, Nat.reduceLeDiff, Nat.reduceEqDiff, Nat.reduceAdd, Nat.reduceMul, ↓reduceIte, if_true, if_false, Bool.false_eq_true, beq_self_eq_true, Bool.not_true, Bool.not_false, reduceCtorEq, decide_true, decide_false, Nat.add_zero, Nat.zero_add]
        refine q_cond (q := true) (by simp (disch := omega) only [JJ, opds, updD, ln, Nat.reduceLT, Nat.reduceLeDiff, Nat.reduceEqDiff, Nat.reduceAdd, Nat.reduceMul, ↓reduceIte, if_true, if_false, Bool.false_eq_true, beq_self_eq_true, Bool.not_true, Bool.not_false, reduceCtorEq, decide_true, decide_false, Nat.add_zero, Nat.zero_add]) (fun _ => ?_) (fun h => by cases h)
        refine q_reg ?_
        have l5' := l5.ext x4
        simp (disch := omega) only [JJ, opds, updD, ln, Nat.reduceLT, Nat.reduceLeDiff, Nat.reduceEqDiff, Nat.reduceAdd, Nat.reduceMul, ↓reduceIte, if_true, if_false, Bool.false_eq_true, beq_self_eq_true, Bool.not_true, Bool.not_false, reduceCtorEq, decide_true, decide_false, Nat.add_zero, Nat.zero_add, F72u5, e5, e6, l5'.ldN' (m := 4) rfl, k_u8]
        refine q_call (c114 hO u i _ su.1 hi4) ?_
        rintro v h5 ⟨rfl, x5⟩
        have x6 := Ext.trans x4 x5
        obtain ⟨ob, g1, g2⟩ := (l5.ext x6).st (o := 0) (vs := cw (withW u i)) (Nat.le_refl _) rfl (Nat.succ_pos _)
        rw [blit_all (by rfl)] at g2
        simp (disch := omega) only [JJ, opds, updD, ln, Nat.reduceLT, Nat.reduceLeDiff, Nat.reduceEqDiff, Nat.reduceAdd, Nat.reduceMul, ↓reduceIte, if_true, if_false, Bool.false_eq_true, beq_self_eq_true, Bool.not_true, Bool.not_false, reduceCtorEq, decide_true, decide_false, Nat.add_zero, Nat.zero_add, e5, ln_cw, g1]
        refine q_reg ?_
        simp (disch := omega) only [JJ, opds, updD, ln, Nat.reduceLT, Nat.reduceLeDiff, Nat.reduceEqDiff, Nat.reduceAdd, Nat.reduceMul, ↓reduceIte, if_true, if_false, Bool.false_eq_true, beq_self_eq_true, Bool.not_true, Bool.not_false, reduceCtorEq, decide_true, decide_false, Nat.add_zero, Nat.zero_add, F72u6, e6, b_add_i64]
        exact ⟨256 - (i + 1), by omega, i + 1, withW u i, by omega, rfl, by simp (disch := omega) only [JJ, opds, updD, ln, Nat.reduceLT, Nat.reduceLeDiff, Nat.reduceEqDiff, Nat.reduceAdd, Nat.reduceMul, ↓reduceIte, if_true, if_false, Bool.false_eq_true, beq_self_eq_true, Bool.not_true, Bool.not_false, reduceCtorEq, decide_true, decide_false, Nat.add_zero, Nat.zero_add], by simp (disch := omega) only [JJ, opds, updD, ln, Nat.reduceLT, Nat.reduceLeDiff, Nat.reduceEqDiff, Nat.reduceAdd, Nat.reduceMul, ↓reduceIte, if_true, if_false, Bool.false_eq_true, beq_self_eq_true, Bool.not_true, Bool.not_false, reduceCtorEq, decide_true, decide_false, Nat.add_zero, Nat.zero_add, e2], by simp (disch := omega) only [JJ, opds, updD, ln, Nat.reduceLT, Nat.reduceLeDiff, Nat.reduceEqDiff, Nat.reduceAdd, Nat.reduceMul, ↓reduceIte, if_true, if_false, Bool.false_eq_true, beq_self_eq_true, Bool.not_true, Bool.not_false, reduceCtorEq, decide_true, decide_false, Nat.add_zero, Nat.zero_add, e3], by simp (disch := omega) only [JJ, opds, updD, ln, Nat.reduceLT, Nat.reduceLeDiff, Nat.reduceEqDiff, Nat.reduceAdd, Nat.reduceMul, ↓reduceIte, if_true, if_false, Bool.false_eq_true, beq_self_eq_true, Bool.not_true, Bool.not_false, reduceCtorEq, decide_true, decide_false, Nat.add_zero, Nat.zero_add, e4], by simp (disch := omega) only [JJ, opds, updD, ln, Nat.reduceLT, Nat.reduceLeDiff, Nat.reduceEqDiff, Nat.reduceAdd, Nat.reduceMul, ↓reduceIte, if_true, if_false, Bool.false_eq_true, beq_self_eq_true, Bool.not_true, Bool.not_false, reduceCtorEq, decide_true, decide_false, Nat.add_zero, Nat.zero_add, e5], sn, (l2.ext x6).set_ne (by omega), (l3.ext x6).set_ne (by omega), (l4.ext x6).set_ne (by omega), g2, (x1.trans x6).set (by omega) _⟩
    · have sn : Set (withW u i) (fun c => decide (c < i + 1) && (has a c || has b c)) := su.add fun c _ => by
        by_cases h1 : c = i
        · subst h1; simp [ha1]
        · have : c < i + 1 ↔ c < i := by omega
          simp [this, h1]
      simp (disch := omega) only [JJ, opds, updD, ln, Nat.reduceLT, Nat.reduceLeDiff, Nat.reduceEqDiff, Nat.reduceAdd, Nat.reduceMul, ↓reduceIte, if_true, if_false, Bool.false_eq_true, beq_self_eq_true, Bool.not_true, Bool.not_false, reduceCtorEq, decide_true, decide_false, Nat.add_zero, Nat.zero_add]
      refine q_cond (q := true) (by simp (disch := omega) only [JJ, opds, updD, ln, Nat.reduceLT, Nat.reduceLeDiff, Nat.reduceEqDiff, Nat.reduceAdd, Nat.reduceMul, ↓reduceIte, if_true, if_false, Bool.false_eq_true, beq_self_eq_true, Bool.not_true, Bool.not_false, reduceCtorEq, decide_true, decide_false, Nat.add_zero, Nat.zero_add]) (fun _ => ?_) (fun h => by cases h)
      refine q_reg ?_
      have l5' := l5.ext x2
      simp (disch := omega) only [JJ, opds, updD, ln, Nat.reduceLT, Nat.reduceLeDiff, Nat.reduceEqDiff, Nat.reduceAdd, Nat.reduceMul, ↓reduceIte, if_true, if_false, Bool.false_eq_true, beq_self_eq_true, Bool.not_true, Bool.not_false, reduceCtorEq, decide_true, decide_false, Nat.add_zero, Nat.zero_add, F72u5, e5, e6, l5'.ldN' (m := 4) rfl, k_u8]
      refine q_call (c114 hO u i _ su.1 hi4) ?_
      rintro v h5 ⟨rfl, x5⟩
      have x6 := Ext.trans x2 x5
      obtain ⟨ob, g1, g2⟩ := (l5.ext x6).st (o := 0) (vs := cw (withW u i)) (Nat.le_refl _) rfl (Nat.succ_pos _)
      rw [blit_all (by rfl)] at g2
      simp (disch := omega) only [JJ, opds, updD, ln, Nat.reduceLT, Nat.reduceLeDiff, Nat.reduceEqDiff, Nat.reduceAdd, Nat.reduceMul, ↓reduceIte, if_true, if_false, Bool.false_eq_true, beq_self_eq_true, Bool.not_true, Bool.not_false, reduceCtorEq, decide_true, decide_false, Nat.add_zero, Nat.zero_add, e5, ln_cw, g1]
      refine q_reg ?_
      simp (disch := omega) only [JJ, opds, updD, ln, Nat.reduceLT, Nat.reduceLeDiff, Nat.reduceEqDiff, Nat.reduceAdd, Nat.reduceMul, ↓reduceIte, if_true, if_false, Bool.false_eq_true, beq_self_eq_true, Bool.not_true, Bool.not_false, reduceCtorEq, decide_true, decide_false, Nat.add_zero, Nat.zero_add, F72u6, e6, b_add_i64]
      exact ⟨256 - (i + 1), by omega, i + 1, withW u i, by omega, rfl, by simp (disch := omega) only [JJ, opds, updD, ln, Nat.reduceLT, Nat.reduceLeDiff, Nat.reduceEqDiff, Nat.reduceAdd, Nat.reduceMul, ↓reduceIte, if_true, if_false, Bool.false_eq_true, beq_self_eq_true, Bool.not_true, Bool.not_false, reduceCtorEq, decide_true, decide_false, Nat.add_zero, Nat.zero_add], by simp (disch := omega) only [JJ, opds, updD, ln, Nat.reduceLT, Nat.reduceLeDiff, Nat.reduceEqDiff, Nat.reduceAdd, Nat.reduceMul, ↓reduceIte, if_true, if_false, Bool.false_eq_true, beq_self_eq_true, Bool.not_true, Bool.not_false, reduceCtorEq, decide_true, decide_false, Nat.add_zero, Nat.zero_add, e2], by simp (disch := omega) only [JJ, opds, updD, ln, Nat.reduceLT, Nat.reduceLeDiff, Nat.reduceEqDiff, Nat.reduceAdd, Nat.reduceMul, ↓reduceIte, if_true, if_false, Bool.false_eq_true, beq_self_eq_true, Bool.not_true, Bool.not_false, reduceCtorEq, decide_true, decide_false, Nat.add_zero, Nat.zero_add, e3], by simp (disch := omega) only [JJ, opds, updD, ln, Nat.reduceLT, Nat.reduceLeDiff, Nat.reduceEqDiff, Nat.reduceAdd, Nat.reduceMul, ↓reduceIte, if_true, if_false, Bool.false_eq_true, beq_self_eq_true, Bool.not_true, Bool.not_false, reduceCtorEq, decide_true, decide_false, Nat.add_zero, Nat.zero_add, e4], by simp (disch := omega) only [JJ, opds, updD, ln, Nat.reduceLT, Nat.reduceLeDiff, Nat.reduceEqDiff, Nat.reduceAdd, Nat.reduceMul, ↓reduceIte, if_true, if_false, Bool.false_eq_true, beq_self_eq_true, Bool.not_true, Bool.not_false, reduceCtorEq, decide_true, decide_false, Nat.add_zero, Nat.zero_add, e5], sn, (l2.ext x6).set_ne (by omega), (l3.ext x6).set_ne (by omega), (l4.ext x6).set_ne (by omega), g2, (x1.trans x6).set (by omega) _⟩
  · have hi4 : i = 256 := by have := of_decide_eq_false hc; omega
    subst hi4
    refine q_exit ?_
    simp (disch := omega) only [JJ, opds, updD, ln, Nat.reduceLT, Nat.reduceLeDiff, Nat.reduceEqDiff, Nat.reduceAdd, Nat.reduceMul, ↓reduceIte, if_true, if_false, Bool.false_eq_true, beq_self_eq_true, Bool.not_true, Bool.not_false, reduceCtorEq, decide_true, decide_false, Nat.add_zero, Nat.zero_add]
    refine q_seq (q_reg ?_)
    obtain ⟨ob, g1, g2⟩ := l4.st (o := 0) (vs := cw u) (Nat.le_refl _) rfl (Nat.succ_pos _)
    rw [blit_all (by rfl)] at g2
    simp (disch := omega) only [JJ, opds, updD, ln, Nat.reduceLT, Nat.reduceLeDiff, Nat.reduceEqDiff, Nat.reduceAdd, Nat.reduceMul, ↓reduceIte, if_true, if_false, Bool.false_eq_true, beq_self_eq_true, Bool.not_true, Bool.not_false, reduceCtorEq, decide_true, decide_false, Nat.add_zero, Nat.zero_add, F72u7, e5, e4, l5.ldN' (m := 4) rfl, ln_cw, g1]
    refine q_ret ?_
    exact wpRes_cellN (by decide) (by simp (disch := omega) only [JJ, opds, updD, ln, Nat.reduceLT, Nat.reduceLeDiff, Nat.reduceEqDiff, Nat.reduceAdd, Nat.reduceMul, ↓reduceIte, if_true, if_false, Bool.false_eq_true, beq_self_eq_true, Bool.not_true, Bool.not_false, reduceCtorEq, decide_true, decide_false, Nat.add_zero, Nat.zero_add, e4]) g2 rfl ⟨⟨u, rfl, su.imp fun c hc => by simp [hc]⟩, x1.set (by omega) _⟩
end
end Go.Proofs.YtfaeabhbeolpgaaGreatDoor
end
