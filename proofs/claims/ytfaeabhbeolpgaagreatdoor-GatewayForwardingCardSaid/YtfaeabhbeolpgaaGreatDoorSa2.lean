/- Classes of bytes, part 2: unions, members. Conditions: none. -/
import Derived.Test.YtfaeabhbeolpgaaGreatDoorSa1
set_option linter.all false
noncomputable section
open Go Go.Am Univ
namespace Go.Proofs.YtfaeabhbeolpgaaGreatDoor
theorem zero_cw (h : Hp) : newL h [.int .u64 ((0 : Nat) : Int), .int .u64 ((0 : Nat) : Int), .int .u64 ((0 : Nat) : Int), .int .u64 ((0 : Nat) : Int)] = newL h (cw fun _ => 0) := (rfl)
theorem blit_cw (w : Nat → Nat) {i x : Nat} (hi : i < 4) : blit (cw w) i [.int .u64 (x : Int)] = cw (fun j => if j = i then x else w j) := by
  rcases i with _ | _ | _ | _ | i
  · rfl
  · rfl
  · rfl
  · rfl
  · omega
theorem cw_congr {a b : Nat → Nat} (h : ∀ j, j < 4 → a j = b j) : cw a = cw b := by
  simp only [cw, h 0 (by omega), h 1 (by omega), h 2 (by omega), h 3 (by omega)]
def has (w : Nat → Nat) (b : Nat) : Bool := (w (b / 64)).testBit (b % 64)
section
variable {O : Orc} (hO : Only O)
include hO

set_option maxHeartbeats 1000000 in
theorem c64 (a b : Nat → Nat) (h : Hp) (ha : ∀ j, a j < 2 ^ 64) (hb : ∀ j, b j < 2 ^ 64) : RunsP O E0 64 [.agg (cw a), .agg (cw b), .fn (.func 65) [] []] h (fun v h' => v = .agg (cw fun j => a j ||| b j) ∧ Ext h h') := by
  refine q_fn (L := 24) E64 (hO _ _ _ rfl) rfl rfl ?_
  refine q_seq (q_reg ?_)
  simp (disch := omega) only [JJ, opds, updD, ln, Nat.reduceLT, Nat.reduceLeDiff, Nat.reduceEqDiff, Nat.reduceAdd, Nat.reduceMul, ↓reduceIte, if_true, if_false, Bool.false_eq_true, beq_self_eq_true, Bool.not_true, Bool.not_false, reduceCtorEq, decide_true, decide_false, Nat.add_zero, Nat.zero_add, F64u0, zero_cw]
  have l3 := ((Lob.new h (cw a) (Nat.succ_pos _)).newL (l' := cw b)).newL (l' := cw fun _ => 0)
  have l4 := (Lob.new (newL h (cw a)) (cw b) (Nat.succ_pos _)).newL (l' := cw fun _ => 0)
  have l6 := Lob.new (newL (newL h (cw a)) (cw b)) (cw fun _ => 0) (Nat.succ_pos _)
  have x1 := ((Ext.newL h (cw a)).trans (Ext.newL _ (cw b))).trans (Ext.newL _ (cw fun _ => 0))
  rw [QM] at l4
  rw [QM, QM] at l6
  have n1 : (newL (newL (newL h (cw a)) (cw b)) (cw fun _ => 0)).next = h.next + 1 + 1 + 1 := rfl
  generalize newL (newL (newL h (cw a)) (cw b)) (cw fun _ => 0) = h1 at *
  refine q_seq (q_reg ?_)
  simp (disch := omega) only [JJ, opds, updD, ln, Nat.reduceLT, Nat.reduceLeDiff, Nat.reduceEqDiff, Nat.reduceAdd, Nat.reduceMul, ↓reduceIte, if_true, if_false, Bool.false_eq_true, beq_self_eq_true, Bool.not_true, Bool.not_false, reduceCtorEq, decide_true, decide_false, Nat.add_zero, Nat.zero_add, F64u1, zero_cw]
  replace l3 := l3.newL (l' := cw fun _ => 0)
  replace l4 := l4.newL (l' := cw fun _ => 0)
  replace l6 := l6.newL (l' := cw fun _ => 0)
  have l7 := Lob.new h1 (cw fun _ => 0) (Nat.succ_pos _)
  replace x1 := x1.trans (Ext.newL _ (cw fun _ => 0))
  replace n1 : (newL h1 (cw fun _ => 0)).next = h.next + 1 + 1 + 1 + 1 := by rw [QM, n1]
  have n0 : h1.next = h.next + 1 + 1 + 1 := by rw [QM] at n1; omega
  rw [n0] at l7 ⊢
  generalize newL h1 (cw fun _ => 0) = h2 at *
  refine q_seq (q_seq (q_reg ?_))
  simp (disch := omega) only [JJ, opds, updD, ln, Nat.reduceLT, Nat.reduceLeDiff, Nat.reduceEqDiff, Nat.reduceAdd, Nat.reduceMul, ↓reduceIte, if_true, if_false, Bool.false_eq_true, beq_self_eq_true, Bool.not_true, Bool.not_false, reduceCtorEq, decide_true, decide_false, Nat.add_zero, Nat.zero_add, F64u2]
  refine q_block ?_
  refine q_loop (fun n e h' => ∃ i, i ≤ 4 ∧ n = 4 - i ∧ e 9 = .int .i64 (i : Nat) ∧ e 2 = .fn (.func 65) [] [] ∧ e 3 = .ptr h.next 0 ∧ e 4 = .ptr (h.next + 1) 0 ∧ e 6 = .ptr (h.next + 1 + 1) 0 ∧ e 7 = .ptr (h.next + 1 + 1 + 1) 0 ∧
    Lob h' h.next (cw a) ∧ Lob h' (h.next + 1) (cw b) ∧ Lob h' (h.next + 1 + 1) (cw fun _ => 0) ∧ Lob h' (h.next + 1 + 1 + 1) (cw fun j => if j < i then a j ||| b j else 0) ∧ Ext h h') 4
    ⟨0, by omega, by omega, by simp (disch := omega) only [JJ, opds, updD, ln, Nat.reduceLT, Nat.reduceLeDiff, Nat.reduceEqDiff, Nat.reduceAdd, Nat.reduceMul, ↓reduceIte, if_true, if_false, Bool.false_eq_true, beq_self_eq_true, Bool.not_true, Bool.not_false, reduceCtorEq, decide_true, decide_false, Nat.add_zero, Nat.zero_add], by simp (disch := omega) only [JJ, opds, updD, ln, Nat.reduceLT, Nat.reduceLeDiff, Nat.reduceEqDiff, Nat.reduceAdd, Nat.reduceMul, ↓reduceIte, if_true, if_false, Bool.false_eq_true, beq_self_eq_true, Bool.not_true, Bool.not_false, reduceCtorEq, decide_true, decide_false, Nat.add_zero, Nat.zero_add], by simp (disch := omega) only [JJ, opds, updD, ln, Nat.reduceLT, Nat.reduceLeDiff, Nat.reduceEqDiff, Nat.reduceAdd, Nat.reduceMul, ↓reduceIte, if_true, if_false, Bool.false_eq_true, beq_self_eq_true, Bool.not_true, Bool.not_false, reduceCtorEq, decide_true, decide_false, Nat.add_zero, Nat.zero_add], by simp (disch := omega) only [JJ, opds, updD, ln, Nat.reduceLT, Nat.reduceLeDiff, Nat.reduceEqDiff, Nat.reduceAdd, Nat.reduceMul, ↓reduceIte, if_true, if_false, Bool.false_eq_true, beq_self_eq_true, Bool.not_true, Bool.not_false, reduceCtorEq, decide_true, decide_false, Nat.add_zero, Nat.zero_add], by simp (disch := omega) only [JJ, opds, updD, ln, Nat.reduceLT, Nat.reduceLeDiff, Nat.reduceEqDiff, Nat.reduceAdd, Nat.reduceMul, ↓reduceIte, if_true, if_false, Bool.false_eq_true, beq_self_eq_true, Bool.not_true, Bool.not_false, reduceCtorEq, decide_true, decide_false, Nat.add_zero, Nat.zero_add], by simp (disch := omega) only [JJ, opds, updD, ln, Nat.reduceLT, Nat.reduceLeDiff, Nat.reduceEqDiff, Nat.reduceAdd, Nat.reduceMul, ↓reduceIte, if_true, if_false, Bool.false_eq_true, beq_self_eq_true, Bool.not_true, Bool.not_false, reduceCtorEq, decide_true, decide_false, Nat.add_zero, Nat.zero_add], l3, l4, l6, by simpa using l7, x1⟩ ?_
  clear l3 l4 l6 l7 x1 n1 n0
  rintro n e h' ⟨i, hi, rfl, e9, e2, e3, e4, e6, e7, l3, l4, l6, l7, x1⟩
  refine q_seq (q_reg ?_)
  simp (disch := omega) only [JJ, opds, updD, ln, Nat.reduceLT, Nat.reduceLeDiff, Nat.reduceEqDiff, Nat.reduceAdd, Nat.reduceMul, ↓reduceIte, if_true, if_false, Bool.false_eq_true, beq_self_eq_true, Bool.not_true, Bool.not_false, reduceCtorEq, decide_true, decide_false, Nat.add_zero, Nat.zero_add, F64u3, e9, b_lss, c_lt]
  refine q_seq (q_cond (q := decide (i < 4)) (by simp (disch := omega) only [JJ, opds, updD, ln, Nat.reduceLT, Nat.reduceLeDiff, Nat.reduceEqDiff, Nat.reduceAdd, Nat.reduceMul, ↓reduceIte, if_true, if_false, Bool.false_eq_true, beq_self_eq_true, Bool.not_true, Bool.not_false, reduceCtorEq, decide_true, decide_false, Nat.add_zero, Nat.zero_add]) (fun hc => ?_) (fun hc => ?_))
  · have hi4 := of_decide_eq_true hc
    refine q_skip ?_
    refine q_seq (q_block (q_seq (q_reg ?_)))
    simp (disch := omega) only [JJ, opds, updD, ln, Nat.reduceLT, Nat.reduceLeDiff, Nat.reduceEqDiff, Nat.reduceAdd, Nat.reduceMul, ↓reduceIte, if_true, if_false, Bool.false_eq_true, beq_self_eq_true, Bool.not_true, Bool.not_false, reduceCtorEq, decide_true, decide_false, Nat.add_zero, Nat.zero_add, F64u4, e9]
    refine q_dreg0 ?_
    simp (disch := omega) only [Ja, Jb, Jc, Jd, Je, Jf, Jg, Jh, Ji, Jj, Jk, Jl, Jm, Jn, Jp, Jq, Jr, Js, Jt, Ju, Jv, Jw, Jx, Jy, true_and, and_true, JJ, opds, updD, ln, Nat.reduceLT, Nat.reduceLeDiff, Nat.reduceEqDiff, Nat.reduceAdd, Nat.reduceMul, ↓reduceIte, if_true, if_false, Bool.false_eq_true, beq_self_eq_true, Bool.not_true, Bool.not_false, reduceCtorEq, decide_true, decide_false, Nat.add_zero, Nat.zero_add, F64u7, F64u7p, e2, e3, e4, e7, iaddrAV_ptr, Nat.mul_one, l3.ld (len_cw a), l4.ld (len_cw b), nth_cw, cat]
    refine q_call (c65 hO _ _ _ (ha i) (hb i)) ?_
    rintro v h3 ⟨rfl, rfl⟩
    simp (disch := omega) only [Ja, Jb, Jc, Jd, Je, Jf, Jg, Jh, Ji, Jj, Jk, Jl, Jm, Jn, Jp, Jq, Jr, Js, Jt, Ju, Jv, Jw, Jx, Jy, true_and, and_true, JJ, opds, updD, ln, Nat.reduceLT, Nat.reduceLeDiff, Nat.reduceEqDiff, Nat.reduceAdd, Nat.reduceMul, ↓reduceIte, if_true, if_false, Bool.false_eq_true, beq_self_eq_true, Bool.not_true, Bool.not_false, reduceCtorEq, decide_true, decide_false, Nat.add_zero, Nat.zero_add, F64u7, e9, e7, iaddrAV_ptr, Nat.mul_one, veq_int, and_self]
    obtain ⟨ob, g1, g2⟩ := l7.st (o := i) (vs := [.int .u64 ((a i ||| b i : Nat) : Int)]) (by rw [len_cw]; simp; omega) rfl (by simp)
    simp (disch := omega) only [Ja, Jb, Jc, Jd, Je, Jf, Jg, Jh, Ji, Jj, Jk, Jl, Jm, Jn, Jp, Jq, Jr, Js, Jt, Ju, Jv, Jw, Jx, Jy, true_and, and_true, JJ, opds, updD, ln, Nat.reduceLT, Nat.reduceLeDiff, Nat.reduceEqDiff, Nat.reduceAdd, Nat.reduceMul, ↓reduceIte, if_true, if_false, Bool.false_eq_true, beq_self_eq_true, Bool.not_true, Bool.not_false, reduceCtorEq, decide_true, decide_false, Nat.add_zero, Nat.zero_add, F64u7, g1]
    refine q_reg ?_
    simp (disch := omega) only [JJ, opds, updD, ln, Nat.reduceLT, Nat.reduceLeDiff, Nat.reduceEqDiff, Nat.reduceAdd, Nat.reduceMul, ↓reduceIte, if_true, if_false, Bool.false_eq_true, beq_self_eq_true, Bool.not_true, Bool.not_false, reduceCtorEq, decide_true, decide_false, Nat.add_zero, Nat.zero_add, F64u5, e9, b_add_i64]
    refine ⟨4 - (i + 1), by omega, i + 1, by omega, rfl, by simp (disch := omega) only [JJ, opds, updD, ln, Nat.reduceLT, Nat.reduceLeDiff, Nat.reduceEqDiff, Nat.reduceAdd, Nat.reduceMul, ↓reduceIte, if_true, if_false, Bool.false_eq_true, beq_self_eq_true, Bool.not_true, Bool.not_false, reduceCtorEq, decide_true, decide_false, Nat.add_zero, Nat.zero_add], by simp (disch := omega) only [JJ, opds, updD, ln, Nat.reduceLT, Nat.reduceLeDiff, Nat.reduceEqDiff, Nat.reduceAdd, Nat.reduceMul, ↓reduceIte, if_true, if_false, Bool.false_eq_true, beq_self_eq_true, Bool.not_true, Bool.not_false, reduceCtorEq, decide_true, decide_false, Nat.add_zero, Nat.zero_add, e2], by simp (disch := omega) only [JJ, opds, updD, ln, Nat.reduceLT, Nat.reduceLeDiff, Nat.reduceEqDiff, Nat.reduceAdd, Nat.reduceMul, ↓reduceIte, if_true, if_false, Bool.false_eq_true, beq_self_eq_true, Bool.not_true, Bool.not_false, reduceCtorEq, decide_true, decide_false, Nat.add_zero, Nat.zero_add, e3], by simp (disch := omega) only [JJ, opds, updD, ln, Nat.reduceLT, Nat.reduceLeDiff, Nat.reduceEqDiff, Nat.reduceAdd, Nat.reduceMul, ↓reduceIte, if_true, if_false, Bool.false_eq_true, beq_self_eq_true, Bool.not_true, Bool.not_false, reduceCtorEq, decide_true, decide_false, Nat.add_zero, Nat.zero_add, e4], by simp (disch := omega) only [JJ, opds, updD, ln, Nat.reduceLT, Nat.reduceLeDiff, Nat.reduceEqDiff, Nat.reduceAdd, Nat.reduceMul, ↓reduceIte, if_true, if_false, Bool.false_eq_true, beq_self_eq_true, Bool.not_true, Bool.not_false, reduceCtorEq, decide_true, decide_false, Nat.add_zero, Nat.zero_add, e6], by simp (disch := omega) only [JJ, opds, updD, ln, Nat.reduceLT, Nat.reduceLeDiff, Nat.reduceEqDiff, Nat.reduceAdd, Nat.reduceMul, ↓reduceIte, if_true, if_false, Bool.false_eq_true, beq_self_eq_true, Bool.not_true, Bool.not_false, reduceCtorEq, decide_true, decide_false, Nat.add_zero, Nat.zero_add, e7], ?_, ?_, ?_, ?_, ?_⟩
    · exact l3.set_ne (by omega)
    · exact l4.set_ne (by omega)
    · exact l6.set_ne (by omega)
    · rw [blit_cw _ hi4] at g2
      rw [cw_congr (b := fun j => if j = i then a i ||| b i else if j < i then a j ||| b j else 0)]
      · exact g2
      · intro j _
        by_cases h1 : j = i
        · subst h1; simp
        · by_cases h2 : j < i
          · simp [h1, h2, show j < i + 1 from by omega]
          · simp [h1, h2, show ¬ j < i + 1 from by omega]
    · exact x1.set (by omega) _
  · have hi4 : i = 4 := by have := of_decide_eq_false hc; omega
    subst hi4
    refine q_exit ?_
    simp (disch := omega) only [JJ, opds, updD, ln, Nat.reduceLT, Nat.reduceLeDiff, Nat.reduceEqDiff, Nat.reduceAdd, Nat.reduceMul, ↓reduceIte, if_true, if_false, Bool.false_eq_true, beq_self_eq_true, Bool.not_true, Bool.not_false, reduceCtorEq, decide_true, decide_false, Nat.add_zero, Nat.zero_add]
    refine q_seq (q_reg ?_)
    rw [cw_congr (b := fun j => a j ||| b j) (fun j hj => by simp [hj])] at l7
    simp (disch := omega) only [JJ, opds, updD, ln, Nat.reduceLT, Nat.reduceLeDiff, Nat.reduceEqDiff, Nat.reduceAdd, Nat.reduceMul, ↓reduceIte, if_true, if_false, Bool.false_eq_true, beq_self_eq_true, Bool.not_true, Bool.not_false, reduceCtorEq, decide_true, decide_false, Nat.add_zero, Nat.zero_add, F64u6, e7, e6, l7.ldN' (m := 4) rfl, ln_cw]
    obtain ⟨ob, g1, g2⟩ := l6.st (o := 0) (vs := cw fun j => a j ||| b j) (Nat.le_refl _) rfl (Nat.succ_pos _)
    rw [blit_all (by rfl)] at g2
    simp (disch := omega) only [JJ, opds, updD, ln, Nat.reduceLT, Nat.reduceLeDiff, Nat.reduceEqDiff, Nat.reduceAdd, Nat.reduceMul, ↓reduceIte, if_true, if_false, Bool.false_eq_true, beq_self_eq_true, Bool.not_true, Bool.not_false, reduceCtorEq, decide_true, decide_false, Nat.add_zero, Nat.zero_add, g1]
    refine q_ret ?_
    exact wpRes_cellN (by decide) (by simp (disch := omega) only [JJ, opds, updD, ln, Nat.reduceLT, Nat.reduceLeDiff, Nat.reduceEqDiff, Nat.reduceAdd, Nat.reduceMul, ↓reduceIte, if_true, if_false, Bool.false_eq_true, beq_self_eq_true, Bool.not_true, Bool.not_false, reduceCtorEq, decide_true, decide_false, Nat.add_zero, Nat.zero_add, e6]) g2 rfl ⟨rfl, x1.set (by omega) _⟩

theorem c36 (a b : Nat → Nat) (h : Hp) (ha : ∀ j, a j < 2 ^ 64) (hb : ∀ j, b j < 2 ^ 64) : RunsP O E0 36 [.agg (cw a), .agg (cw b)] h (fun v h' => v = .agg (cw fun j => a j ||| b j) ∧ Ext h h') := by
  refine q_fn (L := 8) E36 (hO _ _ _ rfl) rfl rfl ?_
  refine q_seq (q_reg ?_)
  simp (disch := omega) only [JJ, opds, updD, ln, Nat.reduceLT, Nat.reduceLeDiff, Nat.reduceEqDiff, Nat.reduceAdd, Nat.reduceMul, ↓reduceIte, if_true, if_false, Bool.false_eq_true, beq_self_eq_true, Bool.not_true, Bool.not_false, reduceCtorEq, decide_true, decide_false, Nat.add_zero, Nat.zero_add, F36u0, zero_cw]
  have l3 := ((Lob.new h (cw a) (Nat.succ_pos _)).newL (l' := cw b)).newL (l' := cw fun _ => 0)
  have l4 := (Lob.new (newL h (cw a)) (cw b) (Nat.succ_pos _)).newL (l' := cw fun _ => 0)
  have l6 := Lob.new (newL (newL h (cw a)) (cw b)) (cw fun _ => 0) (Nat.succ_pos _)
  have x1 := ((Ext.newL h (cw a)).trans (Ext.newL _ (cw b))).trans (Ext.newL _ (cw fun _ => 0))
  rw [QM] at l4
  rw [QM, QM] at l6
  generalize newL (newL (newL h (cw a)) (cw b)) (cw fun _ => 0) = h1 at *
  refine q_seq (q_reg ?_)
  simp (disch := omega) only [JJ, opds, updD, ln, Nat.reduceLT, Nat.reduceLeDiff, Nat.reduceEqDiff, Nat.reduceAdd, Nat.reduceMul, ↓reduceIte, if_true, if_false, Bool.false_eq_true, beq_self_eq_true, Bool.not_true, Bool.not_false, reduceCtorEq, decide_true, decide_false, Nat.add_zero, Nat.zero_add, F36u1, l3.ldN' (m := 4) rfl, l4.ldN' (m := 4) rfl]
  refine q_call (c64 hO a b _ ha hb) ?_
  rintro v h2 ⟨rfl, x2⟩
  have l6' := l6.ext x2
  obtain ⟨ob, g1, g2⟩ := l6'.st (o := 0) (vs := cw fun j => a j ||| b j) (Nat.le_refl _) rfl (Nat.succ_pos _)
  rw [blit_all (by rfl)] at g2
  simp (disch := omega) only [JJ, opds, updD, ln, Nat.reduceLT, Nat.reduceLeDiff, Nat.reduceEqDiff, Nat.reduceAdd, Nat.reduceMul, ↓reduceIte, if_true, if_false, Bool.false_eq_true, beq_self_eq_true, Bool.not_true, Bool.not_false, reduceCtorEq, decide_true, decide_false, Nat.add_zero, Nat.zero_add, ln_cw, g1]
  refine q_ret ?_
  exact wpRes_cellN (by decide) (by simp (disch := omega) only [JJ, opds, updD, ln, Nat.reduceLT, Nat.reduceLeDiff, Nat.reduceEqDiff, Nat.reduceAdd, Nat.reduceMul, ↓reduceIte, if_true, if_false, Bool.false_eq_true, beq_self_eq_true, Bool.not_true, Bool.not_false, reduceCtorEq, decide_true, decide_false, Nat.add_zero, Nat.zero_add]) g2 rfl ⟨rfl, (x1.trans x2).set (by omega) _⟩
end
end Go.Proofs.YtfaeabhbeolpgaaGreatDoor
end
