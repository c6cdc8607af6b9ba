/- Classes of bytes: the contracts of the library's count of ones, and of the program's and the reference's functions on classes. Conditions: none. -/
import Derived.Test.YtfaeabhbeolpgaaGreatDoorSy3
import Derived.Test.YtfaeabhbeolpgaaGreatDoorSp1
import Derived.Test.YtfaeabhbeolpgaaGreatDoorFn
set_option linter.all false
noncomputable section
open Go Go.Am Univ
namespace Go.Proofs.YtfaeabhbeolpgaaGreatDoor

/-- A fact that the deciders do not see. -/
structure Held (p : Prop) : Prop where
  out : p

/-- What every contract leans on: the oracle knows function 4 alone. -/
def Only (O : Orc) : Prop := ∀ f a h, Nat.beq f 4 = false → O f a h = none

section
variable {O : Orc} (hO : Only O)
include hO

theorem c63 (x : Nat) (h : Hp) (hx : x < 2 ^ 64) : RunsP O E0 63 [.int .u64 x] h (fun v h' => v = .int .i64 (pop x : Nat) ∧ h' = h) := by
  refine q_fn (L := 35) E63 (hO _ _ _ rfl) rfl rfl ?_
  refine q_seq (q_reg ?_)
  simp (disch := omega) only [JJ, opds, updD, ln, Nat.reduceLT, Nat.reduceLeDiff, Nat.reduceEqDiff, Nat.reduceAdd, Nat.reduceMul, ↓reduceIte, if_true, if_false, Bool.false_eq_true, beq_self_eq_true, Bool.not_true, Bool.not_false, reduceCtorEq, decide_true, decide_false, Nat.add_zero, Nat.zero_add, F63u0]
  refine q_seq (q_reg ?_)
  have b1 := @Nat.and_le_right (x / 2 ^ 1) 6148914691236517205
  have b2 := @Nat.and_le_right x 6148914691236517205
  simp (disch := omega) only [JJ, opds, updD, ln, Nat.reduceLT, Nat.reduceLeDiff, Nat.reduceEqDiff, Nat.reduceAdd, Nat.reduceMul, ↓reduceIte, if_true, if_false, Bool.false_eq_true, beq_self_eq_true, Bool.not_true, Bool.not_false, reduceCtorEq, decide_true, decide_false, Nat.add_zero, Nat.zero_add, F63u1, b_shr_u64, b_and_u64, b_add_u64]
  refine q_seq (q_reg ?_)
  obtain ⟨y, ⟨hy⟩⟩ : ∃ y, Held (y = st1 m1 x) := ⟨_, ⟨rfl⟩⟩
  have hy2 : (x / 2 ^ 1 &&& 6148914691236517205) + (x &&& 6148914691236517205) = y := by rw [hy]; simp only [st1, m1, Nat.pow_one]
  have hyb : y < 2 ^ 64 := by omega
  rw [hy2]
  clear b1 b2 hy2
  have Hy : Held (y = st1 m1 x) := ⟨hy⟩
  clear hy
  have b1 := @Nat.and_le_right (y / 2 ^ 2) 3689348814741910323
  have b2 := @Nat.and_le_right y 3689348814741910323
  simp (disch := omega) only [JJ, opds, updD, ln, Nat.reduceLT, Nat.reduceLeDiff, Nat.reduceEqDiff, Nat.reduceAdd, Nat.reduceMul, ↓reduceIte, if_true, if_false, Bool.false_eq_true, beq_self_eq_true, Bool.not_true, Bool.not_false, reduceCtorEq, decide_true, decide_false, Nat.add_zero, Nat.zero_add, F63u2, b_shr_u64, b_and_u64, b_add_u64]
  refine q_seq (q_reg ?_)
  obtain ⟨z, ⟨hz⟩⟩ : ∃ z, Held (z = st2 m2 y) := ⟨_, ⟨rfl⟩⟩
  have hz2 : (y / 2 ^ 2 &&& 3689348814741910323) + (y &&& 3689348814741910323) = z := by rw [hz]; simp only [st2, m2, Nat.reducePow]
  have hzb : z ≤ 7378697629483820646 := by omega
  rw [hz2]
  clear b1 b2 hz2
  have Hz : Held (z = st2 m2 y) := ⟨hz⟩
  clear hz
  simp (disch := omega) only [JJ, opds, updD, ln, Nat.reduceLT, Nat.reduceLeDiff, Nat.reduceEqDiff, Nat.reduceAdd, Nat.reduceMul, ↓reduceIte, if_true, if_false, Bool.false_eq_true, beq_self_eq_true, Bool.not_true, Bool.not_false, reduceCtorEq, decide_true, decide_false, Nat.add_zero, Nat.zero_add, F63u3, b_shr_u64, b_and_u64, b_add_u64]
  refine q_seq (q_reg ?_)
  obtain ⟨u, ⟨hu⟩⟩ : ∃ u, Held (u = st3 m3 z) := ⟨_, ⟨rfl⟩⟩
  have hu2 : (z / 2 ^ 4 + z &&& 1085102592571150095) = u := by rw [hu]; simp only [st3, m3, Nat.reducePow]
  have hub : u ≤ 1085102592571150095 := by rw [← hu2]; exact Nat.and_le_right
  rw [hu2]
  clear hu2
  have Hu : Held (u = st3 m3 z) := ⟨hu⟩
  clear hu
  simp (disch := omega) only [JJ, opds, updD, ln, Nat.reduceLT, Nat.reduceLeDiff, Nat.reduceEqDiff, Nat.reduceAdd, Nat.reduceMul, ↓reduceIte, if_true, if_false, Bool.false_eq_true, beq_self_eq_true, Bool.not_true, Bool.not_false, reduceCtorEq, decide_true, decide_false, Nat.add_zero, Nat.zero_add, F63u4, b_shr_u64, b_and_u64, b_add_u64]
  refine q_seq (q_reg ?_)
  simp (disch := omega) only [JJ, opds, updD, ln, Nat.reduceLT, Nat.reduceLeDiff, Nat.reduceEqDiff, Nat.reduceAdd, Nat.reduceMul, ↓reduceIte, if_true, if_false, Bool.false_eq_true, beq_self_eq_true, Bool.not_true, Bool.not_false, reduceCtorEq, decide_true, decide_false, Nat.add_zero, Nat.zero_add, F63u5, b_shr_u64, b_and_u64, b_add_u64]
  refine q_seq (q_reg ?_)
  simp (disch := omega) only [JJ, opds, updD, ln, Nat.reduceLT, Nat.reduceLeDiff, Nat.reduceEqDiff, Nat.reduceAdd, Nat.reduceMul, ↓reduceIte, if_true, if_false, Bool.false_eq_true, beq_self_eq_true, Bool.not_true, Bool.not_false, reduceCtorEq, decide_true, decide_false, Nat.add_zero, Nat.zero_add, F63u6, b_shr_u64, b_and_u64, b_add_u64]
  refine q_seq (q_reg ?_)
  simp (disch := omega) only [JJ, opds, updD, ln, Nat.reduceLT, Nat.reduceLeDiff, Nat.reduceEqDiff, Nat.reduceAdd, Nat.reduceMul, ↓reduceIte, if_true, if_false, Bool.false_eq_true, beq_self_eq_true, Bool.not_true, Bool.not_false, reduceCtorEq, decide_true, decide_false, Nat.add_zero, Nat.zero_add, F63u7, b_and_i64, k_i64]
  refine q_ret ?_
  simp (disch := omega) only [JJ, opds, updD, ln, Nat.reduceLT, Nat.reduceLeDiff, Nat.reduceEqDiff, Nat.reduceAdd, Nat.reduceMul, ↓reduceIte, if_true, if_false, Bool.false_eq_true, beq_self_eq_true, Bool.not_true, Bool.not_false, reduceCtorEq, decide_true, decide_false, Nat.add_zero, Nat.zero_add, WpRes, resA, rvals']
  refine ⟨?_, trivial⟩
  rw [← oc_eq x hx]
  unfold oc
  rw [← Hy.out, ← Hz.out, ← Hu.out]
  rw [show (127 : Nat) = 2 ^ 7 - 1 from rfl, Nat.and_two_pow_sub_one_eq_mod]

theorem c65 (a b : Nat) (h : Hp) (ha : a < 2 ^ 64) (hb : b < 2 ^ 64) : RunsP O E0 65 [.int .u64 a, .int .u64 b] h (fun v h' => v = .int .u64 (a ||| b : Nat) ∧ h' = h) := by
  refine q_fn (L := 8) E65 (hO _ _ _ rfl) rfl rfl ?_
  refine q_seq (q_reg ?_)
  simp (disch := omega) only [JJ, opds, updD, ln, Nat.reduceLT, Nat.reduceLeDiff, Nat.reduceEqDiff, Nat.reduceAdd, Nat.reduceMul, ↓reduceIte, if_true, if_false, Bool.false_eq_true, beq_self_eq_true, Bool.not_true, Bool.not_false, reduceCtorEq, decide_true, decide_false, Nat.add_zero, Nat.zero_add, F65u0]
  refine q_seq (q_reg ?_)
  simp (disch := omega) only [JJ, opds, updD, ln, Nat.reduceLT, Nat.reduceLeDiff, Nat.reduceEqDiff, Nat.reduceAdd, Nat.reduceMul, ↓reduceIte, if_true, if_false, Bool.false_eq_true, beq_self_eq_true, Bool.not_true, Bool.not_false, reduceCtorEq, decide_true, decide_false, Nat.add_zero, Nat.zero_add, F65u1, b_or_u64]
  refine q_ret ?_
  simp (disch := omega) only [JJ, opds, updD, ln, Nat.reduceLT, Nat.reduceLeDiff, Nat.reduceEqDiff, Nat.reduceAdd, Nat.reduceMul, ↓reduceIte, if_true, if_false, Bool.false_eq_true, beq_self_eq_true, Bool.not_true, Bool.not_false, reduceCtorEq, decide_true, decide_false, Nat.add_zero, Nat.zero_add, WpRes, resA, rvals', and_self]
/-! ### Classes: four words -/
def cw (w : Nat → Nat) : List AVal := [.int .u64 (w 0 : Nat), .int .u64 (w 1 : Nat), .int .u64 (w 2 : Nat), .int .u64 (w 3 : Nat)]
omit hO in
theorem nth_cw (w : Nat → Nat) {j : Nat} (hj : j < 4) : nth (cw w) j = some (.int .u64 (w j : Nat)) := by
  rcases j with _ | _ | _ | _ | j
  · rfl
  · rfl
  · rfl
  · rfl
  · omega
omit hO in
theorem ln_cw (w : Nat → Nat) : ln (cw w) = 4 := rfl
omit hO in
theorem len_cw (w : Nat → Nat) : (cw w).length = 4 := rfl
def sumP (w : Nat → Nat) : Nat → Nat
  | 0 => 0
  | n + 1 => sumP w n + pop (w n)
omit hO in
theorem pop_le (x : Nat) : pop x ≤ 64 := cnt_le _ 64
omit hO in
theorem sumP_le (w : Nat → Nat) : ∀ n, sumP w n ≤ 64 * n
  | 0 => Nat.le_refl _
  | n + 1 => by have := sumP_le w n; have := pop_le (w n); simp only [sumP]; omega

set_option maxHeartbeats 1000000 in
theorem c35 (w : Nat → Nat) (h : Hp) (hw : ∀ j, w j < 2 ^ 64) : RunsP O E0 35 [.agg (cw w)] h (fun v h' => v = .int .i64 (sumP w 4 : Nat) ∧ Ext h h') := by
  refine q_fn (L := 16) E35 (hO _ _ _ rfl) rfl rfl ?_
  refine q_seq (q_reg ?_)
  simp (disch := omega) only [JJ, opds, updD, ln, Nat.reduceLT, Nat.reduceLeDiff, Nat.reduceEqDiff, Nat.reduceAdd, Nat.reduceMul, ↓reduceIte, if_true, if_false, Bool.false_eq_true, beq_self_eq_true, Bool.not_true, Bool.not_false, reduceCtorEq, decide_true, decide_false, Nat.add_zero, Nat.zero_add, F35u0]
  have l1 := Lob.new h (cw w) (Nat.succ_pos _)
  have x1 := Ext.newL h (cw w)
  generalize newL h (cw w) = h1 at *
  refine q_seq (q_reg ?_)
  simp (disch := omega) only [JJ, opds, updD, ln, Nat.reduceLT, Nat.reduceLeDiff, Nat.reduceEqDiff, Nat.reduceAdd, Nat.reduceMul, ↓reduceIte, if_true, if_false, Bool.false_eq_true, beq_self_eq_true, Bool.not_true, Bool.not_false, reduceCtorEq, decide_true, decide_false, Nat.add_zero, Nat.zero_add, F35u1]
  refine q_seq (q_seq (q_reg ?_))
  simp (disch := omega) only [JJ, opds, updD, ln, Nat.reduceLT, Nat.reduceLeDiff, Nat.reduceEqDiff, Nat.reduceAdd, Nat.reduceMul, ↓reduceIte, if_true, if_false, Bool.false_eq_true, beq_self_eq_true, Bool.not_true, Bool.not_false, reduceCtorEq, decide_true, decide_false, Nat.add_zero, Nat.zero_add, F35u2, l1.ldN' (m := 4) rfl]
  refine q_block ?_
  refine q_loop (fun n e h' => ∃ i, i ≤ 4 ∧ n = 4 - i ∧ e 7 = .int .i64 (i : Nat) ∧ e 3 = .int .i64 (sumP w i : Nat) ∧ e 6 = .agg (cw w) ∧ h' = h1) 4 ⟨0, by omega, by omega, ?_, ?_, ?_, rfl⟩ ?_
  · simp (disch := omega) only [JJ, opds, updD, ln, Nat.reduceLT, Nat.reduceLeDiff, Nat.reduceEqDiff, Nat.reduceAdd, Nat.reduceMul, ↓reduceIte, if_true, if_false, Bool.false_eq_true, beq_self_eq_true, Bool.not_true, Bool.not_false, reduceCtorEq, decide_true, decide_false, Nat.add_zero, Nat.zero_add]
  · simp (disch := omega) only [JJ, opds, updD, ln, Nat.reduceLT, Nat.reduceLeDiff, Nat.reduceEqDiff, Nat.reduceAdd, Nat.reduceMul, ↓reduceIte, if_true, if_false, Bool.false_eq_true, beq_self_eq_true, Bool.not_true, Bool.not_false, reduceCtorEq, decide_true, decide_false, Nat.add_zero, Nat.zero_add, sumP]
  · simp (disch := omega) only [JJ, opds, updD, ln, Nat.reduceLT, Nat.reduceLeDiff, Nat.reduceEqDiff, Nat.reduceAdd, Nat.reduceMul, ↓reduceIte, if_true, if_false, Bool.false_eq_true, beq_self_eq_true, Bool.not_true, Bool.not_false, reduceCtorEq, decide_true, decide_false, Nat.add_zero, Nat.zero_add]
  rintro n e h' ⟨i, hi, rfl, e7, e3, e6, rfl⟩
  refine q_seq (q_reg ?_)
  simp (disch := omega) only [JJ, opds, updD, ln, Nat.reduceLT, Nat.reduceLeDiff, Nat.reduceEqDiff, Nat.reduceAdd, Nat.reduceMul, ↓reduceIte, if_true, if_false, Bool.false_eq_true, beq_self_eq_true, Bool.not_true, Bool.not_false, reduceCtorEq, decide_true, decide_false, Nat.add_zero, Nat.zero_add, F35u3, e7, b_lss, c_lt]
  refine q_seq (q_cond (q := decide (i < 4)) (by simp (disch := omega) only [JJ, opds, updD, ln, Nat.reduceLT, Nat.reduceLeDiff, Nat.reduceEqDiff, Nat.reduceAdd, Nat.reduceMul, ↓reduceIte, if_true, if_false, Bool.false_eq_true, beq_self_eq_true, Bool.not_true, Bool.not_false, reduceCtorEq, decide_true, decide_false, Nat.add_zero, Nat.zero_add]) (fun hc => ?_) (fun hc => ?_))
  · have hi4 := of_decide_eq_true hc
    refine q_skip ?_
    refine q_seq (q_block (q_seq (q_reg ?_)))
    simp (disch := omega) only [JJ, opds, updD, ln, Nat.reduceLT, Nat.reduceLeDiff, Nat.reduceEqDiff, Nat.reduceAdd, Nat.reduceMul, ↓reduceIte, if_true, if_false, Bool.false_eq_true, beq_self_eq_true, Bool.not_true, Bool.not_false, reduceCtorEq, decide_true, decide_false, Nat.add_zero, Nat.zero_add, F35u4, e6, e7, idxAV_one, Nat.mul_one, nth_cw]
    refine q_reg ?_
    simp (disch := omega) only [JJ, opds, updD, ln, Nat.reduceLT, Nat.reduceLeDiff, Nat.reduceEqDiff, Nat.reduceAdd, Nat.reduceMul, ↓reduceIte, if_true, if_false, Bool.false_eq_true, beq_self_eq_true, Bool.not_true, Bool.not_false, reduceCtorEq, decide_true, decide_false, Nat.add_zero, Nat.zero_add, F35u5, e3]
    refine q_call (c63 hO _ _ (hw i)) ?_
    rintro v h2 ⟨rfl, rfl⟩
    have b1 := sumP_le w i
    have b2 := pop_le (w i)
    simp (disch := omega) only [JJ, opds, updD, ln, Nat.reduceLT, Nat.reduceLeDiff, Nat.reduceEqDiff, Nat.reduceAdd, Nat.reduceMul, ↓reduceIte, if_true, if_false, Bool.false_eq_true, beq_self_eq_true, Bool.not_true, Bool.not_false, reduceCtorEq, decide_true, decide_false, Nat.add_zero, Nat.zero_add, b_add_i64]
    refine q_reg ?_
    simp (disch := omega) only [JJ, opds, updD, ln, Nat.reduceLT, Nat.reduceLeDiff, Nat.reduceEqDiff, Nat.reduceAdd, Nat.reduceMul, ↓reduceIte, if_true, if_false, Bool.false_eq_true, beq_self_eq_true, Bool.not_true, Bool.not_false, reduceCtorEq, decide_true, decide_false, Nat.add_zero, Nat.zero_add, F35u6, e7, b_add_i64]
    exact ⟨4 - (i + 1), by omega, i + 1, by omega, rfl, by simp (disch := omega) only [JJ, opds, updD, ln, Nat.reduceLT, Nat.reduceLeDiff, Nat.reduceEqDiff, Nat.reduceAdd, Nat.reduceMul, ↓reduceIte, if_true, if_false, Bool.false_eq_true, beq_self_eq_true, Bool.not_true, Bool.not_false, reduceCtorEq, decide_true, decide_false, Nat.add_zero, Nat.zero_add], by simp (disch := omega) only [JJ, opds, updD, ln, Nat.reduceLT, Nat.reduceLeDiff, Nat.reduceEqDiff, Nat.reduceAdd, Nat.reduceMul, ↓reduceIte, if_true, if_false, Bool.false_eq_true, beq_self_eq_true, Bool.not_true, Bool.not_false, reduceCtorEq, decide_true, decide_false, Nat.add_zero, Nat.zero_add, sumP], by simp (disch := omega) only [JJ, opds, updD, ln, Nat.reduceLT, Nat.reduceLeDiff, Nat.reduceEqDiff, Nat.reduceAdd, Nat.reduceMul, ↓reduceIte, if_true, if_false, Bool.false_eq_true, beq_self_eq_true, Bool.not_true, Bool.not_false, reduceCtorEq, decide_true, decide_false, Nat.add_zero, Nat.zero_add, e6], trivial⟩
  · have hi4 : i = 4 := by have := of_decide_eq_false hc; omega
    subst hi4
    refine q_exit ?_
    simp (disch := omega) only [JJ, opds, updD, ln, Nat.reduceLT, Nat.reduceLeDiff, Nat.reduceEqDiff, Nat.reduceAdd, Nat.reduceMul, ↓reduceIte, if_true, if_false, Bool.false_eq_true, beq_self_eq_true, Bool.not_true, Bool.not_false, reduceCtorEq, decide_true, decide_false, Nat.add_zero, Nat.zero_add]
    refine q_seq (q_reg ?_)
    simp (disch := omega) only [JJ, opds, updD, ln, Nat.reduceLT, Nat.reduceLeDiff, Nat.reduceEqDiff, Nat.reduceAdd, Nat.reduceMul, ↓reduceIte, if_true, if_false, Bool.false_eq_true, beq_self_eq_true, Bool.not_true, Bool.not_false, reduceCtorEq, decide_true, decide_false, Nat.add_zero, Nat.zero_add, F35u7, e3]
    refine q_ret ?_
    simp (disch := omega) only [JJ, opds, updD, ln, Nat.reduceLT, Nat.reduceLeDiff, Nat.reduceEqDiff, Nat.reduceAdd, Nat.reduceMul, ↓reduceIte, if_true, if_false, Bool.false_eq_true, beq_self_eq_true, Bool.not_true, Bool.not_false, reduceCtorEq, decide_true, decide_false, Nat.add_zero, Nat.zero_add, WpRes, resA, rvals']
    exact ⟨trivial, x1⟩
end
end Go.Proofs.YtfaeabhbeolpgaaGreatDoor
end
