/- Classes of bytes, part 3: the reference's functions. Conditions: none. -/
import Derived.Test.YtfaeabhbeolpgaaGreatDoorSa2
import Derived.Test.YtfaeabhbeolpgaaGreatDoorSy4
set_option linter.all false
noncomputable section
open Go Go.Am Univ
namespace Go.Proofs.YtfaeabhbeolpgaaGreatDoor

theorem b_shl1 {k : IntKind} {s : Nat} (h : s < 64) : binV .shl (.int .u64 ((1 : Nat) : Int)) (.int k (s : Int)) = some (.int .u64 ((2 ^ s : Nat) : Int)) := by
  have h2 : 2 ^ s < 2 ^ 64 := Nat.pow_lt_pow_right (by decide) h
  rw [b_shl_u64 (by rw [Nat.one_mul]; exact h2) (by omega), Nat.one_mul]
theorem two_pow_lt {s : Nat} (h : s < 64) : 2 ^ s < 2 ^ 64 := Nat.pow_lt_pow_right (by decide) h
theorem has_shr (w : Nat → Nat) (b : Nat) : decide (w (b / 64) / 2 ^ (b % 64) % 2 = 1) = has w b := by
  unfold has; rw [Nat.testBit_eq_decide_div_mod_eq]
theorem and_pow (x s : Nat) : x &&& 2 ^ s = if x.testBit s = true then 2 ^ s else 0 := by
  apply Nat.eq_of_testBit_eq
  intro i
  rw [Nat.testBit_and, Nat.testBit_two_pow]
  by_cases h : s = i
  · subst h
    cases hx : x.testBit s
    · simp
    · simp
  · cases hx : x.testBit s
    · simp [h]
    · simp [h, Nat.testBit_two_pow]
theorem has_and (w : Nat → Nat) (b : Nat) : decide (w (b / 64) &&& 2 ^ (b % 64) ≠ 0) = has w b := by
  unfold has
  rw [and_pow]
  have h2 : 2 ^ (b % 64) ≠ 0 := by have := Nat.two_pow_pos (b % 64); omega
  cases (w (b / 64)).testBit (b % 64) <;> simp [h2]
def withW (w : Nat → Nat) (b : Nat) : Nat → Nat := fun j => if j = b / 64 then w (b / 64) ||| 2 ^ (b % 64) else w j
theorem has_withW (w : Nat → Nat) (b c : Nat) : has (withW w b) c = (decide (c = b) || has w c) := by
  unfold has withW
  by_cases h : c / 64 = b / 64
  · rw [if_pos h, Nat.testBit_or, Nat.testBit_two_pow, h]
    by_cases h2 : c = b
    · subst h2; simp
    · have : b % 64 ≠ c % 64 := by omega
      simp [h2, this]
  · rw [if_neg h]
    have : c ≠ b := fun e => h (by rw [e])
    simp [this]
theorem ok_withW {w : Nat → Nat} (hw : ∀ j, w j < 2 ^ 64) (b : Nat) : ∀ j, withW w b j < 2 ^ 64 := by
  intro j
  unfold withW
  split
  · exact Nat.or_lt_two_pow (hw _) (two_pow_lt (by omega))
  · exact hw j
def sz (w : Nat → Nat) : Nat := cnt (has w) 256
theorem sumP_sz (w : Nat → Nat) : sumP w 4 = sz w := by
  have step : ∀ j, cnt (fun i => has w (64 * j + i)) 64 = pop (w j) := fun j => cnt_congr 64 fun i hi => by
    unfold has
    rw [show (64 * j + i) / 64 = j from by omega, show (64 * j + i) % 64 = i from by omega]
  unfold sz
  rw [show (256 : Nat) = 64 + (64 + (64 + 64)) from rfl, cnt_add, cnt_add, cnt_add]
  have h0 := step 0
  have h1 := step 1
  have h2 := step 2
  have h3 := step 3
  simp only [Nat.mul_zero, Nat.zero_add, Nat.mul_one] at h0 h1
  have e0 : cnt (has w) 64 = pop (w 0) := h0
  simp only [sumP]
  rw [e0, h1]
  have e2 : cnt (fun i => has w (64 + (64 + i))) 64 = pop (w 2) := by rw [← h2]; exact cnt_congr 64 fun i _ => by congr 1; omega
  have e3 : cnt (fun i => has w (64 + (64 + (64 + i)))) 64 = pop (w 3) := by rw [← h3]; exact cnt_congr 64 fun i _ => by congr 1; omega
  rw [e2, e3]; omega
theorem sz_le (w : Nat → Nat) : sz w ≤ 256 := cnt_le _ _

section
variable {O : Orc} (hO : Only O)
include hO

theorem c35' (w : Nat → Nat) (h : Hp) (hw : ∀ j, w j < 2 ^ 64) : RunsP O E0 35 [.agg (cw w)] h (fun v h' => v = .int .i64 (sz w : Nat) ∧ Ext h h') := by
  rw [← sumP_sz]; exact c35 hO w h hw

theorem c113 (w : Nat → Nat) (b : Nat) (h : Hp) (hw : ∀ j, w j < 2 ^ 64) (hb : b < 256) : RunsP O E0 113 [.agg (cw w), .int .u8 b] h (fun v h' => v = .bool (has w b) ∧ Ext h h') := by
  refine q_fn (L := 14) E113 (hO _ _ _ rfl) rfl rfl ?_
  refine q_seq (q_reg ?_)
  simp (disch := omega) only [JJ, opds, updD, ln, Nat.reduceLT, Nat.reduceLeDiff, Nat.reduceEqDiff, Nat.reduceAdd, Nat.reduceMul, ↓reduceIte, if_true, if_false, Bool.false_eq_true, beq_self_eq_true, Bool.not_true, Bool.not_false, reduceCtorEq, decide_true, decide_false, Nat.add_zero, Nat.zero_add, F113u0]
  have l1 := Lob.new h (cw w) (Nat.succ_pos _)
  have x1 := Ext.newL h (cw w)
  generalize newL h (cw w) = h1 at *
  refine q_seq (q_reg ?_)
  have hd : b / 64 < 4 := by omega
  simp (disch := omega) only [JJ, opds, updD, ln, Nat.reduceLT, Nat.reduceLeDiff, Nat.reduceEqDiff, Nat.reduceAdd, Nat.reduceMul, ↓reduceIte, if_true, if_false, Bool.false_eq_true, beq_self_eq_true, Bool.not_true, Bool.not_false, reduceCtorEq, decide_true, decide_false, Nat.add_zero, Nat.zero_add, F113u1, b_quo_u8, b_rem, iaddrAV_ptr, Nat.mul_one, l1.ld (len_cw w), nth_cw, b_shr_u64, b_eql, c_eq, has_shr]
  refine q_ret ?_
  exact wpRes_tmp (by decide) (by simp (disch := omega) only [JJ, opds, updD, ln, Nat.reduceLT, Nat.reduceLeDiff, Nat.reduceEqDiff, Nat.reduceAdd, Nat.reduceMul, ↓reduceIte, if_true, if_false, Bool.false_eq_true, beq_self_eq_true, Bool.not_true, Bool.not_false, reduceCtorEq, decide_true, decide_false, Nat.add_zero, Nat.zero_add]; exact ⟨trivial, x1⟩)

theorem c160 (w : Nat → Nat) (b : Nat) (h : Hp) (hw : ∀ j, w j < 2 ^ 64) (hb : b < 256) : RunsP O E0 160 [.agg (cw w), .int .u8 b] h (fun v h' => v = .bool (has w b) ∧ Ext h h') := by
  refine q_fn (L := 14) E160 (hO _ _ _ rfl) rfl rfl ?_
  refine q_seq (q_reg ?_)
  simp (disch := omega) only [JJ, opds, updD, ln, Nat.reduceLT, Nat.reduceLeDiff, Nat.reduceEqDiff, Nat.reduceAdd, Nat.reduceMul, ↓reduceIte, if_true, if_false, Bool.false_eq_true, beq_self_eq_true, Bool.not_true, Bool.not_false, reduceCtorEq, decide_true, decide_false, Nat.add_zero, Nat.zero_add, F160u0]
  have l1 := Lob.new h (cw w) (Nat.succ_pos _)
  have x1 := Ext.newL h (cw w)
  generalize newL h (cw w) = h1 at *
  refine q_seq (q_reg ?_)
  have hd : b / 64 < 4 := by omega
  have hp : 2 ^ (b % 64) < 2 ^ 64 := two_pow_lt (by omega)
  have hq := hw (b / 64)
  simp (disch := omega) only [JJ, opds, updD, ln, Nat.reduceLT, Nat.reduceLeDiff, Nat.reduceEqDiff, Nat.reduceAdd, Nat.reduceMul, ↓reduceIte, if_true, if_false, Bool.false_eq_true, beq_self_eq_true, Bool.not_true, Bool.not_false, reduceCtorEq, decide_true, decide_false, Nat.add_zero, Nat.zero_add, F160u1, b_quo_u8, b_rem, iaddrAV_ptr, Nat.mul_one, l1.ld (len_cw w), nth_cw, b_shl1, b_and_u64, b_neq, c_ne, has_and]
  refine q_ret ?_
  exact wpRes_tmp (by decide) (by simp (disch := omega) only [JJ, opds, updD, ln, Nat.reduceLT, Nat.reduceLeDiff, Nat.reduceEqDiff, Nat.reduceAdd, Nat.reduceMul, ↓reduceIte, if_true, if_false, Bool.false_eq_true, beq_self_eq_true, Bool.not_true, Bool.not_false, reduceCtorEq, decide_true, decide_false, Nat.add_zero, Nat.zero_add]; exact ⟨trivial, x1⟩)

theorem c114 (w : Nat → Nat) (b : Nat) (h : Hp) (hw : ∀ j, w j < 2 ^ 64) (hb : b < 256) : RunsP O E0 114 [.agg (cw w), .int .u8 b] h (fun v h' => v = .agg (cw (withW w b)) ∧ Ext h h') := by
  refine q_fn (L := 19) E114 (hO _ _ _ rfl) rfl rfl ?_
  refine q_seq (q_reg ?_)
  simp (disch := omega) only [JJ, opds, updD, ln, Nat.reduceLT, Nat.reduceLeDiff, Nat.reduceEqDiff, Nat.reduceAdd, Nat.reduceMul, ↓reduceIte, if_true, if_false, Bool.false_eq_true, beq_self_eq_true, Bool.not_true, Bool.not_false, reduceCtorEq, decide_true, decide_false, Nat.add_zero, Nat.zero_add, F114u0, zero_cw]
  have l2 := (Lob.new h (cw w) (Nat.succ_pos _)).newL (l' := cw fun _ => 0)
  have l4 := Lob.new (newL h (cw w)) (cw fun _ => 0) (Nat.succ_pos _)
  have x1 := (Ext.newL h (cw w)).trans (Ext.newL _ (cw fun _ => 0))
  rw [QM] at l4
  generalize newL (newL h (cw w)) (cw fun _ => 0) = h1 at *
  have hd : b / 64 < 4 := by omega
  have hp : 2 ^ (b % 64) < 2 ^ 64 := two_pow_lt (by omega)
  have hq := hw (b / 64)
  refine q_seq (q_reg ?_)
  simp (disch := omega) only [JJ, opds, updD, ln, Nat.reduceLT, Nat.reduceLeDiff, Nat.reduceEqDiff, Nat.reduceAdd, Nat.reduceMul, ↓reduceIte, if_true, if_false, Bool.false_eq_true, beq_self_eq_true, Bool.not_true, Bool.not_false, reduceCtorEq, decide_true, decide_false, Nat.add_zero, Nat.zero_add, F114u1, b_rem, b_shl1]
  refine q_seq (q_reg ?_)
  obtain ⟨ob, g1, g2⟩ := l2.st (o := b / 64) (vs := [.int .u64 ((w (b / 64) ||| 2 ^ (b % 64) : Nat) : Int)]) (by rw [len_cw]; simp; omega) rfl (by simp)
  simp (disch := omega) only [JJ, opds, updD, ln, Nat.reduceLT, Nat.reduceLeDiff, Nat.reduceEqDiff, Nat.reduceAdd, Nat.reduceMul, ↓reduceIte, if_true, if_false, Bool.false_eq_true, beq_self_eq_true, Bool.not_true, Bool.not_false, reduceCtorEq, decide_true, decide_false, Nat.add_zero, Nat.zero_add, F114u2, b_quo_u8, iaddrAV_ptr, Nat.mul_one, l2.ld (len_cw w), nth_cw, b_or_u64, g1]
  refine q_seq (q_reg ?_)
  rw [blit_cw _ hd, cw_congr (b := withW w b) (fun j _ => by unfold withW; rfl)] at g2
  simp (disch := omega) only [JJ, opds, updD, ln, Nat.reduceLT, Nat.reduceLeDiff, Nat.reduceEqDiff, Nat.reduceAdd, Nat.reduceMul, ↓reduceIte, if_true, if_false, Bool.false_eq_true, beq_self_eq_true, Bool.not_true, Bool.not_false, reduceCtorEq, decide_true, decide_false, Nat.add_zero, Nat.zero_add, F114u3, g2.ldN' (m := 4) rfl, ln_cw]
  obtain ⟨ob2, g3, g4⟩ := (l4.set_ne (ob := ob) (show h.next + 1 ≠ h.next by omega)).st (o := 0) (vs := cw (withW w b)) (Nat.le_refl _) rfl (Nat.succ_pos _)
  rw [blit_all (by rfl)] at g4
  simp (disch := omega) only [JJ, opds, updD, ln, Nat.reduceLT, Nat.reduceLeDiff, Nat.reduceEqDiff, Nat.reduceAdd, Nat.reduceMul, ↓reduceIte, if_true, if_false, Bool.false_eq_true, beq_self_eq_true, Bool.not_true, Bool.not_false, reduceCtorEq, decide_true, decide_false, Nat.add_zero, Nat.zero_add, g3]
  refine q_ret ?_
  exact wpRes_cellN (by decide) (by simp (disch := omega) only [JJ, opds, updD, ln, Nat.reduceLT, Nat.reduceLeDiff, Nat.reduceEqDiff, Nat.reduceAdd, Nat.reduceMul, ↓reduceIte, if_true, if_false, Bool.false_eq_true, beq_self_eq_true, Bool.not_true, Bool.not_false, reduceCtorEq, decide_true, decide_false, Nat.add_zero, Nat.zero_add]) g4 rfl ⟨rfl, (x1.set (by omega) _).set (by omega) _⟩

theorem c112 (w : Nat → Nat) (h : Hp) (hw : ∀ j, w j < 2 ^ 64) : RunsP O E0 112 [.agg (cw w)] h (fun v h' => (∃ bs, Out h' (h.next ≤ ·) v bs ∧ bs.length = sz w) ∧ Ext h h') := by
  refine q_fn (L := 20) E112 (hO _ _ _ rfl) rfl rfl ?_
  refine q_seq (q_reg ?_)
  simp (disch := omega) only [JJ, opds, updD, ln, Nat.reduceLT, Nat.reduceLeDiff, Nat.reduceEqDiff, Nat.reduceAdd, Nat.reduceMul, ↓reduceIte, if_true, if_false, Bool.false_eq_true, beq_self_eq_true, Bool.not_true, Bool.not_false, reduceCtorEq, decide_true, decide_false, Nat.add_zero, Nat.zero_add, F112u0]
  have l1 := Lob.new h (cw w) (Nat.succ_pos _)
  have x1 := Ext.newL h (cw w)
  have n1 : h.next + 1 ≤ (newL h (cw w)).next := Nat.le_refl _
  generalize newL h (cw w) = h1 at *
  refine q_seq (q_reg ?_)
  simp (disch := omega) only [JJ, opds, updD, ln, Nat.reduceLT, Nat.reduceLeDiff, Nat.reduceEqDiff, Nat.reduceAdd, Nat.reduceMul, ↓reduceIte, if_true, if_false, Bool.false_eq_true, beq_self_eq_true, Bool.not_true, Bool.not_false, reduceCtorEq, decide_true, decide_false, Nat.add_zero, Nat.zero_add, F112u1, fillS, empB_fold]
  have l1' := l1.ext (Ext.empB h1)
  have x1' := x1.trans (Ext.empB h1)
  have o1 : Out (empB h1) (h.next + 1 ≤ ·) (.sl h1.next 0 0 (some 0)) [] := Out.emp n1
  generalize empB h1 = h2 at *
  refine q_seq (q_seq (q_reg ?_))
  simp (disch := omega) only [JJ, opds, updD, ln, Nat.reduceLT, Nat.reduceLeDiff, Nat.reduceEqDiff, Nat.reduceAdd, Nat.reduceMul, ↓reduceIte, if_true, if_false, Bool.false_eq_true, beq_self_eq_true, Bool.not_true, Bool.not_false, reduceCtorEq, decide_true, decide_false, Nat.add_zero, Nat.zero_add, F112u2]
  refine q_block ?_
  refine q_loop (fun n e h' => ∃ i bs, i ≤ 256 ∧ n = 256 - i ∧ e 4 = .int .i64 (i : Nat) ∧ e 1 = .ptr h.next 0 ∧ Lob h' h.next (cw w) ∧ Out h' (h.next + 1 ≤ ·) (e 3) bs ∧ bs.length = cnt (has w) i ∧ Ext h h') 256
    ⟨0, [], by omega, by omega, by simp (disch := omega) only [JJ, opds, updD, ln, Nat.reduceLT, Nat.reduceLeDiff, Nat.reduceEqDiff, Nat.reduceAdd, Nat.reduceMul, ↓reduceIte, if_true, if_false, Bool.false_eq_true, beq_self_eq_true, Bool.not_true, Bool.not_false, reduceCtorEq, decide_true, decide_false, Nat.add_zero, Nat.zero_add], by simp (disch := omega) only [JJ, opds, updD, ln, Nat.reduceLT, Nat.reduceLeDiff, Nat.reduceEqDiff, Nat.reduceAdd, Nat.reduceMul, ↓reduceIte, if_true, if_false, Bool.false_eq_true, beq_self_eq_true, Bool.not_true, Bool.not_false, reduceCtorEq, decide_true, decide_false, Nat.add_zero, Nat.zero_add], l1', by simp (disch := omega) only [JJ, opds, updD, ln, Nat.reduceLT, Nat.reduceLeDiff, Nat.reduceEqDiff, Nat.reduceAdd, Nat.reduceMul, ↓reduceIte, if_true, if_false, Bool.false_eq_true, beq_self_eq_true, Bool.not_true, Bool.not_false, reduceCtorEq, decide_true, decide_false, Nat.add_zero, Nat.zero_add]; exact o1, rfl, x1'⟩ ?_
  clear l1 x1 l1' x1' o1
  rintro n e h' ⟨i, bs, hi, rfl, e4, e1, l1, o1, hl, x1⟩
  refine q_seq (q_seq (q_reg ?_))
  simp (disch := omega) only [JJ, opds, updD, ln, Nat.reduceLT, Nat.reduceLeDiff, Nat.reduceEqDiff, Nat.reduceAdd, Nat.reduceMul, ↓reduceIte, if_true, if_false, Bool.false_eq_true, beq_self_eq_true, Bool.not_true, Bool.not_false, reduceCtorEq, decide_true, decide_false, Nat.add_zero, Nat.zero_add, F112u3, e4, b_lss, c_lt]
  refine q_cond (q := decide (i < 256)) (by simp (disch := omega) only [JJ, opds, updD, ln, Nat.reduceLT, Nat.reduceLeDiff, Nat.reduceEqDiff, Nat.reduceAdd, Nat.reduceMul, ↓reduceIte, if_true, if_false, Bool.false_eq_true, beq_self_eq_true, Bool.not_true, Bool.not_false, reduceCtorEq, decide_true, decide_false, Nat.add_zero, Nat.zero_add]) (fun hc => ?_) (fun hc => ?_)
  · have hi4 := of_decide_eq_true hc
    refine q_skip ?_
    refine q_seq (q_block (q_seq (q_reg ?_)))
    simp (disch := omega) only [JJ, opds, updD, ln, Nat.reduceLT, Nat.reduceLeDiff, Nat.reduceEqDiff, Nat.reduceAdd, Nat.reduceMul, ↓reduceIte, if_true, if_false, Bool.false_eq_true, beq_self_eq_true, Bool.not_true, Bool.not_false, reduceCtorEq, decide_true, decide_false, Nat.add_zero, Nat.zero_add, F112u4, e1, e4, l1.ldN' (m := 4) rfl, k_u8]
    refine q_call (c113 hO w i _ hw hi4) ?_
    rintro v h3 ⟨rfl, x2⟩
    have l2 := l1.ext x2
    have o2 := o1.ext x2
    have x3 := x1.trans x2
    have hle := cnt_le (has w) i
    simp (disch := omega) only [JJ, opds, updD, ln, Nat.reduceLT, Nat.reduceLeDiff, Nat.reduceEqDiff, Nat.reduceAdd, Nat.reduceMul, ↓reduceIte, if_true, if_false, Bool.false_eq_true, beq_self_eq_true, Bool.not_true, Bool.not_false, reduceCtorEq, decide_true, decide_false, Nat.add_zero, Nat.zero_add]
    refine q_cond (q := has w i) (by simp (disch := omega) only [JJ, opds, updD, ln, Nat.reduceLT, Nat.reduceLeDiff, Nat.reduceEqDiff, Nat.reduceAdd, Nat.reduceMul, ↓reduceIte, if_true, if_false, Bool.false_eq_true, beq_self_eq_true, Bool.not_true, Bool.not_false, reduceCtorEq, decide_true, decide_false, Nat.add_zero, Nat.zero_add]) (fun hh => ?_) (fun hh => ?_)
    · refine q_reg ?_
      obtain ⟨v', h4, g1, g2, g3, g4⟩ := o2.app1 (b := i) (c := some 1) (by omega) (by have := x3.1; omega)
      simp (disch := omega) only [JJ, opds, updD, ln, Nat.reduceLT, Nat.reduceLeDiff, Nat.reduceEqDiff, Nat.reduceAdd, Nat.reduceMul, ↓reduceIte, if_true, if_false, Bool.false_eq_true, beq_self_eq_true, Bool.not_true, Bool.not_false, reduceCtorEq, decide_true, decide_false, Nat.add_zero, Nat.zero_add, F112u5, e4, k_u8, fillS_one, fill1uint, oneB_fold, g1]
      refine q_reg ?_
      simp (disch := omega) only [JJ, opds, updD, ln, Nat.reduceLT, Nat.reduceLeDiff, Nat.reduceEqDiff, Nat.reduceAdd, Nat.reduceMul, ↓reduceIte, if_true, if_false, Bool.false_eq_true, beq_self_eq_true, Bool.not_true, Bool.not_false, reduceCtorEq, decide_true, decide_false, Nat.add_zero, Nat.zero_add, F112u6, e4, b_add_i64]
      have n3 := x3.1
      refine ⟨256 - (i + 1), by omega, i + 1, bs ++ [i], by omega, rfl, by simp (disch := omega) only [JJ, opds, updD, ln, Nat.reduceLT, Nat.reduceLeDiff, Nat.reduceEqDiff, Nat.reduceAdd, Nat.reduceMul, ↓reduceIte, if_true, if_false, Bool.false_eq_true, beq_self_eq_true, Bool.not_true, Bool.not_false, reduceCtorEq, decide_true, decide_false, Nat.add_zero, Nat.zero_add], by simp (disch := omega) only [JJ, opds, updD, ln, Nat.reduceLT, Nat.reduceLeDiff, Nat.reduceEqDiff, Nat.reduceAdd, Nat.reduceMul, ↓reduceIte, if_true, if_false, Bool.false_eq_true, beq_self_eq_true, Bool.not_true, Bool.not_false, reduceCtorEq, decide_true, decide_false, Nat.add_zero, Nat.zero_add, e1], ?_, g2, by simp [cnt, hl, hh], ?_⟩
      · exact l2.frame (g4 _ (by have := l2.lt; omega) (by omega)) (by omega)
      · exact ⟨by omega, fun k hk => by rw [g4 k (by omega) (by omega), x3.2 k hk]⟩
    · refine q_skip ?_
      refine q_reg ?_
      simp (disch := omega) only [JJ, opds, updD, ln, Nat.reduceLT, Nat.reduceLeDiff, Nat.reduceEqDiff, Nat.reduceAdd, Nat.reduceMul, ↓reduceIte, if_true, if_false, Bool.false_eq_true, beq_self_eq_true, Bool.not_true, Bool.not_false, reduceCtorEq, decide_true, decide_false, Nat.add_zero, Nat.zero_add, F112u6, e4, b_add_i64]
      exact ⟨256 - (i + 1), by omega, i + 1, bs, by omega, rfl, by simp (disch := omega) only [JJ, opds, updD, ln, Nat.reduceLT, Nat.reduceLeDiff, Nat.reduceEqDiff, Nat.reduceAdd, Nat.reduceMul, ↓reduceIte, if_true, if_false, Bool.false_eq_true, beq_self_eq_true, Bool.not_true, Bool.not_false, reduceCtorEq, decide_true, decide_false, Nat.add_zero, Nat.zero_add], by simp (disch := omega) only [JJ, opds, updD, ln, Nat.reduceLT, Nat.reduceLeDiff, Nat.reduceEqDiff, Nat.reduceAdd, Nat.reduceMul, ↓reduceIte, if_true, if_false, Bool.false_eq_true, beq_self_eq_true, Bool.not_true, Bool.not_false, reduceCtorEq, decide_true, decide_false, Nat.add_zero, Nat.zero_add, e1], l2, o2, by simp [cnt, hl, hh], x3⟩
  · have hi4 : i = 256 := by have := of_decide_eq_false hc; omega
    subst hi4
    refine q_exit ?_
    simp (disch := omega) only [JJ, opds, updD, ln, Nat.reduceLT, Nat.reduceLeDiff, Nat.reduceEqDiff, Nat.reduceAdd, Nat.reduceMul, ↓reduceIte, if_true, if_false, Bool.false_eq_true, beq_self_eq_true, Bool.not_true, Bool.not_false, reduceCtorEq, decide_true, decide_false, Nat.add_zero, Nat.zero_add]
    refine q_seq (q_reg ?_)
    simp (disch := omega) only [JJ, opds, updD, ln, Nat.reduceLT, Nat.reduceLeDiff, Nat.reduceEqDiff, Nat.reduceAdd, Nat.reduceMul, ↓reduceIte, if_true, if_false, Bool.false_eq_true, beq_self_eq_true, Bool.not_true, Bool.not_false, reduceCtorEq, decide_true, decide_false, Nat.add_zero, Nat.zero_add, F112u7]
    refine q_ret ?_
    exact wpRes_tmp (by decide) (by simp (disch := omega) only [JJ, opds, updD, ln, Nat.reduceLT, Nat.reduceLeDiff, Nat.reduceEqDiff, Nat.reduceAdd, Nat.reduceMul, ↓reduceIte, if_true, if_false, Bool.false_eq_true, beq_self_eq_true, Bool.not_true, Bool.not_false, reduceCtorEq, decide_true, decide_false, Nat.add_zero, Nat.zero_add]; exact ⟨⟨bs, o1.imp (fun g hg => by omega), hl⟩, x1⟩)

theorem c70 (w : Nat → Nat) (h : Hp) (hw : ∀ j, w j < 2 ^ 64) : RunsP O E0 70 [.agg (cw w)] h (fun v h' => v = .int .i64 (sz w : Nat) ∧ Ext h h') := by
  refine q_fn (L := 6) E70 (hO _ _ _ rfl) rfl rfl ?_
  refine q_seq (q_reg ?_)
  simp (disch := omega) only [JJ, opds, updD, ln, Nat.reduceLT, Nat.reduceLeDiff, Nat.reduceEqDiff, Nat.reduceAdd, Nat.reduceMul, ↓reduceIte, if_true, if_false, Bool.false_eq_true, beq_self_eq_true, Bool.not_true, Bool.not_false, reduceCtorEq, decide_true, decide_false, Nat.add_zero, Nat.zero_add, F70u0]
  have l1 := Lob.new h (cw w) (Nat.succ_pos _)
  have x1 := Ext.newL h (cw w)
  generalize newL h (cw w) = h1 at *
  refine q_seq (q_reg ?_)
  simp (disch := omega) only [JJ, opds, updD, ln, Nat.reduceLT, Nat.reduceLeDiff, Nat.reduceEqDiff, Nat.reduceAdd, Nat.reduceMul, ↓reduceIte, if_true, if_false, Bool.false_eq_true, beq_self_eq_true, Bool.not_true, Bool.not_false, reduceCtorEq, decide_true, decide_false, Nat.add_zero, Nat.zero_add, F70u1, l1.ldN' (m := 4) rfl]
  refine q_call (c112 hO w _ hw) ?_
  rintro v h2 ⟨⟨bs, o, hl⟩, x2⟩
  simp (disch := omega) only [JJ, opds, updD, ln, Nat.reduceLT, Nat.reduceLeDiff, Nat.reduceEqDiff, Nat.reduceAdd, Nat.reduceMul, ↓reduceIte, if_true, if_false, Bool.false_eq_true, beq_self_eq_true, Bool.not_true, Bool.not_false, reduceCtorEq, decide_true, decide_false, Nat.add_zero, Nat.zero_add, o.len, hl]
  refine q_ret ?_
  exact wpRes_tmp (by decide) (by simp (disch := omega) only [JJ, opds, updD, ln, Nat.reduceLT, Nat.reduceLeDiff, Nat.reduceEqDiff, Nat.reduceAdd, Nat.reduceMul, ↓reduceIte, if_true, if_false, Bool.false_eq_true, beq_self_eq_true, Bool.not_true, Bool.not_false, reduceCtorEq, decide_true, decide_false, Nat.add_zero, Nat.zero_add]; exact ⟨trivial, x1.trans x2⟩)

/-- The words of a set of bytes. -/
def Set (u : Nat → Nat) (p : Nat → Bool) : Prop := (∀ j, u j < 2 ^ 64) ∧ ∀ b, b < 256 → has u b = p b
omit hO in
theorem Set.zero : Set (fun _ => 0) (fun _ => false) := ⟨fun _ => Nat.two_pow_pos 64, fun b _ => by simp [has]⟩
omit hO in
theorem Set.add {u : Nat → Nat} {p : Nat → Bool} {q : Nat → Bool} (x : Set u p) {i : Nat} (h : ∀ b, b < 256 → q b = (decide (b = i) || p b)) : Set (withW u i) q :=
  ⟨ok_withW x.1 i, fun b hb => by rw [has_withW, x.2 b hb, h b hb]⟩
omit hO in
theorem Set.imp {u : Nat → Nat} {p q : Nat → Bool} (x : Set u p) (h : ∀ b, b < 256 → p b = q b) : Set u q := ⟨x.1, fun b hb => by rw [x.2 b hb, h b hb]⟩

set_option maxHeartbeats 1000000 in
theorem c71 (a b : Nat → Nat) (h : Hp) (ha : ∀ j, a j < 2 ^ 64) (hb : ∀ j, b j < 2 ^ 64) : RunsP O E0 71 [.agg (cw a), .agg (cw b)] h (fun v h' => (∃ u, v = .agg (cw u) ∧ Set u (fun c => has a c && has b c)) ∧ Ext h h') := by
  refine q_fn (L := 27) E71 (hO _ _ _ rfl) rfl rfl ?_
  refine q_seq (q_reg ?_)
  simp (disch := omega) only [JJ, opds, updD, ln, Nat.reduceLT, Nat.reduceLeDiff, Nat.reduceEqDiff, Nat.reduceAdd, Nat.reduceMul, ↓reduceIte, if_true, if_false, Bool.false_eq_true, beq_self_eq_true, Bool.not_true, Bool.not_false, reduceCtorEq, decide_true, decide_false, Nat.add_zero, Nat.zero_add, F71u0, zero_cw]
  have l2 := ((Lob.new h (cw a) (Nat.succ_pos _)).newL (l' := cw b)).newL (l' := cw fun _ => 0)
  have l3 := (Lob.new (newL h (cw a)) (cw b) (Nat.succ_pos _)).newL (l' := cw fun _ => 0)
  have l4 := Lob.new (newL (newL h (cw a)) (cw b)) (cw fun _ => 0) (Nat.succ_pos _)
  have x1 := ((Ext.newL h (cw a)).trans (Ext.newL _ (cw b))).trans (Ext.newL _ (cw fun _ => 0))
  rw [QM] at l3
  rw [QM, QM] at l4
  have n1 : (newL (newL (newL h (cw a)) (cw b)) (cw fun _ => 0)).next = h.next + 1 + 1 + 1 := rfl
  generalize newL (newL (newL h (cw a)) (cw b)) (cw fun _ => 0) = h1 at *
  refine q_seq (q_reg ?_)
  have l5 := Lob.new h1 (cw fun _ => 0) (Nat.succ_pos _)
  replace l2 := l2.newL (l' := cw fun _ => 0)
  replace l3 := l3.newL (l' := cw fun _ => 0)
  replace l4 := l4.newL (l' := cw fun _ => 0)
  replace x1 := x1.trans (Ext.newL _ (cw fun _ => 0))
  obtain ⟨ob, g1, g2⟩ := l5.st (o := 0) (vs := cw fun _ => 0) (Nat.le_refl _) rfl (Nat.succ_pos _)
  rw [blit_all (by rfl)] at g2
  rw [n1] at l5 g1 g2
  have g1' : gst (newL h1 (cw fun _ => 0)) (h.next + 1 + 1 + 1) 0 [.int .u64 ((0 : Nat) : Int), .int .u64 ((0 : Nat) : Int), .int .u64 ((0 : Nat) : Int), .int .u64 ((0 : Nat) : Int)] = some ((newL h1 (cw fun _ => 0)).set (h.next + 1 + 1 + 1) ob) := g1
  simp (disch := omega) only [JJ, opds, updD, ln, Nat.reduceLT, Nat.reduceLeDiff, Nat.reduceEqDiff, Nat.reduceAdd, Nat.reduceMul, ↓reduceIte, if_true, if_false, Bool.false_eq_true, beq_self_eq_true, Bool.not_true, Bool.not_false, reduceCtorEq, decide_true, decide_false, Nat.add_zero, Nat.zero_add, F71u1, zero_cw, fillA, n1, g1']
  replace l2 := l2.set_ne (g := h.next + 1 + 1 + 1) (ob := ob) (by omega)
  replace l3 := l3.set_ne (g := h.next + 1 + 1 + 1) (ob := ob) (by omega)
  replace l4 := l4.set_ne (g := h.next + 1 + 1 + 1) (ob := ob) (by omega)
  replace x1 := x1.set (g := h.next + 1 + 1 + 1) (by omega) ob
  clear g1 g1' l5
  generalize (newL h1 (cw fun _ => 0)).set (h.next + 1 + 1 + 1) ob = h2 at *
  refine q_seq (q_seq (q_reg ?_))
  simp (disch := omega) only [JJ, opds, updD, ln, Nat.reduceLT, Nat.reduceLeDiff, Nat.reduceEqDiff, Nat.reduceAdd, Nat.reduceMul, ↓reduceIte, if_true, if_false, Bool.false_eq_true, beq_self_eq_true, Bool.not_true, Bool.not_false, reduceCtorEq, decide_true, decide_false, Nat.add_zero, Nat.zero_add, F71u2]
  refine q_block ?_
  refine q_loop (fun n e h' => ∃ i u, i ≤ 256 ∧ n = 256 - i ∧ e 6 = .int .i64 (i : Nat) ∧ e 2 = .ptr h.next 0 ∧ e 3 = .ptr (h.next + 1) 0 ∧ e 4 = .ptr (h.next + 1 + 1) 0 ∧ e 5 = .ptr (h.next + 1 + 1 + 1) 0 ∧ Set u (fun c => decide (c < i) && (has a c && has b c)) ∧
    Lob h' h.next (cw a) ∧ Lob h' (h.next + 1) (cw b) ∧ Lob h' (h.next + 1 + 1) (cw fun _ => 0) ∧ Lob h' (h.next + 1 + 1 + 1) (cw u) ∧ Ext h h') 256
    ⟨0, fun _ => 0, by omega, by omega, by simp (disch := omega) only [JJ, opds, updD, ln, Nat.reduceLT, Nat.reduceLeDiff, Nat.reduceEqDiff, Nat.reduceAdd, Nat.reduceMul, ↓reduceIte, if_true, if_false, Bool.false_eq_true, beq_self_eq_true, Bool.not_true, Bool.not_false, reduceCtorEq, decide_true, decide_false, Nat.add_zero, Nat.zero_add], by simp (disch := omega) only [JJ, opds, updD, ln, Nat.reduceLT, Nat.reduceLeDiff, Nat.reduceEqDiff, Nat.reduceAdd, Nat.reduceMul, ↓reduceIte, if_true, if_false, Bool.false_eq_true, beq_self_eq_true, Bool.not_true, Bool.not_false, reduceCtorEq, decide_true, decide_false, Nat.add_zero, Nat.zero_add], by simp (disch := omega) only [JJ, opds, updD, ln, Nat.reduceLT, Nat.reduceLeDiff, Nat.reduceEqDiff, Nat.reduceAdd, Nat.reduceMul, ↓reduceIte, if_true, if_false, Bool.false_eq_true, beq_self_eq_true, Bool.not_true, Bool.not_false, reduceCtorEq, decide_true, decide_false, Nat.add_zero, Nat.zero_add], by simp (disch := omega) only [JJ, opds, updD, ln, Nat.reduceLT, Nat.reduceLeDiff, Nat.reduceEqDiff, Nat.reduceAdd, Nat.reduceMul, ↓reduceIte, if_true, if_false, Bool.false_eq_true, beq_self_eq_true, Bool.not_true, Bool.not_false, reduceCtorEq, decide_true, decide_false, Nat.add_zero, Nat.zero_add], by simp (disch := omega) only [JJ, opds, updD, ln, Nat.reduceLT, Nat.reduceLeDiff, Nat.reduceEqDiff, Nat.reduceAdd, Nat.reduceMul, ↓reduceIte, if_true, if_false, Bool.false_eq_true, beq_self_eq_true, Bool.not_true, Bool.not_false, reduceCtorEq, decide_true, decide_false, Nat.add_zero, Nat.zero_add], Set.zero.imp (fun _ _ => by simp), l2, l3, l4, g2, x1⟩ ?_
  clear l2 l3 l4 g2 x1 n1
  rintro n e h' ⟨i, u, hi, rfl, e6, e2, e3, e4, e5, su, l2, l3, l4, l5, x1⟩
  refine q_seq (q_seq (q_reg ?_))
  simp (disch := omega) only [JJ, opds, updD, ln, Nat.reduceLT, Nat.reduceLeDiff, Nat.reduceEqDiff, Nat.reduceAdd, Nat.reduceMul, ↓reduceIte, if_true, if_false, Bool.false_eq_true, beq_self_eq_true, Bool.not_true, Bool.not_false, reduceCtorEq, decide_true, decide_false, Nat.add_zero, Nat.zero_add, F71u3, e6, b_lss, c_lt]
  refine q_cond (q := decide (i < 256)) (by simp (disch := omega) only [JJ, opds, updD, ln, Nat.reduceLT, Nat.reduceLeDiff, Nat.reduceEqDiff, Nat.reduceAdd, Nat.reduceMul, ↓reduceIte, if_true, if_false, Bool.false_eq_true, beq_self_eq_true, Bool.not_true, Bool.not_false, reduceCtorEq, decide_true, decide_false, Nat.add_zero, Nat.zero_add]) (fun hc => ?_) (fun hc => ?_)
  · have hi4 := of_decide_eq_true hc
    refine q_skip ?_
    refine q_seq (q_block (q_seq (q_reg ?_)))
    simp (disch := omega) only [JJ, opds, updD, ln, Nat.reduceLT, Nat.reduceLeDiff, Nat.reduceEqDiff, Nat.reduceAdd, Nat.reduceMul, ↓reduceIte, if_true, if_false, Bool.false_eq_true, beq_self_eq_true, Bool.not_true, Bool.not_false, reduceCtorEq, decide_true, decide_false, Nat.add_zero, Nat.zero_add, F71u4, e2, e3, e6, l2.ldN' (m := 4) rfl, k_u8]
    refine q_call (c113 hO a i _ ha hi4) ?_
    rintro v h3 ⟨rfl, x2⟩
    cases ha1 : has a i
    · have sn : Set u (fun c => decide (c < i + 1) && (has a c && has b c)) := su.imp fun c _ => by
        by_cases h1 : c = i
        · subst h1; simp [ha1]
        · have : c < i + 1 ↔ c < i := by omega
          simp [this]
      simp (disch := omega) only [JJ, opds, updD, ln, Nat.reduceLT, Nat.reduceLeDiff, Nat.reduceEqDiff, Nat.reduceAdd, Nat.reduceMul, ↓reduceIte, if_true, if_false, Bool.false_eq_true, beq_self_eq_true, Bool.not_true, Bool.not_false, reduceCtorEq, decide_true, decide_false, Nat.add_zero, Nat.zero_add]
      refine q_cond (q := false) (by simp (disch := omega) only [JJ, opds, updD, ln, Nat.reduceLT, Nat.reduceLeDiff, Nat.reduceEqDiff, Nat.reduceAdd, Nat.reduceMul, ↓reduceIte, if_true, if_false, Bool.false_eq_true, beq_self_eq_true, Bool.not_true, Bool.not_false, reduceCtorEq, decide_true, decide_false, Nat.add_zero, Nat.zero_add]) (fun h => by cases h) (fun _ => ?_)
      refine q_skip ?_
      refine q_reg ?_
      simp (disch := omega) only [JJ, opds, updD, ln, Nat.reduceLT, Nat.reduceLeDiff, Nat.reduceEqDiff, Nat.reduceAdd, Nat.reduceMul, ↓reduceIte, if_true, if_false, Bool.false_eq_true, beq_self_eq_true, Bool.not_true, Bool.not_false, reduceCtorEq, decide_true, decide_false, Nat.add_zero, Nat.zero_add, F71u6, e6, b_add_i64]
      exact ⟨256 - (i + 1), by omega, i + 1, u, by omega, rfl, by simp (disch := omega) only [JJ, opds, updD, ln, Nat.reduceLT, Nat.reduceLeDiff, Nat.reduceEqDiff, Nat.reduceAdd, Nat.reduceMul, ↓reduceIte, if_true, if_false, Bool.false_eq_true, beq_self_eq_true, Bool.not_true, Bool.not_false, reduceCtorEq, decide_true, decide_false, Nat.add_zero, Nat.zero_add], by simp (disch := omega) only [JJ, opds, updD, ln, Nat.reduceLT, Nat.reduceLeDiff, Nat.reduceEqDiff, Nat.reduceAdd, Nat.reduceMul, ↓reduceIte, if_true, if_false, Bool.false_eq_true, beq_self_eq_true, Bool.not_true, Bool.not_false, reduceCtorEq, decide_true, decide_false, Nat.add_zero, Nat.zero_add, e2], by simp (disch := omega) only [JJ, opds, updD, ln, Nat.reduceLT, Nat.reduceLeDiff, Nat.reduceEqDiff, Nat.reduceAdd, Nat.reduceMul, ↓reduceIte, if_true, if_false, Bool.false_eq_true, beq_self_eq_true, Bool.not_true, Bool.not_false, reduceCtorEq, decide_true, decide_false, Nat.add_zero, Nat.zero_add, e3], by simp (disch := omega) only [JJ, opds, updD, ln, Nat.reduceLT, Nat.reduceLeDiff, Nat.reduceEqDiff, Nat.reduceAdd, Nat.reduceMul, ↓reduceIte, if_true, if_false, Bool.false_eq_true, beq_self_eq_true, Bool.not_true, Bool.not_false, reduceCtorEq, decide_true, decide_false, Nat.add_zero, Nat.zero_add, e4], by simp (disch := omega) only [JJ, opds, updD, ln, Nat.reduceLT, Nat.reduceLeDiff, Nat.reduceEqDiff, Nat.reduceAdd, Nat.reduceMul, ↓reduceIte, if_true, if_false, Bool.false_eq_true, beq_self_eq_true, Bool.not_true, Bool.not_false, reduceCtorEq, decide_true, decide_false, Nat.add_zero, Nat.zero_add, e5], sn, l2.ext x2, l3.ext x2, l4.ext x2, l5.ext x2, x1.trans x2⟩
    · have l3' := l3.ext x2
      simp (disch := omega) only [JJ, opds, updD, ln, Nat.reduceLT, Nat.reduceLeDiff, Nat.reduceEqDiff, Nat.reduceAdd, Nat.reduceMul, ↓reduceIte, if_true, if_false, Bool.false_eq_true, beq_self_eq_true, Bool.not_true, Bool.not_false, reduceCtorEq, decide_true, decide_false, Nat.add_zero, Nat.zero_add, e3, e6, l3'.ldN' (m := 4) rfl, k_u8]
      refine q_call (c113 hO b i _ hb hi4) ?_
      rintro v h4 ⟨rfl, x3⟩
      have x4 := x2.trans x3
      cases hb1 : has b i
      · have sn : Set u (fun c => decide (c < i + 1) && (has a c && has b c)) := su.imp fun c _ => by
          by_cases h1 : c = i
          · subst h1; simp [hb1]
          · have : c < i + 1 ↔ c < i := by omega
            simp [this]
        simp (disch := omega) only [JJ, opds, updD, ln, Nat.reduceLT, Nat.reduceLeDiff, Nat.reduceEqDiff, Nat.reduceAdd, Nat.reduceMul, ↓reduceIte, if_true, if_false, Bool.false_eq_true, beq_self_eq_true, Bool.not_true, Bool.not_false, reduceCtorEq, decide_true, decide_false, Nat.add_zero, Nat.zero_add]
        refine q_cond (q := false) (by simp (disch := omega) only [JJ, opds, updD, ln, Nat.reduceLT, Nat.reduceLeDiff, Nat.reduceEqDiff, Nat.reduceAdd, Nat.reduceMul, ↓reduceIte, if_true, if_false, Bool.false_eq_true, beq_self_eq_true, Bool.not_true, Bool.not_false, reduceCtorEq, decide_true, decide_false, Nat.add_zero, Nat.zero_add]) (fun h => by cases h) (fun _ => ?_)
        refine q_skip ?_
        refine q_reg ?_
        simp (disch := omega) only [JJ, opds, updD, ln, Nat.reduceLT, Nat.reduceLeDiff, Nat.reduceEqDiff, Nat.reduceAdd, Nat.reduceMul, ↓reduceIte, if_true, if_false, Bool.false_eq_true, beq_self_eq_true, Bool.not_true, Bool.not_false, reduceCtorEq, decide_true, decide_false, Nat.add_zero, Nat.zero_add, F71u6, e6, b_add_i64]
        exact ⟨256 - (i + 1), by omega, i + 1, u, by omega, rfl, by simp (disch := omega) only [JJ, opds, updD, ln, Nat.reduceLT, Nat.reduceLeDiff, Nat.reduceEqDiff, Nat.reduceAdd, Nat.reduceMul, ↓reduceIte, if_true, if_false, Bool.false_eq_true, beq_self_eq_true, Bool.not_true, Bool.not_false, reduceCtorEq, decide_true, decide_false, Nat.add_zero, Nat.zero_add], by simp (disch := omega) only [JJ, opds, updD, ln, Nat.reduceLT, Nat.reduceLeDiff, Nat.reduceEqDiff, Nat.reduceAdd, Nat.reduceMul, ↓reduceIte, if_true, if_false, Bool.false_eq_true, beq_self_eq_true, Bool.not_true, Bool.not_false, reduceCtorEq, decide_true, decide_false, Nat.add_zero, Nat.zero_add, e2], by simp (disch := omega) only [JJ, opds, updD, ln, Nat.reduceLT, Nat.reduceLeDiff, Nat.reduceEqDiff, Nat.reduceAdd, Nat.reduceMul, ↓reduceIte, if_true, if_false, Bool.false_eq_true, beq_self_eq_true, Bool.not_true, Bool.not_false, reduceCtorEq, decide_true, decide_false, Nat.add_zero, Nat.zero_add, e3], by simp (disch := omega) only [JJ, opds, updD, ln, Nat.reduceLT, Nat.reduceLeDiff, Nat.reduceEqDiff, Nat.reduceAdd, Nat.reduceMul, ↓reduceIte, if_true, if_false, Bool.false_eq_true, beq_self_eq_true, Bool.not_true, Bool.not_false, reduceCtorEq, decide_true, decide_false, Nat.add_zero, Nat.zero_add, e4], by simp (disch := omega) only [JJ, opds, updD, ln, Nat.reduceLT, Nat.reduceLeDiff, Nat.reduceEqDiff, Nat.reduceAdd, Nat.reduceMul, ↓reduceIte, if_true, if_false, Bool.false_eq_true, beq_self_eq_true, Bool.not_true, Bool.not_false, reduceCtorEq, decide_true, decide_false, Nat.add_zero, Nat.zero_add, e5], sn, l2.ext x4, l3.ext x4, l4.ext x4, l5.ext x4, x1.trans x4⟩
      · have sn : Set (withW u i) (fun c => decide (c < i + 1) && (has a c && has b c)) := su.add fun c _ => by
          by_cases h1 : c = i
          · subst h1; simp [ha1, hb1]
          · have : c < i + 1 ↔ c < i := by omega
            simp [this, h1]
        simp (disch := omega) only [JJ, opds, updD, ln, Nat.reduceLT, Nat.reduceLeDiff, Nat.reduceEqDiff, Nat.reduceAdd, Nat.reduceMul, ↓reduceIte, if_true, if_false, Bool.false_eq_true, beq_self_eq_true, Bool.not_true, Bool.not_false, reduceCtorEq, decide_true, decide_false, Nat.add_zero, Nat.zero_add]
        refine q_cond (q := true) (by simp (disch := omega) only [JJ, opds, updD, ln, Nat.reduceLT, Nat.reduceLeDiff, Nat.reduceEqDiff, Nat.reduceAdd, Nat.reduceMul, ↓reduceIte, if_true, if_false, Bool.false_eq_true, beq_self_eq_true, Bool.not_true, Bool.not_false, reduceCtorEq, decide_true, decide_false, Nat.add_zero, Nat.zero_add]) (fun _ => ?_) (fun h => by cases h)
        refine q_reg ?_
        have l5' := l5.ext x4
        simp (disch := omega) only [JJ, opds, updD, ln, Nat.reduceLT, Nat.reduceLeDiff, Nat.reduceEqDiff, Nat.reduceAdd, Nat.reduceMul, ↓reduceIte, if_true, if_false, Bool.false_eq_true, beq_self_eq_true, Bool.not_true, Bool.not_false, reduceCtorEq, decide_true, decide_false, Nat.add_zero, Nat.zero_add, F71u5, e5, e6, l5'.ldN' (m := 4) rfl, k_u8]
        refine q_call (c114 hO u i _ su.1 hi4) ?_
        rintro v h5 ⟨rfl, x5⟩
        have x6 := x4.trans x5
        obtain ⟨ob, g1, g2⟩ := (l5.ext x6).st (o := 0) (vs := cw (withW u i)) (Nat.le_refl _) rfl (Nat.succ_pos _)
        rw [blit_all (by rfl)] at g2
        simp (disch := omega) only [JJ, opds, updD, ln, Nat.reduceLT, Nat.reduceLeDiff, Nat.reduceEqDiff, Nat.reduceAdd, Nat.reduceMul, ↓reduceIte, if_true, if_false, Bool.false_eq_true, beq_self_eq_true, Bool.not_true, Bool.not_false, reduceCtorEq, decide_true, decide_false, Nat.add_zero, Nat.zero_add, e5, ln_cw, g1]
        refine q_reg ?_
        simp (disch := omega) only [JJ, opds, updD, ln, Nat.reduceLT, Nat.reduceLeDiff, Nat.reduceEqDiff, Nat.reduceAdd, Nat.reduceMul, ↓reduceIte, if_true, if_false, Bool.false_eq_true, beq_self_eq_true, Bool.not_true, Bool.not_false, reduceCtorEq, decide_true, decide_false, Nat.add_zero, Nat.zero_add, F71u6, e6, b_add_i64]
        exact ⟨256 - (i + 1), by omega, i + 1, withW u i, by omega, rfl, by simp (disch := omega) only [JJ, opds, updD, ln, Nat.reduceLT, Nat.reduceLeDiff, Nat.reduceEqDiff, Nat.reduceAdd, Nat.reduceMul, ↓reduceIte, if_true, if_false, Bool.false_eq_true, beq_self_eq_true, Bool.not_true, Bool.not_false, reduceCtorEq, decide_true, decide_false, Nat.add_zero, Nat.zero_add], by simp (disch := omega) only [JJ, opds, updD, ln, Nat.reduceLT, Nat.reduceLeDiff, Nat.reduceEqDiff, Nat.reduceAdd, Nat.reduceMul, ↓reduceIte, if_true, if_false, Bool.false_eq_true, beq_self_eq_true, Bool.not_true, Bool.not_false, reduceCtorEq, decide_true, decide_false, Nat.add_zero, Nat.zero_add, e2], by simp (disch := omega) only [JJ, opds, updD, ln, Nat.reduceLT, Nat.reduceLeDiff, Nat.reduceEqDiff, Nat.reduceAdd, Nat.reduceMul, ↓reduceIte, if_true, if_false, Bool.false_eq_true, beq_self_eq_true, Bool.not_true, Bool.not_false, reduceCtorEq, decide_true, decide_false, Nat.add_zero, Nat.zero_add, e3], by simp (disch := omega) only [JJ, opds, updD, ln, Nat.reduceLT, Nat.reduceLeDiff, Nat.reduceEqDiff, Nat.reduceAdd, Nat.reduceMul, ↓reduceIte, if_true, if_false, Bool.false_eq_true, beq_self_eq_true, Bool.not_true, Bool.not_false, reduceCtorEq, decide_true, decide_false, Nat.add_zero, Nat.zero_add, e4], by simp (disch := omega) only [JJ, opds, updD, ln, Nat.reduceLT, Nat.reduceLeDiff, Nat.reduceEqDiff, Nat.reduceAdd, Nat.reduceMul, ↓reduceIte, if_true, if_false, Bool.false_eq_true, beq_self_eq_true, Bool.not_true, Bool.not_false, reduceCtorEq, decide_true, decide_false, Nat.add_zero, Nat.zero_add, e5], sn, (l2.ext x6).set_ne (by omega), (l3.ext x6).set_ne (by omega), (l4.ext x6).set_ne (by omega), g2, (x1.trans x6).set (by omega) _⟩
  · have hi4 : i = 256 := by have := of_decide_eq_false hc; omega
    subst hi4
    refine q_exit ?_
    simp (disch := omega) only [JJ, opds, updD, ln, Nat.reduceLT, Nat.reduceLeDiff, Nat.reduceEqDiff, Nat.reduceAdd, Nat.reduceMul, ↓reduceIte, if_true, if_false, Bool.false_eq_true, beq_self_eq_true, Bool.not_true, Bool.not_false, reduceCtorEq, decide_true, decide_false, Nat.add_zero, Nat.zero_add]
    refine q_seq (q_reg ?_)
    obtain ⟨ob, g1, g2⟩ := l4.st (o := 0) (vs := cw u) (Nat.le_refl _) rfl (Nat.succ_pos _)
    rw [blit_all (by rfl)] at g2
    simp (disch := omega) only [JJ, opds, updD, ln, Nat.reduceLT, Nat.reduceLeDiff, Nat.reduceEqDiff, Nat.reduceAdd, Nat.reduceMul, ↓reduceIte, if_true, if_false, Bool.false_eq_true, beq_self_eq_true, Bool.not_true, Bool.not_false, reduceCtorEq, decide_true, decide_false, Nat.add_zero, Nat.zero_add, F71u7, e5, e4, l5.ldN' (m := 4) rfl, ln_cw, g1]
    refine q_ret ?_
    exact wpRes_cellN (by decide) (by simp (disch := omega) only [JJ, opds, updD, ln, Nat.reduceLT, Nat.reduceLeDiff, Nat.reduceEqDiff, Nat.reduceAdd, Nat.reduceMul, ↓reduceIte, if_true, if_false, Bool.false_eq_true, beq_self_eq_true, Bool.not_true, Bool.not_false, reduceCtorEq, decide_true, decide_false, Nat.add_zero, Nat.zero_add, e4]) g2 rfl ⟨⟨u, rfl, su.imp fun c hc => by simp [hc]⟩, x1.set (by omega) _⟩
end
end Go.Proofs.YtfaeabhbeolpgaaGreatDoor
end
