/- Classes of bytes, part 5: partitions, the class of a byte. Conditions: none. -/
import Derived.Test.YtfaeabhbeolpgaaGreatDoorSa4
set_option linter.all false
noncomputable section
open Go Go.Am Univ
namespace Go.Proofs.YtfaeabhbeolpgaaGreatDoor

/-- The bytes of the first classes. -/
def un (C : Nat → Nat → Nat) : Nat → Nat → Bool
  | 0, _ => false
  | k + 1, b => un C k b || has (C k) b
def PartR (C : Nat → Nat → Nat) (n : Nat) : Prop := (∀ i, i < n → sz (C i) ≠ 0 ∧ cnt (fun b => un C i b && has (C i) b) 256 = 0) ∧ cnt (un C n) 256 = 256
/-- A slice of classes. -/
def Cls (h : Hp) (v : AVal) (n : Nat) (C : Nat → Nat → Nat) : Prop := SlN h 4 v n (fun i => cw (C i)) ∧ ∀ i j, C i j < 2 ^ 64
theorem Cls.ext {h h' : Hp} {v : AVal} {n : Nat} {C : Nat → Nat → Nat} (x : Cls h v n C) (e : Ext h h') : Cls h' v n C := ⟨x.1.ext e, x.2⟩
theorem Set.sz {u : Nat → Nat} {p : Nat → Bool} (x : Set u p) : sz u = cnt p 256 := cnt_congr 256 x.2

section
variable {O : Orc} (hO : Only O)
include hO

set_option maxHeartbeats 1000000 in
theorem c41 (v : AVal) (n : Nat) (C : Nat → Nat → Nat) (h : Hp) (s : Cls h v n C) (hn : n < 2 ^ 63) : RunsP O E0 41 [v] h (fun v h' => BoolP v (PartR C n) ∧ Ext h h') := by
  refine q_fn (L := 37) E41 (hO _ _ _ rfl) rfl rfl ?_
  refine q_seq (q_reg ?_)
  simp (disch := omega) only [JJ, opds, updD, ln, Nat.reduceLT, Nat.reduceLeDiff, Nat.reduceEqDiff, Nat.reduceAdd, Nat.reduceMul, ↓reduceIte, if_true, if_false, Bool.false_eq_true, beq_self_eq_true, Bool.not_true, Bool.not_false, reduceCtorEq, decide_true, decide_false, Nat.add_zero, Nat.zero_add, F41u0]
  have l3 := Lob.new h (cw fun _ => 0) (Nat.succ_pos _)
  have x1 := Ext.newL h (cw fun _ => 0)
  obtain ⟨ob, g1, g2⟩ := l3.st (o := 0) (vs := cw fun _ => 0) (Nat.le_refl _) rfl (Nat.succ_pos _)
  rw [blit_all (by rfl)] at g2
  have g1' : gst (newL h (cw fun _ => 0)) h.next 0 [.int .u64 ((0 : Nat) : Int), .int .u64 ((0 : Nat) : Int), .int .u64 ((0 : Nat) : Int), .int .u64 ((0 : Nat) : Int)] = some ((newL h (cw fun _ => 0)).set h.next ob) := g1
  refine q_seq (q_reg ?_)
  simp (disch := omega) only [JJ, opds, updD, ln, Nat.reduceLT, Nat.reduceLeDiff, Nat.reduceEqDiff, Nat.reduceAdd, Nat.reduceMul, ↓reduceIte, if_true, if_false, Bool.false_eq_true, beq_self_eq_true, Bool.not_true, Bool.not_false, reduceCtorEq, decide_true, decide_false, Nat.add_zero, Nat.zero_add, F41u1, zero_cw, fillA, g1']
  replace x1 := x1.set (g := h.next) (Nat.le_refl _) ob
  clear g1 g1' l3
  generalize (newL h (cw fun _ => 0)).set h.next ob = h2 at *
  refine q_seq (q_seq (q_reg ?_))
  simp (disch := omega) only [JJ, opds, updD, ln, Nat.reduceLT, Nat.reduceLeDiff, Nat.reduceEqDiff, Nat.reduceAdd, Nat.reduceMul, ↓reduceIte, if_true, if_false, Bool.false_eq_true, beq_self_eq_true, Bool.not_true, Bool.not_false, reduceCtorEq, decide_true, decide_false, Nat.add_zero, Nat.zero_add, F41u2]
  refine q_block ?_
  refine q_loop (fun m e h' => ∃ i u, i ≤ n ∧ m = n - i ∧ e 4 = .int .i64 (i : Nat) ∧ e 0 = v ∧ e 3 = .ptr h.next 0 ∧ Set u (un C i) ∧ (∀ k, k < i → sz (C k) ≠ 0 ∧ cnt (fun b => un C k b && has (C k) b) 256 = 0) ∧ Lob h' h.next (cw u) ∧ Ext h h') n
    ⟨0, fun _ => 0, by omega, by omega, by simp (disch := omega) only [JJ, opds, updD, ln, Nat.reduceLT, Nat.reduceLeDiff, Nat.reduceEqDiff, Nat.reduceAdd, Nat.reduceMul, ↓reduceIte, if_true, if_false, Bool.false_eq_true, beq_self_eq_true, Bool.not_true, Bool.not_false, reduceCtorEq, decide_true, decide_false, Nat.add_zero, Nat.zero_add], by simp (disch := omega) only [JJ, opds, updD, ln, Nat.reduceLT, Nat.reduceLeDiff, Nat.reduceEqDiff, Nat.reduceAdd, Nat.reduceMul, ↓reduceIte, if_true, if_false, Bool.false_eq_true, beq_self_eq_true, Bool.not_true, Bool.not_false, reduceCtorEq, decide_true, decide_false, Nat.add_zero, Nat.zero_add], by simp (disch := omega) only [JJ, opds, updD, ln, Nat.reduceLT, Nat.reduceLeDiff, Nat.reduceEqDiff, Nat.reduceAdd, Nat.reduceMul, ↓reduceIte, if_true, if_false, Bool.false_eq_true, beq_self_eq_true, Bool.not_true, Bool.not_false, reduceCtorEq, decide_true, decide_false, Nat.add_zero, Nat.zero_add], Set.zero.imp (fun _ _ => rfl), by omega, g2, x1⟩ ?_
  clear g2 x1
  rintro m e h' ⟨i, u, hi, rfl, e4, e0, e3, su, hp, l3, x1⟩
  have s' := s.ext x1
  refine q_seq (q_seq (q_reg ?_))
  simp (disch := omega) only [JJ, opds, updD, ln, Nat.reduceLT, Nat.reduceLeDiff, Nat.reduceEqDiff, Nat.reduceAdd, Nat.reduceMul, ↓reduceIte, if_true, if_false, Bool.false_eq_true, beq_self_eq_true, Bool.not_true, Bool.not_false, reduceCtorEq, decide_true, decide_false, Nat.add_zero, Nat.zero_add, F41u3, e4, e0, s'.1.len, b_lss, c_lt]
  refine q_cond (q := decide (i < n)) (by simp (disch := omega) only [JJ, opds, updD, ln, Nat.reduceLT, Nat.reduceLeDiff, Nat.reduceEqDiff, Nat.reduceAdd, Nat.reduceMul, ↓reduceIte, if_true, if_false, Bool.false_eq_true, beq_self_eq_true, Bool.not_true, Bool.not_false, reduceCtorEq, decide_true, decide_false, Nat.add_zero, Nat.zero_add]) (fun hc => ?_) (fun hc => ?_)
  · have hi4 := of_decide_eq_true hc
    obtain ⟨ga, oa, a1, a2⟩ := s'.1.addr hi4
    refine q_skip ?_
    refine q_seq (q_block (q_seq (q_seq (q_dreg0 ?_))))
    simp (disch := omega) only [Ja, Jb, Jc, Jd, Je, Jf, Jg, Jh, Ji, Jj, Jk, Jl, Jm, Jn, Jp, Jq, Jr, Js, Jt, Ju, Jv, Jw, Jx, Jy, true_and, and_true, JJ, opds, updD, ln, Nat.reduceLT, Nat.reduceLeDiff, Nat.reduceEqDiff, Nat.reduceAdd, Nat.reduceMul, ↓reduceIte, if_true, if_false, Bool.false_eq_true, beq_self_eq_true, Bool.not_true, Bool.not_false, reduceCtorEq, decide_true, decide_false, Nat.add_zero, Nat.zero_add, F41u7, F41u7p, e0, e4, a1, (a2 _ (Ext.refl _)).1]
    refine q_call (c70 hO (C i) _ (s.2 i)) ?_
    rintro v1 h3 ⟨rfl, x2⟩
    have l3' := l3.ext x2
    simp (disch := omega) only [Ja, Jb, Jc, Jd, Je, Jf, Jg, Jh, Ji, Jj, Jk, Jl, Jm, Jn, Jp, Jq, Jr, Js, Jt, Ju, Jv, Jw, Jx, Jy, true_and, and_true, JJ, opds, updD, ln, Nat.reduceLT, Nat.reduceLeDiff, Nat.reduceEqDiff, Nat.reduceAdd, Nat.reduceMul, ↓reduceIte, if_true, if_false, Bool.false_eq_true, beq_self_eq_true, Bool.not_true, Bool.not_false, reduceCtorEq, decide_true, decide_false, Nat.add_zero, Nat.zero_add, F41u7, b_eql, c_eq]
    by_cases hz : sz (C i) = 0
    · simp (disch := omega) only [Ja, Jb, Jc, Jd, Je, Jf, Jg, Jh, Ji, Jj, Jk, Jl, Jm, Jn, Jp, Jq, Jr, Js, Jt, Ju, Jv, Jw, Jx, Jy, true_and, and_true, JJ, opds, updD, ln, Nat.reduceLT, Nat.reduceLeDiff, Nat.reduceEqDiff, Nat.reduceAdd, Nat.reduceMul, ↓reduceIte, if_true, if_false, Bool.false_eq_true, beq_self_eq_true, Bool.not_true, Bool.not_false, reduceCtorEq, decide_true, decide_false, Nat.add_zero, Nat.zero_add, F41u7, hz]
      refine q_cond (q := true) (by simp (disch := omega) only [JJ, opds, updD, ln, Nat.reduceLT, Nat.reduceLeDiff, Nat.reduceEqDiff, Nat.reduceAdd, Nat.reduceMul, ↓reduceIte, if_true, if_false, Bool.false_eq_true, beq_self_eq_true, Bool.not_true, Bool.not_false, reduceCtorEq, decide_true, decide_false, Nat.add_zero, Nat.zero_add]) (fun _ => ?_) (fun h => by cases h)
      refine q_seq (q_reg ?_)
      simp (disch := omega) only [JJ, opds, updD, ln, Nat.reduceLT, Nat.reduceLeDiff, Nat.reduceEqDiff, Nat.reduceAdd, Nat.reduceMul, ↓reduceIte, if_true, if_false, Bool.false_eq_true, beq_self_eq_true, Bool.not_true, Bool.not_false, reduceCtorEq, decide_true, decide_false, Nat.add_zero, Nat.zero_add, F41u4]
      refine q_ret ?_
      exact wpRes_tmp (by decide) (by simp (disch := omega) only [JJ, opds, updD, ln, Nat.reduceLT, Nat.reduceLeDiff, Nat.reduceEqDiff, Nat.reduceAdd, Nat.reduceMul, ↓reduceIte, if_true, if_false, Bool.false_eq_true, beq_self_eq_true, Bool.not_true, Bool.not_false, reduceCtorEq, decide_true, decide_false, Nat.add_zero, Nat.zero_add]; exact ⟨bp_false fun hP => (hP.1 i hi4).1 hz, x1.trans x2⟩)
    · simp (disch := omega) only [Ja, Jb, Jc, Jd, Je, Jf, Jg, Jh, Ji, Jj, Jk, Jl, Jm, Jn, Jp, Jq, Jr, Js, Jt, Ju, Jv, Jw, Jx, Jy, true_and, and_true, JJ, opds, updD, ln, Nat.reduceLT, Nat.reduceLeDiff, Nat.reduceEqDiff, Nat.reduceAdd, Nat.reduceMul, ↓reduceIte, if_true, if_false, Bool.false_eq_true, beq_self_eq_true, Bool.not_true, Bool.not_false, reduceCtorEq, decide_true, decide_false, Nat.add_zero, Nat.zero_add, F41u7, hz, e0, e3, e4, a1, (a2 _ x2).1, l3'.ldN' (m := 4) rfl]
      refine q_call (c71 hO u (C i) _ su.1 (s.2 i)) ?_
      rintro v2 h4 ⟨⟨u2, rfl, su2⟩, x3⟩
      have hu2 : sz u2 = cnt (fun b => un C i b && has (C i) b) 256 := by
        rw [su2.sz]; exact cnt_congr 256 fun b hb => by rw [su.2 b hb]
      simp (disch := omega) only [Ja, Jb, Jc, Jd, Je, Jf, Jg, Jh, Ji, Jj, Jk, Jl, Jm, Jn, Jp, Jq, Jr, Js, Jt, Ju, Jv, Jw, Jx, Jy, true_and, and_true, JJ, opds, updD, ln, Nat.reduceLT, Nat.reduceLeDiff, Nat.reduceEqDiff, Nat.reduceAdd, Nat.reduceMul, ↓reduceIte, if_true, if_false, Bool.false_eq_true, beq_self_eq_true, Bool.not_true, Bool.not_false, reduceCtorEq, decide_true, decide_false, Nat.add_zero, Nat.zero_add, F41u7]
      refine q_call (c70 hO u2 _ su2.1) ?_
      rintro v3 h5 ⟨rfl, x4⟩
      have x5 := (x2.trans x3).trans x4
      simp (disch := omega) only [Ja, Jb, Jc, Jd, Je, Jf, Jg, Jh, Ji, Jj, Jk, Jl, Jm, Jn, Jp, Jq, Jr, Js, Jt, Ju, Jv, Jw, Jx, Jy, true_and, and_true, JJ, opds, updD, ln, Nat.reduceLT, Nat.reduceLeDiff, Nat.reduceEqDiff, Nat.reduceAdd, Nat.reduceMul, ↓reduceIte, if_true, if_false, Bool.false_eq_true, beq_self_eq_true, Bool.not_true, Bool.not_false, reduceCtorEq, decide_true, decide_false, Nat.add_zero, Nat.zero_add, F41u7, b_gtr, c_lt]
      by_cases hov : 0 < sz u2
      · refine q_cond (q := true) (by simp (disch := omega) only [JJ, opds, updD, ln, Nat.reduceLT, Nat.reduceLeDiff, Nat.reduceEqDiff, Nat.reduceAdd, Nat.reduceMul, ↓reduceIte, if_true, if_false, Bool.false_eq_true, beq_self_eq_true, Bool.not_true, Bool.not_false, reduceCtorEq, decide_true, decide_false, Nat.add_zero, Nat.zero_add, hov]) (fun _ => ?_) (fun h => by cases h)
        refine q_seq (q_reg ?_)
        simp (disch := omega) only [JJ, opds, updD, ln, Nat.reduceLT, Nat.reduceLeDiff, Nat.reduceEqDiff, Nat.reduceAdd, Nat.reduceMul, ↓reduceIte, if_true, if_false, Bool.false_eq_true, beq_self_eq_true, Bool.not_true, Bool.not_false, reduceCtorEq, decide_true, decide_false, Nat.add_zero, Nat.zero_add, F41u4]
        refine q_ret ?_
        exact wpRes_tmp (by decide) (by simp (disch := omega) only [JJ, opds, updD, ln, Nat.reduceLT, Nat.reduceLeDiff, Nat.reduceEqDiff, Nat.reduceAdd, Nat.reduceMul, ↓reduceIte, if_true, if_false, Bool.false_eq_true, beq_self_eq_true, Bool.not_true, Bool.not_false, reduceCtorEq, decide_true, decide_false, Nat.add_zero, Nat.zero_add]; exact ⟨bp_false fun hP => by have := (hP.1 i hi4).2; omega, x1.trans x5⟩)
      · refine q_cond (q := false) (by simp (disch := omega) only [JJ, opds, updD, ln, Nat.reduceLT, Nat.reduceLeDiff, Nat.reduceEqDiff, Nat.reduceAdd, Nat.reduceMul, ↓reduceIte, if_true, if_false, Bool.false_eq_true, beq_self_eq_true, Bool.not_true, Bool.not_false, reduceCtorEq, decide_true, decide_false, Nat.add_zero, Nat.zero_add, hov]) (fun h => by cases h) (fun _ => ?_)
        refine q_skip ?_
        refine q_dreg0 ?_
        have l5 := l3.ext x5
        simp (disch := omega) only [Ja, Jb, Jc, Jd, Je, Jf, Jg, Jh, Ji, Jj, Jk, Jl, Jm, Jn, Jp, Jq, Jr, Js, Jt, Ju, Jv, Jw, Jx, Jy, true_and, and_true, JJ, opds, updD, ln, Nat.reduceLT, Nat.reduceLeDiff, Nat.reduceEqDiff, Nat.reduceAdd, Nat.reduceMul, ↓reduceIte, if_true, if_false, Bool.false_eq_true, beq_self_eq_true, Bool.not_true, Bool.not_false, reduceCtorEq, decide_true, decide_false, Nat.add_zero, Nat.zero_add, F41u8, F41u8p, e0, e3, e4, a1, (a2 _ x5).1, l5.ldN' (m := 4) rfl]
        refine q_call (c72 hO u (C i) _ su.1 (s.2 i)) ?_
        rintro v4 h6 ⟨⟨u3, rfl, su3⟩, x6⟩
        have x7 := x5.trans x6
        obtain ⟨ob, g1, g2⟩ := (l3.ext x7).st (o := 0) (vs := cw u3) (Nat.le_refl _) rfl (Nat.succ_pos _)
        rw [blit_all (by rfl)] at g2
        simp (disch := omega) only [Ja, Jb, Jc, Jd, Je, Jf, Jg, Jh, Ji, Jj, Jk, Jl, Jm, Jn, Jp, Jq, Jr, Js, Jt, Ju, Jv, Jw, Jx, Jy, true_and, and_true, JJ, opds, updD, ln, Nat.reduceLT, Nat.reduceLeDiff, Nat.reduceEqDiff, Nat.reduceAdd, Nat.reduceMul, ↓reduceIte, if_true, if_false, Bool.false_eq_true, beq_self_eq_true, Bool.not_true, Bool.not_false, reduceCtorEq, decide_true, decide_false, Nat.add_zero, Nat.zero_add, F41u8, e3, ln_cw, g1]
        refine q_reg ?_
        simp (disch := omega) only [JJ, opds, updD, ln, Nat.reduceLT, Nat.reduceLeDiff, Nat.reduceEqDiff, Nat.reduceAdd, Nat.reduceMul, ↓reduceIte, if_true, if_false, Bool.false_eq_true, beq_self_eq_true, Bool.not_true, Bool.not_false, reduceCtorEq, decide_true, decide_false, Nat.add_zero, Nat.zero_add, F41u5, e4, b_add_i64]
        refine ⟨n - (i + 1), by omega, i + 1, u3, by omega, rfl, by simp (disch := omega) only [JJ, opds, updD, ln, Nat.reduceLT, Nat.reduceLeDiff, Nat.reduceEqDiff, Nat.reduceAdd, Nat.reduceMul, ↓reduceIte, if_true, if_false, Bool.false_eq_true, beq_self_eq_true, Bool.not_true, Bool.not_false, reduceCtorEq, decide_true, decide_false, Nat.add_zero, Nat.zero_add], by simp (disch := omega) only [JJ, opds, updD, ln, Nat.reduceLT, Nat.reduceLeDiff, Nat.reduceEqDiff, Nat.reduceAdd, Nat.reduceMul, ↓reduceIte, if_true, if_false, Bool.false_eq_true, beq_self_eq_true, Bool.not_true, Bool.not_false, reduceCtorEq, decide_true, decide_false, Nat.add_zero, Nat.zero_add, e0], by simp (disch := omega) only [JJ, opds, updD, ln, Nat.reduceLT, Nat.reduceLeDiff, Nat.reduceEqDiff, Nat.reduceAdd, Nat.reduceMul, ↓reduceIte, if_true, if_false, Bool.false_eq_true, beq_self_eq_true, Bool.not_true, Bool.not_false, reduceCtorEq, decide_true, decide_false, Nat.add_zero, Nat.zero_add, e3], su3.imp (fun b hb => by simp only [un]; rw [su.2 b hb]), ?_, g2, (x1.trans x7).set (by omega) _⟩
        intro k hk
        by_cases hki : k = i
        · subst hki; exact ⟨hz, by omega⟩
        · exact hp k (by omega)
  · have hi4 : i = n := by have := of_decide_eq_false hc; omega
    subst hi4
    refine q_exit ?_
    simp (disch := omega) only [JJ, opds, updD, ln, Nat.reduceLT, Nat.reduceLeDiff, Nat.reduceEqDiff, Nat.reduceAdd, Nat.reduceMul, ↓reduceIte, if_true, if_false, Bool.false_eq_true, beq_self_eq_true, Bool.not_true, Bool.not_false, reduceCtorEq, decide_true, decide_false, Nat.add_zero, Nat.zero_add]
    refine q_seq (q_reg ?_)
    simp (disch := omega) only [JJ, opds, updD, ln, Nat.reduceLT, Nat.reduceLeDiff, Nat.reduceEqDiff, Nat.reduceAdd, Nat.reduceMul, ↓reduceIte, if_true, if_false, Bool.false_eq_true, beq_self_eq_true, Bool.not_true, Bool.not_false, reduceCtorEq, decide_true, decide_false, Nat.add_zero, Nat.zero_add, F41u6, e3, l3.ldN' (m := 4) rfl]
    refine q_call (c70 hO u _ su.1) ?_
    rintro v1 h3 ⟨rfl, x2⟩
    simp (disch := omega) only [JJ, opds, updD, ln, Nat.reduceLT, Nat.reduceLeDiff, Nat.reduceEqDiff, Nat.reduceAdd, Nat.reduceMul, ↓reduceIte, if_true, if_false, Bool.false_eq_true, beq_self_eq_true, Bool.not_true, Bool.not_false, reduceCtorEq, decide_true, decide_false, Nat.add_zero, Nat.zero_add, b_eql, c_eq]
    refine q_ret ?_
    refine wpRes_tmp (by decide) ?_
    simp (disch := omega) only [JJ, opds, updD, ln, Nat.reduceLT, Nat.reduceLeDiff, Nat.reduceEqDiff, Nat.reduceAdd, Nat.reduceMul, ↓reduceIte, if_true, if_false, Bool.false_eq_true, beq_self_eq_true, Bool.not_true, Bool.not_false, reduceCtorEq, decide_true, decide_false, Nat.add_zero, Nat.zero_add]
    refine ⟨⟨_, rfl, ?_⟩, x1.trans x2⟩
    rw [decide_eq_true_eq, su.sz]
    exact ⟨fun he => ⟨hp, he⟩, fun hP => hP.2⟩

set_option maxHeartbeats 1000000 in
theorem c74 (v : AVal) (n : Nat) (C : Nat → Nat → Nat) (b : Nat) (h : Hp) (s : Cls h v n C) (hn : n < 2 ^ 63) (hb : b < 256) {q : Nat} (hq : q < n) (hq1 : has (C q) b = true) (hq2 : ∀ j, j < q → has (C j) b = false) :
    RunsP O E0 74 [v, .int .u8 (b : Nat)] h (fun v h' => v = .int .i64 (q : Nat) ∧ Ext h h') := by
  refine q_fn (L := 19) E74 (hO _ _ _ rfl) rfl rfl ?_
  refine q_seq (q_reg ?_)
  simp (disch := omega) only [JJ, opds, updD, ln, Nat.reduceLT, Nat.reduceLeDiff, Nat.reduceEqDiff, Nat.reduceAdd, Nat.reduceMul, ↓reduceIte, if_true, if_false, Bool.false_eq_true, beq_self_eq_true, Bool.not_true, Bool.not_false, reduceCtorEq, decide_true, decide_false, Nat.add_zero, Nat.zero_add, F74u0]
  refine q_seq (q_seq (q_reg ?_))
  simp (disch := omega) only [JJ, opds, updD, ln, Nat.reduceLT, Nat.reduceLeDiff, Nat.reduceEqDiff, Nat.reduceAdd, Nat.reduceMul, ↓reduceIte, if_true, if_false, Bool.false_eq_true, beq_self_eq_true, Bool.not_true, Bool.not_false, reduceCtorEq, decide_true, decide_false, Nat.add_zero, Nat.zero_add, F74u1]
  refine q_block ?_
  refine q_loop (fun m e h' => ∃ i, i ≤ q ∧ m = q - i ∧ e 5 = .int .i64 (i : Nat) ∧ e 0 = v ∧ e 1 = .int .u8 (b : Nat) ∧ Ext h h') q ⟨0, by omega, by omega, by simp (disch := omega) only [JJ, opds, updD, ln, Nat.reduceLT, Nat.reduceLeDiff, Nat.reduceEqDiff, Nat.reduceAdd, Nat.reduceMul, ↓reduceIte, if_true, if_false, Bool.false_eq_true, beq_self_eq_true, Bool.not_true, Bool.not_false, reduceCtorEq, decide_true, decide_false, Nat.add_zero, Nat.zero_add], by simp (disch := omega) only [JJ, opds, updD, ln, Nat.reduceLT, Nat.reduceLeDiff, Nat.reduceEqDiff, Nat.reduceAdd, Nat.reduceMul, ↓reduceIte, if_true, if_false, Bool.false_eq_true, beq_self_eq_true, Bool.not_true, Bool.not_false, reduceCtorEq, decide_true, decide_false, Nat.add_zero, Nat.zero_add], by simp (disch := omega) only [JJ, opds, updD, ln, Nat.reduceLT, Nat.reduceLeDiff, Nat.reduceEqDiff, Nat.reduceAdd, Nat.reduceMul, ↓reduceIte, if_true, if_false, Bool.false_eq_true, beq_self_eq_true, Bool.not_true, Bool.not_false, reduceCtorEq, decide_true, decide_false, Nat.add_zero, Nat.zero_add], Ext.refl _⟩ ?_
  rintro m e h' ⟨i, hi, rfl, e5, e0, e1, x1⟩
  have s' := s.ext x1
  refine q_seq (q_seq (q_reg ?_))
  have hin : i < n := by omega
  simp (disch := omega) only [JJ, opds, updD, ln, Nat.reduceLT, Nat.reduceLeDiff, Nat.reduceEqDiff, Nat.reduceAdd, Nat.reduceMul, ↓reduceIte, if_true, if_false, Bool.false_eq_true, beq_self_eq_true, Bool.not_true, Bool.not_false, reduceCtorEq, decide_true, decide_false, Nat.add_zero, Nat.zero_add, F74u2, e5, e0, s'.1.len, b_lss, c_lt]
  refine q_cond (q := true) (by simp (disch := omega) only [JJ, opds, updD, ln, Nat.reduceLT, Nat.reduceLeDiff, Nat.reduceEqDiff, Nat.reduceAdd, Nat.reduceMul, ↓reduceIte, if_true, if_false, Bool.false_eq_true, beq_self_eq_true, Bool.not_true, Bool.not_false, reduceCtorEq, decide_true, decide_false, Nat.add_zero, Nat.zero_add, hin]) (fun _ => ?_) (fun h => by cases h)
  obtain ⟨ga, oa, a1, a2⟩ := s'.1.addr hin
  refine q_skip ?_
  refine q_seq (q_block (q_seq (q_reg ?_)))
  simp (disch := omega) only [JJ, opds, updD, ln, Nat.reduceLT, Nat.reduceLeDiff, Nat.reduceEqDiff, Nat.reduceAdd, Nat.reduceMul, ↓reduceIte, if_true, if_false, Bool.false_eq_true, beq_self_eq_true, Bool.not_true, Bool.not_false, reduceCtorEq, decide_true, decide_false, Nat.add_zero, Nat.zero_add, F74u3, e0, e1, e5, a1, (a2 _ (Ext.refl _)).1]
  refine q_call (c113 hO (C i) b _ (s.2 i) hb) ?_
  rintro v1 h3 ⟨rfl, x2⟩
  simp (disch := omega) only [JJ, opds, updD, ln, Nat.reduceLT, Nat.reduceLeDiff, Nat.reduceEqDiff, Nat.reduceAdd, Nat.reduceMul, ↓reduceIte, if_true, if_false, Bool.false_eq_true, beq_self_eq_true, Bool.not_true, Bool.not_false, reduceCtorEq, decide_true, decide_false, Nat.add_zero, Nat.zero_add]
  by_cases hiq : i = q
  · subst hiq
    refine q_cond (q := true) (by simp (disch := omega) only [JJ, opds, updD, ln, Nat.reduceLT, Nat.reduceLeDiff, Nat.reduceEqDiff, Nat.reduceAdd, Nat.reduceMul, ↓reduceIte, if_true, if_false, Bool.false_eq_true, beq_self_eq_true, Bool.not_true, Bool.not_false, reduceCtorEq, decide_true, decide_false, Nat.add_zero, Nat.zero_add, hq1]) (fun _ => ?_) (fun h => by cases h)
    refine q_seq (q_reg ?_)
    simp (disch := omega) only [JJ, opds, updD, ln, Nat.reduceLT, Nat.reduceLeDiff, Nat.reduceEqDiff, Nat.reduceAdd, Nat.reduceMul, ↓reduceIte, if_true, if_false, Bool.false_eq_true, beq_self_eq_true, Bool.not_true, Bool.not_false, reduceCtorEq, decide_true, decide_false, Nat.add_zero, Nat.zero_add, F74u4, e5]
    refine q_ret ?_
    exact wpRes_tmp (by decide) (by simp (disch := omega) only [JJ, opds, updD, ln, Nat.reduceLT, Nat.reduceLeDiff, Nat.reduceEqDiff, Nat.reduceAdd, Nat.reduceMul, ↓reduceIte, if_true, if_false, Bool.false_eq_true, beq_self_eq_true, Bool.not_true, Bool.not_false, reduceCtorEq, decide_true, decide_false, Nat.add_zero, Nat.zero_add]; exact ⟨trivial, x1.trans x2⟩)
  · refine q_cond (q := false) (by simp (disch := omega) only [JJ, opds, updD, ln, Nat.reduceLT, Nat.reduceLeDiff, Nat.reduceEqDiff, Nat.reduceAdd, Nat.reduceMul, ↓reduceIte, if_true, if_false, Bool.false_eq_true, beq_self_eq_true, Bool.not_true, Bool.not_false, reduceCtorEq, decide_true, decide_false, Nat.add_zero, Nat.zero_add, hq2 i (by omega)]) (fun h => by cases h) (fun _ => ?_)
    refine q_skip ?_
    refine q_reg ?_
    simp (disch := omega) only [JJ, opds, updD, ln, Nat.reduceLT, Nat.reduceLeDiff, Nat.reduceEqDiff, Nat.reduceAdd, Nat.reduceMul, ↓reduceIte, if_true, if_false, Bool.false_eq_true, beq_self_eq_true, Bool.not_true, Bool.not_false, reduceCtorEq, decide_true, decide_false, Nat.add_zero, Nat.zero_add, F74u5, e5, b_add_i64]
    exact ⟨q - (i + 1), by omega, i + 1, by omega, rfl, by simp (disch := omega) only [JJ, opds, updD, ln, Nat.reduceLT, Nat.reduceLeDiff, Nat.reduceEqDiff, Nat.reduceAdd, Nat.reduceMul, ↓reduceIte, if_true, if_false, Bool.false_eq_true, beq_self_eq_true, Bool.not_true, Bool.not_false, reduceCtorEq, decide_true, decide_false, Nat.add_zero, Nat.zero_add], by simp (disch := omega) only [JJ, opds, updD, ln, Nat.reduceLT, Nat.reduceLeDiff, Nat.reduceEqDiff, Nat.reduceAdd, Nat.reduceMul, ↓reduceIte, if_true, if_false, Bool.false_eq_true, beq_self_eq_true, Bool.not_true, Bool.not_false, reduceCtorEq, decide_true, decide_false, Nat.add_zero, Nat.zero_add, e0], by simp (disch := omega) only [JJ, opds, updD, ln, Nat.reduceLT, Nat.reduceLeDiff, Nat.reduceEqDiff, Nat.reduceAdd, Nat.reduceMul, ↓reduceIte, if_true, if_false, Bool.false_eq_true, beq_self_eq_true, Bool.not_true, Bool.not_false, reduceCtorEq, decide_true, decide_false, Nat.add_zero, Nat.zero_add, e1], x1.trans x2⟩

theorem c159 (w : Nat → Nat) (b : Nat) (gb : Nat) (h : Hp) (hw : ∀ j, w j < 2 ^ 64) (hb : b < 256) (lb : Lob h gb [.int .u8 (b : Nat)]) : RunsP O E0 159 [.agg (cw w), .ptr gb 0] h (fun v h' => v = .bool (has w b) ∧ Ext h h') := by
  refine q_fn (L := 7) E159 (hO _ _ _ rfl) rfl rfl ?_
  refine q_seq (q_reg ?_)
  simp (disch := omega) only [JJ, opds, updD, ln, Nat.reduceLT, Nat.reduceLeDiff, Nat.reduceEqDiff, Nat.reduceAdd, Nat.reduceMul, ↓reduceIte, if_true, if_false, Bool.false_eq_true, beq_self_eq_true, Bool.not_true, Bool.not_false, reduceCtorEq, decide_true, decide_false, Nat.add_zero, Nat.zero_add, F159u0]
  have l1 := Lob.new h (cw w) (Nat.succ_pos _)
  have x1 := Ext.newL h (cw w)
  have lb' := lb.newL (l' := cw w)
  generalize newL h (cw w) = h1 at *
  refine q_seq (q_reg ?_)
  simp (disch := omega) only [JJ, opds, updD, ln, Nat.reduceLT, Nat.reduceLeDiff, Nat.reduceEqDiff, Nat.reduceAdd, Nat.reduceMul, ↓reduceIte, if_true, if_false, Bool.false_eq_true, beq_self_eq_true, Bool.not_true, Bool.not_false, reduceCtorEq, decide_true, decide_false, Nat.add_zero, Nat.zero_add, F159u1, l1.ldN' (m := 4) rfl, lb'.ld (k := 1) rfl, Jx]
  refine q_call (c160 hO w b _ hw hb) ?_
  rintro v1 h3 ⟨rfl, x2⟩
  simp (disch := omega) only [JJ, opds, updD, ln, Nat.reduceLT, Nat.reduceLeDiff, Nat.reduceEqDiff, Nat.reduceAdd, Nat.reduceMul, ↓reduceIte, if_true, if_false, Bool.false_eq_true, beq_self_eq_true, Bool.not_true, Bool.not_false, reduceCtorEq, decide_true, decide_false, Nat.add_zero, Nat.zero_add]
  refine q_ret ?_
  exact wpRes_tmp (by decide) (by simp (disch := omega) only [JJ, opds, updD, ln, Nat.reduceLT, Nat.reduceLeDiff, Nat.reduceEqDiff, Nat.reduceAdd, Nat.reduceMul, ↓reduceIte, if_true, if_false, Bool.false_eq_true, beq_self_eq_true, Bool.not_true, Bool.not_false, reduceCtorEq, decide_true, decide_false, Nat.add_zero, Nat.zero_add]; exact ⟨trivial, x1.trans x2⟩)

set_option maxHeartbeats 1000000 in
theorem c158 (v : AVal) (n : Nat) (C : Nat → Nat → Nat) (b : Nat) (gb : Nat) (h : Hp) (s : Cls h v n C) (hn : n < 2 ^ 63) (hb : b < 256) (lb : Lob h gb [.int .u8 (b : Nat)]) {q : Nat} (hq : q < n) (hq1 : has (C q) b = true) (hq2 : ∀ j, j < q → has (C j) b = false) :
    RunsP O E0 158 [v, .fn (.func 159) [] [.ptr gb 0]] h (fun v h' => v = .int .i64 (q : Nat) ∧ Ext h h') := by
  refine q_fn (L := 19) E158 (hO _ _ _ rfl) rfl rfl ?_
  refine q_seq (q_reg ?_)
  simp (disch := omega) only [JJ, opds, updD, ln, Nat.reduceLT, Nat.reduceLeDiff, Nat.reduceEqDiff, Nat.reduceAdd, Nat.reduceMul, ↓reduceIte, if_true, if_false, Bool.false_eq_true, beq_self_eq_true, Bool.not_true, Bool.not_false, reduceCtorEq, decide_true, decide_false, Nat.add_zero, Nat.zero_add, F158u0]
  refine q_seq (q_seq (q_reg ?_))
  simp (disch := omega) only [JJ, opds, updD, ln, Nat.reduceLT, Nat.reduceLeDiff, Nat.reduceEqDiff, Nat.reduceAdd, Nat.reduceMul, ↓reduceIte, if_true, if_false, Bool.false_eq_true, beq_self_eq_true, Bool.not_true, Bool.not_false, reduceCtorEq, decide_true, decide_false, Nat.add_zero, Nat.zero_add, F158u1, s.1.len]
  refine q_block ?_
  refine q_loop (fun m e h' => ∃ i, i ≤ q ∧ m = q - i ∧ e 8 = .int .i64 (i : Nat) ∧ e 7 = .int .i64 (n : Nat) ∧ e 0 = v ∧ e 1 = .fn (.func 159) [] [.ptr gb 0] ∧ Ext h h') q ⟨0, by omega, by omega, by simp (disch := omega) only [JJ, opds, updD, ln, Nat.reduceLT, Nat.reduceLeDiff, Nat.reduceEqDiff, Nat.reduceAdd, Nat.reduceMul, ↓reduceIte, if_true, if_false, Bool.false_eq_true, beq_self_eq_true, Bool.not_true, Bool.not_false, reduceCtorEq, decide_true, decide_false, Nat.add_zero, Nat.zero_add], by simp (disch := omega) only [JJ, opds, updD, ln, Nat.reduceLT, Nat.reduceLeDiff, Nat.reduceEqDiff, Nat.reduceAdd, Nat.reduceMul, ↓reduceIte, if_true, if_false, Bool.false_eq_true, beq_self_eq_true, Bool.not_true, Bool.not_false, reduceCtorEq, decide_true, decide_false, Nat.add_zero, Nat.zero_add], by simp (disch := omega) only [JJ, opds, updD, ln, Nat.reduceLT, Nat.reduceLeDiff, Nat.reduceEqDiff, Nat.reduceAdd, Nat.reduceMul, ↓reduceIte, if_true, if_false, Bool.false_eq_true, beq_self_eq_true, Bool.not_true, Bool.not_false, reduceCtorEq, decide_true, decide_false, Nat.add_zero, Nat.zero_add], by simp (disch := omega) only [JJ, opds, updD, ln, Nat.reduceLT, Nat.reduceLeDiff, Nat.reduceEqDiff, Nat.reduceAdd, Nat.reduceMul, ↓reduceIte, if_true, if_false, Bool.false_eq_true, beq_self_eq_true, Bool.not_true, Bool.not_false, reduceCtorEq, decide_true, decide_false, Nat.add_zero, Nat.zero_add], Ext.refl _⟩ ?_
  rintro m e h' ⟨i, hi, rfl, e8, e7, e0, e1, x1⟩
  have s' := s.ext x1
  refine q_seq (q_reg ?_)
  have hin : i < n := by omega
  simp (disch := omega) only [JJ, opds, updD, ln, Nat.reduceLT, Nat.reduceLeDiff, Nat.reduceEqDiff, Nat.reduceAdd, Nat.reduceMul, ↓reduceIte, if_true, if_false, Bool.false_eq_true, beq_self_eq_true, Bool.not_true, Bool.not_false, reduceCtorEq, decide_true, decide_false, Nat.add_zero, Nat.zero_add, F158u2, e8, e7, b_lss, c_lt]
  refine q_seq (q_cond (q := true) (by simp (disch := omega) only [JJ, opds, updD, ln, Nat.reduceLT, Nat.reduceLeDiff, Nat.reduceEqDiff, Nat.reduceAdd, Nat.reduceMul, ↓reduceIte, if_true, if_false, Bool.false_eq_true, beq_self_eq_true, Bool.not_true, Bool.not_false, reduceCtorEq, decide_true, decide_false, Nat.add_zero, Nat.zero_add, hin]) (fun _ => ?_) (fun h => by cases h))
  obtain ⟨ga, oa, a1, a2⟩ := s'.1.addr hin
  refine q_skip ?_
  refine q_seq (q_block (q_seq (q_reg ?_)))
  simp (disch := omega) only [JJ, opds, updD, ln, Nat.reduceLT, Nat.reduceLeDiff, Nat.reduceEqDiff, Nat.reduceAdd, Nat.reduceMul, ↓reduceIte, if_true, if_false, Bool.false_eq_true, beq_self_eq_true, Bool.not_true, Bool.not_false, reduceCtorEq, decide_true, decide_false, Nat.add_zero, Nat.zero_add, F158u3, e8]
  refine q_seq (q_reg ?_)
  simp (disch := omega) only [JJ, opds, updD, ln, Nat.reduceLT, Nat.reduceLeDiff, Nat.reduceEqDiff, Nat.reduceAdd, Nat.reduceMul, ↓reduceIte, if_true, if_false, Bool.false_eq_true, beq_self_eq_true, Bool.not_true, Bool.not_false, reduceCtorEq, decide_true, decide_false, Nat.add_zero, Nat.zero_add, F158u4, e0, e1, a1, (a2 _ (Ext.refl _)).1, cat]
  refine q_call (c159 hO (C i) b gb _ (s.2 i) hb (lb.ext x1)) ?_
  rintro v1 h3 ⟨rfl, x2⟩
  simp (disch := omega) only [JJ, opds, updD, ln, Nat.reduceLT, Nat.reduceLeDiff, Nat.reduceEqDiff, Nat.reduceAdd, Nat.reduceMul, ↓reduceIte, if_true, if_false, Bool.false_eq_true, beq_self_eq_true, Bool.not_true, Bool.not_false, reduceCtorEq, decide_true, decide_false, Nat.add_zero, Nat.zero_add]
  by_cases hiq : i = q
  · subst hiq
    refine q_cond (q := true) (by simp (disch := omega) only [JJ, opds, updD, ln, Nat.reduceLT, Nat.reduceLeDiff, Nat.reduceEqDiff, Nat.reduceAdd, Nat.reduceMul, ↓reduceIte, if_true, if_false, Bool.false_eq_true, beq_self_eq_true, Bool.not_true, Bool.not_false, reduceCtorEq, decide_true, decide_false, Nat.add_zero, Nat.zero_add, hq1]) (fun _ => ?_) (fun h => by cases h)
    refine q_seq (q_reg ?_)
    simp (disch := omega) only [JJ, opds, updD, ln, Nat.reduceLT, Nat.reduceLeDiff, Nat.reduceEqDiff, Nat.reduceAdd, Nat.reduceMul, ↓reduceIte, if_true, if_false, Bool.false_eq_true, beq_self_eq_true, Bool.not_true, Bool.not_false, reduceCtorEq, decide_true, decide_false, Nat.add_zero, Nat.zero_add, F158u5]
    refine q_ret ?_
    exact wpRes_tmp (by decide) (by simp (disch := omega) only [JJ, opds, updD, ln, Nat.reduceLT, Nat.reduceLeDiff, Nat.reduceEqDiff, Nat.reduceAdd, Nat.reduceMul, ↓reduceIte, if_true, if_false, Bool.false_eq_true, beq_self_eq_true, Bool.not_true, Bool.not_false, reduceCtorEq, decide_true, decide_false, Nat.add_zero, Nat.zero_add]; exact ⟨trivial, x1.trans x2⟩)
  · refine q_cond (q := false) (by simp (disch := omega) only [JJ, opds, updD, ln, Nat.reduceLT, Nat.reduceLeDiff, Nat.reduceEqDiff, Nat.reduceAdd, Nat.reduceMul, ↓reduceIte, if_true, if_false, Bool.false_eq_true, beq_self_eq_true, Bool.not_true, Bool.not_false, reduceCtorEq, decide_true, decide_false, Nat.add_zero, Nat.zero_add, hq2 i (by omega)]) (fun h => by cases h) (fun _ => ?_)
    refine q_skip ?_
    refine q_reg ?_
    simp (disch := omega) only [JJ, opds, updD, ln, Nat.reduceLT, Nat.reduceLeDiff, Nat.reduceEqDiff, Nat.reduceAdd, Nat.reduceMul, ↓reduceIte, if_true, if_false, Bool.false_eq_true, beq_self_eq_true, Bool.not_true, Bool.not_false, reduceCtorEq, decide_true, decide_false, Nat.add_zero, Nat.zero_add, F158u6, e8, b_add_i64]
    exact ⟨q - (i + 1), by omega, i + 1, by omega, rfl, by simp (disch := omega) only [JJ, opds, updD, ln, Nat.reduceLT, Nat.reduceLeDiff, Nat.reduceEqDiff, Nat.reduceAdd, Nat.reduceMul, ↓reduceIte, if_true, if_false, Bool.false_eq_true, beq_self_eq_true, Bool.not_true, Bool.not_false, reduceCtorEq, decide_true, decide_false, Nat.add_zero, Nat.zero_add], by simp (disch := omega) only [JJ, opds, updD, ln, Nat.reduceLT, Nat.reduceLeDiff, Nat.reduceEqDiff, Nat.reduceAdd, Nat.reduceMul, ↓reduceIte, if_true, if_false, Bool.false_eq_true, beq_self_eq_true, Bool.not_true, Bool.not_false, reduceCtorEq, decide_true, decide_false, Nat.add_zero, Nat.zero_add, e7], by simp (disch := omega) only [JJ, opds, updD, ln, Nat.reduceLT, Nat.reduceLeDiff, Nat.reduceEqDiff, Nat.reduceAdd, Nat.reduceMul, ↓reduceIte, if_true, if_false, Bool.false_eq_true, beq_self_eq_true, Bool.not_true, Bool.not_false, reduceCtorEq, decide_true, decide_false, Nat.add_zero, Nat.zero_add, e0], by simp (disch := omega) only [JJ, opds, updD, ln, Nat.reduceLT, Nat.reduceLeDiff, Nat.reduceEqDiff, Nat.reduceAdd, Nat.reduceMul, ↓reduceIte, if_true, if_false, Bool.false_eq_true, beq_self_eq_true, Bool.not_true, Bool.not_false, reduceCtorEq, decide_true, decide_false, Nat.add_zero, Nat.zero_add, e1], x1.trans x2⟩

theorem c111 (v : AVal) (n : Nat) (C : Nat → Nat → Nat) (b : Nat) (h : Hp) (s : Cls h v n C) (hn : n < 2 ^ 63) (hb : b < 256) {q : Nat} (hq : q < n) (hq1 : has (C q) b = true) (hq2 : ∀ j, j < q → has (C j) b = false) :
    RunsP O E0 111 [v, .int .u8 (b : Nat)] h (fun v h' => v = .int .i64 (q : Nat) ∧ Ext h h') := by
  refine q_fn (L := 8) E111 (hO _ _ _ rfl) rfl rfl ?_
  refine q_seq (q_reg ?_)
  simp (disch := omega) only [JJ, opds, updD, ln, Nat.reduceLT, Nat.reduceLeDiff, Nat.reduceEqDiff, Nat.reduceAdd, Nat.reduceMul, ↓reduceIte, if_true, if_false, Bool.false_eq_true, beq_self_eq_true, Bool.not_true, Bool.not_false, reduceCtorEq, decide_true, decide_false, Nat.add_zero, Nat.zero_add, F111u0]
  have l1 := Lob.new h [.int .u8 (b : Nat)] (Nat.succ_pos _)
  have x1 := Ext.newL h [.int .u8 (b : Nat)]
  generalize newL h [.int .u8 (b : Nat)] = h1 at *
  refine q_seq (q_reg ?_)
  simp (disch := omega) only [JJ, opds, updD, ln, Nat.reduceLT, Nat.reduceLeDiff, Nat.reduceEqDiff, Nat.reduceAdd, Nat.reduceMul, ↓reduceIte, if_true, if_false, Bool.false_eq_true, beq_self_eq_true, Bool.not_true, Bool.not_false, reduceCtorEq, decide_true, decide_false, Nat.add_zero, Nat.zero_add, F111u1]
  refine q_call (c158 hO v n C b h.next _ (s.ext x1) hn hb l1 hq hq1 hq2) ?_
  rintro v1 h3 ⟨rfl, x2⟩
  simp (disch := omega) only [JJ, opds, updD, ln, Nat.reduceLT, Nat.reduceLeDiff, Nat.reduceEqDiff, Nat.reduceAdd, Nat.reduceMul, ↓reduceIte, if_true, if_false, Bool.false_eq_true, beq_self_eq_true, Bool.not_true, Bool.not_false, reduceCtorEq, decide_true, decide_false, Nat.add_zero, Nat.zero_add]
  refine q_ret ?_
  exact wpRes_tmp (by decide) (by simp (disch := omega) only [JJ, opds, updD, ln, Nat.reduceLT, Nat.reduceLeDiff, Nat.reduceEqDiff, Nat.reduceAdd, Nat.reduceMul, ↓reduceIte, if_true, if_false, Bool.false_eq_true, beq_self_eq_true, Bool.not_true, Bool.not_false, reduceCtorEq, decide_true, decide_false, Nat.add_zero, Nat.zero_add]; exact ⟨trivial, x1.trans x2⟩)
end
end Go.Proofs.YtfaeabhbeolpgaaGreatDoor
end
