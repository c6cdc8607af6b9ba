/- Normalizers, part 6: the program reads a message. Conditions: none. -/
import Derived.Test.YtfaeabhbeolpgaaGreatDoorSb5
set_option linter.all false
noncomputable section
open Go Go.Am Univ
namespace Go.Proofs.YtfaeabhbeolpgaaGreatDoor
def runS (D : ND) (f : Nat → Nat) : Nat → St
  | 0 => ⟨0, false, []⟩
  | k + 1 => step D (runS D f k) (f k)
theorem runS_pos {D : ND} (V : ValidR D) {f : Nat → Nat} : ∀ (k : Nat), (∀ i, i < k → f i < 256) → (runS D f k).pos < D.m
  | 0, _ => by have := V.2.1; show 0 < D.m; omega
  | k + 1, h => step_pos V (runS_pos V k fun i hi => h i (by omega)) (h k (by omega))
theorem runS_len {D : ND} {f : Nat → Nat} : ∀ (k : Nat), (runS D f k).out.length ≤ k
  | 0 => Nat.le_refl _
  | k + 1 => by have := runS_len (D := D) (f := f) k; have := step_len (D := D) (s := runS D f k) (b := f k); simp only [runS]; omega
/-- A message. -/
def Msg (h : Hp) (v : AVal) (k : Nat) (f : Nat → Nat) : Prop := SlN h 1 v k (fun i => [.int .u8 (f i : Nat)]) ∧ ∀ i, i < k → f i < 256
theorem Msg.ext {h h' : Hp} {v : AVal} {k : Nat} {f : Nat → Nat} (x : Msg h v k f) (e : Ext h h') : Msg h' v k f := ⟨x.1.ext e, x.2⟩
section
variable {O : Orc} (hO : Only O)
include hO

set_option maxHeartbeats 1000000 in
theorem c69 {vc vr ve : AVal} {rv : Nat → AVal} {D : ND} {h : Hp} (N : NZ h vc vr ve rv D) (V : ValidR D) {g : Nat} {s : St} (S : Strm h g vc vr ve s) (hs : s.pos < D.m) :
    RunsP O E0 69 [.ptr g 0] h (fun v h' => v = .bool (!s.rf && D.E s.pos) ∧ Ext h h') := by
  obtain ⟨vo, L, Q⟩ := S
  refine q_fn (L := 23) E69 (hO _ _ _ rfl) rfl rfl ?_
  have f0 : gld1 h g 0 = some (.int .i64 (s.pos : Nat)) := L.ld (k := 6) rfl (by omega)
  have f1 : gld1 h g 1 = some (.bool s.rf) := L.ld (k := 6) rfl (by omega)
  have f4 : gld1 h g 4 = some ve := L.ld (k := 6) rfl (by omega)
  have hne : s.pos < D.ne := by have := V.2.2.2.1; omega
  obtain ⟨ga, oa, a1, a2⟩ := N.ends.addr hne
  refine q_seq (q_reg ?_)
  simp (disch := omega) only [JJ, opds, updD, ln, Nat.reduceLT, Nat.reduceLeDiff, Nat.reduceEqDiff, Nat.reduceAdd, Nat.reduceMul, ↓reduceIte, if_true, if_false, Bool.false_eq_true, beq_self_eq_true, Bool.not_true, Bool.not_false, reduceCtorEq, decide_true, decide_false, Nat.add_zero, Nat.zero_add, F69u0]
  refine q_seq (q_dreg0 ?_)
  cases hr : s.rf
  · simp (disch := omega) only [Ja, Jb, Jc, Jd, Je, Jf, Jg, Jh, Ji, Jj, Jk, Jl, Jm, Jn, Jp, Jq, Jr, Js, Jt, Ju, Jv, Jw, Jx, Jy, true_and, and_true, JJ, opds, updD, ln, Nat.reduceLT, Nat.reduceLeDiff, Nat.reduceEqDiff, Nat.reduceAdd, Nat.reduceMul, ↓reduceIte, if_true, if_false, Bool.false_eq_true, beq_self_eq_true, Bool.not_true, Bool.not_false, reduceCtorEq, decide_true, decide_false, Nat.add_zero, Nat.zero_add, F69u1, F69u1p, f0, f1, f4, hr, a1, (a2 _ (Ext.refl _)).2 rfl]
    refine q_ret (wpRes_tmp (by decide) ?_)
    simp (disch := omega) only [JJ, opds, updD, ln, Nat.reduceLT, Nat.reduceLeDiff, Nat.reduceEqDiff, Nat.reduceAdd, Nat.reduceMul, ↓reduceIte, if_true, if_false, Bool.false_eq_true, beq_self_eq_true, Bool.not_true, Bool.not_false, reduceCtorEq, decide_true, decide_false, Nat.add_zero, Nat.zero_add]
    exact ⟨by simp, Ext.refl _⟩
  · simp (disch := omega) only [Ja, Jb, Jc, Jd, Je, Jf, Jg, Jh, Ji, Jj, Jk, Jl, Jm, Jn, Jp, Jq, Jr, Js, Jt, Ju, Jv, Jw, Jx, Jy, true_and, and_true, JJ, opds, updD, ln, Nat.reduceLT, Nat.reduceLeDiff, Nat.reduceEqDiff, Nat.reduceAdd, Nat.reduceMul, ↓reduceIte, if_true, if_false, Bool.false_eq_true, beq_self_eq_true, Bool.not_true, Bool.not_false, reduceCtorEq, decide_true, decide_false, Nat.add_zero, Nat.zero_add, F69u1, F69u1p, f1, hr]
    refine q_ret (wpRes_tmp (by decide) ?_)
    simp (disch := omega) only [JJ, opds, updD, ln, Nat.reduceLT, Nat.reduceLeDiff, Nat.reduceEqDiff, Nat.reduceAdd, Nat.reduceMul, ↓reduceIte, if_true, if_false, Bool.false_eq_true, beq_self_eq_true, Bool.not_true, Bool.not_false, reduceCtorEq, decide_true, decide_false, Nat.add_zero, Nat.zero_add]
    exact ⟨by simp, Ext.refl _⟩

set_option maxHeartbeats 2000000 in
theorem c39 {vc vr ve : AVal} {rv : Nat → AVal} {D : ND} {h : Hp} (N : NZ h vc vr ve rv D) (V : ValidR D) {vm : AVal} {k : Nat} {f : Nat → Nat} (M : Msg h vm k f) (hk : k < 2 ^ 29) :
    RunsP O E0 39 [.agg [vc, vr, ve], .agg [.int .i64 ((0 : Nat) : Int), .bool false], vm] h (fun v h' => (∃ vo, v = .tup [.agg [.int .i64 ((runS D f k).pos : Nat), .bool (runS D f k).rf], vo] ∧ Out h' (h.next ≤ ·) vo (runS D f k).out) ∧ Ext h h') := by
  refine q_fn (L := 39) E39 (hO _ _ _ rfl) rfl rfl ?_
  refine q_seq (q_reg ?_)
  simp (disch := omega) only [JJ, opds, updD, ln, Nat.reduceLT, Nat.reduceLeDiff, Nat.reduceEqDiff, Nat.reduceAdd, Nat.reduceMul, ↓reduceIte, if_true, if_false, Bool.false_eq_true, beq_self_eq_true, Bool.not_true, Bool.not_false, reduceCtorEq, decide_true, decide_false, Nat.add_zero, Nat.zero_add, F39u0]
  have l3 := ((Lob.new h [vc, vr, ve] (Nat.succ_pos _)).newL (l' := [.int .i64 ((0 : Nat) : Int), .bool false])).newL (l' := [.int .i64 ((0 : Nat) : Int), .bool false])
  have l4 := (Lob.new (newL h [vc, vr, ve]) [.int .i64 ((0 : Nat) : Int), .bool false] (Nat.succ_pos _)).newL (l' := [.int .i64 ((0 : Nat) : Int), .bool false])
  have l6 := Lob.new (newL (newL h [vc, vr, ve]) [.int .i64 ((0 : Nat) : Int), .bool false]) [.int .i64 ((0 : Nat) : Int), .bool false] (Nat.succ_pos _)
  have x1 := ((Ext.newL h [vc, vr, ve]).trans (Ext.newL _ [.int .i64 ((0 : Nat) : Int), .bool false])).trans (Ext.newL _ [.int .i64 ((0 : Nat) : Int), .bool false])
  have n1 : (newL (newL (newL h [vc, vr, ve]) [.int .i64 ((0 : Nat) : Int), .bool false]) [.int .i64 ((0 : Nat) : Int), .bool false]).next = h.next + 1 + 1 + 1 := rfl
  rw [QM] at l4
  rw [QM, QM] at l6
  generalize newL (newL (newL h [vc, vr, ve]) [.int .i64 ((0 : Nat) : Int), .bool false]) [.int .i64 ((0 : Nat) : Int), .bool false] = h1 at *
  refine q_seq (q_reg ?_)
  simp (disch := omega) only [JJ, opds, updD, ln, Nat.reduceLT, Nat.reduceLeDiff, Nat.reduceEqDiff, Nat.reduceAdd, Nat.reduceMul, ↓reduceIte, if_true, if_false, Bool.false_eq_true, beq_self_eq_true, Bool.not_true, Bool.not_false, reduceCtorEq, decide_true, decide_false, Nat.add_zero, Nat.zero_add, F39u1, l3.ldN' (m := 3) rfl, l4.ldN' (m := 2) rfl]
  have hm : 0 < D.m := by have := V.2.1; omega
  refine q_call (c67 hO (N.ext x1) V hm false) ?_
  rintro v1 h2 ⟨g, rfl, hg, S2, x2⟩
  replace l6 := l6.ext x2
  replace x1 := x1.trans x2
  simp (disch := omega) only [JJ, opds, updD, ln, Nat.reduceLT, Nat.reduceLeDiff, Nat.reduceEqDiff, Nat.reduceAdd, Nat.reduceMul, ↓reduceIte, if_true, if_false, Bool.false_eq_true, beq_self_eq_true, Bool.not_true, Bool.not_false, reduceCtorEq, decide_true, decide_false, Nat.add_zero, Nat.zero_add, Jx, Jy]
  refine q_seq (q_seq (q_reg ?_))
  simp (disch := omega) only [JJ, opds, updD, ln, Nat.reduceLT, Nat.reduceLeDiff, Nat.reduceEqDiff, Nat.reduceAdd, Nat.reduceMul, ↓reduceIte, if_true, if_false, Bool.false_eq_true, beq_self_eq_true, Bool.not_true, Bool.not_false, reduceCtorEq, decide_true, decide_false, Nat.add_zero, Nat.zero_add, F39u2]
  refine q_cond (q := false) (by simp (disch := omega) only [JJ, opds, updD, ln, Nat.reduceLT, Nat.reduceLeDiff, Nat.reduceEqDiff, Nat.reduceAdd, Nat.reduceMul, ↓reduceIte, if_true, if_false, Bool.false_eq_true, beq_self_eq_true, Bool.not_true, Bool.not_false, reduceCtorEq, decide_true, decide_false, Nat.add_zero, Nat.zero_add]) (fun h => by cases h) (fun _ => ?_)
  refine q_skip ?_
  have M2 := M.ext x1
  refine q_seq (q_seq (q_reg ?_))
  simp (disch := omega) only [JJ, opds, updD, ln, Nat.reduceLT, Nat.reduceLeDiff, Nat.reduceEqDiff, Nat.reduceAdd, Nat.reduceMul, ↓reduceIte, if_true, if_false, Bool.false_eq_true, beq_self_eq_true, Bool.not_true, Bool.not_false, reduceCtorEq, decide_true, decide_false, Nat.add_zero, Nat.zero_add, F39u4, M2.1.len]
  refine q_block ?_
  refine q_loop (fun m e h' => ∃ i, i ≤ k ∧ m = k - i ∧ e 23 = .int .i64 (i : Nat) ∧ e 22 = .int .i64 (k : Nat) ∧ e 21 = vm ∧ e 8 = .ptr g 0 ∧ e 6 = .ptr (h.next + 1 + 1) 0 ∧ Strm h' g vc vr ve (runS D f i) ∧ Bel g h2 h') k
    ⟨0, by omega, by omega, by simp (disch := omega) only [JJ, opds, updD, ln, Nat.reduceLT, Nat.reduceLeDiff, Nat.reduceEqDiff, Nat.reduceAdd, Nat.reduceMul, ↓reduceIte, if_true, if_false, Bool.false_eq_true, beq_self_eq_true, Bool.not_true, Bool.not_false, reduceCtorEq, decide_true, decide_false, Nat.add_zero, Nat.zero_add], by simp (disch := omega) only [JJ, opds, updD, ln, Nat.reduceLT, Nat.reduceLeDiff, Nat.reduceEqDiff, Nat.reduceAdd, Nat.reduceMul, ↓reduceIte, if_true, if_false, Bool.false_eq_true, beq_self_eq_true, Bool.not_true, Bool.not_false, reduceCtorEq, decide_true, decide_false, Nat.add_zero, Nat.zero_add], by simp (disch := omega) only [JJ, opds, updD, ln, Nat.reduceLT, Nat.reduceLeDiff, Nat.reduceEqDiff, Nat.reduceAdd, Nat.reduceMul, ↓reduceIte, if_true, if_false, Bool.false_eq_true, beq_self_eq_true, Bool.not_true, Bool.not_false, reduceCtorEq, decide_true, decide_false, Nat.add_zero, Nat.zero_add], by simp (disch := omega) only [JJ, opds, updD, ln, Nat.reduceLT, Nat.reduceLeDiff, Nat.reduceEqDiff, Nat.reduceAdd, Nat.reduceMul, ↓reduceIte, if_true, if_false, Bool.false_eq_true, beq_self_eq_true, Bool.not_true, Bool.not_false, reduceCtorEq, decide_true, decide_false, Nat.add_zero, Nat.zero_add], by simp (disch := omega) only [JJ, opds, updD, ln, Nat.reduceLT, Nat.reduceLeDiff, Nat.reduceEqDiff, Nat.reduceAdd, Nat.reduceMul, ↓reduceIte, if_true, if_false, Bool.false_eq_true, beq_self_eq_true, Bool.not_true, Bool.not_false, reduceCtorEq, decide_true, decide_false, Nat.add_zero, Nat.zero_add], S2, Nat.le_refl _, fun _ _ => rfl⟩ ?_
  rintro m e h' ⟨i, hi, rfl, e23, e22, e21, e8, e6, S, B⟩
  have x3 : Ext h h' := B.ext x1 (by omega)
  have M3 := M.ext x3
  refine q_seq (q_reg ?_)
  simp (disch := omega) only [JJ, opds, updD, ln, Nat.reduceLT, Nat.reduceLeDiff, Nat.reduceEqDiff, Nat.reduceAdd, Nat.reduceMul, ↓reduceIte, if_true, if_false, Bool.false_eq_true, beq_self_eq_true, Bool.not_true, Bool.not_false, reduceCtorEq, decide_true, decide_false, Nat.add_zero, Nat.zero_add, F39u5, e23, e22, b_lss, c_lt]
  refine q_seq (q_cond (q := decide (i < k)) (by simp (disch := omega) only [JJ, opds, updD, ln, Nat.reduceLT, Nat.reduceLeDiff, Nat.reduceEqDiff, Nat.reduceAdd, Nat.reduceMul, ↓reduceIte, if_true, if_false, Bool.false_eq_true, beq_self_eq_true, Bool.not_true, Bool.not_false, reduceCtorEq, decide_true, decide_false, Nat.add_zero, Nat.zero_add]) (fun hc => ?_) (fun hc => ?_))
  · have hik := of_decide_eq_true hc
    obtain ⟨ga, oa, a1, a2⟩ := M3.1.addr hik
    refine q_skip ?_
    refine q_seq (q_block (q_seq (q_reg ?_)))
    simp (disch := omega) only [JJ, opds, updD, ln, Nat.reduceLT, Nat.reduceLeDiff, Nat.reduceEqDiff, Nat.reduceAdd, Nat.reduceMul, ↓reduceIte, if_true, if_false, Bool.false_eq_true, beq_self_eq_true, Bool.not_true, Bool.not_false, reduceCtorEq, decide_true, decide_false, Nat.add_zero, Nat.zero_add, F39u6, e21, e23, a1, (a2 _ (Ext.refl _)).2 rfl, Jx]
    refine q_reg ?_
    simp (disch := omega) only [JJ, opds, updD, ln, Nat.reduceLT, Nat.reduceLeDiff, Nat.reduceEqDiff, Nat.reduceAdd, Nat.reduceMul, ↓reduceIte, if_true, if_false, Bool.false_eq_true, beq_self_eq_true, Bool.not_true, Bool.not_false, reduceCtorEq, decide_true, decide_false, Nat.add_zero, Nat.zero_add, F39u7, e8]
    have hlen := runS_len (D := D) (f := f) i
    refine q_call (c68 hO N V (by omega) x3 S (runS_pos V i fun j hj => M.2 j (by omega)) (by omega) (M.2 i hik)) ?_
    rintro v1 h4 ⟨S4, B4⟩
    simp (disch := omega) only [JJ, opds, updD, ln, Nat.reduceLT, Nat.reduceLeDiff, Nat.reduceEqDiff, Nat.reduceAdd, Nat.reduceMul, ↓reduceIte, if_true, if_false, Bool.false_eq_true, beq_self_eq_true, Bool.not_true, Bool.not_false, reduceCtorEq, decide_true, decide_false, Nat.add_zero, Nat.zero_add]
    refine q_reg ?_
    simp (disch := omega) only [JJ, opds, updD, ln, Nat.reduceLT, Nat.reduceLeDiff, Nat.reduceEqDiff, Nat.reduceAdd, Nat.reduceMul, ↓reduceIte, if_true, if_false, Bool.false_eq_true, beq_self_eq_true, Bool.not_true, Bool.not_false, reduceCtorEq, decide_true, decide_false, Nat.add_zero, Nat.zero_add, F39u8, e23, b_add_i64]
    exact ⟨k - (i + 1), by omega, i + 1, by omega, rfl, by simp (disch := omega) only [JJ, opds, updD, ln, Nat.reduceLT, Nat.reduceLeDiff, Nat.reduceEqDiff, Nat.reduceAdd, Nat.reduceMul, ↓reduceIte, if_true, if_false, Bool.false_eq_true, beq_self_eq_true, Bool.not_true, Bool.not_false, reduceCtorEq, decide_true, decide_false, Nat.add_zero, Nat.zero_add], by simp (disch := omega) only [JJ, opds, updD, ln, Nat.reduceLT, Nat.reduceLeDiff, Nat.reduceEqDiff, Nat.reduceAdd, Nat.reduceMul, ↓reduceIte, if_true, if_false, Bool.false_eq_true, beq_self_eq_true, Bool.not_true, Bool.not_false, reduceCtorEq, decide_true, decide_false, Nat.add_zero, Nat.zero_add, e22], by simp (disch := omega) only [JJ, opds, updD, ln, Nat.reduceLT, Nat.reduceLeDiff, Nat.reduceEqDiff, Nat.reduceAdd, Nat.reduceMul, ↓reduceIte, if_true, if_false, Bool.false_eq_true, beq_self_eq_true, Bool.not_true, Bool.not_false, reduceCtorEq, decide_true, decide_false, Nat.add_zero, Nat.zero_add, e21], by simp (disch := omega) only [JJ, opds, updD, ln, Nat.reduceLT, Nat.reduceLeDiff, Nat.reduceEqDiff, Nat.reduceAdd, Nat.reduceMul, ↓reduceIte, if_true, if_false, Bool.false_eq_true, beq_self_eq_true, Bool.not_true, Bool.not_false, reduceCtorEq, decide_true, decide_false, Nat.add_zero, Nat.zero_add, e8], by simp (disch := omega) only [JJ, opds, updD, ln, Nat.reduceLT, Nat.reduceLeDiff, Nat.reduceEqDiff, Nat.reduceAdd, Nat.reduceMul, ↓reduceIte, if_true, if_false, Bool.false_eq_true, beq_self_eq_true, Bool.not_true, Bool.not_false, reduceCtorEq, decide_true, decide_false, Nat.add_zero, Nat.zero_add, e6], S4, B.trans B4⟩
  · have hik : i = k := by have := of_decide_eq_false hc; omega
    subst hik
    refine q_exit ?_
    simp (disch := omega) only [JJ, opds, updD, ln, Nat.reduceLT, Nat.reduceLeDiff, Nat.reduceEqDiff, Nat.reduceAdd, Nat.reduceMul, ↓reduceIte, if_true, if_false, Bool.false_eq_true, beq_self_eq_true, Bool.not_true, Bool.not_false, reduceCtorEq, decide_true, decide_false, Nat.add_zero, Nat.zero_add]
    obtain ⟨vo, L, Q⟩ := S
    have f5 : gld1 h' g 5 = some vo := L.ld (k := 6) rfl (by omega)
    have f2 : gldN h' g 0 2 = some [.int .i64 ((runS D f i).pos : Nat), .bool (runS D f i).rf] := L.ldP (o := 0) (m := 2) (by simp) (by simp)
    have l6' : Lob h' (h.next + 1 + 1) [.int .i64 ((0 : Nat) : Int), .bool false] := l6.frame (B.2 _ (by omega)) B.1
    obtain ⟨ob, g1, g2⟩ := l6'.st (o := 0) (vs := [.int .i64 ((runS D f i).pos : Nat), .bool (runS D f i).rf]) (by simp) rfl (by simp)
    have g2' : Lob (h'.set (h.next + 1 + 1) ob) (h.next + 1 + 1) [.int .i64 ((runS D f i).pos : Nat), .bool (runS D f i).rf] := g2
    have f5' : gld1 (h'.set (h.next + 1 + 1) ob) g 5 = some vo := (L.set_ne (by omega)).ld (k := 6) rfl (by omega)
    have qv := Q.veq
    refine q_seq (q_dreg0 ?_)
    simp (disch := omega) only [Ja, Jb, Jc, Jd, Je, Jf, Jg, Jh, Ji, Jj, Jk, Jl, Jm, Jn, Jp, Jq, Jr, Js, Jt, Ju, Jv, Jw, Jx, Jy, true_and, and_true, JJ, opds, updD, ln, Nat.reduceLT, Nat.reduceLeDiff, Nat.reduceEqDiff, Nat.reduceAdd, Nat.reduceMul, ↓reduceIte, if_true, if_false, Bool.false_eq_true, beq_self_eq_true, Bool.not_true, Bool.not_false, reduceCtorEq, decide_true, decide_false, Nat.add_zero, Nat.zero_add, F39u9, F39u9p, e8, e6, f2, f5, g1, f5', veq_ptr, qv, and_self]
    refine q_ret ?_
    refine wpRes_cellN_tmp (by decide) (by decide) (by simp (disch := omega) only [JJ, opds, updD, ln, Nat.reduceLT, Nat.reduceLeDiff, Nat.reduceEqDiff, Nat.reduceAdd, Nat.reduceMul, ↓reduceIte, if_true, if_false, Bool.false_eq_true, beq_self_eq_true, Bool.not_true, Bool.not_false, reduceCtorEq, decide_true, decide_false, Nat.add_zero, Nat.zero_add, e6]) g2' rfl ?_
    simp (disch := omega) only [JJ, opds, updD, ln, Nat.reduceLT, Nat.reduceLeDiff, Nat.reduceEqDiff, Nat.reduceAdd, Nat.reduceMul, ↓reduceIte, if_true, if_false, Bool.false_eq_true, beq_self_eq_true, Bool.not_true, Bool.not_false, reduceCtorEq, decide_true, decide_false, Nat.add_zero, Nat.zero_add]
    exact ⟨⟨vo, rfl, (Q.frame (h' := h'.set (h.next + 1 + 1) ob) (Nat.le_refl _) (fun k hk1 hk2 => get_set_ne (by omega))).imp (fun k hk => by omega)⟩, x3.set (by omega) _⟩

theorem c40 {vc vr ve : AVal} {rv : Nat → AVal} {D : ND} {h : Hp} (N : NZ h vc vr ve rv D) (V : ValidR D) {a : Nat} (ha : a < D.m) (rf : Bool) :
    RunsP O E0 40 [.agg [vc, vr, ve], .agg [.int .i64 (a : Nat), .bool rf]] h (fun v h' => v = .bool (!rf && D.E a) ∧ Ext h h') := by
  refine q_fn (L := 18) E40 (hO _ _ _ rfl) rfl rfl ?_
  refine q_seq (q_reg ?_)
  simp (disch := omega) only [JJ, opds, updD, ln, Nat.reduceLT, Nat.reduceLeDiff, Nat.reduceEqDiff, Nat.reduceAdd, Nat.reduceMul, ↓reduceIte, if_true, if_false, Bool.false_eq_true, beq_self_eq_true, Bool.not_true, Bool.not_false, reduceCtorEq, decide_true, decide_false, Nat.add_zero, Nat.zero_add, F40u0]
  have l2 := (Lob.new h [vc, vr, ve] (Nat.succ_pos _)).newL (l' := [.int .i64 (a : Nat), .bool rf])
  have l3 := Lob.new (newL h [vc, vr, ve]) [.int .i64 (a : Nat), .bool rf] (Nat.succ_pos _)
  have x1 := (Ext.newL h [vc, vr, ve]).trans (Ext.newL _ [.int .i64 (a : Nat), .bool rf])
  rw [QM] at l3
  generalize newL (newL h [vc, vr, ve]) [.int .i64 (a : Nat), .bool rf] = h1 at *
  refine q_seq (q_reg ?_)
  simp (disch := omega) only [JJ, opds, updD, ln, Nat.reduceLT, Nat.reduceLeDiff, Nat.reduceEqDiff, Nat.reduceAdd, Nat.reduceMul, ↓reduceIte, if_true, if_false, Bool.false_eq_true, beq_self_eq_true, Bool.not_true, Bool.not_false, reduceCtorEq, decide_true, decide_false, Nat.add_zero, Nat.zero_add, F40u1, l2.ldN' (m := 3) rfl, l3.ldN' (m := 2) rfl]
  refine q_call (c67 hO (N.ext x1) V ha rf) ?_
  rintro v1 h2 ⟨g, rfl, hg, S2, x2⟩
  simp (disch := omega) only [JJ, opds, updD, ln, Nat.reduceLT, Nat.reduceLeDiff, Nat.reduceEqDiff, Nat.reduceAdd, Nat.reduceMul, ↓reduceIte, if_true, if_false, Bool.false_eq_true, beq_self_eq_true, Bool.not_true, Bool.not_false, reduceCtorEq, decide_true, decide_false, Nat.add_zero, Nat.zero_add, Jx, Jy]
  refine q_seq (q_reg ?_)
  have hp : (if rf = true then 0 else a) < D.m := by split <;> omega
  simp (disch := omega) only [JJ, opds, updD, ln, Nat.reduceLT, Nat.reduceLeDiff, Nat.reduceEqDiff, Nat.reduceAdd, Nat.reduceMul, ↓reduceIte, if_true, if_false, Bool.false_eq_true, beq_self_eq_true, Bool.not_true, Bool.not_false, reduceCtorEq, decide_true, decide_false, Nat.add_zero, Nat.zero_add, F40u2]
  refine q_call (c69 hO (N.ext (x1.trans x2)) V S2 hp) ?_
  rintro v2 h3 ⟨rfl, x3⟩
  simp (disch := omega) only [JJ, opds, updD, ln, Nat.reduceLT, Nat.reduceLeDiff, Nat.reduceEqDiff, Nat.reduceAdd, Nat.reduceMul, ↓reduceIte, if_true, if_false, Bool.false_eq_true, beq_self_eq_true, Bool.not_true, Bool.not_false, reduceCtorEq, decide_true, decide_false, Nat.add_zero, Nat.zero_add]
  refine q_ret (wpRes_tmp (by decide) ?_)
  simp (disch := omega) only [JJ, opds, updD, ln, Nat.reduceLT, Nat.reduceLeDiff, Nat.reduceEqDiff, Nat.reduceAdd, Nat.reduceMul, ↓reduceIte, if_true, if_false, Bool.false_eq_true, beq_self_eq_true, Bool.not_true, Bool.not_false, reduceCtorEq, decide_true, decide_false, Nat.add_zero, Nat.zero_add]
  refine ⟨?_, (x1.trans x2).trans x3⟩
  cases rf <;> simp
end
end Go.Proofs.YtfaeabhbeolpgaaGreatDoor
end
