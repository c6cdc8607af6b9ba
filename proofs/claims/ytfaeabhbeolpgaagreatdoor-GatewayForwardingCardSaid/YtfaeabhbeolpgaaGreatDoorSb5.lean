/- Normalizers, part 5: the program's stream takes a byte; the end. Conditions: none. -/
import Derived.Test.YtfaeabhbeolpgaaGreatDoorSb4
set_option linter.all false
noncomputable section
open Go Go.Am Univ
namespace Go.Proofs.YtfaeabhbeolpgaaGreatDoor

/-- Nothing below a key has changed. -/
def Bel (g : Nat) (h h' : Hp) : Prop := h.next ≤ h'.next ∧ ∀ k, k < g → h'.m.get k = h.m.get k
theorem Bel.trans {g : Nat} {a b c : Hp} (x : Bel g a b) (y : Bel g b c) : Bel g a c := ⟨Nat.le_trans x.1 y.1, fun k hk => by rw [y.2 k hk, x.2 k hk]⟩
theorem Bel.of {g : Nat} {a b : Hp} (x : Ext a b) (hg : g ≤ a.next) : Bel g a b := ⟨x.1, fun k hk => x.2 k (by omega)⟩
theorem Bel.set {g : Nat} {a b : Hp} (x : Bel g a b) {k : Nat} (hk : g ≤ k) (ob : Am.Obj) : Bel g a (b.set k ob) := ⟨x.1, fun j hj => by rw [get_set_ne (by omega)]; exact x.2 j hj⟩
theorem Bel.ext {g : Nat} {h0 a b : Hp} (x : Ext h0 a) (hg : h0.next ≤ g) (y : Bel g a b) : Ext h0 b := ⟨Nat.le_trans x.1 y.1, fun k hk => by rw [y.2 k (by omega), x.2 k hk]⟩

section
variable {O : Orc} (hO : Only O)
include hO

set_option maxHeartbeats 4000000 in
theorem c68 {vc vr ve : AVal} {rv : Nat → AVal} {D : ND} {h0 h : Hp} (N0 : NZ h0 vc vr ve rv D) (V : ValidR D) {g : Nat} (hg : h0.next ≤ g) (x0 : Ext h0 h) {s : St} (S : Strm h g vc vr ve s) (hs : s.pos < D.m) (hl : s.out.length < 2 ^ 30 - 1) {b : Nat} (hb : b < 256) :
    RunsP O E0 68 [.ptr g 0, .int .u8 (b : Nat)] h (fun _ h' => Strm h' g vc vr ve (step D s b) ∧ Bel g h h') := by
  obtain ⟨vo, L, Q⟩ := S
  have N := N0.ext x0
  have gn := L.lt
  refine q_fn (L := 62) E68 (hO _ _ _ rfl) rfl rfl ?_
  have f0 : gld1 h g 0 = some (.int .i64 (s.pos : Nat)) := L.ld (k := 6) rfl (by omega)
  have f1 : gld1 h g 1 = some (.bool s.rf) := L.ld (k := 6) rfl (by omega)
  have f2 : gld1 h g 2 = some vc := L.ld (k := 6) rfl (by omega)
  have f3 : gld1 h g 3 = some vr := L.ld (k := 6) rfl (by omega)
  refine q_seq (q_seq (q_reg ?_))
  simp (disch := omega) only [JJ, opds, updD, ln, Nat.reduceLT, Nat.reduceLeDiff, Nat.reduceEqDiff, Nat.reduceAdd, Nat.reduceMul, ↓reduceIte, if_true, if_false, Bool.false_eq_true, beq_self_eq_true, Bool.not_true, Bool.not_false, reduceCtorEq, decide_true, decide_false, Nat.add_zero, Nat.zero_add, F68u0, f1]
  have done : ∀ (e' : Env) (h' : Hp) (s' : St), Strm h' g vc vr ve s' → s' = step D s b → Bel g h h' → WpRes 62 [] (fun _ h' => Strm h' g vc vr ve (step D s b) ∧ Bel g h h') e' h' := by
    intro e' h' s' q1 q2 q3
    rw [q2] at q1
    simp only [WpRes, resA]
    exact ⟨q1, q3⟩
  refine q_cond (q := s.rf) (by simp (disch := omega) only [JJ, opds, updD, ln, Nat.reduceLT, Nat.reduceLeDiff, Nat.reduceEqDiff, Nat.reduceAdd, Nat.reduceMul, ↓reduceIte, if_true, if_false, Bool.false_eq_true, beq_self_eq_true, Bool.not_true, Bool.not_false, reduceCtorEq, decide_true, decide_false, Nat.add_zero, Nat.zero_add]) (fun hr => ?_) (fun hr => ?_)
  · exact q_ret (done _ _ s ⟨vo, L, Q⟩ (by unfold step; rw [if_pos hr]) ⟨Nat.le_refl _, fun _ _ => rfl⟩)
  refine q_skip ?_
  refine q_seq (q_dreg ?_)
  have xb := Ext.bump h 1
  have Nb := N.ext xb
  have Lb := L.ext xb
  have nb : (bump h 1).next = h.next + 1 := rfl
  obtain ⟨i1, i2, i3⟩ := ix_ok V hb
  obtain ⟨d1, d2, d3, d4⟩ := cell_ok V hs i1
  obtain ⟨ga, oa, a1, a2⟩ := Nb.rows.addr hs
  have hrow := (V.2.2.2.2.2 s.pos hs).1
  have n62 := N0.n62
  generalize bump h 1 = hb1 at *
  have f0 : gld1 hb1 g 0 = some (.int .i64 (s.pos : Nat)) := Lb.ld (k := 6) rfl (by omega)
  have f2 : gld1 hb1 g 2 = some vc := Lb.ld (k := 6) rfl (by omega)
  have f3 : gld1 hb1 g 3 = some vr := Lb.ld (k := 6) rfl (by omega)
  simp (disch := omega) only [Ja, Jb, Jc, Jd, Je, Jf, Jg, Jh, Ji, Jj, Jk, Jl, Jm, Jn, Jp, Jq, Jr, Js, Jt, Ju, Jv, Jw, Jx, Jy, true_and, and_true, JJ, opds, updD, ln, Nat.reduceLT, Nat.reduceLeDiff, Nat.reduceEqDiff, Nat.reduceAdd, Nat.reduceMul, ↓reduceIte, if_true, if_false, Bool.false_eq_true, beq_self_eq_true, Bool.not_true, Bool.not_false, reduceCtorEq, decide_true, decide_false, Nat.add_zero, Nat.zero_add, F68u8, F68u8p, f0, f2, f3, a1, (a2 _ (Ext.refl _)).2 rfl]
  refine q_call (c111 hO vc D.n D.C b _ Nb.cls n62 hb i1 i2 i3) ?_
  rintro v1 h2 ⟨rfl, x2⟩
  have L2 := Lb.ext x2
  have N2 := Nb.ext x2
  have e0 : gld1 h2 g 0 = some (.int .i64 (s.pos : Nat)) := L2.ld (k := 6) rfl (by omega)
  have e3 : gld1 h2 g 3 = some vr := L2.ld (k := 6) rfl (by omega)
  have hix : ix D b < D.len s.pos := by omega
  obtain ⟨gb, ob, b1, b2⟩ := (N2.row s.pos hs).addr hix
  have v1 := N2.rows.veq
  have v2 := (N2.row s.pos hs).veq
  have n2 : h.next + 1 ≤ h2.next := by have := x2.1; omega
  simp (disch := omega) only [Ja, Jb, Jc, Jd, Je, Jf, Jg, Jh, Ji, Jj, Jk, Jl, Jm, Jn, Jp, Jq, Jr, Js, Jt, Ju, Jv, Jw, Jx, Jy, true_and, and_true, JJ, opds, updD, ln, Nat.reduceLT, Nat.reduceLeDiff, Nat.reduceEqDiff, Nat.reduceAdd, Nat.reduceMul, ↓reduceIte, if_true, if_false, Bool.false_eq_true, beq_self_eq_true, Bool.not_true, Bool.not_false, reduceCtorEq, decide_true, decide_false, Nat.add_zero, Nat.zero_add, F68u8, e0, e3, a1, (a2 _ x2).2 rfl, veq_int, veq_ptr, v1, v2, b1, (b2 _ (Ext.refl _)).1, mk_set, and_self]
  have l4 := Lob.setL (h := h2) (k := h.next) (n := 3) (l := [.int .i64 ((0 : Nat) : Int), .int .i64 ((0 : Nat) : Int), .int .u8 ((0 : Nat) : Int)]) (by omega) rfl (by omega)
  have L3 := L2.set_ne (g := h.next) (ob := .cells .leaf [.int .i64 ((0 : Nat) : Int), .int .i64 ((0 : Nat) : Int), .int .u8 ((0 : Nat) : Int)] 3 1 true) (by omega)
  have Q2 : Out h2 (g < ·) vo s.out := (Q.ext xb).ext x2
  have lc : ln (cellv D s.pos (ix D b)) = 3 := rfl
  obtain ⟨ob2, g1, g2⟩ := l4.st (o := 0) (vs := cellv D s.pos (ix D b)) (Nat.le_refl _) rfl (Nat.succ_pos _)
  rw [blit_all (by rfl)] at g2
  simp (disch := omega) only [Ja, Jb, Jc, Jd, Je, Jf, Jg, Jh, Ji, Jj, Jk, Jl, Jm, Jn, Jp, Jq, Jr, Js, Jt, Ju, Jv, Jw, Jx, Jy, true_and, and_true, JJ, opds, updD, ln, Nat.reduceLT, Nat.reduceLeDiff, Nat.reduceEqDiff, Nat.reduceAdd, Nat.reduceMul, ↓reduceIte, if_true, if_false, Bool.false_eq_true, beq_self_eq_true, Bool.not_true, Bool.not_false, reduceCtorEq, decide_true, decide_false, Nat.add_zero, Nat.zero_add, F68u8, lc, g1]
  have L4 := L3.set_ne (g := h.next) (ob := ob2) (by omega)
  have B4 : Bel g h ((h2.set h.next (.cells .leaf [.int .i64 ((0 : Nat) : Int), .int .i64 ((0 : Nat) : Int), .int .u8 ((0 : Nat) : Int)] 3 1 true)).set h.next ob2) := ((Bel.of (xb.trans x2) (by omega)).set (by omega) _).set (by omega) _
  have Q0 := Q.lt
  have Q4 : Out ((h2.set h.next (.cells .leaf [.int .i64 ((0 : Nat) : Int), .int .i64 ((0 : Nat) : Int), .int .u8 ((0 : Nat) : Int)] 3 1 true)).set h.next ob2) (fun k => g < k ∧ k < h.next) vo s.out := by
    refine Q0.frame ?_ (fun k hk1 hk2 => ?_)
    · rw [set_next, set_next]; omega
    · rw [get_set_ne (by omega), get_set_ne (by omega), (xb.trans x2).2 k hk2]
  have n4 : ((h2.set h.next (.cells .leaf [.int .i64 ((0 : Nat) : Int), .int .i64 ((0 : Nat) : Int), .int .u8 ((0 : Nat) : Int)] 3 1 true)).set h.next ob2).next = h2.next := rfl
  clear g1 l4 L3 L2 Q2 Lb e0 e3 f0 f1 f2 f3 a1 a2 b1 b2
  generalize (h2.set h.next (.cells .leaf [.int .i64 ((0 : Nat) : Int), .int .i64 ((0 : Nat) : Int), .int .u8 ((0 : Nat) : Int)] 3 1 true)).set h.next ob2 = h4 at *
  have c0 : gld1 h4 h.next 0 = some (.int .i64 (tn D s.pos (ix D b) : Nat)) := by rw [← d1]; exact g2.ld (k := 3) rfl (by omega)
  obtain ⟨ob3, g3, g4⟩ := L4.st (o := 0) (vs := [.int .i64 (tn D s.pos (ix D b) : Nat)]) (by simp) rfl (by simp)
  have L5 : Lob (h4.set g ob3) g [.int .i64 (tn D s.pos (ix D b) : Nat), .bool s.rf, vc, vr, ve, vo] := g4
  have l5 := g2.set_ne (g := g) (ob := ob3) (by omega)
  have B5 := B4.set (k := g) (Nat.le_refl _) ob3
  have Q5 : Out (h4.set g ob3) (fun k => g < k ∧ k < h.next) vo s.out := Q4.frame (Nat.le_refl _) (fun k hk1 hk2 => get_set_ne (by omega))
  have n5 : (h4.set g ob3).next = h2.next := by rw [set_next, n4]
  refine q_seq (q_reg ?_)
  simp (disch := omega) only [JJ, opds, updD, ln, Nat.reduceLT, Nat.reduceLeDiff, Nat.reduceEqDiff, Nat.reduceAdd, Nat.reduceMul, ↓reduceIte, if_true, if_false, Bool.false_eq_true, beq_self_eq_true, Bool.not_true, Bool.not_false, reduceCtorEq, decide_true, decide_false, Nat.add_zero, Nat.zero_add, F68u1, c0, g3]
  clear g4 c0 g3 L4 Q4 B4 n4 g2
  generalize h4.set g ob3 = h5 at *
  have c1 : gld1 h5 h.next 1 = some (.int .i64 (an D s.pos (ix D b) : Nat)) := by rw [← d3]; exact l5.ld (k := 3) rfl (by omega)
  refine q_seq (q_reg ?_)
  simp (disch := omega) only [JJ, opds, updD, ln, Nat.reduceLT, Nat.reduceLeDiff, Nat.reduceEqDiff, Nat.reduceAdd, Nat.reduceMul, ↓reduceIte, if_true, if_false, Bool.false_eq_true, beq_self_eq_true, Bool.not_true, Bool.not_false, reduceCtorEq, decide_true, decide_false, Nat.add_zero, Nat.zero_add, F68u2, c1]
  rw [hr] at L5
  have hP : ∀ h', Bel g h h' → h.next ≤ h'.next := fun _ x => x.1
  -- a byte goes out
  have app : ∀ (c : Nat) (e' : Env) (h' : Hp), step D s b = ⟨tn D s.pos (ix D b), false, s.out ++ [c]⟩ → e' 0 = .ptr g 0 → e' 4 = .ptr h.next 0 → gld1 h' h.next 2 = some (.int .u8 (c : Nat)) → Lob h' g [.int .i64 (tn D s.pos (ix D b) : Nat), .bool false, vc, vr, ve, vo] → Out h' (g < ·) vo s.out → Bel g h h' → h.next + 1 ≤ h'.next →
      ∀ (N0 : Env → Hp → Prop) (X0 : Nat → Env → Hp → Prop) (R0 : Env → Hp → Prop), (∀ e'' h'', WpRes 62 [] (fun _ h' => Strm h' g vc vr ve (step D s b) ∧ Bel g h h') e'' h'' → X0 0 e'' h'') → Wp O E0 62 (.seq (.dreg 1 F68u9 F68u9p) (.exit 0)) e' h' N0 X0 R0 := by
    intro c e' h' hst e0 e4 c2 L Q B hn N0 X0 R0 hX
    refine q_seq (q_dreg ?_)
    have xb := Ext.bump h' 1
    have Lb := L.ext xb
    have Qb := Q.ext xb
    have nb : (bump h' 1).next = h'.next + 1 := rfl
    have Bb : Bel g h (bump h' 1) := B.trans (Bel.of xb (by omega))
    have f2 : gld1 (bump h' 1) h.next 2 = some (.int .u8 (c : Nat)) := c2
    have gk : (bump h' 1).m.get h'.next = h'.m.get h'.next := rfl
    generalize bump h' 1 = hb at *
    have f5 : gld1 hb g 5 = some vo := Lb.ld (k := 6) rfl (by omega)
    have hL := L.lt
    have hrd : rdS (hb.set h'.next (.cells ((Tree.leaf : Tree (List AVal)).put 0 (some [.int .u8 (c : Int)])) [.int .u8 ((0 : Nat) : Int)] 1 1 true)) 1 (.sl h'.next 0 1 (some 1)) = some (1, [.int .u8 (c : Int)]) :=
      rdS_oneB (h := h') (by simp only [Hp.set, Go.Am.oneB, Hp.new, Tree.get_put_same])
    have Q1 : Out (hb.set h'.next (.cells ((Tree.leaf : Tree (List AVal)).put 0 (some [.int .u8 (c : Int)])) [.int .u8 ((0 : Nat) : Int)] 1 1 true)) (g < ·) vo s.out := by
      refine Q.frame (by rw [set_next]; omega) (fun k hk1 hk2 => ?_)
      rw [get_set_ne (by omega), xb.2 k hk2]
    obtain ⟨vo', h6, g1, g2, g3, g4⟩ := Q1.app (b := c) hrd (by omega) (by rw [set_next]; omega)
    have L1 := Lb.set_ne (g := h'.next) (ob := .cells ((Tree.leaf : Tree (List AVal)).put 0 (some [.int .u8 (c : Int)])) [.int .u8 ((0 : Nat) : Int)] 1 1 true) (by omega)
    rw [set_next] at g3 g4
    have L6 := L1.frame (h' := h6) (g4 g (by omega) (by omega)) (by rw [set_next]; omega)
    have B6 : Bel g h h6 := ⟨by have := B.1; omega, fun k hk => by rw [g4 k (by omega) (by omega), get_set_ne (by omega)]; exact Bb.2 k hk⟩
    obtain ⟨ob7, g7, g8⟩ := L6.st (o := 5) (vs := [vo']) (by simp) (by simp only [ones, g2.one, Bool.and_self]) (by simp)
    have L7 : Lob (h6.set g ob7) g [.int .i64 (tn D s.pos (ix D b) : Nat), .bool false, vc, vr, ve, vo'] := g8
    have co := cellsOf_one g2.one
    have lo : ln [vo'] = 1 := rfl
    simp (disch := omega) only [Ja, Jb, Jc, Jd, Je, Jf, Jg, Jh, Ji, Jj, Jk, Jl, Jm, Jn, Jp, Jq, Jr, Js, Jt, Ju, Jv, Jw, Jx, Jy, true_and, and_true, JJ, opds, updD, ln, Nat.reduceLT, Nat.reduceLeDiff, Nat.reduceEqDiff, Nat.reduceAdd, Nat.reduceMul, ↓reduceIte, if_true, if_false, Bool.false_eq_true, beq_self_eq_true, Bool.not_true, Bool.not_false, reduceCtorEq, decide_true, decide_false, Nat.add_zero, Nat.zero_add, F68u9, F68u9p, e0, e4, f5, f2, fillS_one, fill1uint, mk_set, g1, veq_ptr, co, lo, g7, and_self]
    refine q_exit (hX _ _ ?_)
    exact done _ _ ⟨tn D s.pos (ix D b), false, s.out ++ [c]⟩ ⟨vo', L7, g2.frame (Nat.le_refl _) (fun k hk1 hk2 => get_set_ne (by omega))⟩ hst.symm (B6.set (Nat.le_refl _) _)
  have n6 : h.next + 1 ≤ h5.next := by omega
  refine q_block (q_seq (q_block (q_seq (q_block (q_seq (q_block (q_seq (q_seq (q_seq (q_reg ?_))))))))))
  simp (disch := omega) only [JJ, opds, updD, ln, Nat.reduceLT, Nat.reduceLeDiff, Nat.reduceEqDiff, Nat.reduceAdd, Nat.reduceMul, ↓reduceIte, if_true, if_false, Bool.false_eq_true, beq_self_eq_true, Bool.not_true, Bool.not_false, reduceCtorEq, decide_true, decide_false, Nat.add_zero, Nat.zero_add, F68u3, b_eql, c_eq]
  by_cases k0 : an D s.pos (ix D b) = 0
  · refine q_cond (q := true) (by simp (disch := omega) only [JJ, opds, updD, ln, Nat.reduceLT, Nat.reduceLeDiff, Nat.reduceEqDiff, Nat.reduceAdd, Nat.reduceMul, ↓reduceIte, if_true, if_false, Bool.false_eq_true, beq_self_eq_true, Bool.not_true, Bool.not_false, reduceCtorEq, decide_true, decide_false, Nat.add_zero, Nat.zero_add, k0]) (fun _ => ?_) (fun h => by cases h)
    refine q_exit ?_
    simp (disch := omega) only [JJ, opds, updD, ln, Nat.reduceLT, Nat.reduceLeDiff, Nat.reduceEqDiff, Nat.reduceAdd, Nat.reduceMul, ↓reduceIte, if_true, if_false, Bool.false_eq_true, beq_self_eq_true, Bool.not_true, Bool.not_false, reduceCtorEq, decide_true, decide_false, Nat.add_zero, Nat.zero_add]
    refine q_reg ?_
    obtain ⟨ob6, g6, g7⟩ := l5.st (o := 2) (vs := [.int .u8 (b : Nat)]) (by simp [cellv]) rfl (by simp)
    have l6 : Lob (h5.set h.next ob6) h.next [.int .i64 (D.T s.pos (ix D b)), .int .i64 (D.A s.pos (ix D b)), .int .u8 (b : Nat)] := g7
    simp (disch := omega) only [JJ, opds, updD, ln, Nat.reduceLT, Nat.reduceLeDiff, Nat.reduceEqDiff, Nat.reduceAdd, Nat.reduceMul, ↓reduceIte, if_true, if_false, Bool.false_eq_true, beq_self_eq_true, Bool.not_true, Bool.not_false, reduceCtorEq, decide_true, decide_false, Nat.add_zero, Nat.zero_add, F68u6, g6]
    refine app b _ _ ?_ (by simp (disch := omega) only [JJ, opds, updD, ln, Nat.reduceLT, Nat.reduceLeDiff, Nat.reduceEqDiff, Nat.reduceAdd, Nat.reduceMul, ↓reduceIte, if_true, if_false, Bool.false_eq_true, beq_self_eq_true, Bool.not_true, Bool.not_false, reduceCtorEq, decide_true, decide_false, Nat.add_zero, Nat.zero_add]) (by simp (disch := omega) only [JJ, opds, updD, ln, Nat.reduceLT, Nat.reduceLeDiff, Nat.reduceEqDiff, Nat.reduceAdd, Nat.reduceMul, ↓reduceIte, if_true, if_false, Bool.false_eq_true, beq_self_eq_true, Bool.not_true, Bool.not_false, reduceCtorEq, decide_true, decide_false, Nat.add_zero, Nat.zero_add]) (l6.ld (k := 3) rfl (by omega)) (L5.set_ne (by omega)) ((Q5.frame (h' := h5.set h.next ob6) (Nat.le_refl _) (fun k hk1 hk2 => get_set_ne (by omega))).imp (fun _ q => q.1)) (B5.set (by omega) _) (by rw [set_next]; exact n6) _ _ _ (fun e'' h'' q => ?_)
    · unfold step; rw [if_neg (by rw [hr]; simp), if_pos k0]
    · simp (disch := omega) only [JJ, opds, updD, ln, Nat.reduceLT, Nat.reduceLeDiff, Nat.reduceEqDiff, Nat.reduceAdd, Nat.reduceMul, ↓reduceIte, if_true, if_false, Bool.false_eq_true, beq_self_eq_true, Bool.not_true, Bool.not_false, reduceCtorEq, decide_true, decide_false, Nat.add_zero, Nat.zero_add]; exact q
  refine q_cond (q := false) (by simp (disch := omega) only [JJ, opds, updD, ln, Nat.reduceLT, Nat.reduceLeDiff, Nat.reduceEqDiff, Nat.reduceAdd, Nat.reduceMul, ↓reduceIte, if_true, if_false, Bool.false_eq_true, beq_self_eq_true, Bool.not_true, Bool.not_false, reduceCtorEq, decide_true, decide_false, Nat.add_zero, Nat.zero_add, k0]) (fun h => by cases h) (fun _ => ?_)
  refine q_skip ?_
  refine q_seq (q_seq (q_reg ?_))
  simp (disch := omega) only [JJ, opds, updD, ln, Nat.reduceLT, Nat.reduceLeDiff, Nat.reduceEqDiff, Nat.reduceAdd, Nat.reduceMul, ↓reduceIte, if_true, if_false, Bool.false_eq_true, beq_self_eq_true, Bool.not_true, Bool.not_false, reduceCtorEq, decide_true, decide_false, Nat.add_zero, Nat.zero_add, F68u4, b_eql, c_eq]
  by_cases k2 : an D s.pos (ix D b) = 2
  · refine q_cond (q := true) (by simp (disch := omega) only [JJ, opds, updD, ln, Nat.reduceLT, Nat.reduceLeDiff, Nat.reduceEqDiff, Nat.reduceAdd, Nat.reduceMul, ↓reduceIte, if_true, if_false, Bool.false_eq_true, beq_self_eq_true, Bool.not_true, Bool.not_false, reduceCtorEq, decide_true, decide_false, Nat.add_zero, Nat.zero_add, k2]) (fun _ => ?_) (fun h => by cases h)
    refine q_exit ?_
    simp (disch := omega) only [JJ, opds, updD, ln, Nat.reduceLT, Nat.reduceLeDiff, Nat.reduceEqDiff, Nat.reduceAdd, Nat.reduceMul, ↓reduceIte, if_true, if_false, Bool.false_eq_true, beq_self_eq_true, Bool.not_true, Bool.not_false, reduceCtorEq, decide_true, decide_false, Nat.add_zero, Nat.zero_add]
    refine app (D.B s.pos (ix D b)) _ _ ?_ (by simp (disch := omega) only [JJ, opds, updD, ln, Nat.reduceLT, Nat.reduceLeDiff, Nat.reduceEqDiff, Nat.reduceAdd, Nat.reduceMul, ↓reduceIte, if_true, if_false, Bool.false_eq_true, beq_self_eq_true, Bool.not_true, Bool.not_false, reduceCtorEq, decide_true, decide_false, Nat.add_zero, Nat.zero_add]) (by simp (disch := omega) only [JJ, opds, updD, ln, Nat.reduceLT, Nat.reduceLeDiff, Nat.reduceEqDiff, Nat.reduceAdd, Nat.reduceMul, ↓reduceIte, if_true, if_false, Bool.false_eq_true, beq_self_eq_true, Bool.not_true, Bool.not_false, reduceCtorEq, decide_true, decide_false, Nat.add_zero, Nat.zero_add]) (l5.ld (k := 3) rfl (by omega)) L5 (Q5.imp (fun _ q => q.1)) B5 n6 _ _ _ (fun e'' h'' q => ?_)
    · unfold step; rw [if_neg (by rw [hr]; simp), if_neg k0, if_pos k2]
    · simp (disch := omega) only [JJ, opds, updD, ln, Nat.reduceLT, Nat.reduceLeDiff, Nat.reduceEqDiff, Nat.reduceAdd, Nat.reduceMul, ↓reduceIte, if_true, if_false, Bool.false_eq_true, beq_self_eq_true, Bool.not_true, Bool.not_false, reduceCtorEq, decide_true, decide_false, Nat.add_zero, Nat.zero_add]; exact q
  refine q_cond (q := false) (by simp (disch := omega) only [JJ, opds, updD, ln, Nat.reduceLT, Nat.reduceLeDiff, Nat.reduceEqDiff, Nat.reduceAdd, Nat.reduceMul, ↓reduceIte, if_true, if_false, Bool.false_eq_true, beq_self_eq_true, Bool.not_true, Bool.not_false, reduceCtorEq, decide_true, decide_false, Nat.add_zero, Nat.zero_add, k2]) (fun h => by cases h) (fun _ => ?_)
  refine q_skip ?_
  refine q_seq (q_reg ?_)
  simp (disch := omega) only [JJ, opds, updD, ln, Nat.reduceLT, Nat.reduceLeDiff, Nat.reduceEqDiff, Nat.reduceAdd, Nat.reduceMul, ↓reduceIte, if_true, if_false, Bool.false_eq_true, beq_self_eq_true, Bool.not_true, Bool.not_false, reduceCtorEq, decide_true, decide_false, Nat.add_zero, Nat.zero_add, F68u5, b_eql, c_eq]
  by_cases k3 : an D s.pos (ix D b) = 3
  · refine q_cond (q := true) (by simp (disch := omega) only [JJ, opds, updD, ln, Nat.reduceLT, Nat.reduceLeDiff, Nat.reduceEqDiff, Nat.reduceAdd, Nat.reduceMul, ↓reduceIte, if_true, if_false, Bool.false_eq_true, beq_self_eq_true, Bool.not_true, Bool.not_false, reduceCtorEq, decide_true, decide_false, Nat.add_zero, Nat.zero_add, k3]) (fun _ => ?_) (fun h => by cases h)
    refine q_exit ?_
    simp (disch := omega) only [JJ, opds, updD, ln, Nat.reduceLT, Nat.reduceLeDiff, Nat.reduceEqDiff, Nat.reduceAdd, Nat.reduceMul, ↓reduceIte, if_true, if_false, Bool.false_eq_true, beq_self_eq_true, Bool.not_true, Bool.not_false, reduceCtorEq, decide_true, decide_false, Nat.add_zero, Nat.zero_add]
    refine q_seq (q_reg ?_)
    obtain ⟨ob6, g6, g7⟩ := L5.st (o := 0) (vs := [.int .i64 ((0 : Nat) : Int), .bool true]) (by simp) rfl (by simp)
    have L6 : Lob (h5.set g ob6) g [.int .i64 ((0 : Nat) : Int), .bool true, vc, vr, ve, vo] := g7
    simp (disch := omega) only [JJ, opds, updD, ln, Nat.reduceLT, Nat.reduceLeDiff, Nat.reduceEqDiff, Nat.reduceAdd, Nat.reduceMul, ↓reduceIte, if_true, if_false, Bool.false_eq_true, beq_self_eq_true, Bool.not_true, Bool.not_false, reduceCtorEq, decide_true, decide_false, Nat.add_zero, Nat.zero_add, F68u7, fillA, blit_eq, cat, takeN, dropN, nble, Bool.and_self, Nat.le_refl, g6]
    refine q_exit ?_
    simp (disch := omega) only [JJ, opds, updD, ln, Nat.reduceLT, Nat.reduceLeDiff, Nat.reduceEqDiff, Nat.reduceAdd, Nat.reduceMul, ↓reduceIte, if_true, if_false, Bool.false_eq_true, beq_self_eq_true, Bool.not_true, Bool.not_false, reduceCtorEq, decide_true, decide_false, Nat.add_zero, Nat.zero_add]
    refine (done _ _ ⟨0, true, s.out⟩ ⟨vo, L6, (Q5.frame (h' := h5.set g ob6) (Nat.le_refl _) (fun k hk1 hk2 => get_set_ne (by omega))).imp (fun _ q => q.1)⟩ ?_ (B5.set (Nat.le_refl _) _))
    unfold step; rw [if_neg (by rw [hr]; simp), if_neg k0, if_neg k2, if_pos k3]
  refine q_cond (q := false) (by simp (disch := omega) only [JJ, opds, updD, ln, Nat.reduceLT, Nat.reduceLeDiff, Nat.reduceEqDiff, Nat.reduceAdd, Nat.reduceMul, ↓reduceIte, if_true, if_false, Bool.false_eq_true, beq_self_eq_true, Bool.not_true, Bool.not_false, reduceCtorEq, decide_true, decide_false, Nat.add_zero, Nat.zero_add, k3]) (fun h => by cases h) (fun _ => ?_)
  refine q_skip ?_
  refine q_exit ?_
  simp (disch := omega) only [JJ, opds, updD, ln, Nat.reduceLT, Nat.reduceLeDiff, Nat.reduceEqDiff, Nat.reduceAdd, Nat.reduceMul, ↓reduceIte, if_true, if_false, Bool.false_eq_true, beq_self_eq_true, Bool.not_true, Bool.not_false, reduceCtorEq, decide_true, decide_false, Nat.add_zero, Nat.zero_add]
  refine (done _ _ ⟨tn D s.pos (ix D b), false, s.out⟩ ⟨vo, L5, Q5.imp (fun _ q => q.1)⟩ ?_ B5)
  unfold step; rw [if_neg (by rw [hr]; simp), if_neg k0, if_neg k2, if_neg k3]
end
end Go.Proofs.YtfaeabhbeolpgaaGreatDoor
end
