/- Normalizers, part 4: the program's stream: opening, a byte, the end. Conditions: none. -/
import Derived.Test.YtfaeabhbeolpgaaGreatDoorSb3
set_option linter.all false
noncomputable section
open Go Go.Am Univ
namespace Go.Proofs.YtfaeabhbeolpgaaGreatDoor

/-- The first number for which a test holds, of f numbers from i on. -/
def fi (p : Nat → Bool) : Nat → Nat → Nat
  | 0, i => i
  | f + 1, i => if p i = true then i else fi p f (i + 1)
theorem fi_ok (p : Nat → Bool) : ∀ (f i : Nat), (∃ j, i ≤ j ∧ j < i + f ∧ p j = true) → i ≤ fi p f i ∧ fi p f i < i + f ∧ p (fi p f i) = true ∧ ∀ j, i ≤ j → j < fi p f i → p j = false
  | 0, i, h => by obtain ⟨j, h1, h2, _⟩ := h; omega
  | f + 1, i, h => by
    unfold fi
    cases hp : p i
    · obtain ⟨j, h1, h2, h3⟩ := h
      have hij : j ≠ i := fun e => by rw [e, hp] at h3; cases h3
      obtain ⟨q1, q2, q3, q4⟩ := fi_ok p f (i + 1) ⟨j, by omega, by omega, h3⟩
      simp only [Bool.false_eq_true, if_false]
      refine ⟨by omega, by omega, q3, fun k hk1 hk2 => ?_⟩
      by_cases hki : k = i
      · subst hki; exact hp
      · exact q4 k (by omega) hk2
    · simp only [if_true]
      exact ⟨by omega, by omega, hp, fun k hk1 hk2 => by omega⟩
theorem un_some (C : Nat → Nat → Nat) (b : Nat) : ∀ n, un C n b = true → ∃ j, j < n ∧ has (C j) b = true
  | 0, h => by simp [un] at h
  | n + 1, h => by
    simp only [un, Bool.or_eq_true] at h
    rcases h with h | h
    · obtain ⟨j, h1, h2⟩ := un_some C b n h; exact ⟨j, by omega, h2⟩
    · exact ⟨n, by omega, h⟩
/-- The class of a byte. -/
def ix (D : ND) (b : Nat) : Nat := fi (fun i => has (D.C i) b) D.n 0
theorem ix_ok {D : ND} (V : ValidR D) {b : Nat} (hb : b < 256) : ix D b < D.n ∧ has (D.C (ix D b)) b = true ∧ ∀ j, j < ix D b → has (D.C j) b = false := by
  have h := (cnt_full_iff _ _).1 V.2.2.2.2.1.2 b hb
  obtain ⟨j, h1, h2⟩ := un_some _ _ _ h
  obtain ⟨q1, q2, q3, q4⟩ := fi_ok (fun i => has (D.C i) b) D.n 0 ⟨j, by omega, by omega, h2⟩
  exact ⟨by unfold ix; omega, q3, fun j hj => q4 j (by omega) hj⟩
def tn (D : ND) (s i : Nat) : Nat := (D.T s i).toNat
def an (D : ND) (s i : Nat) : Nat := (D.A s i).toNat
theorem cell_ok {D : ND} (V : ValidR D) {s i : Nat} (hs : s < D.m) (hi : i < D.n) : D.T s i = ((tn D s i : Nat) : Int) ∧ tn D s i < D.m ∧ D.A s i = ((an D s i : Nat) : Int) ∧ an D s i ≤ 3 := by
  obtain ⟨h1, h2⟩ := V.2.2.2.2.2 s hs
  obtain ⟨q1, q2, q3, q4, _⟩ := h2 i (by omega)
  unfold tn an
  omega

structure St where
  pos : Nat
  rf : Bool
  out : List Nat
/-- A byte. -/
def step (D : ND) (s : St) (b : Nat) : St :=
  if s.rf = true then s
  else if an D s.pos (ix D b) = 0 then ⟨tn D s.pos (ix D b), false, s.out ++ [b]⟩
  else if an D s.pos (ix D b) = 2 then ⟨tn D s.pos (ix D b), false, s.out ++ [D.B s.pos (ix D b)]⟩
  else if an D s.pos (ix D b) = 3 then ⟨0, true, s.out⟩
  else ⟨tn D s.pos (ix D b), false, s.out⟩
theorem step_pos {D : ND} (V : ValidR D) {s : St} (hs : s.pos < D.m) {b : Nat} (hb : b < 256) : (step D s b).pos < D.m := by
  have h := cell_ok V hs (ix_ok V hb).1
  have := V.2.1
  unfold step
  split
  · exact hs
  · split
    · exact h.2.1
    · split
      · exact h.2.1
      · split
        · show 0 < D.m; omega
        · exact h.2.1
theorem step_len {D : ND} {s : St} {b : Nat} : (step D s b).out.length ≤ s.out.length + 1 := by
  unfold step
  repeat (first | split | simp)

def Strm (h : Hp) (g : Nat) (vc vr ve : AVal) (s : St) : Prop := ∃ vo, Lob h g [.int .i64 (s.pos : Nat), .bool s.rf, vc, vr, ve, vo] ∧ Out h (g < ·) vo s.out

section
variable {O : Orc} (hO : Only O)
include hO

set_option maxHeartbeats 1000000 in
theorem c67 {vc vr ve : AVal} {rv : Nat → AVal} {D : ND} {h : Hp} (N : NZ h vc vr ve rv D) (V : ValidR D) {a : Nat} (ha : a < D.m) (rf : Bool) :
    RunsP O E0 67 [.agg [vc, vr, ve], .agg [.int .i64 (a : Nat), .bool rf]] h (fun v h' => ∃ g, v = .tup [.ptr g 0, .bool true] ∧ h.next ≤ g ∧ Strm h' g vc vr ve ⟨if rf = true then 0 else a, rf, []⟩ ∧ Ext h h') := by
  refine q_fn (L := 29) E67 (hO _ _ _ rfl) rfl rfl ?_
  refine q_seq (q_reg ?_)
  simp (disch := omega) only [JJ, opds, updD, ln, Nat.reduceLT, Nat.reduceLeDiff, Nat.reduceEqDiff, Nat.reduceAdd, Nat.reduceMul, ↓reduceIte, if_true, if_false, Bool.false_eq_true, beq_self_eq_true, Bool.not_true, Bool.not_false, reduceCtorEq, decide_true, decide_false, Nat.add_zero, Nat.zero_add, F67u0]
  have l2 := (Lob.new h [vc, vr, ve] (Nat.succ_pos _)).newL (l' := [.int .i64 (a : Nat), .bool rf])
  have l3 := Lob.new (newL h [vc, vr, ve]) [.int .i64 (a : Nat), .bool rf] (Nat.succ_pos _)
  have x1 := (Ext.newL h [vc, vr, ve]).trans (Ext.newL _ [.int .i64 (a : Nat), .bool rf])
  have n1 : (newL (newL h [vc, vr, ve]) [.int .i64 (a : Nat), .bool rf]).next = h.next + 1 + 1 := rfl
  rw [QM] at l3
  generalize newL (newL h [vc, vr, ve]) [.int .i64 (a : Nat), .bool rf] = h1 at *
  refine q_seq (q_seq (q_reg ?_))
  simp (disch := omega) only [JJ, opds, updD, ln, Nat.reduceLT, Nat.reduceLeDiff, Nat.reduceEqDiff, Nat.reduceAdd, Nat.reduceMul, ↓reduceIte, if_true, if_false, Bool.false_eq_true, beq_self_eq_true, Bool.not_true, Bool.not_false, reduceCtorEq, decide_true, decide_false, Nat.add_zero, Nat.zero_add, F67u1, l2.ldN' (m := 3) rfl]
  refine q_call (c19 hO (N.ext x1)) ?_
  rintro v1 h2 ⟨⟨q, rfl, hq⟩, x2⟩
  obtain rfl := hq.2 V
  replace l2 := l2.ext x2
  replace l3 := l3.ext x2
  replace x1 := x1.trans x2
  have n2 : h.next + 1 + 1 ≤ h2.next := by have := x2.1; omega
  have N2 := N.ext x1
  have r1 : gld1 h2 h.next 1 = some vr := l2.ld (k := 3) rfl (by omega)
  have s0 : gld1 h2 (h.next + 1) 0 = some (.int .i64 (a : Nat)) := l3.ld (k := 2) rfl (by omega)
  have s1 : gld1 h2 (h.next + 1) 1 = some (.bool rf) := l3.ld (k := 2) rfl (by omega)
  have t1 : ¬ a < 0 := by omega
  have t2 : ¬ D.m ≤ a := by omega
  simp (disch := omega) only [JJ, opds, updD, ln, Nat.reduceLT, Nat.reduceLeDiff, Nat.reduceEqDiff, Nat.reduceAdd, Nat.reduceMul, ↓reduceIte, if_true, if_false, Bool.false_eq_true, beq_self_eq_true, Bool.not_true, Bool.not_false, reduceCtorEq, decide_true, decide_false, Nat.add_zero, Nat.zero_add, s0, r1, N2.rows.len, b_lss, b_geq, c_lt, c_le, t1, t2]
  refine q_cond (q := false) (by simp (disch := omega) only [JJ, opds, updD, ln, Nat.reduceLT, Nat.reduceLeDiff, Nat.reduceEqDiff, Nat.reduceAdd, Nat.reduceMul, ↓reduceIte, if_true, if_false, Bool.false_eq_true, beq_self_eq_true, Bool.not_true, Bool.not_false, reduceCtorEq, decide_true, decide_false, Nat.add_zero, Nat.zero_add]) (fun h => by cases h) (fun _ => ?_)
  refine q_skip ?_
  refine q_seq (q_seq (q_reg ?_))
  simp (disch := omega) only [JJ, opds, updD, ln, Nat.reduceLT, Nat.reduceLeDiff, Nat.reduceEqDiff, Nat.reduceAdd, Nat.reduceMul, ↓reduceIte, if_true, if_false, Bool.false_eq_true, beq_self_eq_true, Bool.not_true, Bool.not_false, reduceCtorEq, decide_true, decide_false, Nat.add_zero, Nat.zero_add, F67u3, s1]
  -- the object is made
  have fin : ∀ (e' : Env) (h3 : Hp), e' 2 = .ptr h.next 0 → e' 3 = .ptr (h.next + 1) 0 → Lob h3 h.next [vc, vr, ve] → Lob h3 (h.next + 1) [.int .i64 ((if rf = true then 0 else a : Nat) : Int), .bool rf] → Ext h h3 → h.next + 1 + 1 ≤ h3.next → ∀ (X0 : Nat → Env → Hp → Prop),
      Wp O E0 29 (.seq (.reg F67u5) .ret) e' h3 (WpRes 29 [.tmp 4, .tmp 5] fun v h' => ∃ g, v = .tup [.ptr g 0, .bool true] ∧ h.next ≤ g ∧ Strm h' g vc vr ve ⟨if rf = true then 0 else a, rf, []⟩ ∧ Ext h h') X0
        (WpRes 29 [.tmp 4, .tmp 5] fun v h' => ∃ g, v = .tup [.ptr g 0, .bool true] ∧ h.next ≤ g ∧ Strm h' g vc vr ve ⟨if rf = true then 0 else a, rf, []⟩ ∧ Ext h h') := by
    intro e' h3 e2 e3 q2 q3 q4 q5 X0
    refine q_seq (q_reg ?_)
    simp (disch := omega) only [JJ, opds, updD, ln, Nat.reduceLT, Nat.reduceLeDiff, Nat.reduceEqDiff, Nat.reduceAdd, Nat.reduceMul, ↓reduceIte, if_true, if_false, Bool.false_eq_true, beq_self_eq_true, Bool.not_true, Bool.not_false, reduceCtorEq, decide_true, decide_false, Nat.add_zero, Nat.zero_add, F67u5, e2, e3, q2.ldN' (m := 3) rfl, q3.ldN' (m := 2) rfl, fillA, blit_eq, cat, takeN, dropN, nble, Bool.and_self, Nat.le_refl]
    refine q_ret (wpRes_tmp2 (by decide) (by decide) ?_)
    simp (disch := omega) only [JJ, opds, updD, ln, Nat.reduceLT, Nat.reduceLeDiff, Nat.reduceEqDiff, Nat.reduceAdd, Nat.reduceMul, ↓reduceIte, if_true, if_false, Bool.false_eq_true, beq_self_eq_true, Bool.not_true, Bool.not_false, reduceCtorEq, decide_true, decide_false, Nat.add_zero, Nat.zero_add]
    refine ⟨h3.next, rfl, by omega, ⟨.nils, ?_, .inl ⟨rfl, rfl⟩⟩, q4.trans (Ext.newL _ _)⟩
    exact Lob.new h3 _ (Nat.succ_pos _)
  cases rf
  · refine q_cond (q := false) (by simp (disch := omega) only [JJ, opds, updD, ln, Nat.reduceLT, Nat.reduceLeDiff, Nat.reduceEqDiff, Nat.reduceAdd, Nat.reduceMul, ↓reduceIte, if_true, if_false, Bool.false_eq_true, beq_self_eq_true, Bool.not_true, Bool.not_false, reduceCtorEq, decide_true, decide_false, Nat.add_zero, Nat.zero_add]) (fun h => by cases h) (fun _ => ?_)
    refine q_skip ?_
    exact fin _ h2 (by simp (disch := omega) only [JJ, opds, updD, ln, Nat.reduceLT, Nat.reduceLeDiff, Nat.reduceEqDiff, Nat.reduceAdd, Nat.reduceMul, ↓reduceIte, if_true, if_false, Bool.false_eq_true, beq_self_eq_true, Bool.not_true, Bool.not_false, reduceCtorEq, decide_true, decide_false, Nat.add_zero, Nat.zero_add]) (by simp (disch := omega) only [JJ, opds, updD, ln, Nat.reduceLT, Nat.reduceLeDiff, Nat.reduceEqDiff, Nat.reduceAdd, Nat.reduceMul, ↓reduceIte, if_true, if_false, Bool.false_eq_true, beq_self_eq_true, Bool.not_true, Bool.not_false, reduceCtorEq, decide_true, decide_false, Nat.add_zero, Nat.zero_add]) l2 l3 x1 n2 _
  · refine q_cond (q := true) (by simp (disch := omega) only [JJ, opds, updD, ln, Nat.reduceLT, Nat.reduceLeDiff, Nat.reduceEqDiff, Nat.reduceAdd, Nat.reduceMul, ↓reduceIte, if_true, if_false, Bool.false_eq_true, beq_self_eq_true, Bool.not_true, Bool.not_false, reduceCtorEq, decide_true, decide_false, Nat.add_zero, Nat.zero_add]) (fun _ => ?_) (fun h => by cases h)
    refine q_reg ?_
    obtain ⟨ob, g1, g2⟩ := l3.st (o := 0) (vs := [.int .i64 ((0 : Nat) : Int)]) (by simp) rfl (by simp)
    simp (disch := omega) only [JJ, opds, updD, ln, Nat.reduceLT, Nat.reduceLeDiff, Nat.reduceEqDiff, Nat.reduceAdd, Nat.reduceMul, ↓reduceIte, if_true, if_false, Bool.false_eq_true, beq_self_eq_true, Bool.not_true, Bool.not_false, reduceCtorEq, decide_true, decide_false, Nat.add_zero, Nat.zero_add, F67u4, g1]
    exact fin _ _ (by simp (disch := omega) only [JJ, opds, updD, ln, Nat.reduceLT, Nat.reduceLeDiff, Nat.reduceEqDiff, Nat.reduceAdd, Nat.reduceMul, ↓reduceIte, if_true, if_false, Bool.false_eq_true, beq_self_eq_true, Bool.not_true, Bool.not_false, reduceCtorEq, decide_true, decide_false, Nat.add_zero, Nat.zero_add]) (by simp (disch := omega) only [JJ, opds, updD, ln, Nat.reduceLT, Nat.reduceLeDiff, Nat.reduceEqDiff, Nat.reduceAdd, Nat.reduceMul, ↓reduceIte, if_true, if_false, Bool.false_eq_true, beq_self_eq_true, Bool.not_true, Bool.not_false, reduceCtorEq, decide_true, decide_false, Nat.add_zero, Nat.zero_add]) (l2.set_ne (by omega)) g2 (x1.set (by omega) _) (by rw [set_next]; exact n2) _
end
end Go.Proofs.YtfaeabhbeolpgaaGreatDoor
end
