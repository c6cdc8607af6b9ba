/- Made inputs, part 2: a made normalizer. Conditions: none. -/
import Derived.Test.YtfaeabhbeolpgaaGreatDoorSc1
set_option linter.all false
noncomputable section
open Go Go.Am Univ
namespace Go.Proofs.YtfaeabhbeolpgaaGreatDoor
def rawv (x : Nat → Nat) : List AVal := [.int .u8 (x 0 : Nat), .int .u8 (x 1 : Nat), .int .u8 (x 2 : Nat), .int .u8 (x 3 : Nat), .int .u8 (x 4 : Nat), .int .u8 (x 5 : Nat), .int .u8 (x 6 : Nat)]
theorem nth_rawv (x : Nat → Nat) {j : Nat} (hj : j < 7) : nth (rawv x) j = some (.int .u8 (x j : Nat)) := by
  rcases j with _ | _ | _ | _ | _ | _ | _ | j
  · rfl
  · rfl
  · rfl
  · rfl
  · rfl
  · rfl
  · rfl
  · omega
theorem len_rawv (x : Nat → Nat) : (rawv x).length = 7 := rfl
structure Cl where
  t : Int
  a : Int
  b : Nat
def clw (c : Cl) : List AVal := [.int .i64 c.t, .int .i64 c.a, .int .u8 (c.b : Nat)]
def zc3 : List AVal := [.int .i64 ((0 : Nat) : Int), .int .i64 ((0 : Nat) : Int), .int .u8 ((0 : Nat) : Int)]
/-- An empty slice of cells. -/
def empG (h : Hp) (k : Nat) (z : List AVal) : Hp := h.new (.cells .leaf z k 0 true)
theorem empG_next (h : Hp) (k : Nat) (z : List AVal) : (empG h k z).next = h.next + 1 := (rfl)
theorem empG_fold (h : Hp) (k : Nat) (z : List AVal) : h.new (.cells .leaf z k 0 true) = empG h k z := (rfl)
theorem Ext.empG (h : Hp) (k : Nat) (z : List AVal) : Ext h (empG h k z) := Ext.new _ _
theorem OutG.emp {h : Hp} {k : Nat} {z : List AVal} : OutG (empG h k z) (· = h.next) k (.sl h.next 0 0 (some 0)) [] :=
  .inr (.inl ⟨h.next, .leaf, z, rfl, rfl, Nat.lt_succ_self _, by simp only [Go.Proofs.YtfaeabhbeolpgaaGreatDoor.empG, Hp.new, Tree.get_put_same], rfl⟩)

/-- What is made so far: the object, the rows, the ends. -/
def Mk (h2 h' : Hp) (Pr Pe Pt : Nat → Prop) (vc : AVal) (rvs : List AVal) (Cs : Nat → Nat → Cl) (es : List Bool) : Prop :=
  ∃ vr ve, Lob h' h2.next [vc, vr, ve] ∧ OutG h' Pr 1 vr (rvs.map fun r => [r]) ∧ OutG h' Pe 1 ve (es.map fun b => [.bool b]) ∧ Ext h2 h' ∧ h2.next + 1 ≤ h'.next ∧
    (∀ g, Pr g → h2.next < g ∧ ¬ Pe g ∧ ¬ Pt g) ∧ (∀ g, Pe g → h2.next < g ∧ ¬ Pt g) ∧ (∀ g, Pt g → h2.next < g) ∧
    (∀ s r, rvs[s]? = some r → SlP h' (fun g => h2.next < g ∧ ¬ Pr g ∧ ¬ Pe g ∧ ¬ Pt g) 3 r 3 (fun j => clw (Cs s j)) ∧ Am.one r = true) ∧ ∀ s j, (Cs s j).b < 256
theorem Mk.frame {h2 h' h'' : Hp} {Pr Pe Pt : Nat → Prop} {vc : AVal} {rvs : List AVal} {Cs : Nat → Nat → Cl} {es : List Bool} (x : Mk h2 h' Pr Pe Pt vc rvs Cs es) (hn : h'.next ≤ h''.next) (hg : ∀ g, g < h'.next → ¬ Pt g → h''.m.get g = h'.m.get g) : Mk h2 h'' Pr Pe Pt vc rvs Cs es := by
  obtain ⟨vr, ve, L, R, E, x1, n1, p1, p2, p3, rs, cb⟩ := x
  have hlt : h2.next < h'.next := by omega
  refine ⟨vr, ve, L.frame (hg _ hlt (fun q => by have := p3 _ q; omega)) hn, R.frame hn (fun g q hq => hg g hq (p1 g q).2.2), E.frame hn (fun g q hq => hg g hq (p2 g q).2), ⟨by omega, fun g q => by rw [hg g (by omega) (fun q' => by have := p3 _ q'; omega)]; exact x1.2 g q⟩, by omega, p1, p2, p3, fun s r hr => ?_, cb⟩
  exact ⟨(rs s r hr).1.frame hn (fun g q hq => hg g hq q.2.2.2), (rs s r hr).2⟩
theorem Mk.ext {h2 h' h'' : Hp} {Pr Pe Pt : Nat → Prop} {vc : AVal} {rvs : List AVal} {Cs : Nat → Nat → Cl} {es : List Bool} (x : Mk h2 h' Pr Pe Pt vc rvs Cs es) (e : Ext h' h'') : Mk h2 h'' Pr Pe Pt vc rvs Cs es := x.frame e.1 fun g hg _ => e.2 g hg
/-- A new set of keys for the row that is being made. -/
theorem Mk.pt {h2 h' h'' : Hp} {Pr Pe Pt : Nat → Prop} {vc : AVal} {rvs : List AVal} {Cs : Nat → Nat → Cl} {es : List Bool} (x : Mk h2 h' Pr Pe Pt vc rvs Cs es) (hn : h'.next ≤ h''.next) (hg : ∀ g, g < h'.next → ¬ Pt g → h''.m.get g = h'.m.get g) {k : Nat} (hk : h'.next ≤ k) :
    Mk h2 h'' (fun g => Pr g ∧ g < h'.next) (fun g => Pe g ∧ g < h'.next) (· = k) vc rvs Cs es := by
  obtain ⟨vr, ve, L, R, E, x1, n1, p1, p2, p3, rs, cb⟩ := x
  have hlt : h2.next < h'.next := by omega
  refine ⟨vr, ve, L.frame (hg _ hlt (fun q => by have := p3 _ q; omega)) hn, R.lt.frame hn (fun g q hq => hg g hq (p1 g q.1).2.2), E.lt.frame hn (fun g q hq => hg g hq (p2 g q.1).2), ⟨by omega, fun g q => by rw [hg g (by omega) (fun q' => by have := p3 _ q'; omega)]; exact x1.2 g q⟩, by omega, fun g q => ⟨(p1 g q.1).1, fun q' => (p1 g q.1).2.1 q'.1, fun q' => ?_⟩, fun g q => ⟨(p2 g q.1).1, fun q' => ?_⟩, fun g q => ?_, fun s r hr => ?_, cb⟩
  · have := q.2; omega
  · have := q.2; omega
  · omega
  · refine ⟨((rs s r hr).1.lt.frame hn (fun g q hq => hg g hq q.1.2.2.2)).imp (fun g q => ⟨q.1.1, fun q' => q.1.2.1 q'.1, fun q' => q.1.2.2.1 q'.1, fun q' => ?_⟩), (rs s r hr).2⟩
    have := q.2; omega

/-- A normalizer of new blocks. -/
def MadeP (h : Hp) (v : AVal) (h' : Hp) : Prop := (∃ vc vr ve rv D, v = .agg [vc, vr, ve] ∧ ∀ h'', h'.next ≤ h''.next → (∀ g, h.next ≤ g → g < h'.next → h''.m.get g = h'.m.get g) → NZ h'' vc vr ve rv D) ∧ Ext h h'

section
variable {O : Orc} (hO : Only O)
include hO

set_option maxHeartbeats 4000000 in
theorem c5 {h : Hp} (x : Nat → Nat) (hx : ∀ i, x i < 256) : RunsP O E0 5 [.agg (rawv x)] h (MadeP h) := by
  refine q_fn (L := 78) E5 (hO _ _ _ rfl) rfl rfl ?_
  refine q_seq (q_reg ?_)
  simp (disch := omega) only [JJ, opds, updD, ln, Nat.reduceLT, Nat.reduceLeDiff, Nat.reduceEqDiff, Nat.reduceAdd, Nat.reduceMul, ↓reduceIte, if_true, if_false, Bool.false_eq_true, beq_self_eq_true, Bool.not_true, Bool.not_false, reduceCtorEq, decide_true, decide_false, Nat.add_zero, Nat.zero_add, F5u0]
  have l1 := (Lob.new h (rawv x) (Nat.succ_pos _)).newL (l' := [.nils, .nils, .nils])
  have l2 := Lob.new (newL h (rawv x)) [.nils, .nils, .nils] (Nat.succ_pos _)
  have x1 := (Ext.newL h (rawv x)).trans (Ext.newL _ [.nils, .nils, .nils])
  have n1 : (newL (newL h (rawv x)) [.nils, .nils, .nils]).next = h.next + 1 + 1 := rfl
  rw [QM] at l2
  generalize newL (newL h (rawv x)) [.nils, .nils, .nils] = h1 at *
  refine q_seq (q_reg ?_)
  simp (disch := omega) only [JJ, opds, updD, ln, Nat.reduceLT, Nat.reduceLeDiff, Nat.reduceEqDiff, Nat.reduceAdd, Nat.reduceMul, ↓reduceIte, if_true, if_false, Bool.false_eq_true, beq_self_eq_true, Bool.not_true, Bool.not_false, reduceCtorEq, decide_true, decide_false, Nat.add_zero, Nat.zero_add, F5u1]
  refine q_call (c18 hO _) ?_
  rintro vc h2 ⟨⟨C, hP, hC64⟩, x2⟩
  have hC : Cls h2 vc 3 C := ⟨hP.sl, hC64⟩
  replace l1 := l1.ext x2
  replace l2 := l2.ext x2
  replace x1 := x1.trans x2
  have n2 : h.next + 1 + 1 ≤ h2.next := by have := x2.1; omega
  have l3 := Lob.new h2 [.nils, .nils, .nils] (Nat.succ_pos _)
  have co := cellsOf_one hC.1.one
  have lo : ln [vc] = 1 := rfl
  obtain ⟨ob, g1, g2⟩ := l3.st (o := 0) (vs := [vc, .nils, .nils]) (by simp) (by simp only [ones, hC.1.one]; rfl) (by simp)
  have g3 : Lob ((newL h2 [.nils, .nils, .nils]).set h2.next ob) h2.next [vc, .nils, .nils] := g2
  simp (disch := omega) only [JJ, opds, updD, ln, Nat.reduceLT, Nat.reduceLeDiff, Nat.reduceEqDiff, Nat.reduceAdd, Nat.reduceMul, ↓reduceIte, if_true, if_false, Bool.false_eq_true, beq_self_eq_true, Bool.not_true, Bool.not_false, reduceCtorEq, decide_true, decide_false, Nat.add_zero, Nat.zero_add, co, fillA, blit_eq, cat, takeN, dropN, nble, Bool.and_self, Nat.le_refl, g1]
  have x3 : Ext h2 ((newL h2 [.nils, .nils, .nils]).set h2.next ob) := (Ext.newL h2 _).set (Nat.le_refl _) ob
  have n3 : h2.next + 1 ≤ ((newL h2 [.nils, .nils, .nils]).set h2.next ob).next := Nat.le_refl _
  have mk0 : Mk h2 ((newL h2 [.nils, .nils, .nils]).set h2.next ob) (fun _ => False) (fun _ => False) (fun _ => False) vc [] (fun _ _ => ⟨0, 0, 0⟩) [] :=
    ⟨.nils, .nils, g3, .inl ⟨rfl, rfl⟩, .inl ⟨rfl, rfl⟩, x3, n3, fun _ q => q.elim, fun _ q => q.elim, fun _ q => q.elim, fun s r hr => by simp at hr, fun _ _ => Nat.zero_lt_succ 255⟩
  clear g1 g2 g3 l3
  generalize (newL h2 [.nils, .nils, .nils]).set h2.next ob = h3 at *
  have r0 : gld1 h3 h.next 0 = some (.int .u8 (x 0 : Nat)) := (l1.ext x3).ld (k := 7) rfl (by omega)
  have hx0 := hx 0
  refine q_seq (q_reg ?_)
  simp (disch := omega) only [JJ, opds, updD, ln, Nat.reduceLT, Nat.reduceLeDiff, Nat.reduceEqDiff, Nat.reduceAdd, Nat.reduceMul, ↓reduceIte, if_true, if_false, Bool.false_eq_true, beq_self_eq_true, Bool.not_true, Bool.not_false, reduceCtorEq, decide_true, decide_false, Nat.add_zero, Nat.zero_add, F5u2, r0, k_i64, b_rem, b_add_i64]
  have hsz : ∃ sz, sz = 1 + x 0 % 2 := ⟨_, rfl⟩
  obtain ⟨sz, hsz⟩ := hsz
  have hsz2 : 1 ≤ sz ∧ sz ≤ 2 := by omega
  rw [← hsz]
  refine q_seq (q_seq (q_reg ?_))
  simp (disch := omega) only [JJ, opds, updD, ln, Nat.reduceLT, Nat.reduceLeDiff, Nat.reduceEqDiff, Nat.reduceAdd, Nat.reduceMul, ↓reduceIte, if_true, if_false, Bool.false_eq_true, beq_self_eq_true, Bool.not_true, Bool.not_false, reduceCtorEq, decide_true, decide_false, Nat.add_zero, Nat.zero_add, F5u3]
  refine q_block ?_
  refine q_loop (fun m e h' => ∃ i rvs Cs es Pr Pe, i ≤ sz ∧ m = sz - i ∧ e 5 = .int .i64 (i : Nat) ∧ e 4 = .int .i64 (sz : Nat) ∧ e 1 = .ptr h.next 0 ∧ e 2 = .ptr (h.next + 1) 0 ∧ e 3 = .ptr h2.next 0 ∧ rvs.length = i ∧ es.length = i ∧ Mk h2 h' Pr Pe (fun _ => False) vc rvs Cs es) sz
    ⟨0, [], _, [], _, _, by omega, by omega, by simp (disch := omega) only [JJ, opds, updD, ln, Nat.reduceLT, Nat.reduceLeDiff, Nat.reduceEqDiff, Nat.reduceAdd, Nat.reduceMul, ↓reduceIte, if_true, if_false, Bool.false_eq_true, beq_self_eq_true, Bool.not_true, Bool.not_false, reduceCtorEq, decide_true, decide_false, Nat.add_zero, Nat.zero_add], by simp (disch := omega) only [JJ, opds, updD, ln, Nat.reduceLT, Nat.reduceLeDiff, Nat.reduceEqDiff, Nat.reduceAdd, Nat.reduceMul, ↓reduceIte, if_true, if_false, Bool.false_eq_true, beq_self_eq_true, Bool.not_true, Bool.not_false, reduceCtorEq, decide_true, decide_false, Nat.add_zero, Nat.zero_add], by simp (disch := omega) only [JJ, opds, updD, ln, Nat.reduceLT, Nat.reduceLeDiff, Nat.reduceEqDiff, Nat.reduceAdd, Nat.reduceMul, ↓reduceIte, if_true, if_false, Bool.false_eq_true, beq_self_eq_true, Bool.not_true, Bool.not_false, reduceCtorEq, decide_true, decide_false, Nat.add_zero, Nat.zero_add], by simp (disch := omega) only [JJ, opds, updD, ln, Nat.reduceLT, Nat.reduceLeDiff, Nat.reduceEqDiff, Nat.reduceAdd, Nat.reduceMul, ↓reduceIte, if_true, if_false, Bool.false_eq_true, beq_self_eq_true, Bool.not_true, Bool.not_false, reduceCtorEq, decide_true, decide_false, Nat.add_zero, Nat.zero_add], by simp (disch := omega) only [JJ, opds, updD, ln, Nat.reduceLT, Nat.reduceLeDiff, Nat.reduceEqDiff, Nat.reduceAdd, Nat.reduceMul, ↓reduceIte, if_true, if_false, Bool.false_eq_true, beq_self_eq_true, Bool.not_true, Bool.not_false, reduceCtorEq, decide_true, decide_false, Nat.add_zero, Nat.zero_add], rfl, rfl, mk0⟩ ?_
  clear mk0 r0 x3 n3
  rintro m e h' ⟨i, rvs, Cs, es, Pr, Pe, hi, rfl, e5, e4, e1, e2, e3, hlr, hle, mk⟩
  refine q_seq (q_seq (q_reg ?_))
  simp (disch := omega) only [JJ, opds, updD, ln, Nat.reduceLT, Nat.reduceLeDiff, Nat.reduceEqDiff, Nat.reduceAdd, Nat.reduceMul, ↓reduceIte, if_true, if_false, Bool.false_eq_true, beq_self_eq_true, Bool.not_true, Bool.not_false, reduceCtorEq, decide_true, decide_false, Nat.add_zero, Nat.zero_add, F5u4, e5, e4, b_lss, c_lt]
  refine q_cond (q := decide (i < sz)) (by simp (disch := omega) only [JJ, opds, updD, ln, Nat.reduceLT, Nat.reduceLeDiff, Nat.reduceEqDiff, Nat.reduceAdd, Nat.reduceMul, ↓reduceIte, if_true, if_false, Bool.false_eq_true, beq_self_eq_true, Bool.not_true, Bool.not_false, reduceCtorEq, decide_true, decide_false, Nat.add_zero, Nat.zero_add]) (fun hc => ?_) (fun hc => ?_)
  · have his := of_decide_eq_true hc
    refine q_skip ?_
    refine q_seq (q_block (q_seq (q_reg ?_)))
    simp (disch := omega) only [JJ, opds, updD, ln, Nat.reduceLT, Nat.reduceLeDiff, Nat.reduceEqDiff, Nat.reduceAdd, Nat.reduceMul, ↓reduceIte, if_true, if_false, Bool.false_eq_true, beq_self_eq_true, Bool.not_true, Bool.not_false, reduceCtorEq, decide_true, decide_false, Nat.add_zero, Nat.zero_add, F5u5, fillS, empG_fold]
    have mk1 := mk.pt (h'' := empG h' 3 zc3) (k := h'.next) (Nat.le_succ _) (fun g hg _ => (Ext.empG h' 3 zc3).2 g hg) (Nat.le_refl _)
    have T0 : OutG (empG h' 3 zc3) (· = h'.next) 3 (.sl h'.next 0 0 (some 0)) [] := OutG.emp
    have hz : empG h' 3 [.int .i64 ((0 : Nat) : Int), .int .i64 ((0 : Nat) : Int), .int .u8 ((0 : Nat) : Int)] = empG h' 3 zc3 := rfl
    rw [hz]
    generalize empG h' 3 zc3 = h4 at *
    refine q_seq (q_seq (q_reg ?_))
    simp (disch := omega) only [JJ, opds, updD, ln, Nat.reduceLT, Nat.reduceLeDiff, Nat.reduceEqDiff, Nat.reduceAdd, Nat.reduceMul, ↓reduceIte, if_true, if_false, Bool.false_eq_true, beq_self_eq_true, Bool.not_true, Bool.not_false, reduceCtorEq, decide_true, decide_false, Nat.add_zero, Nat.zero_add, F5u6]
    refine q_block ?_
    refine q_loop (fun m e h' => ∃ (j : Nat) (cs : List Cl) (Pr Pe Pt : Nat → Prop), j ≤ 3 ∧ m = 3 - j ∧ e 7 = .int .i64 (j : Nat) ∧ e 5 = .int .i64 (i : Nat) ∧ e 4 = .int .i64 (sz : Nat) ∧ e 1 = .ptr h.next 0 ∧ e 2 = .ptr (h.next + 1) 0 ∧ e 3 = .ptr h2.next 0 ∧
      cs.length = j ∧ (∀ c, c ∈ cs → c.b < 256) ∧ OutG h' Pt 3 (e 6) (cs.map clw) ∧ Mk h2 h' Pr Pe Pt vc rvs Cs es) 3
      ⟨0, [], _, _, _, by omega, by omega, by simp (disch := omega) only [JJ, opds, updD, ln, Nat.reduceLT, Nat.reduceLeDiff, Nat.reduceEqDiff, Nat.reduceAdd, Nat.reduceMul, ↓reduceIte, if_true, if_false, Bool.false_eq_true, beq_self_eq_true, Bool.not_true, Bool.not_false, reduceCtorEq, decide_true, decide_false, Nat.add_zero, Nat.zero_add], by simp (disch := omega) only [JJ, opds, updD, ln, Nat.reduceLT, Nat.reduceLeDiff, Nat.reduceEqDiff, Nat.reduceAdd, Nat.reduceMul, ↓reduceIte, if_true, if_false, Bool.false_eq_true, beq_self_eq_true, Bool.not_true, Bool.not_false, reduceCtorEq, decide_true, decide_false, Nat.add_zero, Nat.zero_add, e5], by simp (disch := omega) only [JJ, opds, updD, ln, Nat.reduceLT, Nat.reduceLeDiff, Nat.reduceEqDiff, Nat.reduceAdd, Nat.reduceMul, ↓reduceIte, if_true, if_false, Bool.false_eq_true, beq_self_eq_true, Bool.not_true, Bool.not_false, reduceCtorEq, decide_true, decide_false, Nat.add_zero, Nat.zero_add, e4], by simp (disch := omega) only [JJ, opds, updD, ln, Nat.reduceLT, Nat.reduceLeDiff, Nat.reduceEqDiff, Nat.reduceAdd, Nat.reduceMul, ↓reduceIte, if_true, if_false, Bool.false_eq_true, beq_self_eq_true, Bool.not_true, Bool.not_false, reduceCtorEq, decide_true, decide_false, Nat.add_zero, Nat.zero_add, e1], by simp (disch := omega) only [JJ, opds, updD, ln, Nat.reduceLT, Nat.reduceLeDiff, Nat.reduceEqDiff, Nat.reduceAdd, Nat.reduceMul, ↓reduceIte, if_true, if_false, Bool.false_eq_true, beq_self_eq_true, Bool.not_true, Bool.not_false, reduceCtorEq, decide_true, decide_false, Nat.add_zero, Nat.zero_add, e2], by simp (disch := omega) only [JJ, opds, updD, ln, Nat.reduceLT, Nat.reduceLeDiff, Nat.reduceEqDiff, Nat.reduceAdd, Nat.reduceMul, ↓reduceIte, if_true, if_false, Bool.false_eq_true, beq_self_eq_true, Bool.not_true, Bool.not_false, reduceCtorEq, decide_true, decide_false, Nat.add_zero, Nat.zero_add, e3], rfl, fun c hc => (by cases hc), by simp (disch := omega) only [JJ, opds, updD, ln, Nat.reduceLT, Nat.reduceLeDiff, Nat.reduceEqDiff, Nat.reduceAdd, Nat.reduceMul, ↓reduceIte, if_true, if_false, Bool.false_eq_true, beq_self_eq_true, Bool.not_true, Bool.not_false, reduceCtorEq, decide_true, decide_false, Nat.add_zero, Nat.zero_add]; exact T0, mk1⟩ ?_
    clear mk1 T0 mk hz e1 e2 e3 e4 e5
    rintro m e h5 ⟨j, cs, Pr, Pe, Pt, hj, rfl, e7, e5, e4, e1, e2, e3, hlc, hcb, T, mk⟩
    refine q_seq (q_seq (q_reg ?_))
    simp (disch := omega) only [JJ, opds, updD, ln, Nat.reduceLT, Nat.reduceLeDiff, Nat.reduceEqDiff, Nat.reduceAdd, Nat.reduceMul, ↓reduceIte, if_true, if_false, Bool.false_eq_true, beq_self_eq_true, Bool.not_true, Bool.not_false, reduceCtorEq, decide_true, decide_false, Nat.add_zero, Nat.zero_add, F5u7, e7, b_lss, c_lt]
    refine q_cond (q := decide (j < 3)) (by simp (disch := omega) only [JJ, opds, updD, ln, Nat.reduceLT, Nat.reduceLeDiff, Nat.reduceEqDiff, Nat.reduceAdd, Nat.reduceMul, ↓reduceIte, if_true, if_false, Bool.false_eq_true, beq_self_eq_true, Bool.not_true, Bool.not_false, reduceCtorEq, decide_true, decide_false, Nat.add_zero, Nat.zero_add]) (fun hc => ?_) (fun hc => ?_)
    · have hj3 := of_decide_eq_true hc
      have mk' := mk
      obtain ⟨vr, ve, L, R, E, x5, n5, p1, p2, p3, rs, cb⟩ := mk'
      have h6i : 3 * i + j < 6 := by omega
      have hv := hx (1 + (3 * i + j))
      have rx : gld1 h5 h.next (1 + (3 * i + j)) = some (.int .u8 (x (1 + (3 * i + j)) : Nat)) := by rw [(l1.ext x5).ld (k := 7) rfl (by omega)]; exact nth_rawv x (by omega)
      refine q_skip ?_
      refine q_seq (q_block (q_seq (q_reg ?_)))
      simp (disch := omega) only [JJ, opds, updD, ln, Nat.reduceLT, Nat.reduceLeDiff, Nat.reduceEqDiff, Nat.reduceAdd, Nat.reduceMul, ↓reduceIte, if_true, if_false, Bool.false_eq_true, beq_self_eq_true, Bool.not_true, Bool.not_false, reduceCtorEq, decide_true, decide_false, Nat.add_zero, Nat.zero_add, F5u8, e1, e5, e7, b_mul_i64, b_add_i64, iaddrAV_ptr, Nat.mul_one, rx, k_i64]
      obtain ⟨v, hv0⟩ : ∃ v, v = x (1 + (3 * i + j)) := ⟨_, rfl⟩
      rw [← hv0] at hv ⊢
      clear rx hv0
      have l9 := Lob.new h5 zc3 (Nat.succ_pos _)
      obtain ⟨ob, g1, g2⟩ := l9.st (o := 0) (vs := clw ⟨((v / 8 % sz : Nat) : Int), ((v % 4 : Nat) : Int), 0⟩) (Nat.le_refl _) rfl (Nat.succ_pos _)
      rw [blit_all (by rfl)] at g2
      have g1' : gst (newL h5 [.int .i64 ((0 : Nat) : Int), .int .i64 ((0 : Nat) : Int), .int .u8 ((0 : Nat) : Int)]) h5.next 0 [.int .i64 ((v / 8 % sz : Nat) : Int), .int .i64 ((v % 4 : Nat) : Int), .int .u8 ((0 : Nat) : Int)] = some ((newL h5 zc3).set h5.next ob) := g1
      refine q_seq (q_reg ?_)
      simp (disch := omega) only [JJ, opds, updD, ln, Nat.reduceLT, Nat.reduceLeDiff, Nat.reduceEqDiff, Nat.reduceAdd, Nat.reduceMul, ↓reduceIte, if_true, if_false, Bool.false_eq_true, beq_self_eq_true, Bool.not_true, Bool.not_false, reduceCtorEq, decide_true, decide_false, Nat.add_zero, Nat.zero_add, F5u9, e4, b_quo_i64, b_rem, fillA, blit_eq, cat, takeN, dropN, nble, Bool.and_self, Nat.le_refl, g1']
      have x6 : Ext h5 ((newL h5 zc3).set h5.next ob) := (Ext.newL h5 _).set (Nat.le_refl _) ob
      have n6 : ((newL h5 zc3).set h5.next ob).next = h5.next + 1 := rfl
      clear g1 g1' l9
      generalize (newL h5 zc3).set h5.next ob = h6 at *
      -- the cell goes into the row
      have fin : ∀ (c : Cl) (e' : Env) (h7 : Hp), c.b < 256 → Lob h7 h5.next (clw c) → Ext h5 h7 → e' 9 = .ptr h5.next 0 → e' 6 = e 6 → e' 7 = .int .i64 (j : Nat) → e' 5 = .int .i64 (i : Nat) → e' 4 = .int .i64 (sz : Nat) → e' 1 = .ptr h.next 0 → e' 2 = .ptr (h.next + 1) 0 → e' 3 = .ptr h2.next 0 →
          ∀ (X0 X1 : Nat → Env → Hp → Prop) (R0 : Env → Hp → Prop) (N0 : Env → Hp → Prop),
          (∀ e'' h'', (∃ m, m < 3 - j ∧ ∃ (j : Nat) (cs : List Cl) (Pr Pe Pt : Nat → Prop), j ≤ 3 ∧ m = 3 - j ∧ e'' 7 = .int .i64 (j : Nat) ∧ e'' 5 = .int .i64 (i : Nat) ∧ e'' 4 = .int .i64 (sz : Nat) ∧ e'' 1 = .ptr h.next 0 ∧ e'' 2 = .ptr (h.next + 1) 0 ∧ e'' 3 = .ptr h2.next 0 ∧
            cs.length = j ∧ (∀ c, c ∈ cs → c.b < 256) ∧ OutG h'' Pt 3 (e'' 6) (cs.map clw) ∧ Mk h2 h'' Pr Pe Pt vc rvs Cs es) → N0 e'' h'') →
          Wp O E0 78 (.reg F5u14) e' h7 (fun e'' h'' => Wp O E0 78 (.reg F5u15) e'' h'' N0 X1 R0) X0 R0 := by
        intro c e' h7 hc Lc x7 q9 q6 q7 q5 q4 q1 q2 q3 X0 X1 R0 N0 hN
        refine q_reg ?_
        have fg : fillG 3 (.agg (clw c)) = some ((Tree.leaf : Tree (List AVal)).put 0 (some (clw c))) := fillG_some rfl rfl
        obtain ⟨v', h8, g1, g2, g3, g4⟩ := (T.ext x7).app1 (by omega) (z := zc3) (e := clw c) rfl rfl (by_ := 24) (by rw [List.length_map, hlc]; omega) (c := some 1)
        have g1' : appV (oneG h7 3 [.int .i64 ((0 : Nat) : Int), .int .i64 ((0 : Nat) : Int), .int .u8 ((0 : Nat) : Int)] (clw c)) 3 24 (e 6) (.sl h7.next 0 1 (some 1)) = some (.val v' h8) := g1
        simp (disch := omega) only [JJ, opds, updD, ln, Nat.reduceLT, Nat.reduceLeDiff, Nat.reduceEqDiff, Nat.reduceAdd, Nat.reduceMul, ↓reduceIte, if_true, if_false, Bool.false_eq_true, beq_self_eq_true, Bool.not_true, Bool.not_false, reduceCtorEq, decide_true, decide_false, Nat.add_zero, Nat.zero_add, F5u14, q6, q9, Lc.ldN' (m := 3) rfl, fillS_G, fg, oneG_fold, g1']
        refine q_reg ?_
        simp (disch := omega) only [JJ, opds, updD, ln, Nat.reduceLT, Nat.reduceLeDiff, Nat.reduceEqDiff, Nat.reduceAdd, Nat.reduceMul, ↓reduceIte, if_true, if_false, Bool.false_eq_true, beq_self_eq_true, Bool.not_true, Bool.not_false, reduceCtorEq, decide_true, decide_false, Nat.add_zero, Nat.zero_add, F5u15, q7, b_add_i64]
        have mk8 := (mk.ext x7).pt (h'' := h8) (k := h7.next + 1) (by omega) (fun g hg hn => g4 g hg hn) (by omega)
        refine hN _ _ ⟨3 - (j + 1), by omega, j + 1, cs ++ [c], _, _, _, by omega, rfl, by simp (disch := omega) only [JJ, opds, updD, ln, Nat.reduceLT, Nat.reduceLeDiff, Nat.reduceEqDiff, Nat.reduceAdd, Nat.reduceMul, ↓reduceIte, if_true, if_false, Bool.false_eq_true, beq_self_eq_true, Bool.not_true, Bool.not_false, reduceCtorEq, decide_true, decide_false, Nat.add_zero, Nat.zero_add], by simp (disch := omega) only [JJ, opds, updD, ln, Nat.reduceLT, Nat.reduceLeDiff, Nat.reduceEqDiff, Nat.reduceAdd, Nat.reduceMul, ↓reduceIte, if_true, if_false, Bool.false_eq_true, beq_self_eq_true, Bool.not_true, Bool.not_false, reduceCtorEq, decide_true, decide_false, Nat.add_zero, Nat.zero_add, q5], by simp (disch := omega) only [JJ, opds, updD, ln, Nat.reduceLT, Nat.reduceLeDiff, Nat.reduceEqDiff, Nat.reduceAdd, Nat.reduceMul, ↓reduceIte, if_true, if_false, Bool.false_eq_true, beq_self_eq_true, Bool.not_true, Bool.not_false, reduceCtorEq, decide_true, decide_false, Nat.add_zero, Nat.zero_add, q4], by simp (disch := omega) only [JJ, opds, updD, ln, Nat.reduceLT, Nat.reduceLeDiff, Nat.reduceEqDiff, Nat.reduceAdd, Nat.reduceMul, ↓reduceIte, if_true, if_false, Bool.false_eq_true, beq_self_eq_true, Bool.not_true, Bool.not_false, reduceCtorEq, decide_true, decide_false, Nat.add_zero, Nat.zero_add, q1], by simp (disch := omega) only [JJ, opds, updD, ln, Nat.reduceLT, Nat.reduceLeDiff, Nat.reduceEqDiff, Nat.reduceAdd, Nat.reduceMul, ↓reduceIte, if_true, if_false, Bool.false_eq_true, beq_self_eq_true, Bool.not_true, Bool.not_false, reduceCtorEq, decide_true, decide_false, Nat.add_zero, Nat.zero_add, q2], by simp (disch := omega) only [JJ, opds, updD, ln, Nat.reduceLT, Nat.reduceLeDiff, Nat.reduceEqDiff, Nat.reduceAdd, Nat.reduceMul, ↓reduceIte, if_true, if_false, Bool.false_eq_true, beq_self_eq_true, Bool.not_true, Bool.not_false, reduceCtorEq, decide_true, decide_false, Nat.add_zero, Nat.zero_add, q3], by simp [hlc], ?_, ?_, mk8⟩
        · intro d hd
          rcases List.mem_append.1 hd with hd | hd
          · exact hcb d hd
          · rw [List.mem_singleton.1 hd]; exact hc
        · simp (disch := omega) only [JJ, opds, updD, ln, Nat.reduceLT, Nat.reduceLeDiff, Nat.reduceEqDiff, Nat.reduceAdd, Nat.reduceMul, ↓reduceIte, if_true, if_false, Bool.false_eq_true, beq_self_eq_true, Bool.not_true, Bool.not_false, reduceCtorEq, decide_true, decide_false, Nat.add_zero, Nat.zero_add]
          rw [List.map_append]; exact g2
      have L9 : Lob h6 h5.next [.int .i64 ((v / 8 % sz : Nat) : Int), .int .i64 ((v % 4 : Nat) : Int), .int .u8 ((0 : Nat) : Int)] := g2
      -- the third field
      have snd : ∀ (a : Nat) (e' : Env) (h7 : Hp), Lob h7 h5.next [.int .i64 ((v / 8 % sz : Nat) : Int), .int .i64 (a : Int), .int .u8 ((0 : Nat) : Int)] → Ext h5 h7 → e' 8 = .int .i64 (v : Nat) → e' 9 = .ptr h5.next 0 → e' 6 = e 6 → e' 7 = .int .i64 (j : Nat) → e' 5 = .int .i64 (i : Nat) → e' 4 = .int .i64 (sz : Nat) → e' 1 = .ptr h.next 0 → e' 2 = .ptr (h.next + 1) 0 → e' 3 = .ptr h2.next 0 →
          ∀ (X0 X1 : Nat → Env → Hp → Prop) (R0 : Env → Hp → Prop) (N0 : Env → Hp → Prop),
          (∀ e'' h'', (∃ m, m < 3 - j ∧ ∃ (j : Nat) (cs : List Cl) (Pr Pe Pt : Nat → Prop), j ≤ 3 ∧ m = 3 - j ∧ e'' 7 = .int .i64 (j : Nat) ∧ e'' 5 = .int .i64 (i : Nat) ∧ e'' 4 = .int .i64 (sz : Nat) ∧ e'' 1 = .ptr h.next 0 ∧ e'' 2 = .ptr (h.next + 1) 0 ∧ e'' 3 = .ptr h2.next 0 ∧
            cs.length = j ∧ (∀ c, c ∈ cs → c.b < 256) ∧ OutG h'' Pt 3 (e'' 6) (cs.map clw) ∧ Mk h2 h'' Pr Pe Pt vc rvs Cs es) → N0 e'' h'') →
          Wp O E0 78 (.seq (.seq (.reg F5u12) (.cond (.t 48) (.reg F5u13) .skip)) (.reg F5u14)) e' h7 (fun e'' h'' => Wp O E0 78 (.reg F5u15) e'' h'' N0 X1 R0) X0 R0 := by
        intro a e' h7 L7 x7 q8 q9 q6 q7 q5 q4 q1 q2 q3 X0 X1 R0 N0 hN
        have c1 : gld1 h7 h5.next 1 = some (.int .i64 (a : Int)) := L7.ld (k := 3) rfl (by omega)
        refine q_seq (q_seq (q_reg ?_))
        simp (disch := omega) only [JJ, opds, updD, ln, Nat.reduceLT, Nat.reduceLeDiff, Nat.reduceEqDiff, Nat.reduceAdd, Nat.reduceMul, ↓reduceIte, if_true, if_false, Bool.false_eq_true, beq_self_eq_true, Bool.not_true, Bool.not_false, reduceCtorEq, decide_true, decide_false, Nat.add_zero, Nat.zero_add, F5u12, q9, c1, b_eql, c_eq]
        refine q_cond (q := decide (a = 2)) (by simp (disch := omega) only [JJ, opds, updD, ln, Nat.reduceLT, Nat.reduceLeDiff, Nat.reduceEqDiff, Nat.reduceAdd, Nat.reduceMul, ↓reduceIte, if_true, if_false, Bool.false_eq_true, beq_self_eq_true, Bool.not_true, Bool.not_false, reduceCtorEq, decide_true, decide_false, Nat.add_zero, Nat.zero_add]) (fun hq => ?_) (fun hq => ?_)
        · obtain ⟨ob, g1, g2⟩ := L7.st (o := 2) (vs := [.int .u8 ((97 + v / 16 % 2 : Nat) : Int)]) (by simp) rfl (by simp)
          have L8 : Lob (h7.set h5.next ob) h5.next (clw ⟨((v / 8 % sz : Nat) : Int), (a : Int), 97 + v / 16 % 2⟩) := g2
          refine q_reg ?_
          simp (disch := omega) only [JJ, opds, updD, ln, Nat.reduceLT, Nat.reduceLeDiff, Nat.reduceEqDiff, Nat.reduceAdd, Nat.reduceMul, ↓reduceIte, if_true, if_false, Bool.false_eq_true, beq_self_eq_true, Bool.not_true, Bool.not_false, reduceCtorEq, decide_true, decide_false, Nat.add_zero, Nat.zero_add, F5u13, q8, q9, b_quo_i64, b_rem, k_u8, b_add_u8, g1]
          exact fin _ _ _ (by show 97 + v / 16 % 2 < 256; omega) L8 (x7.set (Nat.le_refl _) _) (by simp (disch := omega) only [JJ, opds, updD, ln, Nat.reduceLT, Nat.reduceLeDiff, Nat.reduceEqDiff, Nat.reduceAdd, Nat.reduceMul, ↓reduceIte, if_true, if_false, Bool.false_eq_true, beq_self_eq_true, Bool.not_true, Bool.not_false, reduceCtorEq, decide_true, decide_false, Nat.add_zero, Nat.zero_add, q9]) (by simp (disch := omega) only [JJ, opds, updD, ln, Nat.reduceLT, Nat.reduceLeDiff, Nat.reduceEqDiff, Nat.reduceAdd, Nat.reduceMul, ↓reduceIte, if_true, if_false, Bool.false_eq_true, beq_self_eq_true, Bool.not_true, Bool.not_false, reduceCtorEq, decide_true, decide_false, Nat.add_zero, Nat.zero_add, q6]) (by simp (disch := omega) only [JJ, opds, updD, ln, Nat.reduceLT, Nat.reduceLeDiff, Nat.reduceEqDiff, Nat.reduceAdd, Nat.reduceMul, ↓reduceIte, if_true, if_false, Bool.false_eq_true, beq_self_eq_true, Bool.not_true, Bool.not_false, reduceCtorEq, decide_true, decide_false, Nat.add_zero, Nat.zero_add, q7]) (by simp (disch := omega) only [JJ, opds, updD, ln, Nat.reduceLT, Nat.reduceLeDiff, Nat.reduceEqDiff, Nat.reduceAdd, Nat.reduceMul, ↓reduceIte, if_true, if_false, Bool.false_eq_true, beq_self_eq_true, Bool.not_true, Bool.not_false, reduceCtorEq, decide_true, decide_false, Nat.add_zero, Nat.zero_add, q5]) (by simp (disch := omega) only [JJ, opds, updD, ln, Nat.reduceLT, Nat.reduceLeDiff, Nat.reduceEqDiff, Nat.reduceAdd, Nat.reduceMul, ↓reduceIte, if_true, if_false, Bool.false_eq_true, beq_self_eq_true, Bool.not_true, Bool.not_false, reduceCtorEq, decide_true, decide_false, Nat.add_zero, Nat.zero_add, q4]) (by simp (disch := omega) only [JJ, opds, updD, ln, Nat.reduceLT, Nat.reduceLeDiff, Nat.reduceEqDiff, Nat.reduceAdd, Nat.reduceMul, ↓reduceIte, if_true, if_false, Bool.false_eq_true, beq_self_eq_true, Bool.not_true, Bool.not_false, reduceCtorEq, decide_true, decide_false, Nat.add_zero, Nat.zero_add, q1]) (by simp (disch := omega) only [JJ, opds, updD, ln, Nat.reduceLT, Nat.reduceLeDiff, Nat.reduceEqDiff, Nat.reduceAdd, Nat.reduceMul, ↓reduceIte, if_true, if_false, Bool.false_eq_true, beq_self_eq_true, Bool.not_true, Bool.not_false, reduceCtorEq, decide_true, decide_false, Nat.add_zero, Nat.zero_add, q2]) (by simp (disch := omega) only [JJ, opds, updD, ln, Nat.reduceLT, Nat.reduceLeDiff, Nat.reduceEqDiff, Nat.reduceAdd, Nat.reduceMul, ↓reduceIte, if_true, if_false, Bool.false_eq_true, beq_self_eq_true, Bool.not_true, Bool.not_false, reduceCtorEq, decide_true, decide_false, Nat.add_zero, Nat.zero_add, q3]) _ _ _ _ hN
        · refine q_skip ?_
          exact fin ⟨((v / 8 % sz : Nat) : Int), (a : Int), 0⟩ _ _ (by show 0 < 256; omega) L7 x7 (by simp (disch := omega) only [JJ, opds, updD, ln, Nat.reduceLT, Nat.reduceLeDiff, Nat.reduceEqDiff, Nat.reduceAdd, Nat.reduceMul, ↓reduceIte, if_true, if_false, Bool.false_eq_true, beq_self_eq_true, Bool.not_true, Bool.not_false, reduceCtorEq, decide_true, decide_false, Nat.add_zero, Nat.zero_add, q9]) (by simp (disch := omega) only [JJ, opds, updD, ln, Nat.reduceLT, Nat.reduceLeDiff, Nat.reduceEqDiff, Nat.reduceAdd, Nat.reduceMul, ↓reduceIte, if_true, if_false, Bool.false_eq_true, beq_self_eq_true, Bool.not_true, Bool.not_false, reduceCtorEq, decide_true, decide_false, Nat.add_zero, Nat.zero_add, q6]) (by simp (disch := omega) only [JJ, opds, updD, ln, Nat.reduceLT, Nat.reduceLeDiff, Nat.reduceEqDiff, Nat.reduceAdd, Nat.reduceMul, ↓reduceIte, if_true, if_false, Bool.false_eq_true, beq_self_eq_true, Bool.not_true, Bool.not_false, reduceCtorEq, decide_true, decide_false, Nat.add_zero, Nat.zero_add, q7]) (by simp (disch := omega) only [JJ, opds, updD, ln, Nat.reduceLT, Nat.reduceLeDiff, Nat.reduceEqDiff, Nat.reduceAdd, Nat.reduceMul, ↓reduceIte, if_true, if_false, Bool.false_eq_true, beq_self_eq_true, Bool.not_true, Bool.not_false, reduceCtorEq, decide_true, decide_false, Nat.add_zero, Nat.zero_add, q5]) (by simp (disch := omega) only [JJ, opds, updD, ln, Nat.reduceLT, Nat.reduceLeDiff, Nat.reduceEqDiff, Nat.reduceAdd, Nat.reduceMul, ↓reduceIte, if_true, if_false, Bool.false_eq_true, beq_self_eq_true, Bool.not_true, Bool.not_false, reduceCtorEq, decide_true, decide_false, Nat.add_zero, Nat.zero_add, q4]) (by simp (disch := omega) only [JJ, opds, updD, ln, Nat.reduceLT, Nat.reduceLeDiff, Nat.reduceEqDiff, Nat.reduceAdd, Nat.reduceMul, ↓reduceIte, if_true, if_false, Bool.false_eq_true, beq_self_eq_true, Bool.not_true, Bool.not_false, reduceCtorEq, decide_true, decide_false, Nat.add_zero, Nat.zero_add, q1]) (by simp (disch := omega) only [JJ, opds, updD, ln, Nat.reduceLT, Nat.reduceLeDiff, Nat.reduceEqDiff, Nat.reduceAdd, Nat.reduceMul, ↓reduceIte, if_true, if_false, Bool.false_eq_true, beq_self_eq_true, Bool.not_true, Bool.not_false, reduceCtorEq, decide_true, decide_false, Nat.add_zero, Nat.zero_add, q2]) (by simp (disch := omega) only [JJ, opds, updD, ln, Nat.reduceLT, Nat.reduceLeDiff, Nat.reduceEqDiff, Nat.reduceAdd, Nat.reduceMul, ↓reduceIte, if_true, if_false, Bool.false_eq_true, beq_self_eq_true, Bool.not_true, Bool.not_false, reduceCtorEq, decide_true, decide_false, Nat.add_zero, Nat.zero_add, q3]) _ _ _ _ hN
      refine q_seq (q_seq (q_reg ?_))
      simp (disch := omega) only [JJ, opds, updD, ln, Nat.reduceLT, Nat.reduceLeDiff, Nat.reduceEqDiff, Nat.reduceAdd, Nat.reduceMul, ↓reduceIte, if_true, if_false, Bool.false_eq_true, beq_self_eq_true, Bool.not_true, Bool.not_false, reduceCtorEq, decide_true, decide_false, Nat.add_zero, Nat.zero_add, F5u10, b_rem, b_geq, c_le]
      refine q_cond (q := decide (4 ≤ v % 8)) (by simp (disch := omega) only [JJ, opds, updD, ln, Nat.reduceLT, Nat.reduceLeDiff, Nat.reduceEqDiff, Nat.reduceAdd, Nat.reduceMul, ↓reduceIte, if_true, if_false, Bool.false_eq_true, beq_self_eq_true, Bool.not_true, Bool.not_false, reduceCtorEq, decide_true, decide_false, Nat.add_zero, Nat.zero_add]) (fun hq => ?_) (fun hq => ?_)
      · obtain ⟨ob, g3, g4⟩ := L9.st (o := 1) (vs := [.int .i64 ((0 : Nat) : Int)]) (by simp) rfl (by simp)
        have L8 : Lob (h6.set h5.next ob) h5.next [.int .i64 ((v / 8 % sz : Nat) : Int), .int .i64 ((0 : Nat) : Int), .int .u8 ((0 : Nat) : Int)] := g4
        refine q_reg ?_
        simp (disch := omega) only [JJ, opds, updD, ln, Nat.reduceLT, Nat.reduceLeDiff, Nat.reduceEqDiff, Nat.reduceAdd, Nat.reduceMul, ↓reduceIte, if_true, if_false, Bool.false_eq_true, beq_self_eq_true, Bool.not_true, Bool.not_false, reduceCtorEq, decide_true, decide_false, Nat.add_zero, Nat.zero_add, F5u11, g3]
        exact snd 0 _ _ L8 (x6.set (Nat.le_refl _) _) (by simp (disch := omega) only [JJ, opds, updD, ln, Nat.reduceLT, Nat.reduceLeDiff, Nat.reduceEqDiff, Nat.reduceAdd, Nat.reduceMul, ↓reduceIte, if_true, if_false, Bool.false_eq_true, beq_self_eq_true, Bool.not_true, Bool.not_false, reduceCtorEq, decide_true, decide_false, Nat.add_zero, Nat.zero_add]) (by simp (disch := omega) only [JJ, opds, updD, ln, Nat.reduceLT, Nat.reduceLeDiff, Nat.reduceEqDiff, Nat.reduceAdd, Nat.reduceMul, ↓reduceIte, if_true, if_false, Bool.false_eq_true, beq_self_eq_true, Bool.not_true, Bool.not_false, reduceCtorEq, decide_true, decide_false, Nat.add_zero, Nat.zero_add]) (by simp (disch := omega) only [JJ, opds, updD, ln, Nat.reduceLT, Nat.reduceLeDiff, Nat.reduceEqDiff, Nat.reduceAdd, Nat.reduceMul, ↓reduceIte, if_true, if_false, Bool.false_eq_true, beq_self_eq_true, Bool.not_true, Bool.not_false, reduceCtorEq, decide_true, decide_false, Nat.add_zero, Nat.zero_add]) (by simp (disch := omega) only [JJ, opds, updD, ln, Nat.reduceLT, Nat.reduceLeDiff, Nat.reduceEqDiff, Nat.reduceAdd, Nat.reduceMul, ↓reduceIte, if_true, if_false, Bool.false_eq_true, beq_self_eq_true, Bool.not_true, Bool.not_false, reduceCtorEq, decide_true, decide_false, Nat.add_zero, Nat.zero_add, e7]) (by simp (disch := omega) only [JJ, opds, updD, ln, Nat.reduceLT, Nat.reduceLeDiff, Nat.reduceEqDiff, Nat.reduceAdd, Nat.reduceMul, ↓reduceIte, if_true, if_false, Bool.false_eq_true, beq_self_eq_true, Bool.not_true, Bool.not_false, reduceCtorEq, decide_true, decide_false, Nat.add_zero, Nat.zero_add, e5]) (by simp (disch := omega) only [JJ, opds, updD, ln, Nat.reduceLT, Nat.reduceLeDiff, Nat.reduceEqDiff, Nat.reduceAdd, Nat.reduceMul, ↓reduceIte, if_true, if_false, Bool.false_eq_true, beq_self_eq_true, Bool.not_true, Bool.not_false, reduceCtorEq, decide_true, decide_false, Nat.add_zero, Nat.zero_add, e4]) (by simp (disch := omega) only [JJ, opds, updD, ln, Nat.reduceLT, Nat.reduceLeDiff, Nat.reduceEqDiff, Nat.reduceAdd, Nat.reduceMul, ↓reduceIte, if_true, if_false, Bool.false_eq_true, beq_self_eq_true, Bool.not_true, Bool.not_false, reduceCtorEq, decide_true, decide_false, Nat.add_zero, Nat.zero_add, e1]) (by simp (disch := omega) only [JJ, opds, updD, ln, Nat.reduceLT, Nat.reduceLeDiff, Nat.reduceEqDiff, Nat.reduceAdd, Nat.reduceMul, ↓reduceIte, if_true, if_false, Bool.false_eq_true, beq_self_eq_true, Bool.not_true, Bool.not_false, reduceCtorEq, decide_true, decide_false, Nat.add_zero, Nat.zero_add, e2]) (by simp (disch := omega) only [JJ, opds, updD, ln, Nat.reduceLT, Nat.reduceLeDiff, Nat.reduceEqDiff, Nat.reduceAdd, Nat.reduceMul, ↓reduceIte, if_true, if_false, Bool.false_eq_true, beq_self_eq_true, Bool.not_true, Bool.not_false, reduceCtorEq, decide_true, decide_false, Nat.add_zero, Nat.zero_add, e3]) _ _ _ _ (fun _ _ q => q)
      · refine q_skip ?_
        exact snd (v % 4) _ _ L9 x6 (by simp (disch := omega) only [JJ, opds, updD, ln, Nat.reduceLT, Nat.reduceLeDiff, Nat.reduceEqDiff, Nat.reduceAdd, Nat.reduceMul, ↓reduceIte, if_true, if_false, Bool.false_eq_true, beq_self_eq_true, Bool.not_true, Bool.not_false, reduceCtorEq, decide_true, decide_false, Nat.add_zero, Nat.zero_add]) (by simp (disch := omega) only [JJ, opds, updD, ln, Nat.reduceLT, Nat.reduceLeDiff, Nat.reduceEqDiff, Nat.reduceAdd, Nat.reduceMul, ↓reduceIte, if_true, if_false, Bool.false_eq_true, beq_self_eq_true, Bool.not_true, Bool.not_false, reduceCtorEq, decide_true, decide_false, Nat.add_zero, Nat.zero_add]) (by simp (disch := omega) only [JJ, opds, updD, ln, Nat.reduceLT, Nat.reduceLeDiff, Nat.reduceEqDiff, Nat.reduceAdd, Nat.reduceMul, ↓reduceIte, if_true, if_false, Bool.false_eq_true, beq_self_eq_true, Bool.not_true, Bool.not_false, reduceCtorEq, decide_true, decide_false, Nat.add_zero, Nat.zero_add]) (by simp (disch := omega) only [JJ, opds, updD, ln, Nat.reduceLT, Nat.reduceLeDiff, Nat.reduceEqDiff, Nat.reduceAdd, Nat.reduceMul, ↓reduceIte, if_true, if_false, Bool.false_eq_true, beq_self_eq_true, Bool.not_true, Bool.not_false, reduceCtorEq, decide_true, decide_false, Nat.add_zero, Nat.zero_add, e7]) (by simp (disch := omega) only [JJ, opds, updD, ln, Nat.reduceLT, Nat.reduceLeDiff, Nat.reduceEqDiff, Nat.reduceAdd, Nat.reduceMul, ↓reduceIte, if_true, if_false, Bool.false_eq_true, beq_self_eq_true, Bool.not_true, Bool.not_false, reduceCtorEq, decide_true, decide_false, Nat.add_zero, Nat.zero_add, e5]) (by simp (disch := omega) only [JJ, opds, updD, ln, Nat.reduceLT, Nat.reduceLeDiff, Nat.reduceEqDiff, Nat.reduceAdd, Nat.reduceMul, ↓reduceIte, if_true, if_false, Bool.false_eq_true, beq_self_eq_true, Bool.not_true, Bool.not_false, reduceCtorEq, decide_true, decide_false, Nat.add_zero, Nat.zero_add, e4]) (by simp (disch := omega) only [JJ, opds, updD, ln, Nat.reduceLT, Nat.reduceLeDiff, Nat.reduceEqDiff, Nat.reduceAdd, Nat.reduceMul, ↓reduceIte, if_true, if_false, Bool.false_eq_true, beq_self_eq_true, Bool.not_true, Bool.not_false, reduceCtorEq, decide_true, decide_false, Nat.add_zero, Nat.zero_add, e1]) (by simp (disch := omega) only [JJ, opds, updD, ln, Nat.reduceLT, Nat.reduceLeDiff, Nat.reduceEqDiff, Nat.reduceAdd, Nat.reduceMul, ↓reduceIte, if_true, if_false, Bool.false_eq_true, beq_self_eq_true, Bool.not_true, Bool.not_false, reduceCtorEq, decide_true, decide_false, Nat.add_zero, Nat.zero_add, e2]) (by simp (disch := omega) only [JJ, opds, updD, ln, Nat.reduceLT, Nat.reduceLeDiff, Nat.reduceEqDiff, Nat.reduceAdd, Nat.reduceMul, ↓reduceIte, if_true, if_false, Bool.false_eq_true, beq_self_eq_true, Bool.not_true, Bool.not_false, reduceCtorEq, decide_true, decide_false, Nat.add_zero, Nat.zero_add, e3]) _ _ _ _ (fun _ _ q => q)
    · have hj3 : j = 3 := by have := of_decide_eq_false hc; omega
      subst hj3
      refine q_exit ?_
      simp (disch := omega) only [JJ, opds, updD, ln, Nat.reduceLT, Nat.reduceLeDiff, Nat.reduceEqDiff, Nat.reduceAdd, Nat.reduceMul, ↓reduceIte, if_true, if_false, Bool.false_eq_true, beq_self_eq_true, Bool.not_true, Bool.not_false, reduceCtorEq, decide_true, decide_false, Nat.add_zero, Nat.zero_add]
      -- the row is appended
      have oT := T.one
      have coT := cellsOf_one oT
      obtain ⟨vr, ve, L, R, E, x5, n5, p1, p2, p3, rs, cb⟩ := mk
      have fg : fillG 1 (e 6) = some ((Tree.leaf : Tree (List AVal)).put 0 (some [e 6])) := fillG_some coT rfl
      have f1 : gld1 h5 h2.next 1 = some vr := L.ld (k := 3) rfl (by omega)
      obtain ⟨vr', h6, g1, g2, g3, g4⟩ := R.app1 (by omega) (z := [.nils]) (e := [e 6]) rfl (by rw [ones, oT]; rfl) (by_ := 24) (by rw [List.length_map, hlr]; omega) (c := some 1)
      have hl := L.lt
      have L6 : Lob h6 h2.next [vc, vr, ve] := L.frame (g4 _ hl (fun q => by have := (p1 _ q).1; omega)) (by omega)
      obtain ⟨ob, g5, g6⟩ := L6.st (o := 1) (vs := [vr']) (by simp) (by rw [ones, g2.one]; rfl) (by simp)
      have L7 : Lob (h6.set h2.next ob) h2.next [vc, vr', ve] := g6
      have co' := cellsOf_one g2.one
      have lo' : ln [vr'] = 1 := rfl
      refine q_seq (q_reg ?_)
      simp (disch := omega) only [JJ, opds, updD, ln, Nat.reduceLT, Nat.reduceLeDiff, Nat.reduceEqDiff, Nat.reduceAdd, Nat.reduceMul, ↓reduceIte, if_true, if_false, Bool.false_eq_true, beq_self_eq_true, Bool.not_true, Bool.not_false, reduceCtorEq, decide_true, decide_false, Nat.add_zero, Nat.zero_add, F5u16, e3, f1, fillS_G, fg, oneG_fold, g1, co', lo', g5]
      -- what stays
      have same : ∀ g, g < h5.next → ¬ Pr g → g ≠ h2.next → (h6.set h2.next ob).m.get g = h5.m.get g := fun g h1 h2' h3 => by rw [get_set_ne h3, g4 g h1 h2']
      have R7 : OutG (h6.set h2.next ob) (· = h5.next + 1) 1 vr' ((rvs ++ [e 6]).map fun r => [r]) := by
        rw [List.map_append]; exact g2.frame (Nat.le_refl _) (fun g hg _ => get_set_ne (by omega))
      have E7 : OutG (h6.set h2.next ob) Pe 1 ve (es.map fun b => [.bool b]) := E.frame (by rw [set_next]; omega) (fun g hg hlt => same g hlt (fun q => (p1 g q).2.1 hg) (fun q => by have := (p2 g hg).1; omega))
      have x7 : Ext h2 (h6.set h2.next ob) := ⟨by rw [set_next]; omega, fun g hg => by rw [same g (by omega) (fun q => by have := (p1 g q).1; omega) (by omega)]; exact x5.2 g hg⟩
      have T7 : SlP (h6.set h2.next ob) (fun g => h2.next < g ∧ ¬ g = h5.next + 1 ∧ ¬ Pe g ∧ ¬ False) 3 (e 6) 3 (fun j => clw (cs.getD j ⟨0, 0, 0⟩)) := by
        have t0 := T.slP (f := fun j => clw (cs.getD j ⟨0, 0, 0⟩)) (by omega) (fun j c hj => by
          rw [List.getElem?_map] at hj
          cases hcj : cs[j]? with
          | none => rw [hcj] at hj; cases hj
          | some d => rw [hcj] at hj; cases hj; rw [List.getD_eq_getElem?_getD, hcj]; rfl)
        rw [List.length_map, hlc] at t0
        refine (t0.lt.frame (h' := h6.set h2.next ob) (by rw [set_next]; omega) (fun g hg hlt => same g hlt (fun q => (p1 g q).2.2 hg.1) (fun q => by have := p3 g hg.1; omega))).imp (fun g hg => ⟨p3 g hg.1, by omega, fun q => (p2 g q).2 hg.1, fun q => q⟩)
      have rs7 : ∀ s r, (rvs ++ [e 6])[s]? = some r → SlP (h6.set h2.next ob) (fun g => h2.next < g ∧ ¬ g = h5.next + 1 ∧ ¬ Pe g ∧ ¬ False) 3 r 3 (fun j => clw ((fun s j => if s = i then cs.getD j ⟨0, 0, 0⟩ else Cs s j) s j)) ∧ Am.one r = true := by
        intro s r hr
        rw [List.getElem?_append] at hr
        split at hr
        · next hs =>
          have hsi : s ≠ i := by omega
          simp only [if_neg hsi]
          refine ⟨((rs s r hr).1.lt.frame (h' := h6.set h2.next ob) (by rw [set_next]; omega) (fun g hg hlt => same g hlt hg.1.2.1 (by have := hg.1.1; omega))).imp (fun g hg => ⟨hg.1.1, by omega, hg.1.2.2.1, fun q => q⟩), (rs s r hr).2⟩
        · next hs =>
          have hsi : s = i := by
            rcases Nat.lt_or_ge s (i + 1) with h | h
            · omega
            · rw [List.getElem?_eq_none (by simp; omega)] at hr; cases hr
          subst hsi
          have : r = e 6 := by rw [hlr, Nat.sub_self] at hr; simpa using hr.symm
          subst this
          simp only [if_true]
          exact ⟨T7, oT⟩
      have cb7 : ∀ s j, ((fun s j => if s = i then cs.getD j ⟨0, 0, 0⟩ else Cs s j) s j).b < 256 := by
        intro s j
        by_cases hs : s = i
        · simp only [hs, if_true]
          rw [List.getD_eq_getElem?_getD]
          cases hcj : cs[j]? with
          | none => exact Nat.zero_lt_succ 255
          | some d => exact hcb d (List.mem_of_getElem? hcj)
        · simp only [hs, if_false]; exact cb s j
      have n7 : h5.next + 1 + 1 = (h6.set h2.next ob).next := by rw [set_next, g3]
      have pe7 : ∀ g, Pe g → h2.next < g := fun g q => (p2 g q).1
      have hpe5 : ∀ g, Pe g → g ≠ h5.next + 1 ∨ True := fun _ _ => .inr trivial
      have E8 := E.lt
      generalize hCs : (fun s j => if s = i then cs.getD j ⟨0, 0, 0⟩ else Cs s j) = Cs' at *
      clear g1 g2 g4 g5 g6 L6 L R E rs T
      generalize h6.set h2.next ob = h7 at *
      -- the end is appended
      refine q_dreg ?_
      have xb := Ext.bump h7 1
      have nb : (bump h7 1).next = h7.next + 1 := rfl
      have gb : ∀ g, (bump h7 1).m.get g = h7.m.get g := fun _ => rfl
      generalize bump h7 1 = h8 at *
      have L8 := L7.ext xb
      have f2 : gld1 h8 h2.next 2 = some ve := L8.ld (k := 3) rfl (by omega)
      have f0 : gld1 h8 h.next 0 = some (.int .u8 (x 0 : Nat)) := (l1.ext (x7.trans xb)).ld (k := 7) rfl (by omega)
      obtain ⟨q, hq⟩ : ∃ q, q = decide (x 0 / 2 ^ (1 + i) % 2 = 0) := ⟨_, rfl⟩
      have hq' : AVal.bool (decide (x 0 / 2 ^ (1 + i) % 2 = 0)) = .bool q := by rw [hq]
      have fgq : fillG 1 (.bool q) = some ((Tree.leaf : Tree (List AVal)).put 0 (some [.bool q])) := fillG_some rfl rfl
      have E9 : OutG (h8.set h7.next (.cells ((Tree.leaf : Tree (List AVal)).put 0 (some [.bool q])) [.bool false] 1 1 true)) (fun g => Pe g ∧ g < h5.next) 1 ve (es.map fun b => [.bool b]) :=
        E8.frame (by rw [set_next]; omega) (fun g hg hlt => by rw [get_set_ne (by omega), gb g]; exact same g hlt (fun q => (p1 g q).2.1 hg.1) (by have := pe7 g hg.1; omega))
      obtain ⟨ve', h10, k1, k2, k3, k4⟩ := E9.app (by omega) (y := .sl h7.next 0 1 (some 1)) (rdS_oneG (z := [.bool false]) (by simp only [Hp.set, Tree.get_put_same])) (e := [.bool q]) rfl rfl (by_ := 1) (by rw [List.length_map, hle]; omega)
      have L9 := L8.set_ne (g := h7.next) (ob := .cells ((Tree.leaf : Tree (List AVal)).put 0 (some [.bool q])) [.bool false] 1 1 true) (by omega)
      rw [set_next] at k2 k3 k4
      have L10 : Lob h10 h2.next [vc, vr', ve] := L9.frame (k4 _ (by omega) (fun q => by have := pe7 _ q.1; omega)) (by rw [set_next]; omega)
      obtain ⟨ob2, k5, k6⟩ := L10.st (o := 2) (vs := [ve']) (by simp) (by rw [ones, k2.one]; rfl) (by simp)
      have L11 : Lob (h10.set h2.next ob2) h2.next [vc, vr', ve'] := k6
      have coe := cellsOf_one k2.one
      have loe : ln [ve'] = 1 := rfl
      have hx0 := hx 0
      simp (disch := omega) only [Ja, Jb, Jc, Jd, Je, Jf, Jg, Jh, Ji, Jj, Jk, Jl, Jm, Jn, Jp, Jq, Jr, Js, Jt, Ju, Jv, Jw, Jx, Jy, true_and, and_true, JJ, opds, updD, ln, Nat.reduceLT, Nat.reduceLeDiff, Nat.reduceEqDiff, Nat.reduceAdd, Nat.reduceMul, ↓reduceIte, if_true, if_false, Bool.false_eq_true, beq_self_eq_true, Bool.not_true, Bool.not_false, reduceCtorEq, decide_true, decide_false, Nat.add_zero, Nat.zero_add, F5u19, F5u19p, e1, e3, e5, f2, f0, b_add_i64, b_shr_u8, b_rem, b_eql, c_eq, hq', fillS_G, fgq, mk_set, k1, coe, loe, k5]
      refine q_reg ?_
      simp (disch := omega) only [JJ, opds, updD, ln, Nat.reduceLT, Nat.reduceLeDiff, Nat.reduceEqDiff, Nat.reduceAdd, Nat.reduceMul, ↓reduceIte, if_true, if_false, Bool.false_eq_true, beq_self_eq_true, Bool.not_true, Bool.not_false, reduceCtorEq, decide_true, decide_false, Nat.add_zero, Nat.zero_add, F5u17, e5, b_add_i64]
      have same2 : ∀ g, g < h7.next → ¬ (Pe g ∧ g < h5.next) → g ≠ h2.next → (h10.set h2.next ob2).m.get g = h7.m.get g := fun g q1 q2 q3 => by rw [get_set_ne q3, k4 g (by omega) q2, get_set_ne (by omega), gb g]
      refine ⟨sz - (i + 1), by omega, i + 1, rvs ++ [e 6], Cs', es ++ [q], (· = h5.next + 1), (· = h8.next), by omega, rfl, by simp (disch := omega) only [JJ, opds, updD, ln, Nat.reduceLT, Nat.reduceLeDiff, Nat.reduceEqDiff, Nat.reduceAdd, Nat.reduceMul, ↓reduceIte, if_true, if_false, Bool.false_eq_true, beq_self_eq_true, Bool.not_true, Bool.not_false, reduceCtorEq, decide_true, decide_false, Nat.add_zero, Nat.zero_add], by simp (disch := omega) only [JJ, opds, updD, ln, Nat.reduceLT, Nat.reduceLeDiff, Nat.reduceEqDiff, Nat.reduceAdd, Nat.reduceMul, ↓reduceIte, if_true, if_false, Bool.false_eq_true, beq_self_eq_true, Bool.not_true, Bool.not_false, reduceCtorEq, decide_true, decide_false, Nat.add_zero, Nat.zero_add, e4], by simp (disch := omega) only [JJ, opds, updD, ln, Nat.reduceLT, Nat.reduceLeDiff, Nat.reduceEqDiff, Nat.reduceAdd, Nat.reduceMul, ↓reduceIte, if_true, if_false, Bool.false_eq_true, beq_self_eq_true, Bool.not_true, Bool.not_false, reduceCtorEq, decide_true, decide_false, Nat.add_zero, Nat.zero_add, e1], by simp (disch := omega) only [JJ, opds, updD, ln, Nat.reduceLT, Nat.reduceLeDiff, Nat.reduceEqDiff, Nat.reduceAdd, Nat.reduceMul, ↓reduceIte, if_true, if_false, Bool.false_eq_true, beq_self_eq_true, Bool.not_true, Bool.not_false, reduceCtorEq, decide_true, decide_false, Nat.add_zero, Nat.zero_add, e2], by simp (disch := omega) only [JJ, opds, updD, ln, Nat.reduceLT, Nat.reduceLeDiff, Nat.reduceEqDiff, Nat.reduceAdd, Nat.reduceMul, ↓reduceIte, if_true, if_false, Bool.false_eq_true, beq_self_eq_true, Bool.not_true, Bool.not_false, reduceCtorEq, decide_true, decide_false, Nat.add_zero, Nat.zero_add, e3], by simp [hlr], by simp [hle], ?_⟩
      refine ⟨vr', ve', L11, ?_, ?_, ?_, by rw [set_next]; omega, fun g q => ⟨by omega, by omega, fun q => q⟩, fun g q => ⟨by omega, fun q => q⟩, fun _ q => q.elim, ?_, cb7⟩
      · exact R7.frame (by rw [set_next]; omega) (fun g q hlt => same2 g hlt (fun q' => by omega) (by omega))
      · rw [List.map_append]; exact k2.frame (Nat.le_refl _) (fun g q hlt => get_set_ne (by omega))
      · exact ⟨by rw [set_next]; omega, fun g q => by rw [same2 g (by omega) (fun q' => by have := pe7 g q'.1; omega) (by omega)]; exact x7.2 g q⟩
      · intro s r hr
        refine ⟨((rs7 s r hr).1.lt.frame (h' := h10.set h2.next ob2) (by rw [set_next]; omega) (fun g hg hlt => same2 g hlt (fun q' => hg.1.2.2.1 q'.1) (by have := hg.1.1; omega))).imp (fun g hg => ⟨hg.1.1, hg.1.2.1, by omega, fun q => q⟩), (rs7 s r hr).2⟩
  · have his : i = sz := by have := of_decide_eq_false hc; omega
    refine q_exit ?_
    simp (disch := omega) only [JJ, opds, updD, ln, Nat.reduceLT, Nat.reduceLeDiff, Nat.reduceEqDiff, Nat.reduceAdd, Nat.reduceMul, ↓reduceIte, if_true, if_false, Bool.false_eq_true, beq_self_eq_true, Bool.not_true, Bool.not_false, reduceCtorEq, decide_true, decide_false, Nat.add_zero, Nat.zero_add]
    obtain ⟨vr, ve, L, R, E, x5, n5, p1, p2, p3, rs, cb⟩ := mk
    have l2' := l2.ext x5
    have hC' := hC.ext x5
    have lo3 : ln [vc, vr, ve] = 3 := rfl
    obtain ⟨ob, g1, g2⟩ := l2'.st (o := 0) (vs := [vc, vr, ve]) (by simp) (by simp only [ones, hC.1.one, R.one, E.one]; rfl) (by simp)
    have g3 : Lob (h'.set (h.next + 1) ob) (h.next + 1) [vc, vr, ve] := g2
    refine q_seq (q_reg ?_)
    simp (disch := omega) only [JJ, opds, updD, ln, Nat.reduceLT, Nat.reduceLeDiff, Nat.reduceEqDiff, Nat.reduceAdd, Nat.reduceMul, ↓reduceIte, if_true, if_false, Bool.false_eq_true, beq_self_eq_true, Bool.not_true, Bool.not_false, reduceCtorEq, decide_true, decide_false, Nat.add_zero, Nat.zero_add, F5u18, e2, e3, L.ldN' (m := 3) rfl, g1]
    refine q_ret (wpRes_cellN (by decide) (by simp (disch := omega) only [JJ, opds, updD, ln, Nat.reduceLT, Nat.reduceLeDiff, Nat.reduceEqDiff, Nat.reduceAdd, Nat.reduceMul, ↓reduceIte, if_true, if_false, Bool.false_eq_true, beq_self_eq_true, Bool.not_true, Bool.not_false, reduceCtorEq, decide_true, decide_false, Nat.add_zero, Nat.zero_add, e2]) g3 rfl ?_)
    have xf : Ext h (h'.set (h.next + 1) ob) := (x1.trans x5).set (by omega) _
    have fr : ∀ g, h2.next ≤ g → (h'.set (h.next + 1) ob).m.get g = h'.m.get g := fun g hg => get_set_ne (by omega)
    refine ⟨⟨vc, vr, ve, fun s => rvs.getD s .nils, ⟨3, C, i, fun _ => 3, fun s j => (Cs s j).t, fun s j => (Cs s j).a, fun s j => (Cs s j).b, i, fun j => es.getD j false⟩, rfl, fun h'' hn hag => ?_⟩, xf⟩
    have hag' : ∀ g, h2.next ≤ g → g < h'.next → h''.m.get g = h'.m.get g := fun g q1 q2 => by rw [hag g (by omega) q2, get_set_ne (by omega)]
    rw [set_next] at hn
    have hR := (R.frame (h' := h'') hn (fun g hg hlt => hag' g (by have := (p1 g hg).1; omega) hlt)).sl (f := fun s => [rvs.getD s .nils]) (by omega) (fun s r hr => by
      rw [List.getElem?_map] at hr
      cases hs : rvs[s]? with
      | none => rw [hs] at hr; cases hr
      | some d => rw [hs] at hr; cases hr; rw [List.getD_eq_getElem?_getD, hs]; rfl)
    have hE := (E.frame (h' := h'') hn (fun g hg hlt => hag' g (by have := (p2 g hg).1; omega) hlt)).sl (f := fun s => [.bool (es.getD s false)]) (by omega) (fun s r hr => by
      rw [List.getElem?_map] at hr
      cases hs : es[s]? with
      | none => rw [hs] at hr; cases hr
      | some d => rw [hs] at hr; cases hr; rw [List.getD_eq_getElem?_getD, hs]; rfl)
    rw [List.length_map] at hR hE
    have hl2 := l2.lt
    refine ⟨⟨?_, hC64⟩, ?_, fun s hs => ?_, ?_, by show 3 < 2 ^ 63; decide, ?_, fun _ _ => by show 3 < 2 ^ 63; decide, cb⟩
    · exact (hP.frame (h' := h'') (by omega) (fun g hg hlt => by rw [hag g (by omega) (by rw [set_next]; omega), get_set_ne (by omega)]; exact x5.2 g hlt)).sl
    · rw [hlr] at hR; exact hR
    · have hs' : s < rvs.length := by rw [hlr]; exact hs
      have hr : rvs[s]? = some rvs[s] := List.getElem?_eq_getElem hs'
      have hg : rvs.getD s .nils = rvs[s] := by rw [List.getD_eq_getElem?_getD, hr]; rfl
      show SlN _ 3 (rvs.getD s .nils) 3 _
      rw [hg]
      exact ((rs s _ hr).1.frame (h' := h'') hn (fun g hg hlt => hag' g (by have := hg.1; omega) hlt)).sl
    · rw [hle] at hE; exact hE
    · show i < 2 ^ 63; omega
end
end Go.Proofs.YtfaeabhbeolpgaaGreatDoor
end
