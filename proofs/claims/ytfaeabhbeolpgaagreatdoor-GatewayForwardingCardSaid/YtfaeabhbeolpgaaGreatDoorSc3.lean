/- The law on forwarding, walked over the abstract machine. Conditions: none. -/
import Derived.Test.YtfaeabhbeolpgaaGreatDoorSc2
set_option linter.all false
noncomputable section
open Go Go.Am Univ
namespace Go.Am
def fill2 (k : Nat) (a b : AVal) : Option (Tree (List AVal)) :=
  if Nat.beq (ln (cellsOf a)) k && Nat.blt 0 2 then (if Nat.beq (ln (cellsOf b)) k && Nat.blt 1 2 then some (((Tree.leaf : Tree (List AVal)).put 0 (some (cellsOf a))).put 1 (some (cellsOf b))) else none) else none
theorem fillS_2 {tm : List AVal} {k : Nat} {x y : AOpd} : fillS tm k 2 [(0, x), (1, y)] .leaf = fill2 k (opd tm x) (opd tm y) := by
  simp only [fillS, fill2]
theorem fill2usome {k : Nat} {a b : AVal} {p q : List AVal} (ha : cellsOf a = p) (hb : cellsOf b = q) (hp : ln p = k) (hq : ln q = k) : fill2 k a b = some (((Tree.leaf : Tree (List AVal)).put 0 (some p)).put 1 (some q)) := by
  simp only [fill2, ha, hb, hp, hq, nbeq, nblt]; rfl
/-- A slice of two elements. -/
theorem SlN.two {h : Hp} {g k : Nat} {z p q : List AVal} (hg : g < h.next) (hk : 0 < k) (hget : h.m.get g = some (.cells (((Tree.leaf : Tree (List AVal)).put 0 (some p)).put 1 (some q)) z k 2 true)) (hp : p.length = k) (hq : q.length = k) {c : Option Nat} :
    SlN h k (.sl g 0 2 c) 2 (fun i => if i = 0 then p else q) := by
  refine .inr ⟨g, 0, c, _, z, 2, true, by simp, hg, hk, hget, by omega, fun i hi => ?_⟩
  rw [Nat.zero_add]
  rcases i with _ | _ | i
  · refine ⟨?_, by simpa using hp⟩
    rw [elemAt_put, if_neg (by omega), elemAt_put, if_pos rfl]; rfl
  · refine ⟨?_, by simpa using hq⟩
    rw [elemAt_put, if_pos rfl]; rfl
  · omega
theorem strEq_refl : ∀ l : List UInt8, strEq l l = true
  | [] => rfl
  | a :: l => by simp only [strEq, Nat.beq_refl, strEq_refl l, Bool.and_self]
theorem b_str_neq (l : List UInt8) : binV .neq (.str l) (.str l) = some (.bool false) := by
  simp only [binV, strBin, strEq_refl, Bool.not_true]
def cellB (b : Nat) : AVal := .int .u8 (b : Int)
theorem cellBytes_map : ∀ bs : List Nat, cellBytes (bs.map cellB) = some (bs.map UInt8.ofNat)
  | [] => rfl
  | b :: bs => by
    have ih := cellBytes_map bs
    simp only [List.map_cons, cellB, cellBytes]
    rw [show cellBytes (bs.map cellB) = some (bs.map UInt8.ofNat) from ih]
    rfl
theorem readFrom_bytes {t : Tree (List AVal)} {z : List AVal} {bs : List Nat} (h : ∀ i b, bs[i]? = some b → elemAt t z i = [.int .u8 (b : Nat)]) : ∀ (m o : Nat), o + m = bs.length → readFrom t z 1 m o = some ((bs.drop o).map cellB)
  | 0, o, ho => by rw [List.drop_eq_nil_of_le (by omega)]; rfl
  | m + 1, o, ho => by
    have hlt : o < bs.length := by omega
    have hb := h o _ (List.getElem?_eq_getElem hlt)
    simp only [readFrom, cellAt', Nat.div_one, Nat.mod_one, hb, nth]
    rw [readFrom_bytes h m (o + 1) (by omega), List.drop_eq_getElem_cons hlt]
    rfl
/-- The text of what has gone out. -/
theorem Out.str {h : Hp} {P : Nat → Prop} {v : AVal} {bs : List Nat} (x : Out h P v bs) (h' : Hp) : convBSV v (rdS h 1 v) h' = some (.val (.str (bs.map UInt8.ofNat)) h') := by
  rcases x with ⟨rfl, rfl⟩ | ⟨g, t, z, rfl, h2, h3, h4, rfl⟩ | ⟨g, t, z, rfl, h2, h3, h4, h5, h6⟩
  · rfl
  · have : rdS h 1 (.sl g 0 0 (some 0)) = some (0, []) := by
      simp only [rdS, h4, rd, nble, nbeq, Nat.zero_mul, Nat.add_zero, Nat.le_refl, decide_true, if_true, readFrom]; rfl
    rw [this]; rfl
  · have : rdS h 1 (.sl g 0 bs.length none) = some (bs.length, bs.map cellB) := by
      by_cases h1 : bs.length = 1
      · have hb := h6 0 _ (List.getElem?_eq_getElem (by omega))
        simp only [rdS, h4, rd, nble, nbeq, Nat.mul_one, Nat.zero_add, Nat.le_refl, decide_true, if_true, h1, Nat.zero_mod, Bool.and_self, Nat.zero_div, hb]
        obtain ⟨b, rfl⟩ := List.length_eq_one_iff.1 h1
        rfl
      · simp only [rdS, h4, rd, nble, nbeq, Nat.mul_one, Nat.zero_add, Nat.le_refl, decide_true, if_true, decide_eq_false h1, Bool.false_and, Bool.false_eq_true, if_false, readFrom_bytes h6 bs.length 0 (by omega), List.drop_zero]
    rw [this]
    simp only [convBSV, cellBytes_map]
end Go.Am
namespace Go.Proofs.YtfaeabhbeolpgaaGreatDoor
theorem Msg.of_out {h : Hp} {P : Nat → Prop} {v : AVal} {bs : List Nat} (x : Out h P v bs) (hb : ∀ b, b ∈ bs → b < 256) : Msg h v bs.length (fun i => bs.getD i 0) := by
  refine ⟨?_, fun i hi => ?_⟩
  · rcases x with ⟨rfl, rfl⟩ | ⟨g, t, z, rfl, h2, h3, h4, rfl⟩ | ⟨g, t, z, rfl, h2, h3, h4, h5, h6⟩
    · exact .inl ⟨rfl, rfl⟩
    · exact .inr ⟨g, 0, some 0, t, z, 0, true, by simp, h3, by omega, h4, by simp, fun i hi => by simp at hi⟩
    · refine .inr ⟨g, 0, none, t, z, bs.length, true, by simp, h3, by omega, h4, by simp, fun i hi => ?_⟩
      have hi' : bs[i]? = some bs[i] := List.getElem?_eq_getElem hi
      have hg : bs.getD i 0 = bs[i] := by rw [List.getD_eq_getElem?_getD, hi']; rfl
      rw [Nat.zero_add, h6 i _ hi']
      exact ⟨by rw [← hg], rfl⟩
  · have hi' : bs[i]? = some bs[i] := List.getElem?_eq_getElem hi
    show bs.getD i 0 < 256
    rw [List.getD_eq_getElem?_getD, hi']
    exact hb _ (List.getElem_mem hi)
/-- The oracle knows that the examples hold. -/
def San (O : Orc) : Prop := ∀ h, O 4 [] h = some (.bool true, h)
theorem c4 {O : Orc} (h4 : San O) (h : Hp) : RunsP O E0 4 [] h (fun v h' => v = .bool true ∧ h' = h) :=
  ⟨.bool true, h, ⟨1, fun m hm => by
    obtain ⟨k, rfl⟩ : ∃ k, m = k + 1 := ⟨m - 1, by omega⟩
    show callO O E0 (evO O E0 k) false 4 [] h .ret = _
    exact callO_some (h4 h)⟩, rfl, rfl⟩
/-- A normalizer and a message in memory. -/
def Case (h : Hp) (l : List AVal) (vm : AVal) : Prop := ∃ vc vr ve rv D k f, l = [vc, vr, ve] ∧ NZ h vc vr ve rv D ∧ Msg h vm k f
theorem Case.ext {h h' : Hp} {l : List AVal} {vm : AVal} (x : Case h l vm) (e : Ext h h') : Case h' l vm :=
  let ⟨vc, vr, ve, rv, D, k, f, q1, q2, q3⟩ := x; ⟨vc, vr, ve, rv, D, k, f, q1, q2.ext e, q3.ext e⟩

section
variable {O : Orc} (hO : Only O) (h4 : San O)
include hO h4

set_option maxHeartbeats 4000000 in
theorem c3 {vc vr ve : AVal} {rv : Nat → AVal} {D : ND} {h : Hp} (N : NZ h vc vr ve rv D) (x : Nat → Nat) (hx : ∀ i, x i < 256) {vm : AVal} {k : Nat} {f : Nat → Nat} (M : Msg h vm k f) (hk : k < 2 ^ 63) :
    RunsP O E0 3 [.agg [vc, vr, ve], .agg (rawv x), vm] h (fun v h' => v = .bool true ∧ Ext h h') := by
  refine q_fn (L := 73) E3 (hO _ _ _ rfl) rfl rfl ?_
  refine q_seq (q_reg ?_)
  simp (disch := omega) only [JJ, opds, updD, ln, Nat.reduceLT, Nat.reduceLeDiff, Nat.reduceEqDiff, Nat.reduceAdd, Nat.reduceMul, ↓reduceIte, if_true, if_false, Bool.false_eq_true, beq_self_eq_true, Bool.not_true, Bool.not_false, reduceCtorEq, decide_true, decide_false, Nat.add_zero, Nat.zero_add, F3u0]
  have l3 := (Lob.new h [vc, vr, ve] (Nat.succ_pos _)).newL (l' := rawv x)
  have l4 := Lob.new (newL h [vc, vr, ve]) (rawv x) (Nat.succ_pos _)
  have x1 := (Ext.newL h [vc, vr, ve]).trans (Ext.newL _ (rawv x))
  rw [QM] at l4
  generalize newL (newL h [vc, vr, ve]) (rawv x) = h1 at *
  refine q_seq (q_reg ?_)
  simp (disch := omega) only [JJ, opds, updD, ln, Nat.reduceLT, Nat.reduceLeDiff, Nat.reduceEqDiff, Nat.reduceAdd, Nat.reduceMul, ↓reduceIte, if_true, if_false, Bool.false_eq_true, beq_self_eq_true, Bool.not_true, Bool.not_false, reduceCtorEq, decide_true, decide_false, Nat.add_zero, Nat.zero_add, F3u1]
  refine q_call (c4 h4 _) ?_
  rintro v0 h2 ⟨rfl, rfl⟩
  simp (disch := omega) only [JJ, opds, updD, ln, Nat.reduceLT, Nat.reduceLeDiff, Nat.reduceEqDiff, Nat.reduceAdd, Nat.reduceMul, ↓reduceIte, if_true, if_false, Bool.false_eq_true, beq_self_eq_true, Bool.not_true, Bool.not_false, reduceCtorEq, decide_true, decide_false, Nat.add_zero, Nat.zero_add]
  have N1 := N.ext x1
  have M1 := M.ext x1
  have m62 := N.m62
  have r1 : gld1 h2 h.next 1 = some vr := l3.ld (k := 3) rfl (by omega)
  have yes : ∀ (e' : Env) (h' : Hp) (X0 : Nat → Env → Hp → Prop) (N0 : Env → Hp → Prop), e' 7 = .bool true → Ext h h' → Wp O E0 73 (.seq (.reg F3u3) .ret) e' h' N0 X0 (WpRes 73 [.tmp 6] fun v h' => v = .bool true ∧ Ext h h') := by
    intro e' h' X0 N0 q7 hx
    refine q_seq (q_reg ?_)
    simp (disch := omega) only [JJ, opds, updD, ln, Nat.reduceLT, Nat.reduceLeDiff, Nat.reduceEqDiff, Nat.reduceAdd, Nat.reduceMul, ↓reduceIte, if_true, if_false, Bool.false_eq_true, beq_self_eq_true, Bool.not_true, Bool.not_false, reduceCtorEq, decide_true, decide_false, Nat.add_zero, Nat.zero_add, F3u3, q7]
    refine q_ret (wpRes_tmp (by decide) ?_)
    simp (disch := omega) only [JJ, opds, updD, ln, Nat.reduceLT, Nat.reduceLeDiff, Nat.reduceEqDiff, Nat.reduceAdd, Nat.reduceMul, ↓reduceIte, if_true, if_false, Bool.false_eq_true, beq_self_eq_true, Bool.not_true, Bool.not_false, reduceCtorEq, decide_true, decide_false, Nat.add_zero, Nat.zero_add]
    exact ⟨trivial, hx⟩
  refine q_seq (q_seq (q_reg ?_))
  by_cases t1 : 70 < D.m
  · simp (disch := omega) only [JJ, opds, updD, ln, Nat.reduceLT, Nat.reduceLeDiff, Nat.reduceEqDiff, Nat.reduceAdd, Nat.reduceMul, ↓reduceIte, if_true, if_false, Bool.false_eq_true, beq_self_eq_true, Bool.not_true, Bool.not_false, reduceCtorEq, decide_true, decide_false, Nat.add_zero, Nat.zero_add, F3u2, r1, N1.rows.len, b_gtr, c_lt, t1]
    refine q_cond (q := true) (by simp (disch := omega) only [JJ, opds, updD, ln, Nat.reduceLT, Nat.reduceLeDiff, Nat.reduceEqDiff, Nat.reduceAdd, Nat.reduceMul, ↓reduceIte, if_true, if_false, Bool.false_eq_true, beq_self_eq_true, Bool.not_true, Bool.not_false, reduceCtorEq, decide_true, decide_false, Nat.add_zero, Nat.zero_add]) (fun _ => ?_) (fun h => by cases h)
    exact yes _ _ _ _ (by simp (disch := omega) only [JJ, opds, updD, ln, Nat.reduceLT, Nat.reduceLeDiff, Nat.reduceEqDiff, Nat.reduceAdd, Nat.reduceMul, ↓reduceIte, if_true, if_false, Bool.false_eq_true, beq_self_eq_true, Bool.not_true, Bool.not_false, reduceCtorEq, decide_true, decide_false, Nat.add_zero, Nat.zero_add]) x1
  by_cases t2 : 100 < k
  · simp (disch := omega) only [JJ, opds, updD, ln, Nat.reduceLT, Nat.reduceLeDiff, Nat.reduceEqDiff, Nat.reduceAdd, Nat.reduceMul, ↓reduceIte, if_true, if_false, Bool.false_eq_true, beq_self_eq_true, Bool.not_true, Bool.not_false, reduceCtorEq, decide_true, decide_false, Nat.add_zero, Nat.zero_add, F3u2, r1, N1.rows.len, M1.1.len, b_gtr, c_lt, t1, t2]
    refine q_cond (q := true) (by simp (disch := omega) only [JJ, opds, updD, ln, Nat.reduceLT, Nat.reduceLeDiff, Nat.reduceEqDiff, Nat.reduceAdd, Nat.reduceMul, ↓reduceIte, if_true, if_false, Bool.false_eq_true, beq_self_eq_true, Bool.not_true, Bool.not_false, reduceCtorEq, decide_true, decide_false, Nat.add_zero, Nat.zero_add]) (fun _ => ?_) (fun h => by cases h)
    exact yes _ _ _ _ (by simp (disch := omega) only [JJ, opds, updD, ln, Nat.reduceLT, Nat.reduceLeDiff, Nat.reduceEqDiff, Nat.reduceAdd, Nat.reduceMul, ↓reduceIte, if_true, if_false, Bool.false_eq_true, beq_self_eq_true, Bool.not_true, Bool.not_false, reduceCtorEq, decide_true, decide_false, Nat.add_zero, Nat.zero_add]) x1
  simp (disch := omega) only [JJ, opds, updD, ln, Nat.reduceLT, Nat.reduceLeDiff, Nat.reduceEqDiff, Nat.reduceAdd, Nat.reduceMul, ↓reduceIte, if_true, if_false, Bool.false_eq_true, beq_self_eq_true, Bool.not_true, Bool.not_false, reduceCtorEq, decide_true, decide_false, Nat.add_zero, Nat.zero_add, F3u2, r1, N1.rows.len, M1.1.len, b_gtr, c_lt, t1, t2]
  refine q_cond (q := false) (by simp (disch := omega) only [JJ, opds, updD, ln, Nat.reduceLT, Nat.reduceLeDiff, Nat.reduceEqDiff, Nat.reduceAdd, Nat.reduceMul, ↓reduceIte, if_true, if_false, Bool.false_eq_true, beq_self_eq_true, Bool.not_true, Bool.not_false, reduceCtorEq, decide_true, decide_false, Nat.add_zero, Nat.zero_add]) (fun h => by cases h) (fun _ => ?_)
  refine q_skip ?_
  refine q_seq (q_dreg ?_)
  have xb := Ext.bump h2 1
  have nb : (bump h2 1).next = h2.next + 1 := rfl
  have lb3 := l3.ext xb
  have lb4 := l4.ext xb
  generalize bump h2 1 = h3 at *
  simp (disch := omega) only [Ja, Jb, Jc, Jd, Je, Jf, Jg, Jh, Ji, Jj, Jk, Jl, Jm, Jn, Jp, Jq, Jr, Js, Jt, Ju, Jv, Jw, Jx, Jy, true_and, and_true, JJ, opds, updD, ln, Nat.reduceLT, Nat.reduceLeDiff, Nat.reduceEqDiff, Nat.reduceAdd, Nat.reduceMul, ↓reduceIte, if_true, if_false, Bool.false_eq_true, beq_self_eq_true, Bool.not_true, Bool.not_false, reduceCtorEq, decide_true, decide_false, Nat.add_zero, Nat.zero_add, F3u11, F3u11p, lb3.ldN' (m := 3) rfl, lb4.ldN' (m := 7) rfl]
  refine q_call (c5 hO x hx) ?_
  rintro v5 h5 ⟨⟨vc', vr', ve', rv', D', rfl, N'⟩, x5⟩
  have lc3 := lb3.ext x5
  have qv1 := N1.cls.1.veq
  have qv2 := N1.rows.veq
  have qv3 := N1.ends.veq
  have qv : veq (.agg [vc, vr, ve]) (.agg [vc, vr, ve]) = true := by simp [veq, veqL, qv1, qv2, qv3]
  have fg : fill2 3 (.agg [vc, vr, ve]) (.agg [vc', vr', ve']) = some (((Tree.leaf : Tree (List AVal)).put 0 (some [vc, vr, ve])).put 1 (some [vc', vr', ve'])) := fill2usome rfl rfl rfl rfl
  have n5 : h2.next + 1 ≤ h5.next := by have := x5.1; omega
  simp (disch := omega) only [Ja, Jb, Jc, Jd, Je, Jf, Jg, Jh, Ji, Jj, Jk, Jl, Jm, Jn, Jp, Jq, Jr, Js, Jt, Ju, Jv, Jw, Jx, Jy, true_and, and_true, JJ, opds, updD, ln, Nat.reduceLT, Nat.reduceLeDiff, Nat.reduceEqDiff, Nat.reduceAdd, Nat.reduceMul, ↓reduceIte, if_true, if_false, Bool.false_eq_true, beq_self_eq_true, Bool.not_true, Bool.not_false, reduceCtorEq, decide_true, decide_false, Nat.add_zero, Nat.zero_add, F3u11, lc3.ldN' (m := 3) rfl, qv, fillS_2, fg, mk_set, and_self]
  have A6 : SlN (h5.set h2.next (.cells (((Tree.leaf : Tree (List AVal)).put 0 (some [vc, vr, ve])).put 1 (some [vc', vr', ve'])) [.nils, .nils, .nils] 3 2 true)) 3 (.sl h2.next 0 2 (some 2)) 2 (fun i => if i = 0 then [vc, vr, ve] else [vc', vr', ve']) :=
    SlN.two (g := h2.next) (k := 3) (p := [vc, vr, ve]) (q := [vc', vr', ve']) (z := [.nils, .nils, .nils]) (by rw [set_next]; omega) (by omega) (by simp only [Hp.set, Tree.get_put_same]) rfl rfl
  have x6 : Ext h2 (h5.set h2.next (.cells (((Tree.leaf : Tree (List AVal)).put 0 (some [vc, vr, ve])).put 1 (some [vc', vr', ve'])) [.nils, .nils, .nils] 3 2 true)) := (xb.trans x5).set (Nat.le_refl _) _
  have N6 := N' (h5.set h2.next (.cells (((Tree.leaf : Tree (List AVal)).put 0 (some [vc, vr, ve])).put 1 (some [vc', vr', ve'])) [.nils, .nils, .nils] 3 2 true)) (Nat.le_refl _) (fun g hg _ => get_set_ne (by omega))
  generalize h5.set h2.next (.cells (((Tree.leaf : Tree (List AVal)).put 0 (some [vc, vr, ve])).put 1 (some [vc', vr', ve'])) [.nils, .nils, .nils] 3 2 true) = h6 at *
  have M6 := M1.ext x6
  have NN6 := N1.ext x6
  -- the messages
  refine q_seq (q_reg ?_)
  simp (disch := omega) only [JJ, opds, updD, ln, Nat.reduceLT, Nat.reduceLeDiff, Nat.reduceEqDiff, Nat.reduceAdd, Nat.reduceMul, ↓reduceIte, if_true, if_false, Bool.false_eq_true, beq_self_eq_true, Bool.not_true, Bool.not_false, reduceCtorEq, decide_true, decide_false, Nat.add_zero, Nat.zero_add, F3u4]
  refine q_call (c6 hO M6) ?_
  rintro vw h7 ⟨⟨bs, Q, hb⟩, x7⟩
  have W := Msg.of_out Q hb
  have cm := cellsOf_one M6.1.one
  have cq := cellsOf_one Q.one
  have fw : fill2 1 vm vw = some (((Tree.leaf : Tree (List AVal)).put 0 (some [vm])).put 1 (some [vw])) := fill2usome cm cq rfl rfl
  simp (disch := omega) only [JJ, opds, updD, ln, Nat.reduceLT, Nat.reduceLeDiff, Nat.reduceEqDiff, Nat.reduceAdd, Nat.reduceMul, ↓reduceIte, if_true, if_false, Bool.false_eq_true, beq_self_eq_true, Bool.not_true, Bool.not_false, reduceCtorEq, decide_true, decide_false, Nat.add_zero, Nat.zero_add, fillS_2, fw]
  have A8 : SlN (h7.new (.cells (((Tree.leaf : Tree (List AVal)).put 0 (some [vm])).put 1 (some [vw])) [.nils] 1 2 true)) 1 (.sl h7.next 0 2 (some 2)) 2 (fun i => if i = 0 then [vm] else [vw]) :=
    SlN.two (g := h7.next) (k := 1) (p := [vm]) (q := [vw]) (z := [.nils]) (Nat.lt_succ_self _) (by omega) (by simp only [Hp.new, Tree.get_put_same]) rfl rfl
  have x8 := Ext.new h7 (.cells (((Tree.leaf : Tree (List AVal)).put 0 (some [vm])).put 1 (some [vw])) [.nils] 1 2 true)
  generalize h7.new (.cells (((Tree.leaf : Tree (List AVal)).put 0 (some [vm])).put 1 (some [vw])) [.nils] 1 2 true) = h8 at *
  have C0 : Case h8 [vc, vr, ve] vm := ⟨vc, vr, ve, rv, D, k, f, rfl, (NN6.ext x7).ext x8, (M6.ext x7).ext x8⟩
  have C1 : Case h8 [vc', vr', ve'] vw := ⟨vc', vr', ve', rv', D', bs.length, fun i => bs.getD i 0, rfl, (N6.ext x7).ext x8, W.ext x8⟩
  have B6 := (A6.ext x7).ext x8
  have xx := ((x1.trans x6).trans x7).trans x8
  refine q_seq (q_seq (q_reg ?_))
  simp (disch := omega) only [JJ, opds, updD, ln, Nat.reduceLT, Nat.reduceLeDiff, Nat.reduceEqDiff, Nat.reduceAdd, Nat.reduceMul, ↓reduceIte, if_true, if_false, Bool.false_eq_true, beq_self_eq_true, Bool.not_true, Bool.not_false, reduceCtorEq, decide_true, decide_false, Nat.add_zero, Nat.zero_add, F3u5]
  refine q_block ?_
  refine q_loop (fun m e h' => ∃ i, i ≤ 2 ∧ m = 2 - i ∧ e 10 = .int .i64 (i : Nat) ∧ e 8 = .sl h2.next 0 2 (some 2) ∧ e 9 = .sl h7.next 0 2 (some 2) ∧ e 7 = .bool true ∧ Ext h8 h') 2
    ⟨0, by omega, by omega, by simp (disch := omega) only [JJ, opds, updD, ln, Nat.reduceLT, Nat.reduceLeDiff, Nat.reduceEqDiff, Nat.reduceAdd, Nat.reduceMul, ↓reduceIte, if_true, if_false, Bool.false_eq_true, beq_self_eq_true, Bool.not_true, Bool.not_false, reduceCtorEq, decide_true, decide_false, Nat.add_zero, Nat.zero_add], by simp (disch := omega) only [JJ, opds, updD, ln, Nat.reduceLT, Nat.reduceLeDiff, Nat.reduceEqDiff, Nat.reduceAdd, Nat.reduceMul, ↓reduceIte, if_true, if_false, Bool.false_eq_true, beq_self_eq_true, Bool.not_true, Bool.not_false, reduceCtorEq, decide_true, decide_false, Nat.add_zero, Nat.zero_add], by simp (disch := omega) only [JJ, opds, updD, ln, Nat.reduceLT, Nat.reduceLeDiff, Nat.reduceEqDiff, Nat.reduceAdd, Nat.reduceMul, ↓reduceIte, if_true, if_false, Bool.false_eq_true, beq_self_eq_true, Bool.not_true, Bool.not_false, reduceCtorEq, decide_true, decide_false, Nat.add_zero, Nat.zero_add], by simp (disch := omega) only [JJ, opds, updD, ln, Nat.reduceLT, Nat.reduceLeDiff, Nat.reduceEqDiff, Nat.reduceAdd, Nat.reduceMul, ↓reduceIte, if_true, if_false, Bool.false_eq_true, beq_self_eq_true, Bool.not_true, Bool.not_false, reduceCtorEq, decide_true, decide_false, Nat.add_zero, Nat.zero_add], Ext.refl _⟩ ?_
  rintro m e h' ⟨i, hi, rfl, e10, e8, e9, e7, x9⟩
  refine q_seq (q_seq (q_reg ?_))
  simp (disch := omega) only [JJ, opds, updD, ln, Nat.reduceLT, Nat.reduceLeDiff, Nat.reduceEqDiff, Nat.reduceAdd, Nat.reduceMul, ↓reduceIte, if_true, if_false, Bool.false_eq_true, beq_self_eq_true, Bool.not_true, Bool.not_false, reduceCtorEq, decide_true, decide_false, Nat.add_zero, Nat.zero_add, F3u6, e10, b_lss, c_lt]
  refine q_cond (q := decide (i < 2)) (by simp (disch := omega) only [JJ, opds, updD, ln, Nat.reduceLT, Nat.reduceLeDiff, Nat.reduceEqDiff, Nat.reduceAdd, Nat.reduceMul, ↓reduceIte, if_true, if_false, Bool.false_eq_true, beq_self_eq_true, Bool.not_true, Bool.not_false, reduceCtorEq, decide_true, decide_false, Nat.add_zero, Nat.zero_add]) (fun hc => ?_) (fun hc => ?_)
  · have hi2 := of_decide_eq_true hc
    obtain ⟨l, wm, hl, hw, CC⟩ : ∃ l wm, (if i = 0 then [vc, vr, ve] else [vc', vr', ve']) = l ∧ (if i = 0 then [vm] else [vw]) = [wm] ∧ Case h' l wm := by
      by_cases h0 : i = 0
      · exact ⟨_, vm, by rw [if_pos h0], by rw [if_pos h0], C0.ext x9⟩
      · exact ⟨_, vw, by rw [if_neg h0], by rw [if_neg h0], C1.ext x9⟩
    obtain ⟨uc, ur, ue, urv, uD, uk, uf, rfl, UN, UM⟩ := CC
    obtain ⟨ga, oa, a1, a2⟩ := (B6.ext x9).addr hi2
    obtain ⟨gw, ow, w1, w2⟩ := (A8.ext x9).addr hi2
    have a3 := fun h'' e => (a2 h'' e).1
    have w3 := fun h'' e => (w2 h'' e).2 rfl
    simp only [hl] at a3
    simp only [hw] at w3
    refine q_skip ?_
    refine q_seq (q_block (q_seq (q_dreg0 ?_)))
    simp (disch := omega) only [Ja, Jb, Jc, Jd, Je, Jf, Jg, Jh, Ji, Jj, Jk, Jl, Jm, Jn, Jp, Jq, Jr, Js, Jt, Ju, Jv, Jw, Jx, Jy, true_and, and_true, JJ, opds, updD, ln, Nat.reduceLT, Nat.reduceLeDiff, Nat.reduceEqDiff, Nat.reduceAdd, Nat.reduceMul, ↓reduceIte, if_true, if_false, Bool.false_eq_true, beq_self_eq_true, Bool.not_true, Bool.not_false, reduceCtorEq, decide_true, decide_false, Nat.add_zero, Nat.zero_add, F3u12, F3u12p, e8, e9, e10, a1, a3 _ (Ext.refl _), w1, w3 _ (Ext.refl _)]
    refine q_call (c7 hO UN UM) ?_
    rintro v1 h10 ⟨⟨vo, c, os, rfl, Q1, F1⟩, x10⟩
    simp (disch := omega) only [Ja, Jb, Jc, Jd, Je, Jf, Jg, Jh, Ji, Jj, Jk, Jl, Jm, Jn, Jp, Jq, Jr, Js, Jt, Ju, Jv, Jw, Jx, Jy, true_and, and_true, JJ, opds, updD, ln, Nat.reduceLT, Nat.reduceLeDiff, Nat.reduceEqDiff, Nat.reduceAdd, Nat.reduceMul, ↓reduceIte, if_true, if_false, Bool.false_eq_true, beq_self_eq_true, Bool.not_true, Bool.not_false, reduceCtorEq, decide_true, decide_false, Nat.add_zero, Nat.zero_add, F3u12]
    refine q_seq (q_dreg0 ?_)
    simp (disch := omega) only [Ja, Jb, Jc, Jd, Je, Jf, Jg, Jh, Ji, Jj, Jk, Jl, Jm, Jn, Jp, Jq, Jr, Js, Jt, Ju, Jv, Jw, Jx, Jy, true_and, and_true, JJ, opds, updD, ln, Nat.reduceLT, Nat.reduceLeDiff, Nat.reduceEqDiff, Nat.reduceAdd, Nat.reduceMul, ↓reduceIte, if_true, if_false, Bool.false_eq_true, beq_self_eq_true, Bool.not_true, Bool.not_false, reduceCtorEq, decide_true, decide_false, Nat.add_zero, Nat.zero_add, F3u13, F3u13p, e8, e9, e10, a1, a3 _ x10, w1, w3 _ x10]
    refine q_call (c8 hO (UN.ext x10) (UM.ext x10)) ?_
    rintro v2 h11 ⟨⟨vo', c', os', rfl, Q2, F2⟩, x11⟩
    obtain ⟨rfl, rfl⟩ := F1.same F2
    have s1 := (Q1.ext x11).str h11
    have s2 := Q2.str h11
    simp (disch := omega) only [Ja, Jb, Jc, Jd, Je, Jf, Jg, Jh, Ji, Jj, Jk, Jl, Jm, Jn, Jp, Jq, Jr, Js, Jt, Ju, Jv, Jw, Jx, Jy, true_and, and_true, JJ, opds, updD, ln, Nat.reduceLT, Nat.reduceLeDiff, Nat.reduceEqDiff, Nat.reduceAdd, Nat.reduceMul, ↓reduceIte, if_true, if_false, Bool.false_eq_true, beq_self_eq_true, Bool.not_true, Bool.not_false, reduceCtorEq, decide_true, decide_false, Nat.add_zero, Nat.zero_add, F3u13]
    refine q_seq (q_reg ?_)
    simp (disch := omega) only [JJ, opds, updD, ln, Nat.reduceLT, Nat.reduceLeDiff, Nat.reduceEqDiff, Nat.reduceAdd, Nat.reduceMul, ↓reduceIte, if_true, if_false, Bool.false_eq_true, beq_self_eq_true, Bool.not_true, Bool.not_false, reduceCtorEq, decide_true, decide_false, Nat.add_zero, Nat.zero_add, F3u7, b_neq, ne_eq, not_true_eq_false, s1, s2, b_str_neq]
    refine q_cond (q := false) (by simp (disch := omega) only [JJ, opds, updD, ln, Nat.reduceLT, Nat.reduceLeDiff, Nat.reduceEqDiff, Nat.reduceAdd, Nat.reduceMul, ↓reduceIte, if_true, if_false, Bool.false_eq_true, beq_self_eq_true, Bool.not_true, Bool.not_false, reduceCtorEq, decide_true, decide_false, Nat.add_zero, Nat.zero_add]) (fun h => by cases h) (fun _ => ?_)
    refine q_skip ?_
    refine q_reg ?_
    simp (disch := omega) only [JJ, opds, updD, ln, Nat.reduceLT, Nat.reduceLeDiff, Nat.reduceEqDiff, Nat.reduceAdd, Nat.reduceMul, ↓reduceIte, if_true, if_false, Bool.false_eq_true, beq_self_eq_true, Bool.not_true, Bool.not_false, reduceCtorEq, decide_true, decide_false, Nat.add_zero, Nat.zero_add, F3u9, e10, b_add_i64]
    exact ⟨2 - (i + 1), by omega, i + 1, by omega, rfl, by simp (disch := omega) only [JJ, opds, updD, ln, Nat.reduceLT, Nat.reduceLeDiff, Nat.reduceEqDiff, Nat.reduceAdd, Nat.reduceMul, ↓reduceIte, if_true, if_false, Bool.false_eq_true, beq_self_eq_true, Bool.not_true, Bool.not_false, reduceCtorEq, decide_true, decide_false, Nat.add_zero, Nat.zero_add], by simp (disch := omega) only [JJ, opds, updD, ln, Nat.reduceLT, Nat.reduceLeDiff, Nat.reduceEqDiff, Nat.reduceAdd, Nat.reduceMul, ↓reduceIte, if_true, if_false, Bool.false_eq_true, beq_self_eq_true, Bool.not_true, Bool.not_false, reduceCtorEq, decide_true, decide_false, Nat.add_zero, Nat.zero_add, e8], by simp (disch := omega) only [JJ, opds, updD, ln, Nat.reduceLT, Nat.reduceLeDiff, Nat.reduceEqDiff, Nat.reduceAdd, Nat.reduceMul, ↓reduceIte, if_true, if_false, Bool.false_eq_true, beq_self_eq_true, Bool.not_true, Bool.not_false, reduceCtorEq, decide_true, decide_false, Nat.add_zero, Nat.zero_add, e9], by simp (disch := omega) only [JJ, opds, updD, ln, Nat.reduceLT, Nat.reduceLeDiff, Nat.reduceEqDiff, Nat.reduceAdd, Nat.reduceMul, ↓reduceIte, if_true, if_false, Bool.false_eq_true, beq_self_eq_true, Bool.not_true, Bool.not_false, reduceCtorEq, decide_true, decide_false, Nat.add_zero, Nat.zero_add, e7], (x9.trans x10).trans x11⟩
  · refine q_exit ?_
    simp (disch := omega) only [JJ, opds, updD, ln, Nat.reduceLT, Nat.reduceLeDiff, Nat.reduceEqDiff, Nat.reduceAdd, Nat.reduceMul, ↓reduceIte, if_true, if_false, Bool.false_eq_true, beq_self_eq_true, Bool.not_true, Bool.not_false, reduceCtorEq, decide_true, decide_false, Nat.add_zero, Nat.zero_add]
    refine q_seq (q_reg ?_)
    simp (disch := omega) only [JJ, opds, updD, ln, Nat.reduceLT, Nat.reduceLeDiff, Nat.reduceEqDiff, Nat.reduceAdd, Nat.reduceMul, ↓reduceIte, if_true, if_false, Bool.false_eq_true, beq_self_eq_true, Bool.not_true, Bool.not_false, reduceCtorEq, decide_true, decide_false, Nat.add_zero, Nat.zero_add, F3u10, e7]
    refine q_ret (wpRes_tmp (by decide) ?_)
    simp (disch := omega) only [JJ, opds, updD, ln, Nat.reduceLT, Nat.reduceLeDiff, Nat.reduceEqDiff, Nat.reduceAdd, Nat.reduceMul, ↓reduceIte, if_true, if_false, Bool.false_eq_true, beq_self_eq_true, Bool.not_true, Bool.not_false, reduceCtorEq, decide_true, decide_false, Nat.add_zero, Nat.zero_add]
    exact ⟨trivial, xx.trans x9⟩
end
end Go.Proofs.YtfaeabhbeolpgaaGreatDoor
end
