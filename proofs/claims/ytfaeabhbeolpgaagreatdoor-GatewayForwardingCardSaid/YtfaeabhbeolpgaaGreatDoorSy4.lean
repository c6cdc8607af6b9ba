/- Bytes that are appended one by one. Conditions: none. -/
import Derived.Test.YtfaeabhbeolpgaaGreatDoorSy3
set_option linter.all false
noncomputable section
namespace Go.Am
open Go

def Out (h : Hp) (P : Nat → Prop) (v : AVal) (bs : List Nat) : Prop :=
  (v = .nils ∧ bs = []) ∨ (∃ g t z, v = .sl g 0 0 (some 0) ∧ P g ∧ g < h.next ∧ h.m.get g = some (.cells t z 1 0 true) ∧ bs = []) ∨
  (∃ g t z, v = .sl g 0 bs.length none ∧ P g ∧ g < h.next ∧ h.m.get g = some (.cells t z 1 bs.length true) ∧ 0 < bs.length ∧ ∀ i b, bs[i]? = some b → elemAt t z i = [.int .u8 (b : Nat)])
theorem Out.frame {h h' : Hp} {P : Nat → Prop} {v : AVal} {bs : List Nat} (x : Out h P v bs) (hn : h.next ≤ h'.next) (hg : ∀ g, P g → g < h.next → h'.m.get g = h.m.get g) : Out h' P v bs := by
  rcases x with x | ⟨g, t, z, h1, h2, h3, h4, h5⟩ | ⟨g, t, z, h1, h2, h3, h4, h5⟩
  · exact .inl x
  · exact .inr (.inl ⟨g, t, z, h1, h2, by omega, by rw [hg g h2 h3]; exact h4, h5⟩)
  · exact .inr (.inr ⟨g, t, z, h1, h2, by omega, by rw [hg g h2 h3]; exact h4, h5⟩)
theorem Out.ext {h h' : Hp} {P : Nat → Prop} {v : AVal} {bs : List Nat} (x : Out h P v bs) (e : Ext h h') : Out h' P v bs := x.frame e.1 fun g _ hg => e.2 g hg
theorem Out.imp {h : Hp} {P P' : Nat → Prop} {v : AVal} {bs : List Nat} (x : Out h P v bs) (i : ∀ g, P g → P' g) : Out h P' v bs := by
  rcases x with x | ⟨g, t, z, h1, h2, h3⟩ | ⟨g, t, z, h1, h2, h3⟩
  · exact .inl x
  · exact .inr (.inl ⟨g, t, z, h1, i g h2, h3⟩)
  · exact .inr (.inr ⟨g, t, z, h1, i g h2, h3⟩)
theorem Out.len {h : Hp} {P : Nat → Prop} {v : AVal} {bs : List Nat} (x : Out h P v bs) (h' : Hp) : lenV v h' = some (.val (.int .i64 (bs.length : Int)) h') := by
  rcases x with ⟨rfl, rfl⟩ | ⟨g, t, z, rfl, h2, h3, h4, rfl⟩ | ⟨g, t, z, rfl, h2⟩ <;> rfl
theorem Out.one {h : Hp} {P : Nat → Prop} {v : AVal} {bs : List Nat} (x : Out h P v bs) : Am.one v = true := by
  rcases x with ⟨rfl, rfl⟩ | ⟨g, t, z, rfl, h2⟩ | ⟨g, t, z, rfl, h2⟩ <;> rfl
theorem Out.veq {h : Hp} {P : Nat → Prop} {v : AVal} {bs : List Nat} (x : Out h P v bs) : Am.veq v v = true := by
  rcases x with ⟨rfl, rfl⟩ | ⟨g, t, z, rfl, h2⟩ | ⟨g, t, z, rfl, h2⟩ <;> simp [Am.veq]
/-- A new slice of one byte. -/
def oneB (h : Hp) (b : Nat) : Hp := h.new (.cells ((Tree.leaf : Tree (List AVal)).put 0 (some [.int .u8 (b : Int)])) [.int .u8 ((0 : Nat) : Int)] 1 1 true)
theorem oneB_next (h : Hp) (b : Nat) : (oneB h b).next = h.next + 1 := (rfl)
theorem Ext.oneB (h : Hp) (b : Nat) : Ext h (oneB h b) := Ext.new _ _
theorem rdS_oneB {h h' : Hp} {b : Nat} {c : Option Nat} (e : h'.m.get h.next = (Go.Am.oneB h b).m.get h.next) : rdS h' 1 (.sl h.next 0 1 c) = some (1, [.int .u8 (b : Int)]) := by
  have e2 : (Go.Am.oneB h b).m.get h.next = some (.cells ((Tree.leaf : Tree (List AVal)).put 0 (some [.int .u8 (b : Int)])) [.int .u8 ((0 : Nat) : Int)] 1 1 true) := by simp only [Go.Am.oneB, Hp.new, Tree.get_put_same]
  rw [e2] at e
  simp only [rdS, e, rd, nble, nbeq, Nat.mul_one, Nat.zero_add, Nat.le_refl, decide_true, Nat.zero_mod, Bool.and_self, if_true, Nat.zero_div, elemAt, Tree.get_put_same]
def fill1 (v : AVal) : Option (Tree (List AVal)) := if Nat.beq (ln (cellsOf v)) 1 && Nat.blt 0 1 then some ((Tree.leaf : Tree (List AVal)).put 0 (some (cellsOf v))) else none
theorem fillS_one {tm : List AVal} {x : AOpd} : fillS tm 1 1 [(0, x)] .leaf = fill1 (opd tm x) := by
  simp only [fillS, fill1]
theorem fill1uint {b : Nat} : fill1 (.int .u8 (b : Int)) = some ((Tree.leaf : Tree (List AVal)).put 0 (some [.int .u8 (b : Int)])) := by
  simp only [fill1, cellsOf, ln, nbeq, nblt]; rfl

/-- One byte more. -/
theorem Out.app {h : Hp} {P : Nat → Prop} {v : AVal} {bs : List Nat} (x : Out h P v bs) {y : AVal} {b : Nat} (hy : rdS h 1 y = some (1, [.int .u8 (b : Int)])) (hb : bs.length < 2 ^ 30) (hP : P h.next) :
    ∃ v' h', appV h 1 1 v y = some (.val v' h') ∧ Out h' P v' (bs ++ [b]) ∧ h'.next = h.next + 1 ∧ ∀ g, g < h.next → ¬ P g → h'.m.get g = h.m.get g := by
  have key : ∀ (t : Tree (List AVal)) (z : List AVal) (n : Nat), elemAt (chunks 1 1 [.int .u8 (b : Int)] n t) z n = [.int .u8 (b : Int)] ∧ ∀ i, i ≠ n → elemAt (chunks 1 1 [.int .u8 (b : Int)] n t) z i = elemAt t z i := by
    intro t z n
    simp only [chunks, takeN]
    exact ⟨by rw [elemAt_put, if_pos rfl], fun i hi => by rw [elemAt_put, if_neg hi]⟩
  rcases x with ⟨rfl, rfl⟩ | ⟨g, t, z, rfl, h2, h3, h4, rfl⟩ | ⟨g, t, z, rfl, h2, h3, h4, h5, h6⟩
  · refine ⟨.sl h.next 0 1 none, h.new (.cells (chunks 1 1 [.int .u8 (b : Int)] 0 .leaf) (takeN 1 [.int .u8 (b : Int)]) 1 1 true), ?_, .inr (.inr ⟨h.next, chunks 1 1 [.int .u8 (b : Int)] 0 .leaf, takeN 1 [.int .u8 (b : Int)], rfl, hP, Nat.lt_succ_self _, by simp only [Hp.new, Tree.get_put_same]; rfl, by simp, ?_⟩), rfl, ?_⟩
    · simp only [appV, hy, ones, Am.one, Bool.and_self, if_true, nbeq, nble]
      rfl
    · intro i c hc
      rcases i with _ | i
      · simp at hc; subst hc; exact (key _ _ 0).1
      · simp at hc
    · intro k hk _
      simp only [Hp.new, Tree.get_put]; rw [if_neg (by omega)]
  · refine ⟨.sl h.next 0 (0 + 1) none, h.new (.cells (chunks 1 1 [.int .u8 (b : Int)] 0 (chunks 1 0 [] 0 .leaf)) (takeN 1 [.int .u8 (b : Int)]) 1 (0 + 1) true), ?_, .inr (.inr ⟨h.next, chunks 1 1 [.int .u8 (b : Int)] 0 (chunks 1 0 [] 0 .leaf), takeN 1 [.int .u8 (b : Int)], rfl, hP, Nat.lt_succ_self _, by simp only [Hp.new, Tree.get_put_same]; rfl, by simp, ?_⟩), rfl, ?_⟩
    · simp only [appV, hy, ones, Am.one, Bool.and_self, if_true, nbeq, nble, h4, rd, Nat.mul_one, Nat.add_zero, Nat.le_refl, decide_true, readFrom]
      rfl
    · intro i c hc
      rcases i with _ | i
      · simp at hc; subst hc; exact (key _ _ 0).1
      · simp at hc
    · intro k hk _
      simp only [Hp.new, Tree.get_put]; rw [if_neg (by omega)]
  · have hlen : (bs ++ [b]).length = bs.length + 1 := by simp
    refine ⟨.sl h.next 0 (bs.length + 1) none, (h.del g).new (.cells (chunks 1 1 [.int .u8 (b : Int)] bs.length t) z 1 (bs.length + 1) true), ?_, .inr (.inr ⟨h.next, chunks 1 1 [.int .u8 (b : Int)] bs.length t, z, by rw [hlen], hP, Nat.lt_succ_self _, ?_, by simp, ?_⟩), rfl, ?_⟩
    · have hbig : (4 * (bs.length + 1) + 2000) * (1 + 1) ≤ 100000000000 := by omega
      simp only [appV, hy, ones, Am.one, Bool.and_self, if_true, nbeq, nble, h4, decide_eq_true hbig, Nat.mul_one, Nat.zero_add, decide_true]
      rfl
    · simp only [Hp.new, Hp.del, Tree.get_put_same, hlen]
    · intro i c hc
      rw [List.getElem?_append] at hc
      split at hc
      · next hi => rw [(key _ _ _).2 i (by omega)]; exact h6 i c hc
      · next hi =>
        have : i = bs.length := by
          rcases Nat.lt_or_ge i (bs.length + 1) with h | h
          · omega
          · rw [List.getElem?_eq_none (by simp; omega)] at hc; cases hc
        subst this
        simp at hc; subst hc; exact (key _ _ _).1
    · intro k hk hnP
      simp only [Hp.new, Hp.del, Tree.get_put]
      rw [if_neg (by omega), if_neg (fun e => hnP (by rw [e]; exact h2))]
end Go.Am
namespace Go.Am
def empB (h : Hp) : Hp := h.new (.cells .leaf [.int .u8 ((0 : Nat) : Int)] 1 0 true)
theorem empB_next (h : Hp) : (empB h).next = h.next + 1 := (rfl)
theorem Ext.empB (h : Hp) : Ext h (empB h) := Ext.new _ _
theorem empB_fold (h : Hp) : h.new (.cells .leaf [.int .u8 ((0 : Nat) : Int)] 1 0 true) = empB h := (rfl)
theorem oneB_fold (h : Hp) (b : Nat) : h.new (.cells ((Tree.leaf : Tree (List AVal)).put 0 (some [.int .u8 (b : Int)])) [.int .u8 ((0 : Nat) : Int)] 1 1 true) = oneB h b := (rfl)
theorem Out.emp {h : Hp} {P : Nat → Prop} (hP : P h.next) : Out (empB h) P (.sl h.next 0 0 (some 0)) [] :=
  .inr (.inl ⟨h.next, .leaf, [.int .u8 ((0 : Nat) : Int)], rfl, hP, Nat.lt_succ_self _, by simp only [Go.Am.empB, Hp.new, Tree.get_put_same], rfl⟩)
/-- Another byte, out of a new slice of one. -/
theorem Out.app1 {h : Hp} {P : Nat → Prop} {v : AVal} {bs : List Nat} (x : Out h P v bs) {b : Nat} (hb : bs.length < 2 ^ 30) (hP : P (h.next + 1)) {c : Option Nat} :
    ∃ v' h', appV (oneB h b) 1 1 v (.sl h.next 0 1 c) = some (.val v' h') ∧ Out h' P v' (bs ++ [b]) ∧ h'.next = h.next + 1 + 1 ∧ ∀ g, g < h.next → ¬ P g → h'.m.get g = h.m.get g := by
  obtain ⟨v', h', g1, g2, g3, g4⟩ := (x.ext (Ext.oneB h b)).app (y := .sl h.next 0 1 c) (b := b) (rdS_oneB rfl) hb hP
  refine ⟨v', h', g1, g2, g3, fun g hg hn => ?_⟩
  rw [g4 g (by rw [oneB_next]; omega) hn, (Ext.oneB h b).2 g hg]
end Go.Am
namespace Go.Am
theorem Ext.bump (h : Hp) (k : Nat) : Ext h (bump h k) := ⟨Nat.le_add_right _ _, fun _ _ => rfl⟩
theorem mk_set (h : Hp) (g : Nat) (ob : Obj) : (⟨h.m.put g (some ob), h.next⟩ : Hp) = h.set g ob := (rfl)
theorem Lob.setL {h : Hp} {k n : Nat} {l : List AVal} (hk : k < h.next) (hl : l.length = n) (h0 : 0 < n) : Lob (h.set k (.cells .leaf l n 1 true)) k l :=
  ⟨hk, by omega, .leaf, l, by simp only [Hp.set, Tree.get_put_same, hl], rfl⟩
theorem blit_eq (l : List AVal) (o : Nat) (vs : List AVal) : blit l o vs = cat (takeN o l) (cat vs (dropN (o + ln vs) l)) := (rfl)
end Go.Am
namespace Go.Am
theorem Out.lt {h : Hp} {P : Nat → Prop} {v : AVal} {bs : List Nat} (x : Out h P v bs) : Out h (fun k => P k ∧ k < h.next) v bs := by
  rcases x with x | ⟨g, t, z, h1, h2, h3, h4⟩ | ⟨g, t, z, h1, h2, h3, h4⟩
  · exact .inl x
  · exact .inr (.inl ⟨g, t, z, h1, ⟨h2, h3⟩, h3, h4⟩)
  · exact .inr (.inr ⟨g, t, z, h1, ⟨h2, h3⟩, h3, h4⟩)
end Go.Am

/- Elements of any kind that are appended one by one; arrays. Conditions: none. -/
namespace Go.Am
open Go

def OutG (h : Hp) (P : Nat → Prop) (k : Nat) (v : AVal) (es : List (List AVal)) : Prop :=
  (v = .nils ∧ es = []) ∨ (∃ g t z, v = .sl g 0 0 (some 0) ∧ P g ∧ g < h.next ∧ h.m.get g = some (.cells t z k 0 true) ∧ es = []) ∨
  (∃ g t z, v = .sl g 0 es.length none ∧ P g ∧ g < h.next ∧ h.m.get g = some (.cells t z k es.length true) ∧ 0 < es.length ∧ ∀ i e, es[i]? = some e → elemAt t z i = e ∧ e.length = k)
section
variable {h h' : Hp} {P P' : Nat → Prop} {k : Nat} {v : AVal} {es : List (List AVal)}
theorem OutG.frame (x : OutG h P k v es) (hn : h.next ≤ h'.next) (hg : ∀ g, P g → g < h.next → h'.m.get g = h.m.get g) : OutG h' P k v es := by
  rcases x with x | ⟨g, t, z, h1, h2, h3, h4, h5⟩ | ⟨g, t, z, h1, h2, h3, h4, h5⟩
  · exact .inl x
  · exact .inr (.inl ⟨g, t, z, h1, h2, by omega, by rw [hg g h2 h3]; exact h4, h5⟩)
  · exact .inr (.inr ⟨g, t, z, h1, h2, by omega, by rw [hg g h2 h3]; exact h4, h5⟩)
theorem OutG.ext (x : OutG h P k v es) (e : Ext h h') : OutG h' P k v es := x.frame e.1 fun g _ hg => e.2 g hg
theorem OutG.imp (x : OutG h P k v es) (i : ∀ g, P g → P' g) : OutG h P' k v es := by
  rcases x with x | ⟨g, t, z, h1, h2, h3⟩ | ⟨g, t, z, h1, h2, h3⟩
  · exact .inl x
  · exact .inr (.inl ⟨g, t, z, h1, i g h2, h3⟩)
  · exact .inr (.inr ⟨g, t, z, h1, i g h2, h3⟩)
theorem OutG.lt (x : OutG h P k v es) : OutG h (fun g => P g ∧ g < h.next) k v es := by
  rcases x with x | ⟨g, t, z, h1, h2, h3, h4⟩ | ⟨g, t, z, h1, h2, h3, h4⟩
  · exact .inl x
  · exact .inr (.inl ⟨g, t, z, h1, ⟨h2, h3⟩, h3, h4⟩)
  · exact .inr (.inr ⟨g, t, z, h1, ⟨h2, h3⟩, h3, h4⟩)
theorem OutG.one (x : OutG h P k v es) : Am.one v = true := by
  rcases x with ⟨rfl, rfl⟩ | ⟨g, t, z, rfl, h2⟩ | ⟨g, t, z, rfl, h2⟩ <;> rfl
theorem OutG.veq (x : OutG h P k v es) : Am.veq v v = true := by
  rcases x with ⟨rfl, rfl⟩ | ⟨g, t, z, rfl, h2⟩ | ⟨g, t, z, rfl, h2⟩ <;> simp [Am.veq]
/-- One element more. -/
theorem OutG.app (x : OutG h P k v es) (hk : 0 < k) {y : AVal} {e : List AVal} (hy : rdS h k y = some (1, e)) (he : e.length = k) (ho : ones e = true) {by_ : Nat} (hb : (4 * (es.length + 1) + 2000) * (by_ + 1) ≤ 100000000000) :
    ∃ v' h', appV h k by_ v y = some (.val v' h') ∧ OutG h' (· = h.next) k v' (es ++ [e]) ∧ h'.next = h.next + 1 ∧ ∀ g, g < h.next → ¬ P g → h'.m.get g = h.m.get g := by
  have key : ∀ (t : Tree (List AVal)) (z : List AVal) (n : Nat), elemAt (chunks k 1 e n t) z n = e ∧ ∀ i, i ≠ n → elemAt (chunks k 1 e n t) z i = elemAt t z i := by
    intro t z n
    have hte : takeN k e = e := by rw [takeN_eq, ← he, List.take_length]
    simp only [chunks, hte]
    exact ⟨by rw [elemAt_put, if_pos rfl], fun i hi => by rw [elemAt_put, if_neg hi]⟩
  have hone : ∀ (t : Tree (List AVal)) (z : List AVal), ∀ (i : Nat) (c : List AVal), [e][i]? = some c → elemAt (chunks k 1 e 0 t) z i = c ∧ c.length = k := by
    intro t z i c hc
    rcases i with _ | i
    · simp at hc; subst hc; exact ⟨(key _ _ 0).1, he⟩
    · simp at hc
  rcases x with ⟨rfl, rfl⟩ | ⟨g, t, z, rfl, h2, h3, h4, rfl⟩ | ⟨g, t, z, rfl, h2, h3, h4, h5, h6⟩
  · refine ⟨.sl h.next 0 1 none, h.new (.cells (chunks k 1 e 0 .leaf) (takeN k e) k 1 true), ?_, .inr (.inr ⟨h.next, chunks k 1 e 0 .leaf, takeN k e, rfl, rfl, Nat.lt_succ_self _, by simp only [Hp.new, Tree.get_put_same]; rfl, by simp, hone _ _⟩), rfl, ?_⟩
    · have hb' : (4 * 1 + 2000) * (by_ + 1) ≤ 100000000000 := by simpa using hb
      simp only [appV, hy, ho, if_true, nbeq, nble, decide_eq_true hb']
      rfl
    · intro c hc _
      simp only [Hp.new, Tree.get_put]; rw [if_neg (by omega)]
  · refine ⟨.sl h.next 0 (0 + 1) none, h.new (.cells (chunks k 1 e 0 (chunks k 0 [] 0 .leaf)) (takeN k e) k (0 + 1) true), ?_, .inr (.inr ⟨h.next, chunks k 1 e 0 (chunks k 0 [] 0 .leaf), takeN k e, rfl, rfl, Nat.lt_succ_self _, by simp only [Hp.new, Tree.get_put_same]; rfl, by simp, hone _ _⟩), rfl, ?_⟩
    · have hb' : (4 * (0 + 1) + 2000) * (by_ + 1) ≤ 100000000000 := by simpa using hb
      have hk0 : ¬ (0 = k) := by omega
      simp only [appV, hy, ho, if_true, nbeq, nble, h4, rd, Nat.zero_mul, Nat.add_zero, Nat.le_refl, decide_true, decide_eq_false hk0, Bool.false_and, Bool.false_eq_true, if_false, readFrom, decide_eq_true hb']
      rfl
    · intro c hc _
      simp only [Hp.new, Tree.get_put]; rw [if_neg (by omega)]
  · have hlen : (es ++ [e]).length = es.length + 1 := by simp
    refine ⟨.sl h.next 0 (es.length + 1) none, (h.del g).new (.cells (chunks k 1 e es.length t) z k (es.length + 1) true), ?_, .inr (.inr ⟨h.next, chunks k 1 e es.length t, z, by rw [hlen], rfl, Nat.lt_succ_self _, ?_, by simp, ?_⟩), rfl, ?_⟩
    · simp only [appV, hy, ho, if_true, nbeq, nble, h4, decide_eq_true hb, Nat.zero_add, decide_true]
      rfl
    · simp only [Hp.new, Hp.del, Tree.get_put_same, hlen]
    · intro i c hc
      rw [List.getElem?_append] at hc
      split at hc
      · next hi => rw [(key _ _ _).2 i (by omega)]; exact h6 i c hc
      · next hi =>
        have : i = es.length := by
          rcases Nat.lt_or_ge i (es.length + 1) with h | h
          · omega
          · rw [List.getElem?_eq_none (by simp; omega)] at hc; cases hc
        subst this
        simp at hc; subst hc; exact ⟨(key _ _ _).1, he⟩
    · intro c hc hnP
      simp only [Hp.new, Hp.del, Tree.get_put]
      rw [if_neg (by omega), if_neg (fun e => hnP (by rw [e]; exact h2))]
/-- What has been appended, read as a slice. -/
theorem OutG.sl (x : OutG h P k v es) (hk : 0 < k) {f : Nat → List AVal} (hf : ∀ i e, es[i]? = some e → f i = e) : SlN h k v es.length f := by
  rcases x with ⟨rfl, rfl⟩ | ⟨g, t, z, rfl, h2, h3, h4, rfl⟩ | ⟨g, t, z, rfl, h2, h3, h4, h5, h6⟩
  · exact .inl ⟨rfl, rfl⟩
  · exact .inr ⟨g, 0, some 0, t, z, 0, true, by simp, h3, hk, h4, by simp, fun i hi => by simp at hi⟩
  · refine .inr ⟨g, 0, none, t, z, es.length, true, by simp, h3, hk, h4, by simp, fun i hi => ?_⟩
    have hi' : es[i]? = some es[i] := List.getElem?_eq_getElem hi
    obtain ⟨q1, q2⟩ := h6 i _ hi'
    rw [Nat.zero_add, q1, hf i _ hi']
    exact ⟨rfl, q2⟩
end

/-- A new slice of one element. -/
def oneG (h : Hp) (k : Nat) (z e : List AVal) : Hp := h.new (.cells ((Tree.leaf : Tree (List AVal)).put 0 (some e)) z k 1 true)
theorem oneG_next (h : Hp) (k : Nat) (z e : List AVal) : (oneG h k z e).next = h.next + 1 := (rfl)
theorem Ext.oneG (h : Hp) (k : Nat) (z e : List AVal) : Ext h (oneG h k z e) := Ext.new _ _
theorem rdS_oneG {h' : Hp} {k : Nat} {z e : List AVal} {g : Nat} {c : Option Nat} (hg : h'.m.get g = some (.cells ((Tree.leaf : Tree (List AVal)).put 0 (some e)) z k 1 true)) : rdS h' k (.sl g 0 1 c) = some (1, e) := by
  simp only [rdS, hg, rd, nble, nbeq, Nat.one_mul, Nat.zero_add, Nat.le_refl, decide_true, Nat.zero_mod, Bool.and_self, if_true, Nat.zero_div, elemAt, Tree.get_put_same]
theorem oneG_get (h : Hp) (k : Nat) (z e : List AVal) : (oneG h k z e).m.get h.next = some (.cells ((Tree.leaf : Tree (List AVal)).put 0 (some e)) z k 1 true) := by simp only [Go.Am.oneG, Hp.new, Tree.get_put_same]
theorem oneG_fold (h : Hp) (k : Nat) (z e : List AVal) : h.new (.cells ((Tree.leaf : Tree (List AVal)).put 0 (some e)) z k 1 true) = oneG h k z e := (rfl)
def fillG (k : Nat) (v : AVal) : Option (Tree (List AVal)) := if Nat.beq (ln (cellsOf v)) k && Nat.blt 0 1 then some ((Tree.leaf : Tree (List AVal)).put 0 (some (cellsOf v))) else none
theorem fillS_G {tm : List AVal} {k : Nat} {x : AOpd} : fillS tm k 1 [(0, x)] .leaf = fillG k (opd tm x) := by
  simp only [fillS, fillG]
theorem fillG_some {k : Nat} {v : AVal} {e : List AVal} (hc : cellsOf v = e) (he : ln e = k) : fillG k v = some ((Tree.leaf : Tree (List AVal)).put 0 (some e)) := by
  simp only [fillG, hc, he, nbeq, nblt]; rfl
theorem OutG.app1 {h : Hp} {P : Nat → Prop} {k : Nat} {v : AVal} {es : List (List AVal)} (x : OutG h P k v es) (hk : 0 < k) {z e : List AVal} (he : e.length = k) (ho : ones e = true) {by_ : Nat} (hb : (4 * (es.length + 1) + 2000) * (by_ + 1) ≤ 100000000000) {c : Option Nat} :
    ∃ v' h', appV (oneG h k z e) k by_ v (.sl h.next 0 1 c) = some (.val v' h') ∧ OutG h' (· = h.next + 1) k v' (es ++ [e]) ∧ h'.next = h.next + 1 + 1 ∧ ∀ g, g < h.next → ¬ P g → h'.m.get g = h.m.get g := by
  obtain ⟨v', h', g1, g2, g3, g4⟩ := (x.ext (Ext.oneG h k z e)).app hk (y := .sl h.next 0 1 c) (rdS_oneG (oneG_get h k z e)) he ho hb
  refine ⟨v', h', g1, g2, g3, fun g hg hn => ?_⟩
  rw [g4 g (by rw [oneG_next]; omega) hn, (Ext.oneG h k z e).2 g hg]

/-! ### Arrays of several elements -/
def Arr (h : Hp) (g k n : Nat) (f : Nat → List AVal) : Prop := g < h.next ∧ 1 < k ∧ ∃ t z, h.m.get g = some (.cells t z k n true) ∧ ∀ i, i < n → elemAt t z i = f i ∧ (f i).length = k
theorem Arr.ld {h : Hp} {g k n : Nat} {f : Nat → List AVal} (x : Arr h g k n f) {i j : Nat} (hi : i < n) (hj : j < k) : gld1 h g (i * k + j) = nth (f i) j := by
  obtain ⟨_, hk, t, z, h1, h2⟩ := x
  have e1 : (i * k + j) / k = i := by rw [Nat.mul_comm, Nat.mul_add_div (by omega), Nat.div_eq_of_lt hj, Nat.add_zero]
  have e2 : (i * k + j) % k = j := by rw [Nat.mul_comm, Nat.mul_add_mod, Nat.mod_eq_of_lt hj]
  have e3 : i * k + j < n * k := by
    have : (i + 1) * k ≤ n * k := Nat.mul_le_mul_right k (by omega)
    rw [Nat.add_mul, Nat.one_mul] at this; omega
  simp only [gld1, h1, rd1, nblt, decide_eq_true e3, if_true, cellAt', e1, e2, (h2 i hi).1]
theorem Arr.st {h : Hp} {g k n : Nat} {f : Nat → List AVal} (x : Arr h g k n f) {i j : Nat} (hi : i < n) (hj : j < k) {v : AVal} (hv : Am.one v = true) :
    ∃ ob, gst h g (i * k + j) [v] = some (h.set g ob) ∧ Arr (h.set g ob) g k n (fun c => if c = i then setN (f i) j v else f c) := by
  obtain ⟨h0, hk, t, z, h1, h2⟩ := x
  have e1 : (i * k + j) / k = i := by rw [Nat.mul_comm, Nat.mul_add_div (by omega), Nat.div_eq_of_lt hj, Nat.add_zero]
  have e2 : (i * k + j) % k = j := by rw [Nat.mul_comm, Nat.mul_add_mod, Nat.mod_eq_of_lt hj]
  have e3 : i * k + j + 1 ≤ n * k := by
    have : (i + 1) * k ≤ n * k := Nat.mul_le_mul_right k (by omega)
    rw [Nat.add_mul, Nat.one_mul] at this; omega
  have e4 : ¬ (1 = k) := by omega
  refine ⟨.cells (t.put i (some (setN (f i) j v))) z k n true, ?_, h0, hk, _, z, by simp only [Hp.set, Tree.get_put_same]; rfl, fun c hc => ?_⟩
  · simp only [gst, h1, wr, ln, Nat.zero_add, nble, nbeq, decide_eq_true e3, ones, hv, Bool.and_self, if_true, decide_eq_false e4, Bool.false_and, Bool.false_eq_true, if_false, writeFrom, e1, e2, (h2 i hi).1]
  · rw [elemAt_put]
    by_cases hci : c = i
    · subst hci; simp only [if_true]; exact ⟨trivial, by rw [setN_eq, List.length_set]; exact (h2 c hi).2⟩
    · simp only [if_neg hci]; exact h2 c hc
theorem Arr.sl {h : Hp} {g k n : Nat} {f : Nat → List AVal} (x : Arr h g k n f) {c : Option Nat} : SlN h k (.sl g 0 n c) n f := by
  obtain ⟨h0, hk, t, z, h1, h2⟩ := x
  exact .inr ⟨g, 0, c, t, z, n, true, by simp, h0, by omega, h1, by simp, fun i hi => by rw [Nat.zero_add]; exact h2 i hi⟩
end Go.Am
namespace Go.Am
def SlP (h : Hp) (P : Nat → Prop) (k : Nat) (v : AVal) (n : Nat) (f : Nat → List AVal) : Prop :=
  (v = .nils ∧ n = 0) ∨ ∃ g e c t z N ow, P g ∧ v = .sl g (e * k) n c ∧ g < h.next ∧ 0 < k ∧ h.m.get g = some (.cells t z k N ow) ∧ e + n ≤ N ∧ ∀ i, i < n → elemAt t z (e + i) = f i ∧ (f i).length = k
section
variable {h h' : Hp} {P P' : Nat → Prop} {k n : Nat} {v : AVal} {f : Nat → List AVal}
theorem SlP.frame (x : SlP h P k v n f) (hn : h.next ≤ h'.next) (hg : ∀ g, P g → g < h.next → h'.m.get g = h.m.get g) : SlP h' P k v n f := by
  rcases x with x | ⟨g, e, c, t, z, N, ow, h0, h1, h2, h3, h4, h5⟩
  · exact .inl x
  · exact .inr ⟨g, e, c, t, z, N, ow, h0, h1, by omega, h3, by rw [hg g h0 h2]; exact h4, h5⟩
theorem SlP.imp (x : SlP h P k v n f) (i : ∀ g, P g → P' g) : SlP h P' k v n f := by
  rcases x with x | ⟨g, e, c, t, z, N, ow, h0, h1⟩
  · exact .inl x
  · exact .inr ⟨g, e, c, t, z, N, ow, i g h0, h1⟩
theorem SlP.lt (x : SlP h P k v n f) : SlP h (fun g => P g ∧ g < h.next) k v n f := by
  rcases x with x | ⟨g, e, c, t, z, N, ow, h0, h1, h2, h3⟩
  · exact .inl x
  · exact .inr ⟨g, e, c, t, z, N, ow, ⟨h0, h2⟩, h1, h2, h3⟩
theorem SlP.sl (x : SlP h P k v n f) : SlN h k v n f := by
  rcases x with x | ⟨g, e, c, t, z, N, ow, h0, h1⟩
  · exact .inl x
  · exact .inr ⟨g, e, c, t, z, N, ow, h1⟩
theorem OutG.slP {es : List (List AVal)} (x : OutG h P k v es) (hk : 0 < k) (hf : ∀ i e, es[i]? = some e → f i = e) : SlP h P k v es.length f := by
  rcases x with ⟨rfl, rfl⟩ | ⟨g, t, z, rfl, h2, h3, h4, rfl⟩ | ⟨g, t, z, rfl, h2, h3, h4, h5, h6⟩
  · exact .inl ⟨rfl, rfl⟩
  · exact .inr ⟨g, 0, some 0, t, z, 0, true, h2, by simp, h3, hk, h4, by simp, fun i hi => by simp at hi⟩
  · refine .inr ⟨g, 0, none, t, z, es.length, true, h2, by simp, h3, hk, h4, by simp, fun i hi => ?_⟩
    have hi' : es[i]? = some es[i] := List.getElem?_eq_getElem hi
    obtain ⟨q1, q2⟩ := h6 i _ hi'
    rw [Nat.zero_add, q1, hf i _ hi']
    exact ⟨rfl, q2⟩
end
end Go.Am
namespace Go.Am
theorem Arr.slP {h : Hp} {g k n : Nat} {f : Nat → List AVal} (x : Arr h g k n f) {P : Nat → Prop} (hp : P g) {c : Option Nat} : SlP h P k (.sl g 0 n c) n f := by
  obtain ⟨h0, hk, t, z, h1, h2⟩ := x
  exact .inr ⟨g, 0, c, t, z, n, true, hp, by simp, h0, by omega, h1, by simp, fun i hi => by rw [Nat.zero_add]; exact h2 i hi⟩
end Go.Am
end
