/- Each operation of the abstract machine on values; local objects; slices that are read; bytes that are appended. Conditions: none. -/
import Derived.Test.YtfaeabhbeolpgaaGreatDoorSy1
set_option linter.all false
noncomputable section
namespace Go.Am
open Go

/-! ### Operations on values -/
def newL (h : Hp) (l : List AVal) : Hp := h.new (.cells .leaf l (ln l) 1 true)
def gld1 (h : Hp) (g o : Nat) : Option AVal := match h.m.get g with
  | some ob => rd1 ob o
  | none => none
def gldN (h : Hp) (g o m : Nat) : Option (List AVal) := match h.m.get g with
  | some ob => rd ob o m
  | none => none
def gst (h : Hp) (g o : Nat) (l : List AVal) : Option Hp := match h.m.get g with
  | some ob => (match wr ob o l with
    | some ob' => some (h.set g ob')
    | none => none)
  | none => none
def vagg (h : Hp) : Option (List AVal) → Option ARes
  | some l => some (.val (.agg l) h)
  | none => none
def vst : Option Hp → Option ARes
  | some h => some (.val und h)
  | none => none
def pickV : AVal → AVal → AVal → Hp → Option ARes
  | .bool true, a, _, h => some (.val a h)
  | .bool false, _, b, h => some (.val b h)
  | _, _, _, _ => none
def load1V : AVal → Hp → Option ARes
  | .ptr g o, h => vl h (gld1 h g o)
  | _, _ => none
def loadNV (m : Nat) : AVal → Hp → Option ARes
  | .ptr g o, h => vagg h (gldN h g o m)
  | _, _ => none
def storeV (m : Nat) : AVal → AVal → Hp → Option ARes
  | .ptr g o, x, h => if Nat.beq (ln (cellsOf x)) m then vst (gst h g o (cellsOf x)) else none
  | _, _, _ => none
def nilchkV (v : AVal) (h : Hp) : Option ARes := if isC v then some (.val v h) else none
def notV : AVal → Hp → Option ARes
  | .bool b, h => some (.val (.bool (!b)) h)
  | _, _ => none
def convIV (k : IntKind) : AVal → Hp → Option ARes
  | .int _ n, h => some (.val (.int k (wrapF k n)) h)
  | _, _ => none
def convBSV : AVal → Option (Nat × List AVal) → Hp → Option ARes
  | v, some (_, l), h => (match v, cellBytes l with
    | .str _, _ => none
    | _, some r => some (.val (.str r) h)
    | _, none => none)
  | _, none, _ => none
def faddrV (off : Nat) : AVal → Hp → Option ARes
  | .ptr g o, h => some (.val (.ptr g (o + off)) h)
  | _, _ => none
def iaddrSV (k : Nat) : AVal → Option Nat → Hp → Option ARes
  | .sl g o n _, some i, h => if Nat.blt i n then some (.val (.ptr g (o + i * k)) h) else none
  | _, _, _ => none
def iaddrAV (k n : Nat) : AVal → Option Nat → Hp → Option ARes
  | .ptr g o, some i, h => if Nat.blt i n then some (.val (.ptr g (o + i * k)) h) else none
  | _, _, _ => none
def idxAV (k n : Nat) (ag : Bool) : AVal → Option Nat → Hp → Option ARes
  | .agg l, some i, h => if Nat.blt i n then (if ag then some (.val (.agg (takeN k (dropN (i * k) l))) h) else vl h (nth l (i * k))) else none
  | _, _, _ => none
def extV (i : Nat) : AVal → Hp → Option ARes
  | .tup l, h => vl h (nth l i)
  | _, _ => none
def lenV : AVal → Hp → Option ARes
  | .nils, h => some (.val (.int .i64 ((0 : Nat) : Int)) h)
  | .sl _ _ n _, h => some (.val (.int .i64 (n : Int)) h)
  | _, _ => none
def dynV : AVal → List AVal → Option ARes
  | .fn (.func f) a c, args => some (.call f (cat a (cat args c)))
  | _, _ => none
def buildV : Option (List AVal) → Hp → Option ARes
  | some l, h => some (.val (.agg l) h)
  | none, _ => none
def bsliceV (z : List AVal) (k len : Nat) : Option (Tree (List AVal)) → Hp → Option ARes
  | some t, h => some (.val (.sl h.next 0 len (some len)) (h.new (.cells t z k len true)))
  | none, _ => none

section
variable {tm : List AVal} {h : Hp}
theorem JH {x : AOpd} : aop tm h (.mov x) = some (.val (opd tm x) h) := (rfl)
theorem JI {c a b : AOpd} : aop tm h (.pick c a b) = pickV (opd tm c) (opd tm a) (opd tm b) h := by
  unfold aop pickV; simp only []; cases opd tm c with
  | bool b => cases b <;> rfl
  | _ => rfl
theorem JK {z : List AVal} : aop tm h (.alloc z) = some (.val (.ptr h.next 0) (newL h z)) := (rfl)
theorem JL {x : AOpd} : aop tm h (.box x) = some (.val (.ptr h.next 0) (newL h (cellsOf (opd tm x)))) := (rfl)
theorem JM {z : List AVal} {ps : List (Nat × Nat × AOpd)} : aop tm h (.build z ps) = buildV (fillA tm ps z) h := by
  unfold aop buildV; simp only []; cases fillA tm ps z <;> rfl
theorem JN {z : List AVal} {k len : Nat} {ps : List (Nat × AOpd)} : aop tm h (.bslice z k len ps) = bsliceV z k len (fillS tm k len ps .leaf) h := by
  unfold aop bsliceV; simp only []; cases fillS tm k len ps .leaf <;> rfl
theorem JO {a : AOpd} : aop tm h (.load1 a) = load1V (opd tm a) h := by
  unfold aop load1V gld1; simp only []; cases opd tm a with
  | ptr g o => simp only []; cases h.m.get g <;> rfl
  | _ => rfl
theorem JP {m : Nat} {a : AOpd} : aop tm h (.loadN m a) = loadNV m (opd tm a) h := by
  unfold aop loadNV gldN vagg; simp only []; cases opd tm a with
  | ptr g o => simp only []; cases h.m.get g with
    | none => rfl
    | some ob => simp only []; cases rd ob o m <;> rfl
  | _ => rfl
theorem JQ {m : Nat} {a x : AOpd} : aop tm h (.store m a x) = storeV m (opd tm a) (opd tm x) h := by
  unfold aop storeV gst vst; simp only []; cases opd tm a with
  | ptr g o => simp only []; cases h.m.get g with
    | none => simp
    | some ob => simp only []; cases wr ob o (cellsOf (opd tm x)) <;> rfl
  | _ => rfl
theorem JR {x : AOpd} : aop tm h (.nilchk x) = nilchkV (opd tm x) h := (rfl)
theorem JS {op : BinOp} {x y : AOpd} : aop tm h (.bin op x y) = vl h (binV op (opd tm x) (opd tm y)) := (rfl)
theorem JT {x : AOpd} : aop tm h (.un .not x) = notV (opd tm x) h := by
  unfold aop notV; simp only []; cases opd tm x <;> rfl
theorem JU {k : IntKind} {x : AOpd} : aop tm h (.convI k x) = convIV k (opd tm x) h := by
  unfold aop convIV; simp only []; cases opd tm x <;> rfl
theorem JV {x : AOpd} : aop tm h (.convBS x) = convBSV (opd tm x) (rdS h 1 (opd tm x)) h := by
  unfold aop convBSV; simp only []; cases rdS h 1 (opd tm x) with
  | none => rfl
  | some q => rfl
theorem JW {f : Fn} {a c : List AOpd} : aop tm h (.mkf f a c) = some (.val (.fn f (opds tm a) (opds tm c)) h) := (rfl)
theorem JX {off : Nat} {x : AOpd} : aop tm h (.faddr off x) = faddrV off (opd tm x) h := by
  unfold aop faddrV; simp only []; cases opd tm x <;> rfl
theorem JY {k : Nat} {x i : AOpd} : aop tm h (.iaddrS k x i) = iaddrSV k (opd tm x) (natOf (opd tm i)) h := by
  unfold aop iaddrSV; simp only []; cases opd tm x <;> cases natOf (opd tm i) <;> rfl
theorem JZ {k n : Nat} {x i : AOpd} : aop tm h (.iaddrA k n x i) = iaddrAV k n (opd tm x) (natOf (opd tm i)) h := by
  unfold aop iaddrAV; simp only []; cases opd tm x <;> cases natOf (opd tm i) <;> rfl
theorem Qa {k n : Nat} {ag : Bool} {x i : AOpd} : aop tm h (.idxA k n ag x i) = idxAV k n ag (opd tm x) (natOf (opd tm i)) h := by
  unfold aop idxAV; simp only []; cases opd tm x <;> cases natOf (opd tm i) <;> rfl
theorem Qc {i : Nat} {x : AOpd} : aop tm h (.ext i x) = extV i (opd tm x) h := by
  unfold aop extV; simp only []; cases opd tm x <;> rfl
theorem Qd {x : AOpd} : aop tm h (.len .sl x) = lenV (opd tm x) h := by
  unfold aop lenV; simp only []; cases opd tm x <;> rfl
theorem Qe {k b : Nat} {s x : AOpd} : aop tm h (.app k b s x) = appV h k b (opd tm s) (opd tm x) := (rfl)
theorem Qf {f : Nat} {args : List AOpd} : aop tm h (.call f args) = some (.call f (opds tm args)) := (rfl)
theorem Qg {f : AOpd} {args : List AOpd} : aop tm h (.dyn f args) = dynV (opd tm f) (opds tm args) := by
  unfold aop dynV; simp only []; cases opd tm f with
  | fn f a c => cases f <;> rfl
  | _ => rfl
end
theorem Qh {q : Bool} {a b : AVal} {h : Hp} : pickV (.bool q) a b h = some (.val (if q = true then a else b) h) := by cases q <;> rfl
theorem Qi {g o : Nat} {h : Hp} : load1V (.ptr g o) h = vl h (gld1 h g o) := (rfl)
theorem Qj {m g o : Nat} {h : Hp} : loadNV m (.ptr g o) h = vagg h (gldN h g o m) := (rfl)
theorem Qk {m g o : Nat} {x : AVal} {h : Hp} : storeV m (.ptr g o) x h = if Nat.beq (ln (cellsOf x)) m then vst (gst h g o (cellsOf x)) else none := (rfl)
theorem Ql {l : List AVal} {h : Hp} : vagg h (some l) = some (.val (.agg l) h) := (rfl)
theorem Qm {h : Hp} : vst (some h) = some (.val und h) := (rfl)
theorem vl_s {v : AVal} {h : Hp} : vl h (some v) = some (.val v h) := (rfl)
theorem Qn {g o : Nat} {h : Hp} : nilchkV (.ptr g o) h = some (.val (.ptr g o) h) := (rfl)
theorem Qo {b : Bool} {h : Hp} : notV (.bool b) h = some (.val (.bool (!b)) h) := (rfl)
theorem Qp {k k' : IntKind} {n : Int} {h : Hp} : convIV k (.int k' n) h = some (.val (.int k (wrapF k n)) h) := (rfl)
theorem Qq {off g o : Nat} {h : Hp} : faddrV off (.ptr g o) h = some (.val (.ptr g (o + off)) h) := (rfl)
theorem iaddrSV_sl {k g o n i : Nat} {c : Option Nat} {h : Hp} (hi : i < n) : iaddrSV k (.sl g o n c) (some i) h = some (.val (.ptr g (o + i * k)) h) := by
  simp only [iaddrSV, nblt, decide_eq_true hi, if_true]
theorem iaddrAV_ptr {k g o n i : Nat} {h : Hp} (hi : i < n) : iaddrAV k n (.ptr g o) (some i) h = some (.val (.ptr g (o + i * k)) h) := by
  simp only [iaddrAV, nblt, decide_eq_true hi, if_true]
theorem idxAV_one {k n i : Nat} {l : List AVal} {h : Hp} (hi : i < n) : idxAV k n false (.agg l) (some i) h = vl h (nth l (i * k)) := by
  simp only [idxAV, nblt, decide_eq_true hi, if_true, Bool.false_eq_true, if_false]
theorem Qr {i : Nat} {l : List AVal} {h : Hp} : extV i (.tup l) h = vl h (nth l i) := (rfl)
theorem lenV_nils {h : Hp} : lenV .nils h = some (.val (.int .i64 ((0 : Nat) : Int)) h) := (rfl)
theorem lenV_sl {g o n : Nat} {c : Option Nat} {h : Hp} : lenV (.sl g o n c) h = some (.val (.int .i64 (n : Int)) h) := (rfl)
theorem Qs {f : Nat} {a c args : List AVal} : dynV (.fn (.func f) a c) args = some (.call f (cat a (cat args c))) := (rfl)
theorem Qt {l : List AVal} {h : Hp} : buildV (some l) h = some (.val (.agg l) h) := (rfl)
theorem Qu {z : List AVal} {k len : Nat} {t : Tree (List AVal)} {h : Hp} : bsliceV z k len (some t) h = some (.val (.sl h.next 0 len (some len)) (h.new (.cells t z k len true))) := (rfl)

/-! ### The heap has grown: what lay there lies there as it was -/
def Ext (h h' : Hp) : Prop := h.next ≤ h'.next ∧ ∀ g, g < h.next → h'.m.get g = h.m.get g
theorem Ext.refl (h : Hp) : Ext h h := ⟨Nat.le_refl _, fun _ _ => rfl⟩
theorem Ext.trans {a b c : Hp} (x : Ext a b) (y : Ext b c) : Ext a c := ⟨Nat.le_trans x.1 y.1, fun g hg => by rw [y.2 g (Nat.lt_of_lt_of_le hg x.1), x.2 g hg]⟩
theorem Ext.new (h : Hp) (o : Obj) : Ext h (h.new o) := ⟨Nat.le_succ _, fun g hg => by simp only [Hp.new, Tree.get_put]; rw [if_neg (by omega)]⟩
theorem Ext.newL (h : Hp) (l : List AVal) : Ext h (newL h l) := Ext.new _ _
theorem Ext.set {h h1 : Hp} (x : Ext h h1) {g : Nat} (hg : h.next ≤ g) (o : Obj) : Ext h (h1.set g o) := ⟨x.1, fun k hk => by simp only [Hp.set, Tree.get_put]; rw [if_neg (by omega)]; exact x.2 k hk⟩
theorem Ext.del {h h1 : Hp} (x : Ext h h1) {g : Nat} (hg : h.next ≤ g) : Ext h (h1.del g) := ⟨x.1, fun k hk => by simp only [Hp.del, Tree.get_put]; rw [if_neg (by omega)]; exact x.2 k hk⟩

/-! ### Local objects -/
/-- One element of some cells, owned. -/
def Lob (h : Hp) (g : Nat) (l : List AVal) : Prop := g < h.next ∧ 0 < l.length ∧ ∃ t z, h.m.get g = some (.cells t z l.length 1 true) ∧ elemAt t z 0 = l
theorem Lob.lt {h : Hp} {g : Nat} {l : List AVal} (x : Lob h g l) : g < h.next := x.1
theorem Lob.frame {h h' : Hp} {g : Nat} {l : List AVal} (x : Lob h g l) (e : h'.m.get g = h.m.get g) (hn : h.next ≤ h'.next) : Lob h' g l := ⟨Nat.lt_of_lt_of_le x.1 hn, x.2.1, by rw [e]; exact x.2.2⟩
theorem Lob.ext {h h' : Hp} {g : Nat} {l : List AVal} (x : Lob h g l) (e : Ext h h') : Lob h' g l := x.frame (e.2 g x.1) e.1
theorem QM (h : Hp) (l : List AVal) : (newL h l).next = h.next + 1 := (rfl)
theorem Lob.new (h : Hp) (l : List AVal) (hl : 0 < l.length) : Lob (newL h l) h.next l :=
  ⟨Nat.lt_succ_self _, hl, .leaf, l, by simp only [newL, Hp.new, Tree.get_put_same, ln_eq], rfl⟩
theorem Lob.ld1 {h : Hp} {g : Nat} {l : List AVal} (x : Lob h g l) {o : Nat} (ho : o < l.length) : gld1 h g o = nth l o := by
  obtain ⟨_, _, t, z, h1, h2⟩ := x
  simp only [gld1, h1, rd1, Nat.one_mul, nblt, decide_eq_true ho, if_true, cellAt', Nat.div_eq_of_lt ho, Nat.mod_eq_of_lt ho, h2]
theorem Lob.ldN {h : Hp} {g : Nat} {l : List AVal} (x : Lob h g l) : gldN h g 0 l.length = some l := by
  obtain ⟨_, h0, t, z, h1, h2⟩ := x
  simp only [gldN, h1, rd, Nat.one_mul, nble, nbeq, Nat.zero_add, Nat.le_refl, Nat.zero_mod, decide_true, Bool.and_self, if_true, Nat.zero_div, h2]
theorem Lob.ldN' {h : Hp} {g : Nat} {l : List AVal} (x : Lob h g l) {m : Nat} (hm : m = l.length) : gldN h g 0 m = some l := by rw [hm]; exact x.ldN
theorem readFrom_loc {t : Tree (List AVal)} {z l : List AVal} (h2 : elemAt t z 0 = l) : ∀ (m o : Nat), o + m ≤ l.length → readFrom t z l.length m o = some (takeN m (dropN o l))
  | 0, o, _ => by simp [readFrom, takeN]
  | m + 1, o, h => by
    have ho : o < l.length := by omega
    simp only [readFrom, cellAt', Nat.div_eq_of_lt ho, Nat.mod_eq_of_lt ho, h2, nth_eq, List.getElem?_eq_getElem ho]
    rw [readFrom_loc h2 m (o + 1) (by omega)]
    simp only [takeN_eq, dropN_eq]
    rw [List.drop_eq_getElem_cons ho, List.take_succ_cons]
/-- Some of the cells. -/
theorem Lob.ldP {h : Hp} {g : Nat} {l : List AVal} (x : Lob h g l) {o m : Nat} (ho : o + m ≤ l.length) (hm : m ≠ l.length) : gldN h g o m = some (takeN m (dropN o l)) := by
  obtain ⟨_, h0, t, z, h1, h2⟩ := x
  simp only [gldN, h1, rd, Nat.one_mul, nble, nbeq, decide_eq_true ho, decide_eq_false hm, Bool.false_and, Bool.false_eq_true, if_true, if_false]
  exact readFrom_loc h2 m o ho

theorem writeFrom_loc {k : Nat} : ∀ (vs : List AVal) (t : Tree (List AVal)) (z : List AVal) (o : Nat) (l : List AVal), elemAt t z 0 = l → l.length = k → o + vs.length ≤ k → elemAt (writeFrom t z k vs o) z 0 = blit l o vs
  | [], t, z, o, l, h, hk, _ => by
    simp only [writeFrom, h, blit, takeN_eq, dropN_eq, cat_eq, ln_eq, List.length_nil, Nat.add_zero, List.nil_append, List.take_append_drop]
  | v :: vs, t, z, o, l, h, hk, ho => by
    simp only [List.length_cons] at ho
    have h1 : o < k := by omega
    simp only [writeFrom, Nat.div_eq_of_lt h1, Nat.mod_eq_of_lt h1, h]
    rw [writeFrom_loc vs _ z (o + 1) (l.set o v) (by rw [elemAt_put, if_pos rfl, setN_eq]) (by simpa using hk) (by omega)]
    simp only [blit, takeN_eq, dropN_eq, cat_eq, ln_eq, List.length_cons]
    have ho' : o < l.length := by omega
    have e1 : (l.set o v).take (o + 1) = l.take o ++ [v] := by
      rw [List.take_add_one, List.getElem?_set_self ho', Option.toList_some]
      congr 1
      rw [List.take_set_of_le (Nat.le_refl _)]
    have e2 : (l.set o v).drop (o + 1 + vs.length) = l.drop (o + 1 + vs.length) := List.drop_set_of_lt (by omega)
    rw [e1, e2, List.append_assoc, show o + (vs.length + 1) = o + 1 + vs.length from by omega]
    rfl
theorem ones_eq : ∀ {l : List AVal}, ones l = true ↔ ∀ v ∈ l, one v = true
  | [] => by simp [ones]
  | v :: l => by simp [ones, ones_eq (l := l)]
theorem elemAt_writeFrom_len {k : Nat} : ∀ (vs : List AVal) (t : Tree (List AVal)) (z : List AVal) (o : Nat) (l : List AVal), elemAt t z 0 = l → l.length = k → o + vs.length ≤ k → (blit l o vs).length = k := by
  intro vs t z o l _ hk ho
  simp only [blit, takeN_eq, dropN_eq, cat_eq, ln_eq, List.length_append, List.length_take, List.length_drop]
  omega
theorem blit_len {l vs : List AVal} {o : Nat} (ho : o + vs.length ≤ l.length) : (blit l o vs).length = l.length := by
  simp only [blit, takeN_eq, dropN_eq, cat_eq, ln_eq, List.length_append, List.length_take, List.length_drop]
  omega
theorem blit_all {l vs : List AVal} (h : vs.length = l.length) : blit l 0 vs = vs := by
  simp only [blit, takeN_eq, dropN_eq, cat_eq, ln_eq, List.take_zero, List.nil_append, Nat.zero_add]
  rw [List.drop_eq_nil_of_le (by omega), List.append_nil]
/-- A store into a local object. -/
theorem Lob.st {h : Hp} {g : Nat} {l : List AVal} (x : Lob h g l) {o : Nat} {vs : List AVal} (ho : o + vs.length ≤ l.length) (hv : ones vs = true) (hn : 0 < vs.length) :
    ∃ ob, gst h g o vs = some (h.set g ob) ∧ Lob (h.set g ob) g (blit l o vs) := by
  obtain ⟨hg, h0, t, z, h1, h2⟩ := x
  by_cases hm : vs.length = l.length
  · have ho0 : o = 0 := by omega
    subst ho0
    refine ⟨.cells (t.put 0 (some vs)) z l.length 1 true, ?_, hg, by rw [blit_len ho]; exact h0, t.put 0 (some vs), z, ?_, ?_⟩
    · simp only [gst, h1, wr, ln_eq, Nat.one_mul, nble, nbeq, decide_eq_true ho, hv, Bool.and_self, if_true, hm, Nat.zero_mod, decide_true, Nat.zero_div, Nat.zero_add, Nat.le_refl]
    · simp only [Hp.set, Tree.get_put_same, blit_len ho]
    · rw [blit_all hm]; simp only [elemAt, Tree.get_put_same]
  · refine ⟨.cells (writeFrom t z l.length vs o) z l.length 1 true, ?_, hg, by rw [blit_len ho]; exact h0, _, z, ?_, writeFrom_loc vs t z o l h2 rfl ho⟩
    · simp only [gst, h1, wr, ln_eq, Nat.one_mul, nble, nbeq, decide_eq_true ho, hv, Bool.and_self, if_true, decide_eq_false hm, Bool.false_and, Bool.false_eq_true, if_false]
    · simp only [Hp.set, Tree.get_put_same, blit_len ho]
theorem get_set_ne {h : Hp} {g k : Nat} {ob : Obj} (hk : k ≠ g) : (h.set g ob).m.get k = h.m.get k := by simp only [Hp.set, Tree.get_put]; rw [if_neg hk]
theorem set_next {h : Hp} {g : Nat} {ob : Obj} : (h.set g ob).next = h.next := (rfl)
theorem Lob.set_ne {h : Hp} {g k : Nat} {ob : Obj} {l : List AVal} (x : Lob h k l) (hk : k ≠ g) : Lob (h.set g ob) k l := x.frame (get_set_ne hk) (Nat.le_refl _)
theorem Lob.newL {h : Hp} {k : Nat} {l l' : List AVal} (x : Lob h k l) : Lob (newL h l') k l := x.ext (Ext.newL h l')

/-! ### Slices that are read -/
/-- n elements of k cells; element i has the cells f i. -/
def SlN (h : Hp) (k : Nat) (v : AVal) (n : Nat) (f : Nat → List AVal) : Prop :=
  (v = .nils ∧ n = 0) ∨ ∃ g e c t z N ow, v = .sl g (e * k) n c ∧ g < h.next ∧ 0 < k ∧ h.m.get g = some (.cells t z k N ow) ∧ e + n ≤ N ∧ ∀ i, i < n → elemAt t z (e + i) = f i ∧ (f i).length = k
theorem SlN.ext {h h' : Hp} {k : Nat} {v : AVal} {n : Nat} {f : Nat → List AVal} (x : SlN h k v n f) (e : Ext h h') : SlN h' k v n f := by
  rcases x with x | ⟨g, e0, c, t, z, N, ow, h1, h2, h3, h4, h5⟩
  · exact .inl x
  · exact .inr ⟨g, e0, c, t, z, N, ow, h1, Nat.lt_of_lt_of_le h2 e.1, h3, by rw [e.2 g h2]; exact h4, h5⟩
theorem SlN.len {h : Hp} {k : Nat} {v : AVal} {n : Nat} {f : Nat → List AVal} (x : SlN h k v n f) (h' : Hp) : lenV v h' = some (.val (.int .i64 (n : Int)) h') := by
  rcases x with ⟨rfl, rfl⟩ | ⟨g, e0, c, t, z, N, ow, rfl, _⟩ <;> rfl
theorem SlN.one {h : Hp} {k : Nat} {v : AVal} {n : Nat} {f : Nat → List AVal} (x : SlN h k v n f) : Am.one v = true := by
  rcases x with ⟨rfl, rfl⟩ | ⟨g, e0, c, t, z, N, ow, rfl, _⟩ <;> rfl
theorem SlN.veq {h : Hp} {k : Nat} {v : AVal} {n : Nat} {f : Nat → List AVal} (x : SlN h k v n f) : Am.veq v v = true := by
  rcases x with ⟨rfl, rfl⟩ | ⟨g, e0, c, t, z, N, ow, rfl, _⟩
  · rfl
  · simp only [Am.veq, Nat.beq_refl, Bool.true_and]; cases c <;> simp
/-- The address of an element, and what is read there. -/
theorem SlN.at {h : Hp} {k : Nat} {v : AVal} {n : Nat} {f : Nat → List AVal} (x : SlN h k v n f) {i : Nat} (hi : i < n) :
    ∃ g o, (∀ h', iaddrSV k v (some i) h' = some (.val (.ptr g o) h')) ∧ gldN h g o k = some (f i) ∧ (k = 1 → gld1 h g o = nth (f i) 0) ∧ g < h.next := by
  rcases x with ⟨rfl, rfl⟩ | ⟨g, e0, c, t, z, N, ow, rfl, h2, h3, h4, h5, h6⟩
  · omega
  · obtain ⟨h7, h8⟩ := h6 i hi
    have e1 : e0 * k + i * k = (e0 + i) * k := (Nat.add_mul _ _ _).symm
    have e2 : (e0 + i) * k / k = e0 + i := Nat.mul_div_cancel _ h3
    have e3 : (e0 + i) * k % k = 0 := Nat.mul_mod_left _ _
    refine ⟨g, e0 * k + i * k, fun h' => iaddrSV_sl hi, ?_, fun hk => ?_, h2⟩
    · have hle : (e0 + i) * k + k ≤ N * k := by
        have : (e0 + i + 1) * k ≤ N * k := Nat.mul_le_mul_right k (by omega)
        rw [Nat.add_mul (e0 + i) 1 k, Nat.one_mul] at this
        exact this
      simp only [gldN, h4, rd, nble, nbeq, e1, decide_eq_true hle, decide_true, if_true, e2, e3, Bool.and_self, h7]
    · subst hk
      have hlt : e0 + i < N := by omega
      simp only [gld1, h4, rd1, nblt, Nat.mul_one, decide_eq_true hlt, if_true, cellAt', Nat.div_one, Nat.mod_one, h7]
end Go.Am
namespace Go.Am
theorem wpRes_tmp {L t : Nat} {Q : AVal → Hp → Prop} {e : Env} {h : Hp} (ht : t < L) (q : Q (e t) h) : WpRes L [.tmp t] Q e h := by
  simp only [WpRes, resA, Qv, if_pos ht, rvals']; exact q
theorem resA_cellN {L t k : Nat} {e : Env} {h : Hp} {g : Nat} {l : List AVal} (ht : t < L) (he : e t = .ptr g 0) (x : Lob h g l) (hk : k = l.length) {rs : List ARV} : resA (envL L e) h (.cell t (some k) :: rs) = (match resA (envL L e) h rs with
    | some r => some (.agg l :: r)
    | none => none) := by
  have hl := x.ldN' hk
  simp only [resA, Qv, if_pos ht, he]
  obtain ⟨_, _, t', z, h1, h2⟩ := x
  simp only [gldN, h1] at hl
  simp only [h1, hl]
  cases resA (envL L e) h rs <;> rfl
theorem wpRes_cellN {L t k : Nat} {Q : AVal → Hp → Prop} {e : Env} {h : Hp} {g : Nat} {l : List AVal} (ht : t < L) (he : e t = .ptr g 0) (x : Lob h g l) (hk : k = l.length) (q : Q (.agg l) h) : WpRes L [.cell t (some k)] Q e h := by
  unfold WpRes; rw [resA_cellN ht he x hk]; simp only [resA, rvals']; exact q
theorem wpRes_cellN_tmp {L t k s : Nat} {Q : AVal → Hp → Prop} {e : Env} {h : Hp} {g : Nat} {l : List AVal} (ht : t < L) (hs : s < L) (he : e t = .ptr g 0) (x : Lob h g l) (hk : k = l.length) (q : Q (.tup [.agg l, e s]) h) : WpRes L [.cell t (some k), .tmp s] Q e h := by
  unfold WpRes; rw [resA_cellN ht he x hk]; simp only [resA, rvals', Qv, if_pos hs]; exact q
theorem wpRes_tmp2 {L t s : Nat} {Q : AVal → Hp → Prop} {e : Env} {h : Hp} (ht : t < L) (hs : s < L) (q : Q (.tup [e t, e s]) h) : WpRes L [.tmp t, .tmp s] Q e h := by
  simp only [WpRes, resA, Qv, if_pos ht, if_pos hs, rvals']; exact q
theorem cellsOf_one {v : AVal} (h : one v = true) : cellsOf v = [v] := by cases v <;> first | rfl | simp [one] at h
theorem veq_int (k : IntKind) (n : Int) : veq (.int k n) (.int k n) = true := by simp [veq]
theorem veq_ptr (g o : Nat) : veq (.ptr g o) (.ptr g o) = true := by simp [veq]
theorem veq_bool (b : Bool) : veq (.bool b) (.bool b) = true := by simp [veq]
end Go.Am
namespace Go.Am
theorem Lob.ld {h : Hp} {g : Nat} {l : List AVal} (x : Lob h g l) {k : Nat} (hk : l.length = k) {o : Nat} (ho : o < k) : gld1 h g o = nth l o := x.ld1 (by omega)
end Go.Am
namespace Go.Am
theorem SlN.addr {h : Hp} {k : Nat} {v : AVal} {n : Nat} {f : Nat → List AVal} (x : SlN h k v n f) {i : Nat} (hi : i < n) :
    ∃ g o, (∀ h', iaddrSV k v (some i) h' = some (.val (.ptr g o) h')) ∧ ∀ h', Ext h h' → gldN h' g o k = some (f i) ∧ (k = 1 → gld1 h' g o = nth (f i) 0) := by
  obtain ⟨g, o, h1, h2, h3, h4⟩ := x.at hi
  refine ⟨g, o, h1, fun h' e => ⟨?_, fun hk => ?_⟩⟩
  · rw [← h2]; simp only [gldN, e.2 g h4]
  · rw [← h3 hk]; simp only [gld1, e.2 g h4]
def BoolP (v : AVal) (p : Prop) : Prop := ∃ q : Bool, v = .bool q ∧ (q = true ↔ p)
theorem bp_true {p : Prop} (h : p) : BoolP (.bool true) p := ⟨true, rfl, by simp [h]⟩
theorem bp_false {p : Prop} (h : ¬ p) : BoolP (.bool false) p := ⟨false, rfl, by simp [h]⟩
end Go.Am
namespace Go.Am
theorem Qy (l : List AVal) : cellsOf (.agg l) = l := (rfl)
theorem Qz (k : IntKind) (n : Int) : cellsOf (.int k n) = [.int k n] := (rfl)
theorem QA (b : Bool) : cellsOf (.bool b) = [.bool b] := (rfl)
theorem QB (g o : Nat) : cellsOf (.ptr g o) = [.ptr g o] := (rfl)
theorem QC : cellsOf .nils = [.nils] := (rfl)
theorem QD (g o n : Nat) (c : Option Nat) : cellsOf (.sl g o n c) = [.sl g o n c] := (rfl)
def JJ := (And.intro (And.intro (And.intro (And.intro (And.intro (And.intro @Jz @JA) (And.intro @JB @JC)) (And.intro (And.intro @JD @JE) (And.intro @JF @JG))) (And.intro (And.intro (And.intro @JH @JI) (And.intro @JK @JL)) (And.intro (And.intro @JM @JN) (And.intro @JO @JP)))) (And.intro (And.intro (And.intro (And.intro @JQ @JR) (And.intro @JS @JT)) (And.intro (And.intro @JU @JV) (And.intro @JW @JX))) (And.intro (And.intro (And.intro @JY @JZ) (And.intro @Qa @Qc)) (And.intro (And.intro @Qd @Qe) (And.intro @Qf (And.intro @Qg @Qh)))))) (And.intro (And.intro (And.intro (And.intro (And.intro @Qi @Qj) (And.intro @Qk @Ql)) (And.intro (And.intro @Qm @vl_s) (And.intro @Qn @Qo))) (And.intro (And.intro (And.intro @Qp @Qq) (And.intro @Qr @Qs)) (And.intro (And.intro @Qt @Qu) (And.intro @Qv @Qw)))) (And.intro (And.intro (And.intro (And.intro @Qx @Qy) (And.intro @Qz @QA)) (And.intro (And.intro @QB @QC) (And.intro @QD @nbeq))) (And.intro (And.intro (And.intro @QE @QF) (And.intro @QG @QH)) (And.intro (And.intro @QI @QJ) (And.intro @QK (And.intro @QL @QM)))))))
end Go.Am
end
