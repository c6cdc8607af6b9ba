/- The abstract machine with an oracle: calls whose outcome is already known are answered at once. Conditions: none. -/
import Derived.Test.YtfaeabhbeolpgaaGreatDoorMb1
set_option linter.all false
noncomputable section
namespace Go.Am

/-! ### Equality of trees and objects -/
def teq : Tree (List AVal) → Tree (List AVal) → Bool
  | .leaf, .leaf => true
  | .node l v r, .node l' v' r' => (match v, v' with | none, none => true | some a, some b => veqL a b | _, _ => false) && teq l l' && teq r r'
  | _, _ => false
def eseq : List (AVal × AVal) → List (AVal × AVal) → Bool
  | [], [] => true
  | (a, b) :: l, (a', b') :: l' => veq a a' && veq b b' && eseq l l'
  | _, _ => false
def oeq : Obj → Obj → Bool
  | .cells t z k n ow, .cells t' z' k' n' ow' => teq t t' && veqL z z' && Nat.beq k k' && Nat.beq n n' && (ow == ow')
  | .map es, .map es' => eseq es es'
  | _, _ => false
/-- Every object of the first tree lies in the second at the same place. -/
def subT : Tree Obj → Tree Obj → Bool
  | .leaf, _ => true
  | .node l v r, .node l' v' r' => (match v, v' with | none, _ => true | some a, some b => oeq a b | some _, none => false) && subT l l' && subT r r'
  | .node _ _ _, .leaf => false

theorem teq_eq : ∀ (a b : Tree (List AVal)), teq a b = true → a = b
  | .leaf, .leaf, _ => rfl
  | .leaf, .node .., h => by simp [teq] at h
  | .node .., .leaf, h => by simp [teq] at h
  | .node l v r, .node l' v' r', h => by
    simp only [teq, Bool.and_eq_true] at h
    obtain ⟨⟨h1, h2⟩, h3⟩ := h
    rw [teq_eq l l' h2, teq_eq r r' h3]
    cases v <;> cases v' <;> simp at h1
    · rfl
    · rw [veqL_eq _ _ h1]
theorem eseq_eq : ∀ (a b : List (AVal × AVal)), eseq a b = true → a = b
  | [], [], _ => rfl
  | [], _ :: _, h => by simp [eseq] at h
  | _ :: _, [], h => by simp [eseq] at h
  | (a, b) :: l, (a', b') :: l', h => by
    simp only [eseq, Bool.and_eq_true] at h
    rw [veq_eq _ _ h.1.1, veq_eq _ _ h.1.2, eseq_eq _ _ h.2]
theorem oeq_eq : ∀ (a b : Obj), oeq a b = true → a = b
  | .cells t z k n ow, .cells t' z' k' n' ow', h => by
    simp only [oeq, Bool.and_eq_true] at h
    obtain ⟨⟨⟨⟨h1, h2⟩, h3⟩, h4⟩, h5⟩ := h
    rw [teq_eq _ _ h1, veqL_eq _ _ h2, Nat.eq_of_beq_eq_true h3, Nat.eq_of_beq_eq_true h4, eq_of_beq h5]
  | .map es, .map es', h => by simp only [oeq] at h; rw [eseq_eq _ _ h]
  | .cells .., .map _, h => by simp [oeq] at h
  | .map _, .cells .., h => by simp [oeq] at h
theorem subT_getB : ∀ (t t' : Tree Obj), subT t t' = true → ∀ (p : Path) (o : Obj), t.getB p = some o → t'.getB p = some o
  | .leaf, _, _, p, o, h => by simp [Tree.getB_leaf] at h
  | .node .., .leaf, h, _, _, _ => by simp [subT] at h
  | .node l v r, .node l' v' r', h, p, o, hg => by
    simp only [subT, Bool.and_eq_true] at h
    obtain ⟨⟨h1, h2⟩, h3⟩ := h
    cases p with
    | e =>
      rw [Tree.getB_e] at hg ⊢
      subst hg
      cases v' with
      | none => simp at h1
      | some b => simp only at h1; rw [oeq_eq _ _ h1]
    | o p => rw [Tree.getB_o] at hg ⊢; exact subT_getB l l' h2 p o hg
    | i p => rw [Tree.getB_i] at hg ⊢; exact subT_getB r r' h3 p o hg
theorem subT_get {t t' : Tree Obj} (h : subT t t' = true) {g : Nat} {o : Obj} (hg : t.get g = some o) : t'.get g = some o := subT_getB t t' h _ _ hg

/-! ### Values whose keys are below a number -/
mutual
def bndV (n : Nat) : AVal → Bool
  | .ptr g _ => Nat.blt g n
  | .sl g _ _ _ => Nat.blt g n
  | .map g => Nat.blt g n
  | .fn _ a c => bndL n a && bndL n c
  | .ifc _ v => bndV n v
  | .agg l => bndL n l
  | .tup l => bndL n l
  | _ => true
def bndL (n : Nat) : List AVal → Bool
  | [] => true
  | v :: l => bndV n v && bndL n l
end
def bndC (n : Nat) : Tree (List AVal) → Bool
  | .leaf => true
  | .node l v r => (match v with | some x => bndL n x | none => true) && bndC n l && bndC n r
def bndE (n : Nat) : List (AVal × AVal) → Bool
  | [] => true
  | (a, b) :: l => bndV n a && bndV n b && bndE n l
def bndO (n : Nat) : Obj → Bool
  | .cells t z _ _ _ => bndC n t && bndL n z
  | .map es => bndE n es
def bndT (n : Nat) : Tree Obj → Bool
  | .leaf => true
  | .node l v r => (match v with | some x => bndO n x | none => true) && bndT n l && bndT n r

theorem bndC_getB {n : Nat} : ∀ (t : Tree (List AVal)), bndC n t = true → ∀ (p : Path) (l : List AVal), t.getB p = some l → bndL n l = true
  | .leaf, _, _, _, h => by simp [Tree.getB_leaf] at h
  | .node l v r, h, p, x, hg => by
    simp only [bndC, Bool.and_eq_true] at h
    obtain ⟨⟨h1, h2⟩, h3⟩ := h
    cases p with
    | e => rw [Tree.getB_e] at hg; subst hg; exact h1
    | o p => rw [Tree.getB_o] at hg; exact bndC_getB l h2 p x hg
    | i p => rw [Tree.getB_i] at hg; exact bndC_getB r h3 p x hg
theorem bndT_getB {n : Nat} : ∀ (t : Tree Obj), bndT n t = true → ∀ (p : Path) (l : Obj), t.getB p = some l → bndO n l = true
  | .leaf, _, _, _, h => by simp [Tree.getB_leaf] at h
  | .node l v r, h, p, x, hg => by
    simp only [bndT, Bool.and_eq_true] at h
    obtain ⟨⟨h1, h2⟩, h3⟩ := h
    cases p with
    | e => rw [Tree.getB_e] at hg; subst hg; exact h1
    | o p => rw [Tree.getB_o] at hg; exact bndT_getB l h2 p x hg
    | i p => rw [Tree.getB_i] at hg; exact bndT_getB r h3 p x hg
theorem bndL_get {n : Nat} : ∀ {l : List AVal}, bndL n l = true → ∀ {j : Nat} {v : AVal}, l[j]? = some v → bndV n v = true
  | [], _, _, _, h => by simp at h
  | a :: l, h, j, v, e => by
    simp only [bndL, Bool.and_eq_true] at h
    cases j with
    | zero => simp at e; subst e; exact h.1
    | succ j => simp at e; exact bndL_get h.2 e

mutual
theorem VR.turn {ι ι' : Gh} {n : Nat} (h : ∀ g, g < n → ι' g = ι g) : ∀ (a : AVal) (V : Value), bndV n a = true → VR ι a V → VR ι' a V
  | .bool b, V, _, x => x
  | .int k m, V, _, x => x
  | .str s, V, _, x => x
  | .nilp, V, _, x => x
  | .ptr g o, V, b, x => by
    simp only [bndV, Nat.blt_eq] at b
    simp only [VR] at x ⊢
    rw [h g b]; exact x
  | .nils, V, _, x => x
  | .sl g o m (some c), V, b, x => by
    simp only [bndV, Nat.blt_eq] at b
    simp only [VR] at x ⊢
    rw [h g b]; exact x
  | .sl g o m none, V, b, x => by
    simp only [bndV, Nat.blt_eq] at b
    simp only [VR] at x ⊢
    rw [h g b]; exact x
  | .nilm, V, _, x => x
  | .map g, V, b, x => by
    simp only [bndV, Nat.blt_eq] at b
    simp only [VR] at x ⊢
    rw [h g b]; exact x
  | .fn f a c, V, b, x => by
    simp only [bndV, Bool.and_eq_true] at b
    simp only [VR] at x ⊢
    obtain ⟨A, C, h1, h2, h3⟩ := x
    exact ⟨A, C, h1, VRL.turn h a A b.1 h2, VRL.turn h c C b.2 h3⟩
  | .nilf, V, _, x => x
  | .ifc t v, V, b, x => by
    simp only [bndV] at b
    simp only [VR] at x ⊢
    obtain ⟨W, h1, h2⟩ := x
    exact ⟨W, h1, VR.turn h v W b h2⟩
  | .nili, V, _, x => x
  | .agg l, V, b, x => by
    simp only [bndV] at b
    simp only [VR] at x ⊢
    obtain ⟨L, h1, h2⟩ := x
    exact ⟨L, h1, VRL.turn h l L b h2⟩
  | .tup l, V, b, x => by
    simp only [bndV] at b
    simp only [VR] at x ⊢
    obtain ⟨L, h1, h2⟩ := x
    exact ⟨L, h1, VRL.turn h l L b h2⟩
theorem VRL.turn {ι ι' : Gh} {n : Nat} (h : ∀ g, g < n → ι' g = ι g) : ∀ (l : List AVal) (L : List Value), bndL n l = true → VRL ι l L → VRL ι' l L
  | [], L, _, x => x
  | a :: l, L, b, x => by
    simp only [bndL, Bool.and_eq_true] at b
    simp only [VRL] at x ⊢
    obtain ⟨V, L', h1, h2, h3⟩ := x
    exact ⟨V, L', h1, VR.turn h a V b.1 h2, VRL.turn h l L' b.2 h3⟩
end
theorem EsR.turn {ι ι' : Gh} {n : Nat} (h : ∀ g, g < n → ι' g = ι g) : ∀ (l : List (AVal × AVal)) (L : List MapEntry), bndE n l = true → EsR ι l L → EsR ι' l L
  | [], _, _, x => x
  | (k, v) :: l, L, b, x => by
    simp only [bndE, Bool.and_eq_true] at b
    obtain ⟨e, L', h1, h2, h3, h4⟩ := x
    exact ⟨e, L', h1, VR.turn h _ _ b.1.1 h2, VR.turn h _ _ b.1.2 h3, EsR.turn h l L' b.2 h4⟩
theorem ObjOK.turn {ι ι' : Gh} {n : Nat} (h : ∀ g, g < n → ι' g = ι g) {o : Obj} {i : Inf} {w : World} (b : bndO n o = true) (x : ObjOK ι o i w) : ObjOK ι' o i w := by
  obtain ⟨h1, h2⟩ := x
  refine ⟨h1, ?_⟩
  cases o with
  | cells t z k m ow =>
    refine ⟨h2.1, h2.2.1, fun j hj => ?_, h2.2.2.2⟩
    obtain ⟨v, V, h3, h4, h5⟩ := h2.2.2.1 j hj
    simp only [bndO, Bool.and_eq_true] at b
    refine ⟨v, V, h3, h4, VR.turn h v V ?_ h5⟩
    have hl : bndL n (elemAt t z (j / k)) = true := by
      unfold elemAt
      split
      · next l hl => exact bndC_getB t b.1 _ _ hl
      · exact b.2
    rw [cellAt', nth_eq] at h3
    exact bndL_get hl h3
  | map es =>
    obtain ⟨ES, clk, a, c⟩ := h2
    exact ⟨ES, clk, a, EsR.turn h _ _ b c⟩

/-- All keys are below a number. -/
def keysB (n : Nat) : Nat → Nat → Tree Obj → Bool
  | _, _, .leaf => true
  | a, d, .node l v r => (match v with | some _ => Nat.ble (a + d) n | none => true) && keysB n a (2 * d) l && keysB n (a + d) (2 * d) r
theorem keysB_getB {n : Nat} : ∀ (t : Tree Obj) (a d : Nat), keysB n a d t = true → ∀ (p : Path) (o : Obj), t.getB p = some o → a + d * p.val ≤ n
  | .leaf, _, _, _, _, _, h => by simp [Tree.getB_leaf] at h
  | .node l v r, a, d, h, p, o, hg => by
    simp only [keysB, Bool.and_eq_true] at h
    obtain ⟨⟨h1, h2⟩, h3⟩ := h
    cases p with
    | e => rw [Tree.getB_e] at hg; subst hg; simp only at h1; have := Nat.le_of_ble_eq_true h1; simp [Path.val]; omega
    | o p => rw [Tree.getB_o] at hg; have := keysB_getB l a (2 * d) h2 p o hg; simp only [Path.val]; rw [show d * (2 * p.val) = 2 * d * p.val from by rw [Nat.mul_comm 2 d, Nat.mul_assoc]]; exact this
    | i p => rw [Tree.getB_i] at hg; have := keysB_getB r (a + d) (2 * d) h3 p o hg; simp only [Path.val]; rw [Nat.mul_add, show d * (2 * p.val) = 2 * d * p.val from by rw [Nat.mul_comm 2 d, Nat.mul_assoc]]; omega
theorem keysB_get {n : Nat} {t : Tree Obj} (h : keysB n 0 1 t = true) {g : Nat} {o : Obj} (hg : t.get g = some o) : g < n := by
  have := keysB_getB t 0 1 h _ _ hg
  rw [pathOf_val] at this; omega

/-! ### Oracles -/
abbrev Orc := Nat → List AVal → Hp → Option (AVal × Hp)

def callO (O : Orc) (E : Nat → Option AFunc) (r : CodeF × CallF) : CallF := fun dfr f args h cm =>
  match dfr, O f args h with
  | false, some (v, h') => some (.ret v, h', cm)
  | _, _ => callA E r dfr f args h cm
def evO (O : Orc) (E : Nat → Option AFunc) : Nat → CodeF × CallF
  | 0 => (fun _ _ _ _ _ => none, fun _ _ _ _ _ => none)
  | n + 1 => (codeA (evO O E n), callO O E (evO O E n))

/-- A call known to end well. -/
def CallTo (P : Program) (G : Nat → Option Nat) (f : Nat) (args : List AVal) (h : Hp) (v : AVal) (h' : Hp) : Prop :=
  ∀ ι w (vargs : List Value) cs, Rel G ι h w → VRL ι args vargs →
    (∃ fn, P.funcs[f]? = some fn ∧ fn.name ≠ "runtime.NumGoroutine" ∧ fn.body.isSome = true) ∧
    ∃ ι' w' fr, Rel G ι' h' w' ∧ Fr ι h w ι' h' w' ∧ Steps P (lone (Frame.enter P f ⟨vargs⟩ .normal) cs w) (lone fr cs w') ∧ (fr.kind = .normal ∧ fr.fn = f) ∧ EndR P ι' (.ret v) fr w'

def OrcOK (P : Program) (G : Nat → Option Nat) (O : Orc) : Prop := ∀ f args h v h', O f args h = some (v, h') → CallTo P G f args h v h'

section
variable {P : Program} {G : Nat → Option Nat}

theorem callO_true {O : Orc} {E : Nat → Option AFunc} {r : CodeF × CallF} {f : Nat} {args : List AVal} {h : Hp} {cm : AMode} : callO O E r true f args h cm = callA E r true f args h cm := by
  unfold callO; cases O f args h <;> rfl
theorem callO_some {O : Orc} {E : Nat → Option AFunc} {r : CodeF × CallF} {f : Nat} {args : List AVal} {h : Hp} {cm : AMode} {v : AVal} {h' : Hp} (e : O f args h = some (v, h')) : callO O E r false f args h cm = some (.ret v, h', cm) := by
  unfold callO; rw [e]
theorem callO_none {O : Orc} {E : Nat → Option AFunc} {r : CodeF × CallF} {f : Nat} {args : List AVal} {h : Hp} {cm : AMode} (e : O f args h = none) : callO O E r false f args h cm = callA E r false f args h cm := by
  unfold callO; rw [e]
theorem callO_ok {O : Orc} (hO : OrcOK P G O) {E : Nat → Option AFunc} (hE : TableOK P G E) {r : CodeF × CallF} (hC : CodeOK P G r.1) (hG : CallOK P G r.2) : CallOK P G (callO O E r) := by
  intro dfr f args h cm X h' cm' e ι w vargs cs R hva hcs
  cases dfr with
  | true =>
    rw [callO_true] at e
    exact call_ok hE hC hG true f args h cm X h' cm' e ι w vargs cs R hva hcs
  | false =>
    cases ho : O f args h with
    | none => rw [callO_none ho] at e; exact call_ok hE hC hG false f args h cm X h' cm' e ι w vargs cs R hva hcs
    | some q =>
      obtain ⟨v, h1⟩ := q
      rw [callO_some ho] at e
      cases e
      obtain ⟨h2, ι', w', fr, h3, h4, h5, h6, h7⟩ := hO _ _ _ _ _ ho ι w vargs cs R hva
      exact ⟨h2, ι', w', cs, fr, h3, h4, ⟨fun _ => rfl, fun h => by cases h⟩, h5, h6, h7⟩

theorem evO_ok (hmix : P.follows .mixedOrders = true) {O : Orc} (hO : OrcOK P G O) {E : Nat → Option AFunc} (hE : TableOK P G E) : ∀ n, CodeOK P G (evO O E n).1 ∧ CallOK P G (evO O E n).2
  | 0 => ⟨fun _ _ _ _ _ _ _ _ _ _ _ e => by simp [evO] at e, fun _ _ _ _ _ _ _ _ e => by simp [evO] at e⟩
  | n + 1 => by
    obtain ⟨h1, h2⟩ := evO_ok hmix hO hE n
    exact ⟨code_ok hmix h1 h2, callO_ok hO hE h1 h2⟩

theorem callTo_of_evO (hmix : P.follows .mixedOrders = true) {O : Orc} (hO : OrcOK P G O) {E : Nat → Option AFunc} (hE : TableOK P G E) {n f : Nat} {args : List AVal} {h : Hp} {v : AVal} {h' : Hp} {cm' : AMode}
    (e : (evO O E n).2 false f args h .ret = some (.ret v, h', cm')) : CallTo P G f args h v h' := by
  intro ι w vargs cs R hva
  obtain ⟨h1, ι', w', cs', fr, h2, h3, h4, h5, h6, h7⟩ := (evO_ok hmix hO hE n).2 false f args h .ret _ h' cm' e ι w vargs cs R hva (fun h => by cases h)
  have := h4.1 rfl
  subst this
  exact ⟨h1, ι', w', fr, h2, h3, h5, h6, h7⟩

/-- From a small heap to a great one: a call that leaves all that it is handed as it was, and hands back nothing new. -/
theorem CallTo.wide {f : Nat} {args : List AVal} {t : Tree Obj} {nx : Nat} {v : AVal} {h0' : Hp} (hc : CallTo P G f args ⟨t, nx⟩ v h0') (hsame : subT t h0'.m = true) (hbt : bndT nx t = true) (hbv : bndV nx v = true) (hba : bndL nx args = true) (hk : keysB nx 0 1 t = true)
    (hG : ∀ x g, G x = some g → g < nx) {h : Hp} (hsub : subT t h.m = true) (hnx : Nat.ble nx h.next = true) : CallTo P G f args h v h := by
  intro ι w vargs cs R hva
  have hnx := Nat.le_of_ble_eq_true hnx
  let ι0 : Gh := fun g => if g < nx then ι g else none
  have hι0 : ∀ g, g < nx → ι0 g = ι g := fun g hg => by simp [ι0, hg]
  have hb : ∀ g o, t.get g = some o → bndO nx o = true := fun g o hg => bndT_getB t hbt _ _ hg
  have hall : ∀ g o, t.get g = some o → g < nx := fun g o hg => keysB_get hk hg
  · have R0 : Rel G ι0 ⟨t, nx⟩ w := by
      refine ⟨fun g o hg => ?_, fun g hg => by simp only at hg; simp only [ι0]; rw [if_neg (by omega)], fun g g' o o' i i' h1 h2 h3 h4 h5 h6 => ?_, fun x g hx => ?_⟩
      · obtain ⟨i, h1, h2⟩ := R.ob g o (subT_get hsub hg)
        exact ⟨i, by rw [hι0 g (hall g o hg)]; exact h1, h2.turn hι0 (hb g o hg)⟩
      · rw [hι0 g (hall g o h1)] at h3
        rw [hι0 g' (hall g' o' h2)] at h4
        exact R.sp g g' o o' i i' (subT_get hsub h1) (subT_get hsub h2) h3 h4 h5 h6
      · obtain ⟨i, h1, h2⟩ := R.gl x g hx
        exact ⟨i, by rw [hι0 g (hG x g hx)]; exact h1, h2⟩
    have hva0 : VRL ι0 args vargs := VRL.turn hι0 _ _ hba hva
    obtain ⟨h1, ι', w', fr, R', F, st, hkk, hend⟩ := hc ι0 w vargs cs R0 hva0
    have hback : ∀ g, g < nx → ι g = ι' g := fun g hg => by rw [(F.lo g hg).1, hι0 g hg]
    have own0 : ∀ B, Own ι0 ⟨t, nx⟩ B → Own ι h B := by
      intro B ⟨g, o, i, h1, h2, h3, h4⟩
      exact ⟨g, o, i, subT_get hsub h1, h2, by rw [← hι0 g (hall g o h1)]; exact h3, h4⟩
    refine ⟨h1, ι, w', fr, ⟨fun g o hg => ?_, R.nx, R.sp, R.gl⟩, ⟨Gh.le_refl _, F.os, F.tp, F.out, F.sz, fun B hB hn => F.fr B hB (fun ho => hn (own0 B ho)), fun B hB => .inl hB, fun B hB => .inl hB, Nat.le_refl _, fun _ _ => ⟨rfl, id⟩⟩, st, hkk, ?_⟩
    · obtain ⟨i, h1, h2⟩ := R.ob g o hg
      refine ⟨i, h1, ?_⟩
      by_cases hown : Own ι0 ⟨t, nx⟩ i.b
      · obtain ⟨g1, o1, i1, k1, k2, k3, k4⟩ := hown
        have k1' := subT_get hsub k1
        rw [hι0 g1 (hall g1 o1 k1)] at k3
        have hgg : g1 = g := by
          by_cases hne : g1 = g
          · exact hne
          · exact absurd k4 (R.sp g1 g o1 o i1 i k1' hg k3 h1 k2 hne)
        rw [hgg] at k1 k1'
        rw [k1'] at hg
        have hoo : o1 = o := by injection hg
        rw [hoo] at k1
        obtain ⟨i2, q1, q2⟩ := R'.ob g o (subT_get hsame k1)
        rw [← hback g (hall g o k1), h1] at q1
        have hii : i = i2 := by injection q1
        rw [hii]
        exact q2.turn hback (hb g o k1)
      · exact h2.of_block (F.fr i.b h2.1 hown) F.sz
    · obtain ⟨e1, e2, e3, fn, V, e4, e5, e6⟩ := hend
      exact ⟨e1, e2, e3, fn, V, e4, e5, VR.turn hback v V hbv e6⟩
end
end Go.Am

/- Calls that are run once in a small heap and known from then on. Conditions: none. -/
namespace Go.Am

structure Memo where
  f : Nat
  args : List AVal
  t : Tree Obj
  nx : Nat
  v : AVal

def noO : Orc := fun _ _ _ => none
def memoO (M : Memo) : Orc := fun f args h => if Nat.beq f M.f && (veqL args M.args && (subT M.t h.m && Nat.ble M.nx h.next)) then some (M.v, h) else none
def orO (A B : Orc) : Orc := fun f args h => match A f args h with
  | some r => some r
  | none => B f args h
def memoWf (M : Memo) : Bool := bndT M.nx M.t && bndV M.nx M.v && bndL M.nx M.args && keysB M.nx 0 1 M.t
def memoRun (M : Memo) (r : CodeF × CallF) : Bool := match r.2 false M.f M.args ⟨M.t, M.nx⟩ .ret with
  | some (.ret v, h', _) => veq v M.v && subT M.t h'.m
  | _ => false

section
variable {P : Program} {G : Nat → Option Nat}
theorem noO_ok : OrcOK P G noO := fun _ _ _ _ _ e => by simp [noO] at e
theorem orO_ok {A B : Orc} (hA : OrcOK P G A) (hB : OrcOK P G B) : OrcOK P G (orO A B) := by
  intro f args h v h' e
  unfold orO at e
  split at e
  · next r hr => cases e; exact hA _ _ _ _ _ hr
  · exact hB _ _ _ _ _ e
theorem memoO_ok (hmix : P.follows .mixedOrders = true) {O : Orc} (hO : OrcOK P G O) {E : Nat → Option AFunc} (hE : TableOK P G E) (hG : ∀ x, G x = none) {M : Memo} {n : Nat} (h1 : memoRun M (evO O E n) = true) (h2 : memoWf M = true) : OrcOK P G (memoO M) := by
  intro f args h v h' e
  unfold memoO at e
  split at e
  · next hc =>
    cases e
    simp only [Bool.and_eq_true] at hc
    obtain ⟨c1, c2, c3, c4⟩ := hc
    simp only [memoWf, Bool.and_eq_true] at h2
    obtain ⟨⟨⟨w1, w2⟩, w3⟩, w4⟩ := h2
    unfold memoRun at h1
    split at h1
    · next v0 h0' cm0 he =>
      simp only [Bool.and_eq_true] at h1
      rw [veq_eq _ _ h1.1] at he
      have ct := callTo_of_evO hmix hO hE he
      rw [Nat.eq_of_beq_eq_true c1, veqL_eq _ _ c2]
      exact ct.wide h1.2 w1 w2 w3 w4 (fun x g hx => by rw [hG x] at hx; cases hx) c3 c4
    · cases h1
  · cases e

/-- All functions of a program. -/
def tabE (P : Program) (G : Nat → Option Nat) : Nat → Option AFunc := fun f => match P.funcs[f]? with
  | some fn => if fn.name == "runtime.NumGoroutine" then none else cfunc P G fn
  | none => none
theorem tabE_ok : TableOK P G (tabE P G) := by
  intro f fn' e
  unfold tabE at e
  split at e
  · next fn hf =>
    split at e
    · cases e
    · next hn => exact ⟨fn, hf, by simpa using hn, e⟩
  · cases e

/-- A call that the machine with an oracle brings to an end is met by the model's. -/
theorem calls_of_callTo {f : Nat} {args : List AVal} {h : Hp} {v : AVal} {h' : Hp} (hc : CallTo P G f args h v h') {ι : Gh} {w : World} {vargs : List Value} (R : Rel G ι h w) (hva : VRL ι args vargs) :
    Calls P f ⟨vargs⟩ w (fun e w' => ∃ ι' V, e = .returned V ∧ VR ι' v V ∧ Rel G ι' h' w' ∧ Fr ι h w ι' h' w') := by
  intro cs
  obtain ⟨⟨fn, f1, f2, f3⟩, ι', w', fr, R', F', st, hk, hd, _, hm, fn', V, hf', hres, hV⟩ := hc ι w vargs cs R hva
  exact ⟨.returned V, w', fr, ⟨ι', V, rfl, hV, R', F'⟩, st, hk.2, hm, hd, hk.1, fn', hf', hres⟩
end
end Go.Am
end
