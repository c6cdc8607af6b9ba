/- Small words for walking over the abstract machine. Conditions: none. -/
import Derived.Test.YtfaeabhbeolpgaaGreatDoorMc1
import Derived.IntWalk
set_option linter.all false
noncomputable section
namespace Go.Am

theorem QH : (false == true) = false := (rfl)
theorem QI : (true == false) = false := (rfl)
theorem QJ : (1 : Nat) = 0 ↔ False := by simp
theorem QK : (0 : Nat) = 1 ↔ False := by simp
theorem Jx {α : Type} (a : α) (l : List α) : nth (a :: l) 0 = some a := (rfl)
theorem Jy {α : Type} (a : α) (l : List α) (n : Nat) : nth (a :: l) (n + 1) = nth l n := (rfl)
def envOf (args : List AVal) : Env := fun n => (nth args n).getD und
theorem QG (n : Nat) : envOf [] n = und := (rfl)
theorem QE (a : AVal) (l : List AVal) : envOf (a :: l) 0 = a := (rfl)
theorem QF (a : AVal) (l : List AVal) (n : Nat) : envOf (a :: l) (n + 1) = envOf l n := (rfl)
theorem envOf_pad (args : List AVal) (k : Nat) : envOf args = fun n => (nth (cat args (List.replicate k und)) n).getD und := by
  funext n
  simp only [envOf, nth_eq, cat_eq]
  by_cases h : n < args.length
  · rw [List.getElem?_append_left h]
  · rw [List.getElem?_append_right (by omega), List.getElem?_eq_none (by omega)]
    by_cases h2 : n - args.length < k
    · simp [h2]
    · simp [h2]

section
variable {O : Orc} {E : Nat → Option AFunc}
theorem q_fn {f np k : Nat} {res : List ARV} {body : ACode} (hE : E f = some ⟨np, List.replicate k und, res, body⟩) {args : List AVal} {h : Hp} (hO : O f args h = none) {Q : AVal → Hp → Prop} (hn : ln args = np) {L : Nat} (hL : np + k = L)
    (x : Wp O E L body (envOf args) h (WpRes L res Q) (fun _ _ _ => False) (WpRes L res Q)) : RunsP O E f args h Q := by
  refine runsP_of hE hO hn (envOf_pad args k) ?_ x
  rw [ln_eq, cat_eq]
  rw [ln_eq] at hn
  simp [hn, hL]

/-! What follows from less follows from more -/
theorem WpO.mono {L : Nat} : ∀ (l : List AIns) {e : Env} {h : Hp} {Q Q' : Env → Hp → Prop}, (∀ e h, Q e h → Q' e h) → WpO O E L l e h Q → WpO O E L l e h Q'
  | [], e, h, Q, Q', i, x => i e h x
  | a :: l, e, h, Q, Q', i, x => by
    unfold WpO at x ⊢
    split
    · next hw =>
      rw [if_pos hw] at x
      split at x
      · exact WpO.mono l i x
      · exact x.mono fun v h' y => WpO.mono l i y
      · exact x.elim
    · next hw =>
      rw [if_neg hw] at x
      exact WpO.mono l i x
theorem WpW.mono {L : Nat} {ops : List AIns} {base : Nat} {h : Hp} : ∀ (l : List IW) {e : Env} {Q Q' : Env → Prop}, (∀ e, Q e → Q' e) → WpW L ops base h l e Q → WpW L ops base h l e Q'
  | [], e, Q, Q', i, x => i e x
  | .one ix :: l, e, Q, Q', i, x => by
    unfold WpW at x ⊢
    split at x
    · split at x
      · exact WpW.mono l i x
      · exact x.elim
    · exact x.elim
  | .again ix :: l, e, Q, Q', i, x => by
    unfold WpW at x ⊢
    split at x
    · split at x
      · exact ⟨x.1, WpW.mono l i x.2⟩
      · exact x.elim
    · exact x.elim
  | .res ix k :: l, e, Q, Q', i, x => by
    unfold WpW at x ⊢
    split at x
    · split at x
      · exact WpW.mono l i x
      · exact x.elim
    · exact x.elim
theorem WpD.mono {L : Nat} {ops : List AIns} {base : Nat} : ∀ (l : List IPh) {e : Env} {h : Hp} {Q Q' : Env → Hp → Prop}, (∀ e h, Q e h → Q' e h) → WpD O E L ops base l e h Q → WpD O E L ops base l e h Q'
  | [], e, h, Q, Q', i, x => x.elim
  | p :: ps, e, h, Q, Q', i, x => by
    unfold WpD at x ⊢
    refine WpW.mono _ (fun e1 y => ?_) x
    split at y
    · exact y.elim
    · split at y
      · cases ps with
        | nil => exact i _ _ y
        | cons _ _ => exact y.elim
      · split at y
        · exact y.elim
        · exact WpO.mono _ (fun e2 h2 z => WpD.mono ps i z) y
theorem WpLoop.mono {B B' : Env → Hp → (Env → Hp → Prop) → Prop} (hB : ∀ e h K K', (∀ e h, K e h → K' e h) → B e h K → B' e h K') : ∀ (n : Nat) {e : Env} {h : Hp}, WpLoop B n e h → WpLoop B' n e h
  | 0, _, _, x => x
  | n + 1, e, h, x => hB e h _ _ (fun _ _ y => WpLoop.mono hB n y) x
theorem Wp.mono {L : Nat} : ∀ (c : ACode) {e : Env} {h : Hp} {N N' : Env → Hp → Prop} {X X' : Nat → Env → Hp → Prop} {R R' : Env → Hp → Prop}, (∀ e h, N e h → N' e h) → (∀ i e h, X i e h → X' i e h) → (∀ e h, R e h → R' e h) → Wp O E L c e h N X R → Wp O E L c e h N' X' R'
  | .bad, _, _, _, _, _, _, _, _, _, _, _, x => x
  | .skip, _, _, _, _, _, _, _, _, i, _, _, x => i _ _ x
  | .dreg _ _ _, _, _, _, _, _, _, _, _, i, _, _, x => WpD.mono _ i x
  | .reg _, _, _, _, _, _, _, _, _, i, _, _, x => WpO.mono _ i x
  | .seq a b, _, _, _, _, _, _, _, _, i, j, k, x => Wp.mono a (fun _ _ y => Wp.mono b i j k y) j k x
  | .cond c a b, e, h, N, N', X, X', R, R', i, j, k, x => by
    unfold Wp at x ⊢
    split at x
    · exact Wp.mono a i j k x
    · exact Wp.mono b i j k x
    · exact x.elim
  | .block id b, _, _, _, _, _, _, _, _, i, j, k, x => Wp.mono b i (fun n e h y => by
      by_cases hn : n = id
      · rw [if_pos hn] at y ⊢; exact i _ _ y
      · rw [if_neg hn] at y ⊢; exact j _ _ _ y) k x
  | .loop b, e, h, N, N', X, X', R, R', _, j, k, x => by
    obtain ⟨n, y⟩ := x
    exact ⟨n, WpLoop.mono (B := fun e h K => Wp O E L b e h K X R) (B' := fun e h K => Wp O E L b e h K X' R') (fun _ _ _ _ hk z => Wp.mono b hk j k z) n y⟩
  | .scope b, _, _, _, _, _, _, _, _, i, j, k, x => Wp.mono b i j k x
  | .exit _, _, _, _, _, _, _, _, _, _, j, _, x => j _ _ _ x
  | .ret, _, _, _, _, _, _, _, _, _, _, k, x => k _ _ x

/-! One operation at a time, what follows kept closed -/
abbrev KO := Env → Hp → (Env → Hp → Prop) → Prop
variable (O E) in
def CallK (f : Nat) (args : List AVal) (dst : Option Nat) (e : Env) (h : Hp) (K : KO) (Q : Env → Hp → Prop) : Prop := RunsP O E f args h (fun v h' => K (updD e dst v) h' Q)
variable (O E) in
def stepR (r : Option ARes) (dst : Option Nat) (e : Env) (h : Hp) (K : KO) (Q : Env → Hp → Prop) : Prop := match r with
  | some (.val v h') => K (updD e dst v) h' Q
  | some (.call f args) => CallK O E f args dst e h K Q
  | _ => False
variable (O E) in
def stepG (w : Bool) (r : Option ARes) (dst : Option Nat) (e : Env) (h : Hp) (K : KO) (Q : Env → Hp → Prop) : Prop := match w with
  | true => stepR O E r dst e h K Q
  | false => K (updD e dst und) h Q
theorem Jz {L : Nat} {e : Env} {h : Hp} {Q : Env → Hp → Prop} : WpO O E L [] e h Q = Q e h := (rfl)
theorem JA {L : Nat} {dst : Option Nat} {op : AOp} {g : Option (Nat × Bool)} {l : List AIns} {e : Env} {h : Hp} {Q : Env → Hp → Prop} :
    WpO O E L (⟨dst, op, g⟩ :: l) e h Q = stepG O E (wantedA (envL L e) g) (aop (envL L e) h op) dst e h (WpO O E L l) Q := by
  conv => lhs; unfold WpO
  unfold stepG stepR CallK
  cases hw : wantedA (envL L e) g
  · simp only [Bool.false_eq_true, if_false]
  · simp only [if_true]; rfl
theorem JB {r : Option ARes} {dst : Option Nat} {e : Env} {h : Hp} {K : KO} {Q : Env → Hp → Prop} : stepG O E true r dst e h K Q = stepR O E r dst e h K Q := (rfl)
theorem JC {r : Option ARes} {dst : Option Nat} {e : Env} {h : Hp} {K : KO} {Q : Env → Hp → Prop} : stepG O E false r dst e h K Q = K (updD e dst und) h Q := (rfl)
theorem JD {v : AVal} {h' : Hp} {dst : Option Nat} {e : Env} {h : Hp} {K : KO} {Q : Env → Hp → Prop} : stepR O E (some (.val v h')) dst e h K Q = K (updD e dst v) h' Q := (rfl)
theorem JE {f : Nat} {args : List AVal} {dst : Option Nat} {e : Env} {h : Hp} {K : KO} {Q : Env → Hp → Prop} : stepR O E (some (.call f args)) dst e h K Q = CallK O E f args dst e h K Q := (rfl)
/-- A call, by its contract. -/
theorem q_call {f : Nat} {args : List AVal} {dst : Option Nat} {e : Env} {h : Hp} {K : KO} {Q : Env → Hp → Prop} {P : AVal → Hp → Prop} (c : RunsP O E f args h P) (x : ∀ v h', P v h' → K (updD e dst v) h' Q) : CallK O E f args dst e h K Q := c.mono x

/-! Windows -/
abbrev KW := Env → (Env → Prop) → Prop
def stepV (r : Option AVal) (dst : Option Nat) (e : Env) (K : KW) (Q : Env → Prop) : Prop := match r with
  | some v => K (updD e dst v) Q
  | none => False
def stepA (L : Nat) (r : Option AVal) (dst : Option Nat) (e : Env) (K : KW) (Q : Env → Prop) : Prop := match r with
  | some v => sameD (envL L e) dst v = true ∧ K e Q
  | none => False
def stepL (r : Option (AVal × Option Obj)) (dst : Option Nat) (e : Env) (K : KW) (Q : Env → Prop) : Prop := match r with
  | some (v, _) => K (updD e dst v) Q
  | none => False
def stepWone (L : Nat) (h : Hp) (i : Option AIns) (e : Env) (K : KW) (Q : Env → Prop) : Prop := match i with
  | some i => stepV (one1 i (envL L e) h) i.dst e K Q
  | none => False
def stepWagain (L : Nat) (h : Hp) (i : Option AIns) (e : Env) (K : KW) (Q : Env → Prop) : Prop := match i with
  | some i => stepA L (one1 i (envL L e) h) i.dst e K Q
  | none => False
def stepWres (L : Nat) (k : Nat) (i : Option AIns) (e : Env) (K : KW) (Q : Env → Prop) : Prop := match i with
  | some i => stepL (al1 i (envL L e) k) i.dst e K Q
  | none => False
section
variable {L : Nat} {ops : List AIns} {base : Nat} {h : Hp} {e : Env} {K : KW} {Q : Env → Prop} {dst : Option Nat}
theorem Jb : WpW L ops base h [] e Q = Q e := (rfl)
theorem Jc {ix : Nat} {l : List IW} : WpW L ops base h (.one ix :: l) e Q = stepWone L h (nth ops ix) e (WpW L ops base h l) Q := by
  conv => lhs; unfold WpW
  unfold stepWone stepV; rfl
theorem Jd {ix : Nat} {l : List IW} : WpW L ops base h (.again ix :: l) e Q = stepWagain L h (nth ops ix) e (WpW L ops base h l) Q := by
  conv => lhs; unfold WpW
  unfold stepWagain stepA; rfl
theorem Je {ix k : Nat} {l : List IW} : WpW L ops base h (.res ix k :: l) e Q = stepWres L (base + k) (nth ops ix) e (WpW L ops base h l) Q := by
  conv => lhs; unfold WpW
  unfold stepWres stepL; rfl
def one1' (w : Bool) (r : Option ARes) : Option AVal := match w with
  | true => (match r with
    | some (.val v _) => some v
    | _ => none)
  | false => some und
theorem one1ueq {d : Option Nat} {op : AOp} {g : Option (Nat × Bool)} {tm : List AVal} : one1 ⟨d, op, g⟩ tm h = one1' (wantedA tm g) (aop tm h op) := by
  unfold one1 one1'
  cases hw : wantedA tm g
  · simp
  · simp only [if_true]; rfl
theorem Jl {v : AVal} {h' : Hp} : one1' true (some (.val v h')) = some v := (rfl)
theorem Jm {r : Option ARes} : one1' false r = some und := (rfl)
theorem Jn {d : Option Nat} {op : AOp} {tm : List AVal} {k : Nat} : al1 ⟨d, op, none⟩ tm k = match Jp tm op with
    | some (f, ob) => some (f k, some ob)
    | none => none := (rfl)
theorem Jf {d : Option Nat} {op : AOp} {g : Option (Nat × Bool)} : stepWone L h (some ⟨d, op, g⟩) e K Q = stepV (one1' (wantedA (envL L e) g) (aop (envL L e) h op)) d e K Q := by show stepV (one1 ⟨d, op, g⟩ (envL L e) h) d e K Q = _; rw [one1ueq]
theorem Jg {d : Option Nat} {op : AOp} {g : Option (Nat × Bool)} : stepWagain L h (some ⟨d, op, g⟩) e K Q = stepA L (one1' (wantedA (envL L e) g) (aop (envL L e) h op)) d e K Q := by show stepA L (one1 ⟨d, op, g⟩ (envL L e) h) d e K Q = _; rw [one1ueq]
theorem Jh {k : Nat} {i : AIns} : stepWres L k (some i) e K Q = stepL (al1 i (envL L e) k) i.dst e K Q := (rfl)
theorem Ji {v : AVal} : stepV (some v) dst e K Q = K (updD e dst v) Q := (rfl)
theorem Jj {v : AVal} : stepA L (some v) dst e K Q = (sameD (envL L e) dst v = true ∧ K e Q) := (rfl)
theorem Jk {v : AVal} {o : Option Obj} : stepL (some (v, o)) dst e K Q = K (updD e dst v) Q := (rfl)
theorem Jq {d : Nat} {v : AVal} : sameD (envL L e) (some d) v = if d < L then veq (e d) v else true := by
  simp only [sameD, nth_envL]
  by_cases h : d < L <;> simp [h]
end

/-! Phases -/
variable (O E) in
def stepD2 (L : Nat) (ops : List AIns) (base : Nat) (ps : List IPh) (e1 : Env) (h1 : Hp) (Q : Env → Hp → Prop) (loud : Option Nat) : Prop := match loud with
  | none => (match ps with
    | [] => Q e1 h1
    | _ => False)
  | some ix => match nth ops ix with
    | none => False
    | some i => WpO O E L [i] e1 h1 fun e2 h2 => WpD O E L ops base ps e2 h2 Q
variable (O E) in
def stepD1 (L : Nat) (ops : List AIns) (base : Nat) (ps : List IPh) (e1 : Env) (Q : Env → Hp → Prop) (loud : Option Nat) (o : Option Hp) : Prop := match o with
  | none => False
  | some h1 => stepD2 O E L ops base ps e1 h1 Q loud
variable (O E) in
def contD (L : Nat) (ops : List AIns) (base : Nat) (p : IPh) (ps : List IPh) (h : Hp) (Q : Env → Hp → Prop) (e1 : Env) : Prop := stepD1 O E L ops base ps e1 Q p.loud (Jw ops base p.adopt (envL L e1) h)
section
variable {L : Nat} {ops : List AIns} {base : Nat} {ps : List IPh} {h : Hp} {e : Env} {Q : Env → Hp → Prop}
theorem Ja {w : List IW} {ad : List (Nat × Nat)} {loud : Option Nat} : WpD O E L ops base (⟨w, ad, loud⟩ :: ps) e h Q = WpW L ops base h w e (contD O E L ops base ⟨w, ad, loud⟩ ps h Q) := by
  conv => lhs; unfold WpD
  rfl
theorem Jr {w : List IW} {ad : List (Nat × Nat)} {loud : Option Nat} : contD O E L ops base ⟨w, ad, loud⟩ ps h Q e = stepD1 O E L ops base ps e Q loud (Jw ops base ad (envL L e) h) := (rfl)
theorem Js {loud : Option Nat} {h1 : Hp} : stepD1 O E L ops base ps e Q loud (some h1) = stepD2 O E L ops base ps e h1 Q loud := (rfl)
theorem Jt : stepD2 O E L ops base [] e h Q none = Q e h := (rfl)
variable (O E) in
def stepI (L : Nat) (ops : List AIns) (base : Nat) (ps : List IPh) (e : Env) (h : Hp) (Q : Env → Hp → Prop) (i : Option AIns) : Prop := match i with
  | none => False
  | some i => WpO O E L [i] e h fun e2 h2 => WpD O E L ops base ps e2 h2 Q
theorem Ju {ix : Nat} : stepD2 O E L ops base ps e h Q (some ix) = stepI O E L ops base ps e h Q (nth ops ix) := (rfl)
theorem Jv {i : AIns} : stepI O E L ops base ps e h Q (some i) = WpO O E L [i] e h fun e2 h2 => WpD O E L ops base ps e2 h2 Q := (rfl)
end

/-! The steps, one lemma a construct -/
variable {L : Nat} {e : Env} {h : Hp} {N : Env → Hp → Prop} {X : Nat → Env → Hp → Prop} {R : Env → Hp → Prop}
theorem q_seq {a b : ACode} (x : Wp O E L a e h (fun e' h' => Wp O E L b e' h' N X R) X R) : Wp O E L (.seq a b) e h N X R := x
theorem q_reg {ops : List AIns} (x : WpO O E L ops e h N) : Wp O E L (.reg ops) e h N X R := x
/-- Some keys are kept for a region's new blocks. -/
def bump (h : Hp) (k : Nat) : Hp := ⟨h.m, h.next + k⟩
theorem bump_next (h : Hp) (k : Nat) : (bump h k).next = h.next + k := (rfl)
theorem q_dreg {k : Nat} {ops : List AIns} {plan : List IPh} (x : WpD O E L ops h.next plan e (bump h k) N) : Wp O E L (.dreg k ops plan) e h N X R := x
theorem q_dreg0 {ops : List AIns} {plan : List IPh} (x : WpD O E L ops h.next plan e h N) : Wp O E L (.dreg 0 ops plan) e h N X R := x
theorem q_block {id : Nat} {b : ACode} (x : Wp O E L b e h N (fun i e' h' => if i = id then N e' h' else X i e' h') R) : Wp O E L (.block id b) e h N X R := x
theorem q_ret (x : R e h) : Wp O E L .ret e h N X R := x
theorem q_skip (x : N e h) : Wp O E L .skip e h N X R := x
theorem q_exit {i : Nat} (x : X i e h) : Wp O E L (.exit i) e h N X R := x
theorem q_cond {c : AOpd} {a b : ACode} {q : Bool} (hc : opd (envL L e) c = .bool q) (x1 : q = true → Wp O E L a e h N X R) (x2 : q = false → Wp O E L b e h N X R) : Wp O E L (.cond c a b) e h N X R := by
  unfold Wp
  cases q with
  | true => rw [hc]; exact x1 rfl
  | false => rw [hc]; exact x2 rfl
/-- A loop, by a relation and a measure. -/
theorem q_loop {b : ACode} (I : Nat → Env → Hp → Prop) (k : Nat) (h0 : I k e h)
    (hs : ∀ n e h, I n e h → Wp O E L b e h (fun e' h' => ∃ m, m < n ∧ I m e' h') X R) : Wp O E L (.loop b) e h N X R := by
  have up : ∀ n e h, WpLoop (fun e h K => Wp O E L b e h K X R) n e h → WpLoop (fun e h K => Wp O E L b e h K X R) (n + 1) e h := by
    intro n
    induction n with
    | zero => intro e h x; exact x.elim
    | succ n ih => intro e h x; exact Wp.mono b (fun e' h' y => ih e' h' y) (fun _ _ _ y => y) (fun _ _ y => y) x
  have up' : ∀ d n e h, WpLoop (fun e h K => Wp O E L b e h K X R) n e h → WpLoop (fun e h K => Wp O E L b e h K X R) (n + d) e h := by
    intro d
    induction d with
    | zero => intro n e h x; exact x
    | succ d ih => intro n e h x; exact up _ e h (ih n e h x)
  have key : ∀ n m e h, m < n → I m e h → WpLoop (fun e h K => Wp O E L b e h K X R) n e h := by
    intro n
    induction n with
    | zero => intro m e h hm; omega
    | succ n ih =>
      intro m e h hm x
      refine Wp.mono b (fun e' h' y => ?_) (fun _ _ _ y => y) (fun _ _ y => y) (hs m e h x)
      obtain ⟨m', hm', y⟩ := y
      exact ih m' e' h' (by omega) y
  exact ⟨k + 1, key (k + 1) k e h (by omega) h0⟩
end
end Go.Am

/- Arithmetic of the abstract machine on natural numbers. Conditions: none. -/
namespace Go.Am
open Go

theorem nble (a b : Nat) : Nat.ble a b = decide (a ≤ b) := by
  cases h : Nat.ble a b
  · exact (decide_eq_false (fun x => by rw [Nat.ble_eq_true_of_le x] at h; cases h)).symm
  · exact (decide_eq_true (Nat.le_of_ble_eq_true h)).symm
theorem nblt (a b : Nat) : Nat.blt a b = decide (a < b) := nble (a + 1) b
theorem nbeq (a b : Nat) : Nat.beq a b = decide (a = b) := beq_eq a b

theorem QL (k : IntKind) (n : Nat) : natOf (.int k (n : Int)) = some n := rfl

theorem wrap_i64 {n : Int} (h1 : 0 ≤ n) (h2 : n < 2 ^ 63) : IntKind.i64.wrap n = n := IntWalk.i64_in n ⟨by omega, by omega⟩
theorem wrap_u64 {n : Int} (h1 : 0 ≤ n) (h2 : n < 2 ^ 64) : IntKind.u64.wrap n = n := IntWalk.u64_in n ⟨by omega, by omega⟩
theorem wrap_u8 {n : Int} (h1 : 0 ≤ n) (h2 : n < 256) : IntKind.u8.wrap n = n := IntWalk.u8_in n ⟨by omega, by omega⟩

theorem b_add {k : IntKind} {a b : Nat} (h : k.wrap ((a + b : Nat) : Int) = ((a + b : Nat) : Int)) : binV .add (.int k (a : Int)) (.int k (b : Int)) = some (.int k ((a + b : Nat) : Int)) := by
  simp only [binV, if_true, intBin, wrapF_eq]
  rw [show ((a : Int) + (b : Int)) = ((a + b : Nat) : Int) from by simp, h]
theorem b_add_i64 {a b : Nat} (h : a + b < 2 ^ 63) : binV .add (.int .i64 (a : Int)) (.int .i64 (b : Int)) = some (.int .i64 ((a + b : Nat) : Int)) := b_add (wrap_i64 (by omega) (by omega))
theorem b_add_u64 {a b : Nat} (h : a + b < 2 ^ 64) : binV .add (.int .u64 (a : Int)) (.int .u64 (b : Int)) = some (.int .u64 ((a + b : Nat) : Int)) := b_add (wrap_u64 (by omega) (by omega))
theorem b_add_u8 {a b : Nat} (h : a + b < 256) : binV .add (.int .u8 (a : Int)) (.int .u8 (b : Int)) = some (.int .u8 ((a + b : Nat) : Int)) := b_add (wrap_u8 (by omega) (by omega))
theorem b_sub_i64 {a b : Nat} (h : b ≤ a) (h2 : a < 2 ^ 63) : binV .sub (.int .i64 (a : Int)) (.int .i64 (b : Int)) = some (.int .i64 ((a - b : Nat) : Int)) := by
  simp only [binV, if_true, intBin, wrapF_eq]
  rw [show ((a : Int) - (b : Int)) = ((a - b : Nat) : Int) from by omega, wrap_i64 (by omega) (by omega)]
theorem b_mul_i64 {a b : Nat} (h : a * b < 2 ^ 63) : binV .mul (.int .i64 (a : Int)) (.int .i64 (b : Int)) = some (.int .i64 ((a * b : Nat) : Int)) := by
  simp only [binV, if_true, intBin, wrapF_eq]
  rw [show ((a : Int) * (b : Int)) = ((a * b : Nat) : Int) from by simp, wrap_i64 (by omega) (by omega)]
theorem b_quo {k : IntKind} {a b : Nat} (hb : b ≠ 0) (h : k.wrap ((a / b : Nat) : Int) = ((a / b : Nat) : Int)) : binV .quo (.int k (a : Int)) (.int k (b : Int)) = some (.int k ((a / b : Nat) : Int)) := by
  simp only [binV, if_true, intBin]
  rw [if_neg (by omega), show ((a : Int).tdiv (b : Int)) = ((a / b : Nat) : Int) from rfl, h]
theorem b_quo_i64 {a b : Nat} (hb : b ≠ 0) (h : a < 2 ^ 63) : binV .quo (.int .i64 (a : Int)) (.int .i64 (b : Int)) = some (.int .i64 ((a / b : Nat) : Int)) :=
  b_quo hb (wrap_i64 (Int.natCast_nonneg _) (by have := Nat.div_le_self a b; omega))
theorem b_quo_u8 {a b : Nat} (hb : b ≠ 0) (h : a < 256) : binV .quo (.int .u8 (a : Int)) (.int .u8 (b : Int)) = some (.int .u8 ((a / b : Nat) : Int)) :=
  b_quo hb (wrap_u8 (Int.natCast_nonneg _) (by have := Nat.div_le_self a b; omega))
theorem b_rem {k : IntKind} {a b : Nat} (hb : b ≠ 0) : binV .rem (.int k (a : Int)) (.int k (b : Int)) = some (.int k ((a % b : Nat) : Int)) := by
  simp only [binV, if_true, intBin]
  rw [if_neg (by omega), show ((a : Int).tmod (b : Int)) = ((a % b : Nat) : Int) from rfl]
theorem ofInt_nat (w a : Nat) : BitVec.ofInt w (a : Int) = BitVec.ofNat w a := BitVec.ofInt_natCast w a
theorem b_and_u64 {a b : Nat} (ha : a < 2 ^ 64) (hb : b < 2 ^ 64) : binV .and (.int .u64 (a : Int)) (.int .u64 (b : Int)) = some (.int .u64 ((a &&& b : Nat) : Int)) := by
  simp only [binV, if_true, intBin]
  have e : (BitVec.ofInt IntKind.u64.bits (a : Int) &&& BitVec.ofInt IntKind.u64.bits (b : Int)).toNat = a &&& b := by
    rw [ofInt_nat, ofInt_nat, BitVec.toNat_and, BitVec.toNat_ofNat, BitVec.toNat_ofNat]
    show (a % 2 ^ 64) &&& (b % 2 ^ 64) = _
    rw [Nat.mod_eq_of_lt ha, Nat.mod_eq_of_lt hb]
  rw [e, wrap_u64 (by omega) (by have := Nat.and_le_left (n := a) (m := b); omega)]
theorem b_and_i64 {a b : Nat} (ha : a < 2 ^ 63) (hb : b < 2 ^ 63) : binV .and (.int .i64 (a : Int)) (.int .i64 (b : Int)) = some (.int .i64 ((a &&& b : Nat) : Int)) := by
  simp only [binV, if_true, intBin]
  have e : (BitVec.ofInt IntKind.i64.bits (a : Int) &&& BitVec.ofInt IntKind.i64.bits (b : Int)).toNat = a &&& b := by
    rw [ofInt_nat, ofInt_nat, BitVec.toNat_and, BitVec.toNat_ofNat, BitVec.toNat_ofNat]
    show (a % 2 ^ 64) &&& (b % 2 ^ 64) = _
    rw [Nat.mod_eq_of_lt (by omega), Nat.mod_eq_of_lt (by omega)]
  rw [e, wrap_i64 (by omega) (by have := Nat.and_le_left (n := a) (m := b); omega)]
theorem b_or_u64 {a b : Nat} (ha : a < 2 ^ 64) (hb : b < 2 ^ 64) : binV .or (.int .u64 (a : Int)) (.int .u64 (b : Int)) = some (.int .u64 ((a ||| b : Nat) : Int)) := by
  simp only [binV, if_true, intBin]
  have e : (BitVec.ofInt IntKind.u64.bits (a : Int) ||| BitVec.ofInt IntKind.u64.bits (b : Int)).toNat = a ||| b := by
    rw [ofInt_nat, ofInt_nat, BitVec.toNat_or, BitVec.toNat_ofNat, BitVec.toNat_ofNat]
    show (a % 2 ^ 64) ||| (b % 2 ^ 64) = _
    rw [Nat.mod_eq_of_lt ha, Nat.mod_eq_of_lt hb]
  rw [e, wrap_u64 (by omega) (by have := Nat.or_lt_two_pow ha hb; omega)]
theorem b_shr_u64 {k : IntKind} {a s : Nat} (hs : s ≤ 64) : binV .shr (.int .u64 (a : Int)) (.int k (s : Int)) = some (.int .u64 ((a / 2 ^ s : Nat) : Int)) := by
  simp only [binV, shiftBin]
  rw [if_neg (by omega)]
  have e : Nat.min ((s : Int)).toNat IntKind.u64.bits = s := by
    show min s 64 = s
    omega
  rw [e, show ((2 : Int) ^ s) = ((2 ^ s : Nat) : Int) from by simp, Int.fdiv_eq_ediv_of_nonneg _ (Int.natCast_nonneg _)]
  rfl
theorem b_shl_u64 {k : IntKind} {a s : Nat} (h : a * 2 ^ s < 2 ^ 64) (hs : s ≤ 64) : binV .shl (.int .u64 (a : Int)) (.int k (s : Int)) = some (.int .u64 ((a * 2 ^ s : Nat) : Int)) := by
  simp only [binV, shiftBin]
  rw [if_neg (by omega)]
  have e : Nat.min ((s : Int)).toNat IntKind.u64.bits = s := by
    show min s 64 = s
    omega
  rw [e, show ((a : Int) * (2 : Int) ^ s) = ((a * 2 ^ s : Nat) : Int) from by simp, wrap_u64 (by omega) (by omega)]

/-! Comparisons, of any integers -/
theorem b_lss {k : IntKind} {a b : Int} : binV .lss (.int k a) (.int k b) = some (.bool (decide (a < b))) := by simp only [binV, if_true, intBin]
theorem b_leq {k : IntKind} {a b : Int} : binV .leq (.int k a) (.int k b) = some (.bool (decide (a ≤ b))) := by simp only [binV, if_true, intBin]
theorem b_gtr {k : IntKind} {a b : Int} : binV .gtr (.int k a) (.int k b) = some (.bool (decide (b < a))) := by simp only [binV, if_true, intBin, gt_iff_lt]
theorem b_geq {k : IntKind} {a b : Int} : binV .geq (.int k a) (.int k b) = some (.bool (decide (b ≤ a))) := by simp only [binV, if_true, intBin, ge_iff_le]
theorem b_eql {k : IntKind} {a b : Int} : binV .eql (.int k a) (.int k b) = some (.bool (decide (a = b))) := by simp only [binV, if_true, intBin]; rfl
theorem b_neq {k : IntKind} {a b : Int} : binV .neq (.int k a) (.int k b) = some (.bool (decide (a ≠ b))) := by
  simp only [binV, if_true, intBin]
  by_cases h : a = b <;> simp [h]
theorem c_lt (a b : Nat) : ((a : Int) < (b : Int)) = (a < b) := by simp
theorem c_le (a b : Nat) : ((a : Int) ≤ (b : Int)) = (a ≤ b) := by simp
theorem c_eq (a b : Nat) : ((a : Int) = (b : Int)) = (a = b) := by simp [Int.ofNat_inj]
theorem c_ne (a b : Nat) : ((a : Int) ≠ (b : Int)) = (a ≠ b) := by simp [Int.ofNat_inj]

theorem k_u8 {a : Nat} (h : a < 256) : wrapF .u8 (a : Int) = (a : Int) := by rw [wrapF_eq]; exact wrap_u8 (by omega) (by omega)
theorem k_i64 {a : Nat} (h : a < 2 ^ 63) : wrapF .i64 (a : Int) = (a : Int) := by rw [wrapF_eq]; exact wrap_i64 (by omega) (by omega)
end Go.Am
namespace Go.Am
theorem b_shr_u8 {k : IntKind} {a s : Nat} (hs : s ≤ 8) : binV .shr (.int .u8 (a : Int)) (.int k (s : Int)) = some (.int .u8 ((a / 2 ^ s : Nat) : Int)) := by
  simp only [binV, shiftBin]
  rw [if_neg (by omega)]
  have e : Nat.min ((s : Int)).toNat IntKind.u8.bits = s := by
    show min s 8 = s
    omega
  rw [e, show ((2 : Int) ^ s) = ((2 ^ s : Nat) : Int) from by simp, Int.fdiv_eq_ediv_of_nonneg _ (Int.natCast_nonneg _)]
  rfl
end Go.Am
end
