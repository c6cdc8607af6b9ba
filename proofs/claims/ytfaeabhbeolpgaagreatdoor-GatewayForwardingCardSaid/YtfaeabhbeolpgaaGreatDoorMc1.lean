/- Weakest preconditions over the abstract machine, places as a function. Conditions: none. -/
import Derived.Test.YtfaeabhbeolpgaaGreatDoorMb2
set_option linter.all false
noncomputable section
namespace Go.Am

/-! ### Places as a function -/
abbrev Env := Nat → AVal
def upd (e : Env) (d : Nat) (v : AVal) : Env := fun n => if n = d then v else e n
def updD (e : Env) (d : Option Nat) (v : AVal) : Env := match d with
  | some d => upd e d v
  | none => e
def envL (L : Nat) (e : Env) : List AVal := (List.range L).map e

theorem Qx (e : Env) (d : Nat) (v : AVal) (n : Nat) : upd e d v n = if n = d then v else e n := rfl
theorem envL_length (L : Nat) (e : Env) : (envL L e).length = L := by simp [envL]
theorem nth_envL (L : Nat) (e : Env) (n : Nat) : nth (envL L e) n = if n < L then some (e n) else none := by
  rw [nth_eq, envL]
  by_cases h : n < L
  · simp [h]
  · simp [h]
theorem Qv (L : Nat) (e : Env) (n : Nat) : opd (envL L e) (.t n) = if n < L then e n else und := by
  simp only [opd, nth_envL]
  by_cases h : n < L <;> simp [h]
theorem Qw (l : List AVal) (v : AVal) : opd l (.c v) = v := rfl
theorem putD_envL (L : Nat) (e : Env) (d : Option Nat) (v : AVal) : putD (envL L e) d v = envL L (updD e d v) := by
  cases d with
  | none => rfl
  | some d =>
    simp only [putD, updD, setN_eq]
    apply List.ext_getElem?
    intro n
    have key : ∀ f : Env, (envL L f)[n]? = if n < L then some (f n) else none := fun f => by rw [← nth_eq, nth_envL]
    rw [List.getElem?_set, key, key, envL_length]
    simp only [Qx]
    by_cases h1 : d = n
    · subst h1; by_cases h2 : d < L <;> simp [h2]
    · by_cases h2 : n < L <;> simp [h1, h2, show ¬ n = d from fun h => h1 h.symm]
theorem JF (l : List AVal) : wantedA l none = true := rfl
theorem JG (L : Nat) (e : Env) (s : Nat) (b : Bool) : wantedA (envL L e) (some (s, b)) = if s < L then (match e s with | .bool c => c == b | _ => false) else false := by
  simp only [wantedA, nth_envL]
  by_cases h : s < L <;> simp [h]
  cases e s <;> rfl
theorem envL_of (l : List AVal) : envL l.length (fun n => (nth l n).getD und) = l := by
  apply List.ext_getElem?
  intro n
  rw [← nth_eq, nth_envL]
  by_cases h : n < l.length
  · rw [if_pos h, nth_eq, List.getElem?_eq_getElem h]; rfl
  · rw [if_neg h, List.getElem?_eq_none (by omega)]

/-! ### What is to be shown -/
section
variable (O : Orc) (E : Nat → Option AFunc)

def Runs (f : Nat) (args : List AVal) (h : Hp) (v : AVal) (h' : Hp) : Prop := ∃ M, ∀ m, M ≤ m → (evO O E m).2 false f args h .ret = some (.ret v, h', .ret)
def RunsP (f : Nat) (args : List AVal) (h : Hp) (Q : AVal → Hp → Prop) : Prop := ∃ v h', Runs O E f args h v h' ∧ Q v h'
variable {O E} in
theorem RunsP.mono {f : Nat} {args : List AVal} {h : Hp} {Q Q' : AVal → Hp → Prop} (x : RunsP O E f args h Q) (i : ∀ v h', Q v h' → Q' v h') : RunsP O E f args h Q' :=
  let ⟨v, h', r, q⟩ := x; ⟨v, h', r, i v h' q⟩

variable (L : Nat)

def WpO : List AIns → Env → Hp → (Env → Hp → Prop) → Prop
  | [], e, h, Q => Q e h
  | i :: l, e, h, Q =>
    if wantedA (envL L e) i.guard = true then
      match aop (envL L e) h i.op with
      | some (.val v h') => WpO l (updD e i.dst v) h' Q
      | some (.call f args) => RunsP O E f args h (fun v h' => WpO l (updD e i.dst v) h' Q)
      | _ => False
    else WpO l (updD e i.dst und) h Q

def WpW (ops : List AIns) (base : Nat) (h : Hp) : List IW → Env → (Env → Prop) → Prop
  | [], e, Q => Q e
  | .one ix :: l, e, Q => match nth ops ix with
    | some i => match one1 i (envL L e) h with
      | some v => WpW ops base h l (updD e i.dst v) Q
      | none => False
    | none => False
  | .again ix :: l, e, Q => match nth ops ix with
    | some i => match one1 i (envL L e) h with
      | some v => sameD (envL L e) i.dst v = true ∧ WpW ops base h l e Q
      | none => False
    | none => False
  | .res ix k :: l, e, Q => match nth ops ix with
    | some i => match al1 i (envL L e) (base + k) with
      | some (v, _) => WpW ops base h l (updD e i.dst v) Q
      | none => False
    | none => False

def WpD (ops : List AIns) (base : Nat) : List IPh → Env → Hp → (Env → Hp → Prop) → Prop
  | [], _, _, _ => False
  | p :: ps, e, h, Q => WpW L ops base h p.win e fun e1 =>
    match Jw ops base p.adopt (envL L e1) h with
    | none => False
    | some h1 => match p.loud with
      | none => (match ps with
        | [] => Q e1 h1
        | _ => False)
      | some ix => match nth ops ix with
        | none => False
        | some i => WpO O E L [i] e1 h1 fun e2 h2 => WpD ops base ps e2 h2 Q

def WpLoop (B : Env → Hp → (Env → Hp → Prop) → Prop) : Nat → Env → Hp → Prop
  | 0, _, _ => False
  | n + 1, e, h => B e h fun e' h' => WpLoop B n e' h'

def Wp : ACode → Env → Hp → (Env → Hp → Prop) → (Nat → Env → Hp → Prop) → (Env → Hp → Prop) → Prop
  | .bad, _, _, _, _, _ => False
  | .skip, e, h, N, _, _ => N e h
  | .dreg kk ops plan, e, h, N, _, _ => WpD O E L ops h.next plan e ⟨h.m, h.next + kk⟩ N
  | .reg ops, e, h, N, _, _ => WpO O E L ops e h N
  | .seq a b, e, h, N, X, R => Wp a e h (fun e' h' => Wp b e' h' N X R) X R
  | .cond c a b, e, h, N, X, R => match opd (envL L e) c with
    | .bool true => Wp a e h N X R
    | .bool false => Wp b e h N X R
    | _ => False
  | .block id b, e, h, N, X, R => Wp b e h N (fun i e' h' => if i = id then N e' h' else X i e' h') R
  | .loop b, e, h, _, X, R => ∃ n, WpLoop (fun e h K => Wp b e h K X R) n e h
  | .scope b, e, h, N, X, R => Wp b e h N X R
  | .exit id, e, h, _, X, _ => X id e h
  | .ret, e, h, _, _, R => R e h

/-! ### It is enough -/
def Ev (c : ACode) (e : Env) (h : Hp) (x : AExit) (e' : Env) (h' : Hp) : Prop := ∃ M, ∀ m, M ≤ m → (evO O E m).1 c false ⟨envL L e, []⟩ h .ret = some (x, ⟨envL L e', []⟩, h', .ret)
def Post (N : Env → Hp → Prop) (X : Nat → Env → Hp → Prop) (R : Env → Hp → Prop) : AExit → Env → Hp → Prop
  | .normal, e, h => N e h
  | .exit i, e, h => X i e h
  | .ret, e, h => R e h
  | .pan _, _, _ => False

variable {O E L}

theorem Ev.of {c : ACode} {e : Env} {h : Hp} {x : AExit} {e' : Env} {h' : Hp} (M : Nat) (g : ∀ m, M ≤ m → codeA (evO O E m) c false ⟨envL L e, []⟩ h .ret = some (x, ⟨envL L e', []⟩, h', .ret)) : Ev O E L c e h x e' h' :=
  ⟨M + 1, fun m hm => by
    obtain ⟨k, rfl⟩ : ∃ k, m = k + 1 := ⟨m - 1, by omega⟩
    exact g k (by omega)⟩

theorem wpO_ok : ∀ (l : List AIns) {e : Env} {h : Hp} {Q : Env → Hp → Prop}, WpO O E L l e h Q →
    ∃ e' h', Q e' h' ∧ ∃ M, ∀ m, M ≤ m → opsA (evO O E m).2 false l ⟨envL L e, []⟩ h .ret = some (.normal, ⟨envL L e', []⟩, h', .ret)
  | [], e, h, Q, x => ⟨e, h, x, 0, fun _ _ => rfl⟩
  | i :: l, e, h, Q, x => by
    unfold WpO at x
    split at x
    · next hw =>
      split at x
      · next v h1 ha =>
        obtain ⟨e', h', q, M, r⟩ := wpO_ok l x
        refine ⟨e', h', q, M, fun m hm => ?_⟩
        unfold opsA
        rw [if_pos hw]
        simp only [ha, putD_envL]
        exact r m hm
      · next f args ha =>
        obtain ⟨v, h1, ⟨M1, r1⟩, y⟩ := x
        obtain ⟨e', h', q, M, r⟩ := wpO_ok l y
        refine ⟨e', h', q, max M1 M, fun m hm => ?_⟩
        unfold opsA
        rw [if_pos hw]
        simp only [ha, r1 m (by omega), putD_envL]
        exact r m (by omega)
      · exact x.elim
    · next hw =>
      obtain ⟨e', h', q, M, r⟩ := wpO_ok l x
      refine ⟨e', h', q, M, fun m hm => ?_⟩
      unfold opsA
      rw [if_neg hw]
      simp only [putD_envL]
      exact r m hm

theorem wpW_ok {ops : List AIns} {base : Nat} {h : Hp} : ∀ (l : List IW) {e : Env} {Q : Env → Prop}, WpW L ops base h l e Q → ∃ e', Q e' ∧ winA ops base l (envL L e) h = some (envL L e')
  | [], e, Q, x => ⟨e, x, rfl⟩
  | .one ix :: l, e, Q, x => by
    unfold WpW at x
    split at x
    · next i hi =>
      split at x
      · next v hv =>
        obtain ⟨e', q, r⟩ := wpW_ok l x
        exact ⟨e', q, by unfold winA; simp only [hi, hv, putD_envL]; exact r⟩
      · exact x.elim
    · exact x.elim
  | .again ix :: l, e, Q, x => by
    unfold WpW at x
    split at x
    · next i hi =>
      split at x
      · next v hv =>
        obtain ⟨e', q, r⟩ := wpW_ok l x.2
        exact ⟨e', q, by unfold winA; simp only [hi, hv, x.1, if_true]; exact r⟩
      · exact x.elim
    · exact x.elim
  | .res ix k :: l, e, Q, x => by
    unfold WpW at x
    split at x
    · next i hi =>
      split at x
      · next v ob hv =>
        obtain ⟨e', q, r⟩ := wpW_ok l x
        exact ⟨e', q, by unfold winA; simp only [hi, hv, putD_envL]; exact r⟩
      · exact x.elim
    · exact x.elim

theorem wpO1uok {i : AIns} {e : Env} {h : Hp} {Q : Env → Hp → Prop} (x : WpO O E L [i] e h Q) :
    ∃ v h', Q (updD e i.dst v) h' ∧ ∃ M, ∀ m, M ≤ m → ld1 (evO O E m).2 false i (envL L e) [] h .ret = some (v, [], h', .ret) := by
  unfold WpO at x
  split at x
  · next hw =>
    split at x
    · next v h1 ha => exact ⟨v, h1, x, 0, fun m _ => by unfold ld1; rw [if_pos hw]; simp only [ha]⟩
    · next f args ha =>
      obtain ⟨v, h1, ⟨M1, r1⟩, y⟩ := x
      exact ⟨v, h1, y, M1, fun m hm => by unfold ld1; rw [if_pos hw]; simp only [ha, r1 m hm]⟩
    · exact x.elim
  · next hw => exact ⟨und, h, x, 0, fun m _ => by unfold ld1; rw [if_neg hw]⟩

theorem wpD_ok {ops : List AIns} {base : Nat} : ∀ (l : List IPh) {e : Env} {h : Hp} {Q : Env → Hp → Prop}, WpD O E L ops base l e h Q →
    ∃ e' h', Q e' h' ∧ ∃ M, ∀ m, M ≤ m → dregA (evO O E m).2 false ops base l ⟨envL L e, []⟩ h .ret = some (⟨envL L e', []⟩, h', .ret)
  | [], _, _, _, x => x.elim
  | p :: ps, e, h, Q, x => by
    unfold WpD at x
    obtain ⟨e1, x, hw⟩ := wpW_ok p.win x
    split at x
    · exact x.elim
    · next h1 had =>
      split at x
      · next hl =>
        cases ps with
        | nil => exact ⟨e1, h1, x, 0, fun m _ => by unfold dregA; simp only [hw, had, hl]⟩
        | cons _ _ => exact x.elim
      · next ix hl =>
        split at x
        · exact x.elim
        · next i hi =>
          obtain ⟨v, h2, x, M1, r1⟩ := wpO1uok x
          obtain ⟨e', h', q, M2, r2⟩ := wpD_ok ps x
          refine ⟨e', h', q, max M1 M2, fun m hm => ?_⟩
          unfold dregA
          simp only [hw, had, hl, hi, r1 m (by omega), putD_envL]
          exact r2 m (by omega)

theorem wp_ok : ∀ (c : ACode) {e : Env} {h : Hp} {N : Env → Hp → Prop} {X : Nat → Env → Hp → Prop} {R : Env → Hp → Prop}, Wp O E L c e h N X R →
    ∃ x e' h', Post N X R x e' h' ∧ Ev O E L c e h x e' h'
  | .bad, _, _, _, _, _, x => x.elim
  | .skip, e, h, N, X, R, x => ⟨.normal, e, h, x, Ev.of 0 fun _ _ => rfl⟩
  | .dreg kk ops plan, e, h, N, X, R, x => by
    obtain ⟨e', h', q, M, r⟩ := wpD_ok plan x
    exact ⟨.normal, e', h', q, Ev.of M fun m hm => by simp only [codeA, r m hm]⟩
  | .reg ops, e, h, N, X, R, x => by
    obtain ⟨e', h', q, M, r⟩ := wpO_ok ops x
    exact ⟨.normal, e', h', q, Ev.of M fun m hm => by simp only [codeA]; exact r m hm⟩
  | .seq a b, e, h, N, X, R, x => by
    obtain ⟨xa, e1, h1, q, M1, r1⟩ := wp_ok a x
    cases xa with
    | normal =>
      obtain ⟨xb, e2, h2, q2, M2, r2⟩ := wp_ok b q
      exact ⟨xb, e2, h2, q2, Ev.of (max M1 M2) fun m hm => by simp only [codeA, r1 m (by omega)]; exact r2 m (by omega)⟩
    | exit i => exact ⟨.exit i, e1, h1, q, Ev.of M1 fun m hm => by simp only [codeA, r1 m hm]⟩
    | ret => exact ⟨.ret, e1, h1, q, Ev.of M1 fun m hm => by simp only [codeA, r1 m hm]⟩
    | pan _ => exact q.elim
  | .cond c a b, e, h, N, X, R, x => by
    simp only [Wp] at x
    split at x
    · next hc =>
      obtain ⟨xa, e1, h1, q, M1, r1⟩ := wp_ok a x
      exact ⟨xa, e1, h1, q, Ev.of M1 fun m hm => by simp only [codeA, hc]; exact r1 m hm⟩
    · next hc =>
      obtain ⟨xa, e1, h1, q, M1, r1⟩ := wp_ok b x
      exact ⟨xa, e1, h1, q, Ev.of M1 fun m hm => by simp only [codeA, hc]; exact r1 m hm⟩
    · exact x.elim
  | .block id b, e, h, N, X, R, x => by
    obtain ⟨xa, e1, h1, q, M1, r1⟩ := wp_ok b x
    cases xa with
    | normal => exact ⟨.normal, e1, h1, q, Ev.of M1 fun m hm => by simp only [codeA, r1 m hm]⟩
    | exit i =>
      simp only [Post] at q
      by_cases hi : i = id
      · rw [if_pos hi] at q
        exact ⟨.normal, e1, h1, q, Ev.of M1 fun m hm => by simp only [codeA, r1 m hm, hi, Nat.beq_refl, if_true]⟩
      · rw [if_neg hi] at q
        exact ⟨.exit i, e1, h1, q, Ev.of M1 fun m hm => by simp only [codeA, r1 m hm, beq_eq, decide_eq_false hi]; rfl⟩
    | ret => exact ⟨.ret, e1, h1, q, Ev.of M1 fun m hm => by simp only [codeA, r1 m hm]⟩
    | pan _ => exact q.elim
  | .loop b, e, h, N, X, R, x => by
    obtain ⟨n, x⟩ := x
    suffices H : ∀ (n : Nat) (e : Env) (h : Hp), WpLoop (fun e h K => Wp O E L b e h K X R) n e h → ∃ x e' h', Post (fun _ _ => False) X R x e' h' ∧ Ev O E L (.loop b) e h x e' h' by
      obtain ⟨xx, e', h', q, r⟩ := H n e h x
      refine ⟨xx, e', h', ?_, r⟩
      cases xx <;> first | exact q | exact q.elim
    intro n
    induction n with
    | zero => intro e h x; exact x.elim
    | succ n ih =>
      intro e h x
      obtain ⟨xa, e1, h1, q, M1, r1⟩ := wp_ok b x
      cases xa with
      | normal =>
        obtain ⟨xb, e2, h2, q2, M2, r2⟩ := ih e1 h1 q
        exact ⟨xb, e2, h2, q2, Ev.of (max M1 M2) fun m hm => by simp only [codeA, r1 m (by omega)]; exact r2 m (by omega)⟩
      | exit i => exact ⟨.exit i, e1, h1, q, Ev.of M1 fun m hm => by simp only [codeA, r1 m hm]⟩
      | ret => exact ⟨.ret, e1, h1, q, Ev.of M1 fun m hm => by simp only [codeA, r1 m hm]⟩
      | pan _ => exact q.elim
  | .scope b, e, h, N, X, R, x => by
    obtain ⟨xa, e1, h1, q, M1, r1⟩ := wp_ok b x
    exact ⟨xa, e1, h1, q, Ev.of M1 fun m hm => by simp only [codeA]; exact r1 m hm⟩
  | .exit id, e, h, N, X, R, x => ⟨.exit id, e, h, x, Ev.of 0 fun _ _ => rfl⟩
  | .ret, e, h, N, X, R, x => ⟨.ret, e, h, x, Ev.of 0 fun _ _ => rfl⟩

def rvals' : List AVal → AVal
  | [v] => v
  | l => .tup l

/-- The results of a call, out of the places and the heap at the end. -/
def WpRes (L : Nat) (res : List ARV) (Q : AVal → Hp → Prop) (e : Env) (h : Hp) : Prop := match resA (envL L e) h res with
  | some l => Q (rvals' l) h
  | none => False

/-- A function's contract, out of its body. -/
theorem runsP_of {f : Nat} {fn : AFunc} (hE : E f = some fn) {args : List AVal} {h : Hp} (hO : O f args h = none) {Q : AVal → Hp → Prop} (hn : ln args = fn.np) {e0 : Env} (he : e0 = fun n => (nth (cat args fn.pad) n).getD und) (hL : ln (cat args fn.pad) = L)
    (x : Wp O E L fn.body e0 h (WpRes L fn.res Q) (fun _ _ _ => False) (WpRes L fn.res Q)) : RunsP O E f args h Q := by
  obtain ⟨xx, e', h', q, M, r⟩ := wp_ok fn.body x
  have hin : envL L e0 = cat args fn.pad := by rw [he, ← hL, ln_eq]; exact envL_of _
  have key : WpRes L fn.res Q e' h' ∧ (xx = .normal ∨ xx = .ret) := by
    cases xx with
    | normal => exact ⟨q, .inl rfl⟩
    | ret => exact ⟨q, .inr rfl⟩
    | exit _ => exact q.elim
    | pan _ => exact q.elim
  obtain ⟨q, hx⟩ := key
  unfold WpRes at q
  split at q
  · next l hl =>
    refine ⟨rvals' l, h', ⟨M + 1, fun m hm => ?_⟩, q⟩
    obtain ⟨k, rfl⟩ : ∃ k, m = k + 1 := ⟨m - 1, by omega⟩
    show callO O E (evO O E k) false f args h .ret = _
    rw [callO_none hO]
    unfold callA
    rw [hE]
    simp only [hn, Nat.beq_refl, if_true]
    have r := r k (by omega)
    rw [hin] at r
    rw [r]
    have hend : leaveA (evO O E k).2 (envL L e') fn.res [] .ret h' = some (.ret (rvals' l), h') := by
      unfold leaveA
      rw [hl]
      cases l with
      | nil => rfl
      | cons a l => cases l <;> rfl
    rcases hx with rfl | rfl <;> simp only [hend]
  · exact q.elim

end
end Go.Am
end
