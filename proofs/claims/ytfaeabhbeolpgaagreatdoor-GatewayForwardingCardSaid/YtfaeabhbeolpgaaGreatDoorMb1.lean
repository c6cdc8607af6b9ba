/- The abstract machine, part 26: code and calls are met. Conditions: none. -/
import Derived.Test.YtfaeabhbeolpgaaGreatDoorMa9
import Derived.Defers
import Derived.Laws.Sem
set_option linter.all false
noncomputable section
namespace Go.Am

section
variable {P : Program} {G : Nat → Option Nat}

inductive CodeR (P : Program) (G : Nat → Option Nat) : ACode → Item → Prop
  | code (c : Code) : CodeR P G (ccode P G c) (.code c)
  | inLoop (c : Code) : CodeR P G (.loop (ccode P G c)) (.inLoop c)

def CodeOK (P : Program) (G : Nat → Option Nat) (cf : CodeF) : Prop :=
  ∀ ac item, CodeR P G ac item → ∀ dfr A h cm X A' h' cm', cf ac dfr A h cm = some (X, A', h', cm') → ∀ (ι : Gh) (w : World) (a : Act) (b : Frame) (k : List Item) (cs : List Frame), Rel G ι h w → ActR ι A a → b.kind = kindOf dfr → b.roundOf = none → CsR dfr ι cm cs →
    ∃ ι' w' a' cs', Rel G ι' h' w' ∧ Fr ι h w ι' h' w' ∧ ActR ι' A' a' ∧ CsTo dfr ι' cm' cs cs' ∧ ArrA P ι' (lone (b.atR a (item :: k)) cs w) b k cs' X a' w'

/-! ### The order of the text -/
theorem cinss_sub {ops : Array Oper} : ∀ (os : List Oper) (n : Nat) {l : List AIns}, cinss P G ops os = some l → (∀ j, os[j]? = ops[n + j]?) → SubR P G ops (List.range' n os.length) l
  | [], n, l, e, _ => by simp [cinss] at e; subst e; simp [SubR]
  | o :: os, n, l, e, hs => by
    simp only [cinss] at e
    split at e
    · next ai l' h1 h2 =>
      cases e
      simp only [List.length_cons, List.range'_succ, SubR]
      refine ⟨o, ai, l', rfl, ?_, h1, cinss_sub os (n + 1) h2 fun j => ?_⟩
      · have := hs 0; simpa using this.symm
      · have := hs (j + 1)
        rw [show n + 1 + j = n + (j + 1) from by omega]
        simpa using this
    · cases e
theorem cinss_range {ops : Array Oper} {l : List AIns} (e : cinss P G ops ops.toList = some l) : SubR P G ops (List.range ops.size) l := by
  have := cinss_sub (P := P) (G := G) (ops := ops) ops.toList 0 e (fun j => by simp)
  rw [List.range_eq_range']
  simpa using this
theorem cinss_nth {ops : Array Oper} : ∀ {os : List Oper} {l : List AIns}, cinss P G ops os = some l → l.length = os.length ∧ ∀ (j : Nat) (o : Oper), os[j]? = some o → ∃ ai, nth l j = some ai ∧ cins P G ops o = some ai
  | [], l, e => by simp [cinss] at e; subst e; simp
  | o :: os, l, e => by
    simp only [cinss] at e
    split at e
    · next ai l' h1 h2 =>
      cases e
      obtain ⟨q1, q2⟩ := cinss_nth h2
      refine ⟨by simp [q1], fun j o' hj => ?_⟩
      cases j with
      | zero => simp at hj; subst hj; exact ⟨ai, rfl, h1⟩
      | succ j => simp at hj; obtain ⟨ai', z1, z2⟩ := q2 j o' hj; exact ⟨ai', by simpa [nth] using z1, z2⟩
    · cases e

theorem rel_bump {ι : Gh} {h : Hp} {w : World} (R : Rel G ι h w) (kk : Nat) : Rel G ι ⟨h.m, h.next + kk⟩ w ∧ Fr ι h w ι ⟨h.m, h.next + kk⟩ w :=
  ⟨⟨R.ob, fun g hg => R.nx g (by simp only at hg; omega), R.sp, R.gl⟩, ⟨Gh.le_refl _, rfl, rfl, rfl, Nat.le_refl _, fun _ _ _ => rfl, fun _ h => .inl h, fun _ h => .inl h, by simp, fun _ _ => ⟨rfl, id⟩⟩⟩

theorem dreg_ok (hmix : P.follows .mixedOrders = true) {gf : CallF} (hG : CallOK P G gf) {ops : Array Oper} {l : List AIns} (hl : cinss P G ops ops.toList = some l) {kk : Nat} {plan : List IPh} (hp : chkPlan l (ops.toList.map preOf) kk plan = true)
    {dfr : Bool} {A : AAct} {h : Hp} {cm : AMode} {A' : AAct} {h' : Hp} {cm' : AMode} (e : dregA gf dfr l h.next plan A ⟨h.m, h.next + kk⟩ cm = some (A', h', cm')) {id : Nat}
    {ι : Gh} {w : World} {a : Act} (b : Frame) (k : List Item) (cs : List Frame) (R : Rel G ι h w) (hA : ActR ι A a) (hro : b.roundOf = none) :
    ∃ ι' w' a', Rel G ι' h' w' ∧ Fr ι h w ι' h' w' ∧ ActR ι' A' a' ∧ cm' = cm ∧ Steps P (lone (b.atR a (.code (.region id ops true) :: k)) cs w) (lone (b.atR a' k) cs w') := by
  have H := chkPlan_ok hp
  obtain ⟨hlen, hnth⟩ := cinss_nth hl
  obtain ⟨tm0, df0⟩ := A
  obtain ⟨tmF, dfF⟩ := A'
  have hst := stepR_region_draw (P := P) (b := b) (a := a) (k := k) (cs := cs) (w := w) (ops := ops) (id := id)
  simp only [Region.schedule, hmix, Bool.true_or, if_true] at hst
  obtain ⟨wd, hwd⟩ : ∃ wd : World, wd = { w with drawn := w.drawn + 1 } := ⟨_, rfl⟩
  rw [← hwd] at hst
  obtain ⟨R1, F1⟩ := rel_bump (R.of_heap (w' := wd) (by rw [hwd])) kk
  have F00 : Fr ι h w ι h wd := Fr.of_heap (by rw [hwd]) (by rw [hwd]) (by rw [hwd]) (by rw [hwd])
  have F0 : Fr ι h w ι ⟨h.m, h.next + kk⟩ wd := F00.trans F1
  have hclo : Clo (ops.toList.map preOf) 0 := fun j q hj => by rw [inM_zero] at hj; cases hj
  obtain ⟨A0, D0⟩ := plan_ok H H.ph e hclo (tm0 := tm0) (fun t _ => rfl) rfl
  have hgd : ∀ q, (Array.replicate ops.size false).getD q false = false := by
    intro q
    rw [Array.getD_eq_getD_getElem?, Array.getElem?_replicate]
    split <;> rfl
  have hno : ∀ q, ¬ (Array.replicate ops.size false).getD q false = true := fun q => by rw [hgd q]; simp
  obtain ⟨ι', w', a', q1, q2, q3, q4, q5⟩ := ord_run hG (l := l) (pre := ops.toList.map preOf) (fun j o ho => hnth j o (by rw [Array.getElem?_toList]; exact ho)) (by rw [hlen]; simp) rfl H (fun j k hk => DFs_res D0 hk)
    (ι0 := ι) (h0 := h) (w0 := w) (Nat.le_refl _) b k cs hro ops.size (w.tape w.drawn (.order b.fn id)) (Array.replicate ops.size false) plan none 0 df0 ⟨h.m, h.next + kk⟩ cm ι wd a (by simp)
    (fun j q _ hj => absurd hj (hno j)) H.ph (fun y hy => by cases hy) D0 (fun x _ => hno x)
    (fun j hj h1 h2 _ => by
      rcases H.cls j hj with hh | ⟨hh, _⟩ | ⟨_, hh⟩
      · rw [h1] at hh; cases hh
      · rw [h2] at hh; cases hh
      · exact hh) ⟨[], rfl, by simp⟩ R1 F0
    ⟨fun x hx => by
        cases hg : h.m.get (h.next + x.2) with
        | none => rfl
        | some o => have := R.lt_next hg; omega, fun x hx _ => R.nx _ (by omega), fun x hx hs => absurd hs (hno _),
      fun x hx y hy _ i j h1 _ => absurd ((R.nx _ (by omega)).symm.trans h1) (by simp), fun x hx i h1 => absurd ((R.nx _ (by omega)).symm.trans h1) (by simp)⟩
    (fun x hx => by have := H.kk x hx; simp only; omega)
    ⟨tm0, hA.tm, ⟨A0.l1, A0.l0, fun t ht => A0.new t fun q hq => absurd (ht q hq) (hno q), fun t _ => rfl⟩⟩ hA.df (by simp)
  refine ⟨ι', w', a', q1, q2, q3, q4, .head hst ?_⟩
  have : (Region.linearise .any ops (w.tape w.drawn (.order b.fn id))) = Region.linearise.go .any ops ops.size (w.tape w.drawn (.order b.fn id)) (Array.replicate ops.size false) [] := rfl
  rw [this]
  exact q5

theorem cdreg_some {ops : List AIns} {pre : List (List Nat)} {kk : Nat} {l : List AIns} {plan : List IPh} (e : cdreg ops pre = .dreg kk l plan) : l = ops ∧ chkPlan ops pre kk plan = true := by
  unfold cdreg at e
  simp only at e
  split at e
  · next h => cases e; exact ⟨rfl, h⟩
  · cases e

theorem stepR_scope {b : Frame} {a : Act} {k : List Item} {cs : List Frame} {w : World} {c : Code} : step P (lone (b.atR a (.code (.scope c) :: k)) cs w) = .next (lone (b.atR a (.code c :: .inScope c :: k)) cs w) :=
  step_lone_go (by simp [stepG, stepG.exec, Frame.atR])
theorem stepR_inScope {b : Frame} {a : Act} {k : List Item} {cs : List Frame} {w : World} {c : Code} : step P (lone (b.atR a (.inScope c :: k)) cs w) = .next (lone (b.atR a k) cs w) :=
  step_lone_go (by simp [stepG, stepG.exec, Frame.atR])

/-- What ends otherwise than normally goes past an item that is no block of its own. -/
theorem ArrA.past {ι : Gh} {m : Machine} {b : Frame} {it : Item} {k : List Item} {cs : List Frame} {X : AExit} {a : Act} {w : World} (hn : X ≠ .normal) (hb : ∀ id, X = .exit id → exitTo id (it :: k) = exitTo id k) (x : ArrA P ι m b (it :: k) cs X a w) : ArrA P ι m b k cs X a w := by
  cases X with
  | normal => exact absurd rfl hn
  | exit id => obtain ⟨k1, h1, h2⟩ := x; exact ⟨k1, h1, h2.trans (hb id rfl)⟩
  | ret => exact x
  | pan ch => exact x

theorem code_ok (hmix : P.follows .mixedOrders = true) {r : CodeF × CallF} (hC : CodeOK P G r.1) (hG : CallOK P G r.2) : CodeOK P G (codeA r) := by
  intro ac item hr dfr A h cm X A' h' cm' e ι w a b k cs R hA hk hro hcs
  -- a part, and then whatever follows
  have part : ∀ {c : Code} {A h cm X A' h' cm'}, r.1 (ccode P G c) dfr A h cm = some (X, A', h', cm') → ∀ {ι w a} (k : List Item) (cs : List Frame), Rel G ι h w → ActR ι A a → CsR dfr ι cm cs →
      ∃ ι' w' a' cs', Rel G ι' h' w' ∧ Fr ι h w ι' h' w' ∧ ActR ι' A' a' ∧ CsTo dfr ι' cm' cs cs' ∧ ArrA P ι' (lone (b.atR a (.code c :: k)) cs w) b k cs' X a' w' :=
    fun {c A h cm X A' h' cm'} e {ι w a} k cs R hA hcs => hC _ _ (.code _) _ _ _ _ _ _ _ _ e ι w a b k cs R hA hk hro hcs
  -- a loop's body, and the loop again
  have loop : ∀ {c : Code}, (match r.1 (ccode P G c) dfr A h cm with
      | some (.normal, a', h', cm') => r.1 (.loop (ccode P G c)) dfr a' h' cm'
      | o => o) = some (X, A', h', cm') → ∃ ι' w' a' cs', Rel G ι' h' w' ∧ Fr ι h w ι' h' w' ∧ ActR ι' A' a' ∧ CsTo dfr ι' cm' cs cs' ∧ ArrA P ι' (lone (b.atR a (.code c :: .inLoop c :: k)) cs w) b k cs' X a' w' := by
    intro c e
    split at e
    · next A1 h1 cm1 e1 =>
      obtain ⟨ι1, w1, a1, cs1, R1, F1, hA1, hc1, arr1⟩ := part e1 (.inLoop c :: k) cs R hA hcs
      obtain ⟨ι2, w2, a2, cs2, R2, F2, hA2, hc2, arr2⟩ := hC _ _ (.inLoop c) _ _ _ _ _ _ _ _ e ι1 w1 a1 b k cs1 R1 hA1 hk hro hc1.csR
      exact ⟨ι2, w2, a2, cs2, R2, F1.trans F2, hA2, hc1.trans hc2, .of_steps arr1 arr2⟩
    · next o hne =>
      obtain ⟨ι1, w1, a1, cs1, R1, F1, hA1, hc1, arr1⟩ := part e (.inLoop c :: k) cs R hA hcs
      exact ⟨ι1, w1, a1, cs1, R1, F1, hA1, hc1, arr1.past (fun hX => hne _ _ _ (by rw [e, hX])) (fun id _ => rfl)⟩
  cases hr with
  | inLoop c =>
    simp only [codeA] at e
    obtain ⟨ι1, w1, a1, cs1, R1, F1, hA1, hc1, arr1⟩ := loop e
    exact ⟨ι1, w1, a1, cs1, R1, F1, hA1, hc1, .of_steps (.one stepR_inLoop) arr1⟩
  | code c =>
    cases c with
    | skip =>
      simp only [ccode, codeA] at e; cases e
      exact ⟨ι, w, a, cs, R, Fr.refl _ _ _, hA, hcs.to, .one stepR_skip⟩
    | label l =>
      simp only [ccode, codeA] at e; cases e
      exact ⟨ι, w, a, cs, R, Fr.refl _ _ _, hA, hcs.to, .one stepR_label⟩
    | region id ops draw =>
      cases draw with
      | false =>
        simp only [ccode] at e
        split at e
        · next l hl =>
          simp only [codeA] at e
          obtain ⟨ι1, w1, a1, cs1, R1, F1, hA1, hc1, arr1⟩ := ops_ok hG _ l (cinss_range hl) e b k cs R hA hk hro hcs
          exact ⟨ι1, w1, a1, cs1, R1, F1, hA1, hc1, .of_steps (.one stepR_region) arr1⟩
        · simp [codeA] at e
      | true =>
        simp only [ccode] at e
        split at e
        · next l hl =>
          cases hd : cdreg l (ops.toList.map preOf) with
          | dreg kk l' plan =>
            rw [hd] at e
            obtain ⟨rfl, hchk⟩ := cdreg_some hd
            simp only [codeA] at e
            split at e
            · next A1 h1 cm1 e1 =>
              cases e
              obtain ⟨ι1, w1, a1, R1, F1, hA1, rfl, st⟩ := dreg_ok hmix hG hl hchk e1 (id := id) b k cs R hA hro
              exact ⟨ι1, w1, a1, cs, R1, F1, hA1, (hcs.mono F1.le).to, st⟩
            · cases e
          | bad => rw [hd] at e; simp [codeA] at e
          | _ =>
            unfold cdreg at hd
            simp only at hd
            split at hd <;> cases hd
        · simp [codeA] at e
    | seq x y =>
      simp only [ccode, codeA] at e
      split at e
      · next A1 h1 cm1 e1 =>
        obtain ⟨ι1, w1, a1, cs1, R1, F1, hA1, hc1, arr1⟩ := part e1 (.code y :: k) cs R hA hcs
        obtain ⟨ι2, w2, a2, cs2, R2, F2, hA2, hc2, arr2⟩ := part e k cs1 R1 hA1 hc1.csR
        exact ⟨ι2, w2, a2, cs2, R2, F1.trans F2, hA2, hc1.trans hc2, .of_steps (.head stepR_seq arr1) arr2⟩
      · next o hne =>
        obtain ⟨ι1, w1, a1, cs1, R1, F1, hA1, hc1, arr1⟩ := part e (.code y :: k) cs R hA hcs
        exact ⟨ι1, w1, a1, cs1, R1, F1, hA1, hc1, .of_steps (.one stepR_seq) (arr1.past (fun hX => hne _ _ _ (by rw [e, hX])) (fun id _ => rfl))⟩
    | cond c x y =>
      simp only [ccode] at e
      split at e
      · next c' hc =>
        simp only [codeA] at e
        have hv := (opR_of R hA.tm).one hc
        split at e
        · next hb =>
          rw [hb] at hv
          obtain ⟨ι1, w1, a1, cs1, R1, F1, hA1, hc1, arr1⟩ := part e k cs R hA hcs
          exact ⟨ι1, w1, a1, cs1, R1, F1, hA1, hc1, .of_steps (.one (stepR_cond (t := true) hv.bool_inv)) arr1⟩
        · next hb =>
          rw [hb] at hv
          obtain ⟨ι1, w1, a1, cs1, R1, F1, hA1, hc1, arr1⟩ := part e k cs R hA hcs
          exact ⟨ι1, w1, a1, cs1, R1, F1, hA1, hc1, .of_steps (.one (stepR_cond (t := false) hv.bool_inv)) arr1⟩
        · cases e
      · simp [codeA] at e
    | block id c =>
      simp only [ccode, codeA] at e
      split at e
      · next id' A1 h1 cm1 e1 =>
        obtain ⟨ι1, w1, a1, cs1, R1, F1, hA1, hc1, arr1⟩ := part e1 (.inBlock id :: k) cs R hA hcs
        obtain ⟨k1, s1, s2⟩ := arr1
        split at e
        · next hid =>
          cases e
          have hid := Nat.eq_of_beq_eq_true hid
          subst hid
          simp only [exitTo, BEq.rfl, if_true] at s2
          exact ⟨ι1, w1, a1, cs1, R1, F1, hA1, hc1, .head stepR_block (s1.trans (.one (stepR_exit s2)))⟩
        · next hid =>
          cases e
          have hne : (id == id') = false := by
            cases hb : id == id'
            · rfl
            · have : id = id' := by simpa using hb
              subst this; simp at hid
          simp only [exitTo, hne] at s2
          exact ⟨ι1, w1, a1, cs1, R1, F1, hA1, hc1, k1, .head stepR_block s1, by simpa using s2⟩
      · next o hne =>
        obtain ⟨ι1, w1, a1, cs1, R1, F1, hA1, hc1, arr1⟩ := part e (.inBlock id :: k) cs R hA hcs
        refine ⟨ι1, w1, a1, cs1, R1, F1, hA1, hc1, .of_steps (.one stepR_block) ?_⟩
        cases X with
        | normal => exact Steps.trans arr1 (.one stepR_inBlock)
        | exit id' => exact absurd e (by intro hh; exact hne _ _ _ _ hh)
        | ret => exact arr1
        | pan ch => exact arr1
    | loop c =>
      simp only [ccode, codeA] at e
      obtain ⟨ι1, w1, a1, cs1, R1, F1, hA1, hc1, arr1⟩ := loop e
      exact ⟨ι1, w1, a1, cs1, R1, F1, hA1, hc1, .of_steps (.one stepR_loop) arr1⟩
    | scope c =>
      simp only [ccode, codeA] at e
      obtain ⟨ι1, w1, a1, cs1, R1, F1, hA1, hc1, arr1⟩ := part e (.inScope c :: k) cs R hA hcs
      refine ⟨ι1, w1, a1, cs1, R1, F1, hA1, hc1, .of_steps (.one stepR_scope) ?_⟩
      by_cases hX : X = .normal
      · subst hX; exact Steps.trans arr1 (.one stepR_inScope)
      · exact arr1.past hX (fun id _ => rfl)
    | exit id =>
      simp only [ccode, codeA] at e; cases e
      exact ⟨ι, w, a, cs, R, Fr.refl _ _ _, hA, hcs.to, k, .refl P _, rfl⟩
    | ret =>
      simp only [ccode, codeA] at e; cases e
      exact ⟨ι, w, a, cs, R, Fr.refl _ _ _, hA, hcs.to, k, .refl P _⟩
    | _ => simp [ccode, codeA] at e
end
end Go.Am

/- The abstract machine, part 27: calls are met; the whole machine. Conditions: none. -/
namespace Go.Am

section
variable {P : Program} {G : Nat → Option Nat}

def rvals : List AVal → AVal
  | [v] => v
  | l => .tup l

theorem run_mapM_nil {α β : Type} (f : α → Sem β) (w : World) : (List.mapM f []).run P w = .ok [] w := by simp
theorem run_mapM_cons {α β : Type} {f : α → Sem β} {x : α} {l : List α} {w : World} {v : β} {r : List β} (h1 : (f x).run P w = .ok v w) (h2 : (List.mapM f l).run P w = .ok r w) : (List.mapM f (x :: l)).run P w = .ok (v :: r) w := by
  rw [List.mapM_cons]; simp [h1, h2]

def rvSem (tmps : Array Value) : ResultVar → Sem Value
  | .tmp t => pure (tmps.getD t undef)
  | .cell a t => do loadVar t (← asAddr (tmps.getD a undef))

theorem opd_tm {ι : Gh} {tm : List AVal} {tmps : Array Value} (hA : VRL ι tm tmps.toList) (t : Nat) : VR ι (opd tm (.t t)) (tmps.getD t undef) := by
  simp only [opd, nth_eq]
  cases ht : tm[t]? with
  | none =>
    have : tmps.toList.length ≤ t := by rw [← hA.length]; exact List.getElem?_eq_none_iff.1 ht
    have : tmps[t]? = none := by rw [Array.getElem?_eq_none]; simpa using this
    simp only [Array.getD_eq_getD_getElem?, this]
    exact VR.und
  | some v =>
    obtain ⟨V, h1, h2⟩ := hA.get t ht
    have : tmps[t]? = some V := by simpa using h1
    simp only [Array.getD_eq_getD_getElem?, this]
    exact h2

theorem results_list {ι : Gh} {h : Hp} {w : World} (R : Rel G ι h w) {tm : List AVal} {tmps : Array Value} (hA : VRL ι tm tmps.toList) : ∀ {rv : List ResultVar} {rs : List ARV} {l : List AVal}, crv P rv = some rs → resA tm h rs = some l →
    ∃ L, (List.mapM (rvSem tmps) rv).run P w = .ok L w ∧ VRL ι l L
  | [], rs, l, e, hr => by
    simp [crv] at e; subst e
    simp [resA] at hr; subst hr
    exact ⟨[], run_mapM_nil _ w, by simp [VRL]⟩
  | .tmp t :: rv, rs, l, e, hr => by
    simp only [crv, Option.map_eq_some_iff] at e
    obtain ⟨rs', h1, rfl⟩ := e
    simp only [resA] at hr
    split at hr
    · next r hr' =>
      cases hr
      obtain ⟨L, g1, g2⟩ := results_list R hA h1 hr'
      exact ⟨tmps.getD t undef :: L, run_mapM_cons (by simp [rvSem]) g1, VRL.cons_iff.2 ⟨_, L, rfl, opd_tm hA t, g2⟩⟩
    · cases hr
  | .cell t ty :: rv, rs, l, e, hr => by
    simp only [crv] at e
    have hx := opd_tm hA t
    split at e
    · next n r ha hs h1 =>
      cases e
      simp only [resA] at hr
      split at hr
      · next g of hp =>
        rw [hp] at hx
        obtain ⟨i, q1, q2⟩ := hx.ptr_inv
        split at hr
        · next ob hg =>
          obtain ⟨i', q3, q4⟩ := R.ob g ob hg
          rw [q1] at q3; cases q3
          split at hr
          · next v r' hv hr' =>
            cases hr
            split at hv
            · next l' hl' =>
              cases hv
              obtain ⟨L, g1, g2⟩ := results_list R hA h1 hr'
              obtain ⟨L', k1, k2, k3⟩ := load_many q4 hl'
              refine ⟨.agg ⟨L'⟩ :: L, run_mapM_cons ?_ g1, VRL.cons_iff.2 ⟨_, L, rfl, by simp only [VR]; exact ⟨L', rfl, k2⟩, g2⟩⟩
              simp [rvSem, q2, asAddr, loadVar, run_isAgg' ha, run_sizeOf' hs, run_loadCells P w i.b (of + i.d) n L' k1 k3]
            · cases hv
          · cases hr
        · cases hr
      · cases hr
    · next n r ha hs h1 =>
      cases e
      simp only [resA] at hr
      split at hr
      · next g of hp =>
        rw [hp] at hx
        obtain ⟨i, q1, q2⟩ := hx.ptr_inv
        split at hr
        · next ob hg =>
          obtain ⟨i', q3, q4⟩ := R.ob g ob hg
          rw [q1] at q3; cases q3
          split at hr
          · next v r' hv hr' =>
            cases hr
            obtain ⟨L, g1, g2⟩ := results_list R hA h1 hr'
            obtain ⟨V, h5, h6⟩ := load_one q4 hv
            refine ⟨V :: L, run_mapM_cons ?_ g1, VRL.cons_iff.2 ⟨_, L, rfl, h6, g2⟩⟩
            simp [rvSem, q2, asAddr, loadVar, run_isAgg' ha, h5]
          · cases hr
        · cases hr
      · cases hr
    · cases e

theorem results_ok {ι : Gh} {h : Hp} {w : World} (R : Rel G ι h w) {tm : List AVal} {tmps : Array Value} (hA : VRL ι tm tmps.toList) {fn : Func} {rs : List ARV} {l : List AVal} (e : crv P fn.results.toList = some rs) (hr : resA tm h rs = some l) :
    ∃ V, (results fn tmps).run P w = .ok V w ∧ VR ι (rvals l) V := by
  obtain ⟨L, h1, h2⟩ := results_list R hA e hr
  have hm : (fn.results.mapM (rvSem tmps)).run P w = .ok L.toArray w := by
    have : fn.results.mapM (rvSem tmps) = List.toArray <$> fn.results.toList.mapM (rvSem tmps) := by
      rw [← List.mapM_toArray]
    rw [this]
    simp [h1]
  have hres : (results fn tmps).run P w = .ok (if h : L.toArray.size = 1 then L.toArray[0] else .tuple L.toArray) w := by
    have : results fn tmps = (do let vs ← fn.results.mapM (rvSem tmps); pure (if h : vs.size = 1 then vs[0] else .tuple vs)) := by
      unfold results
      congr 1
    rw [this]
    simp only [Sem.run_bind, hm, Result.andThen_ok, Sem.run_pure]
  refine ⟨_, hres, ?_⟩
  cases l with
  | nil =>
    simp only [VRL] at h2; subst h2
    simp [rvals, VR, VRL]
  | cons v l =>
    obtain ⟨V, L', rfl, h3, h4⟩ := VRL.cons_iff.1 h2
    cases l with
    | nil =>
      simp only [VRL] at h4; subst h4
      exact h3
    | cons v2 l =>
      obtain ⟨V2, L2, rfl, h5, h6⟩ := VRL.cons_iff.1 h4
      simp only [rvals, VR]
      refine ⟨V :: V2 :: L2, by simp, VRL.cons_iff.2 ⟨V, _, rfl, h3, VRL.cons_iff.2 ⟨V2, _, rfl, h5, h6⟩⟩⟩

theorem ChR.drop {ι : Gh} : ∀ {l : List (AVal × Bool)} {L : List PanicEntry}, ChR ι l L → L.dropWhile (!·.goexit) = []
  | [], L, x => by simp only [ChR] at x; subst x; rfl
  | (_, _) :: _, L, x => by
    obtain ⟨V, L', rfl, h2, h3⟩ := x
    simp [ChR.drop h3]
theorem settle_ok {ι : Gh} {u : AMode} {m : FrameMode} (x : ModeR ι u m) : ModeR ι (settleA u) (settle m) := by
  cases u with
  | ret => simp only [ModeR] at x; subst x; simp [settleA, settle, ModeR]
  | pan ch =>
    obtain ⟨CH, rfl, h2⟩ := x
    cases ch with
    | nil => simp only [ChR] at h2; subst h2; exact ⟨[], rfl, rfl⟩
    | cons y ch =>
      obtain ⟨v, r⟩ := y
      have h0 := h2
      obtain ⟨V, L', rfl, h3, h4⟩ := h2
      cases r with
      | true => simp [settleA, settle, ModeR, h4.drop]
      | false => exact ⟨_, rfl, h0⟩
theorem raised_ok {ι : Gh} {u : AMode} {m : FrameMode} {ch : List (AVal × Bool)} {CH : List PanicEntry} (x : ModeR ι u m) (y : ChR ι ch CH) : ModeR ι (raisedA u ch) (raised m CH) := by
  cases u with
  | ret => simp only [ModeR] at x; subst x; exact ⟨CH, rfl, y⟩
  | pan old =>
    obtain ⟨OLD, rfl, h2⟩ := x
    simp only [raisedA, raised, cat_eq]
    exact ⟨_, rfl, y.append h2⟩
theorem ModeR.not_run {ι : Gh} {u : AMode} {m : FrameMode} (x : ModeR ι u m) : m ≠ .run := by
  cases u with
  | ret => simp only [ModeR] at x; subst x; simp
  | pan ch => obtain ⟨CH, rfl, _⟩ := x; simp

theorem leave_ok {gf : CallF} (hG : CallOK P G gf) {fn : Func} {rs : List ARV} (hrs : crv P fn.results.toList = some rs) : ∀ (ds : List ADef) (u : AMode) {tm : List AVal} {h : Hp} {E : AEnd} {h' : Hp}, leaveA gf tm rs ds u h = some (E, h') →
    ∀ {ι : Gh} {w : World} (fr : Frame) (cs : List Frame), Rel G ι h w → P.funcs[fr.fn]? = some fn → VRL ι tm fr.tmps.toList → DefsR ι ds fr.defers → ModeR ι u fr.mode →
    ∃ ι' w' fr', Rel G ι' h' w' ∧ Fr ι h w ι' h' w' ∧ Steps P (lone fr cs w) (lone fr' cs w') ∧ (fr'.kind = fr.kind ∧ fr'.fn = fr.fn) ∧ EndR P ι' E fr' w'
  | [], .ret, tm, h, E, h', e, ι, w, fr, cs, R, hf, ht, hd, hm => by
    simp only [ModeR] at hm
    simp only [DefsR] at hd
    have key : ∃ l, resA tm h rs = some l ∧ E = .ret (rvals l) ∧ h' = h := by
      simp only [leaveA] at e
      split at e
      · next v hv => cases e; exact ⟨[v], hv, rfl, rfl⟩
      · next l hne hv =>
        cases e
        refine ⟨l, hv, ?_, rfl⟩
        cases l with
        | nil => rfl
        | cons a l =>
          cases l with
          | nil => exact (hne a rfl).elim
          | cons b l => rfl
      · cases e
    obtain ⟨l, h1, rfl, rfl⟩ := key
    obtain ⟨V, h2, h3⟩ := results_ok R ht hrs h1
    exact ⟨ι, w, fr, R, Fr.refl _ _ _, .refl P _, ⟨rfl, rfl⟩, hd, ⟨fn, hf⟩, hm, fn, V, hf, h2, h3⟩
  | [], .pan ch, tm, h, E, h', e, ι, w, fr, cs, R, hf, ht, hd, hm => by
    simp only [DefsR] at hd
    simp only [leaveA] at e; cases e
    obtain ⟨CH, h1, h2⟩ := hm
    exact ⟨ι, w, fr, R, Fr.refl _ _ _, .refl P _, ⟨rfl, rfl⟩, hd, ⟨fn, hf⟩, CH, h1, h2⟩
  | d :: ds, u, tm, h, E, h', e, ι, w, fr, cs, R, hf, ht, hd, hm => by
    obtain ⟨D, L', hD, hdr, hds⟩ := hd
    obtain ⟨A, C, rfl, hA, hC⟩ := hdr
    simp only [leaveA] at e
    split at e
    · next f hfd =>
      have hargs : VRL ι (cat d.args d.cap) (A ++ C) := by rw [cat_eq]; exact hA.append hC
      -- the deferred call
      have run : ∀ {X : AEnd} {h1 : Hp} {u1 : AMode}, gf true f (cat d.args d.cap) h u = some (X, h1, u1) → ∃ ι1 w1 c1 fr1, Rel G ι1 h1 w1 ∧ Fr ι h w ι1 h1 w1 ∧ ModeR ι1 u1 c1 ∧
          Steps P (lone fr cs w) (lone fr1 ({ fr with defers := L', mode := c1 } :: cs) w1) ∧ fr1.kind = .deferred ∧ EndR P ι1 X fr1 w1 := by
        intro X h1 u1 hc
        obtain ⟨⟨fn1, f1, f2, f3⟩, ι1, w1, cs1, fr1, R1, F1, hcs1, hsteps, hkind, hend⟩ := hG true f _ h u X h1 u1 hc ι w (A ++ C) ({ fr with defers := L' } :: cs) R hargs (fun _ => ⟨_, _, rfl, hm⟩)
        have hinv : (invoke (.fn d.f ⟨C⟩) ⟨A⟩).run P w = .ok (.enter f ⟨A ++ C⟩) w := by
          rw [hfd]; simp only [invoke]
          have : (⟨A⟩ : Array Value) ++ ⟨C⟩ = ⟨A ++ C⟩ := by simp
          rw [this, run_callFunc f1 f2 f3]
        have h1 := step_defer (cs := cs) (w := w) hm.not_run hD rfl hinv
        obtain ⟨c0, rest, u2, g1, g2, g3⟩ := hcs1.2 rfl
        cases g1
        exact ⟨ι1, w1, u2, fr1, R1, F1, g3, .head h1 (by rw [g2] at hsteps; exact hsteps), hkind.1, hend⟩
      split at e
      · next v h1 u1 hc =>
        obtain ⟨ι1, w1, c1, fr1, R1, F1, hm1, st, hk1, hd1, hf1, hmd, fn1, V, hfn, hres, hV⟩ := run hc
        have hgo : fr1.going P w1 (.returned V) := ⟨hmd, hd1, fn1, hfn, hres⟩
        have h2 := step_going_returned (c := { fr with defers := L', mode := c1 }) (cs := cs) hk1 hgo
        obtain ⟨ι2, w2, fr2, R2, F2, st2, hk2, hend⟩ := leave_ok hG hrs ds (settleA u1) e (ι := ι1) (w := w1) { fr with defers := L', mode := settle c1 } cs R1 hf (ht.mono F1.le) (hds.mono F1.le) (settle_ok hm1)
        exact ⟨ι2, w2, fr2, R2, F1.trans F2, st.trans (.head h2 st2), hk2, hend⟩
      · next ch h1 u1 hc =>
        obtain ⟨ι1, w1, c1, fr1, R1, F1, hm1, st, hk1, hd1, ⟨fn1, hfn⟩, CH, hmd, hch⟩ := run hc
        have hgo : fr1.going P w1 (.panicked CH) := ⟨hmd, hd1, fn1, hfn⟩
        have h2 := step_going_panicked (c := { fr with defers := L', mode := c1 }) (cs := cs) hgo
        obtain ⟨ι2, w2, fr2, R2, F2, st2, hk2, hend⟩ := leave_ok hG hrs ds (raisedA u1 ch) e (ι := ι1) (w := w1) { fr with defers := L', mode := raised c1 CH } cs R1 hf (ht.mono F1.le) (hds.mono F1.le) (raised_ok hm1 hch)
        exact ⟨ι2, w2, fr2, R2, F1.trans F2, st.trans (.head h2 st2), hk2, hend⟩
      · cases e
    · cases e

/-- A table of functions that fits the program. -/
def TableOK (P : Program) (G : Nat → Option Nat) (E : Nat → Option AFunc) : Prop := ∀ f fn', E f = some fn' → ∃ fn, P.funcs[f]? = some fn ∧ fn.name ≠ "runtime.NumGoroutine" ∧ cfunc P G fn = some fn'

theorem call_ok {E : Nat → Option AFunc} (hE : TableOK P G E) {r : CodeF × CallF} (hC : CodeOK P G r.1) (hG : CallOK P G r.2) : CallOK P G (callA E r) := by
  intro dfr f args h cm X h' cm' e ι w vargs cs R hva hcs
  simp only [callA] at e
  split at e
  · cases e
  · next fn' hf' =>
    obtain ⟨fn, f1, f2, f3⟩ := hE f fn' hf'
    unfold cfunc at f3
    split at f3
    · cases f3
    · next c hb =>
      split at f3
      · next rs hrs =>
        cases f3
        refine ⟨⟨fn, f1, f2, by rw [hb]; rfl⟩, ?_⟩
        split at e
        · next hnp =>
          have hnp := Nat.eq_of_beq_eq_true hnp
          rw [ln_eq] at hnp
          split at e
          · next x a1 h1 cm1 e1 =>
            obtain ⟨b, hbd⟩ : ∃ b, b = Frame.enter P f ⟨vargs⟩ (kindOf dfr) := ⟨_, rfl⟩
            have hlen := hva.length
            obtain ⟨A0, hA0⟩ : ∃ A0 : Act, A0 = { tmps := (⟨vargs⟩ : Array Value) ++ Array.replicate (fn.ntmps - (⟨vargs⟩ : Array Value).size) undef, defers := [] } := ⟨_, rfl⟩
            have henter : Frame.enter P f ⟨vargs⟩ (kindOf dfr) = b.atR A0 [.code c] := by
              rw [hbd, hA0]; simp [Frame.enter, Frame.atR, f1, hb]
            have hAR : ActR ι ⟨cat args (List.replicate (fn.ntmps - (fn.params.size + fn.nfree)) und), []⟩ A0 := by
              rw [hA0]
              refine ⟨?_, rfl⟩
              simp only [cat_eq, Array.toList_append, Array.toList_replicate]
              refine hva.append ?_
              rw [show (⟨vargs⟩ : Array Value).size = fn.params.size + fn.nfree from by simp only at hnp; simpa [← hnp] using hlen.symm]
              exact VRL.replicate VR.und _
            have hbk : b.kind = kindOf dfr := by rw [hbd]; rfl
            have hbr : b.roundOf = none := by rw [hbd]; rfl
            have hbf : b.fn = f := by rw [hbd]; rfl
            obtain ⟨ι1, w1, a', cs1, R1, F1, hA1, hc1, arr⟩ := hC _ _ (.code c) dfr _ h cm x a1 h1 cm1 e1 ι w A0 b [] cs R hAR hbk hbr hcs
            rw [henter]
            -- the frame when the body is done
            have leave : ∀ {u : AMode} (fr : Frame), fr.fn = f → fr.tmps = a'.tmps → fr.defers = a'.defers → fr.kind = kindOf dfr → ModeR ι1 u fr.mode → Steps P (lone (b.atR A0 [.code c]) cs w) (lone fr cs1 w1) →
                (match leaveA r.2 a1.tm rs a1.df u h1 with
                  | some (e, h'') => some (e, h'', cm1)
                  | none => none) = some (X, h', cm') → ∃ ι' w' cs' fr, Rel G ι' h' w' ∧ Fr ι h w ι' h' w' ∧ CsTo dfr ι' cm' cs cs' ∧ Steps P (lone (b.atR A0 [.code c]) cs w) (lone fr cs' w') ∧ (fr.kind = kindOf dfr ∧ fr.fn = f) ∧ EndR P ι' X fr w' := by
              intro u fr g1 g2 g3 g4 g5 st e
              split at e
              · next E1 h2 hl =>
                cases e
                obtain ⟨ι2, w2, fr2, R2, F2, st2, hk2, hend⟩ := leave_ok hG hrs a1.df u hl fr cs1 R1 (by rw [g1]; exact f1) (by rw [g2]; exact hA1.tm) (by rw [g3]; exact hA1.df) g5
                exact ⟨ι2, w2, cs1, fr2, R2, F1.trans F2, hc1.mono F2.le, st.trans st2, ⟨by rw [hk2.1, g4], by rw [hk2.2, g1]⟩, hend⟩
              · cases e
            cases x with
            | normal => exact leave (u := .ret) { b.atR a' [] with mode := .returning } hbf rfl rfl hbk rfl (Steps.trans arr (.one (stepR_end hbr))) e
            | ret =>
              obtain ⟨k1, st⟩ := arr
              exact leave (u := .ret) { b.atR a' (.code .ret :: k1) with mode := .returning } hbf rfl rfl hbk rfl (st.trans (.one (stepR_ret hbr))) e
            | pan ch =>
              obtain ⟨CH, todo, hch, st⟩ := arr
              exact leave (u := .pan ch) { b.atR a' todo with mode := .panicking CH } hbf rfl rfl hbk ⟨CH, rfl, hch⟩ st e
            | exit id => simp at e
          · cases e
        · cases e
      · cases f3

theorem ev_ok (hmix : P.follows .mixedOrders = true) {E : Nat → Option AFunc} (hE : TableOK P G E) : ∀ n, CodeOK P G (ev E n).1 ∧ CallOK P G (ev E n).2
  | 0 => ⟨fun _ _ _ _ _ _ _ _ _ _ _ e => by simp [ev] at e, fun _ _ _ _ _ _ _ _ e => by simp [ev] at e⟩
  | n + 1 => by
    obtain ⟨h1, h2⟩ := ev_ok hmix hE n
    exact ⟨code_ok hmix h1 h2, call_ok hE h1 h2⟩

/-- A call that the abstract machine brings to an end is met by the model's. -/
theorem calls_of_ev (hmix : P.follows .mixedOrders = true) {E : Nat → Option AFunc} (hE : TableOK P G E) {n f : Nat} {args : List AVal} {h : Hp} {v : AVal} {h' : Hp} {cm' : AMode} (e : (ev E n).2 false f args h .ret = some (.ret v, h', cm'))
    {ι : Gh} {w : World} {vargs : List Value} (R : Rel G ι h w) (hva : VRL ι args vargs) : Calls P f ⟨vargs⟩ w (fun e w' => ∃ ι' V, e = .returned V ∧ VR ι' v V ∧ Rel G ι' h' w' ∧ Fr ι h w ι' h' w') := by
  intro cs
  obtain ⟨⟨fn, f1, f2, f3⟩, ι', w', cs', fr, R', F', hcs, st, hk, hd, _, hm, fn', V, hf', hres, hV⟩ := (ev_ok hmix hE n).2 false f args h .ret _ h' cm' e ι w vargs cs R hva (fun h => by cases h)
  have hcs := hcs.1 rfl
  subst hcs
  exact ⟨.returned V, w', fr, ⟨ι', V, rfl, hV, R', F'⟩, st, hk.2, hm, hd, hk.1, fn', hf', hres⟩
end
end Go.Am
end
