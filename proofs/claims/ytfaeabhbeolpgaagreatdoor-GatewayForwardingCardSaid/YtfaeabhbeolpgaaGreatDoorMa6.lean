/- The abstract machine, part 14: equality, maps, type assertions, calls. Conditions: none. -/
import Derived.Test.YtfaeabhbeolpgaaGreatDoorMa5
import Derived.Laws.StructEq
set_option linter.all false
noncomputable section
namespace Go.Am

section
variable {P : Program} {G : Nat → Option Nat} {ι : Gh} {h : Hp} {w : World} {tm : List AVal} {ρ : Operand → Value}

theorem keyV_eq {k : KeyK} {a b : AVal} {r : Bool} {t : TypeId} (hk : keyK P t = some k) (e : keyV k a b = some r) {A B : Value} (ha : VR ι a A) (hb : VR ι b B) (d : Nat) (w : World) :
    (Op.equalIn (d + 1) t A B).run P w = .ok r w := by
  unfold keyK at hk
  unfold keyV at e
  split at e
  · next x y =>
    cases e
    rw [ha.bool_inv, hb.bool_inv]
    split at hk <;> cases hk
    next hu => simp [Op.equalIn, run_underlying' hu]
  · next k x k' y =>
    split at e
    · next hkk =>
      subst hkk; cases e
      rw [ha.int_inv, hb.int_inv]
      split at hk <;> cases hk
      next hu => simp [Op.equalIn, run_underlying' hu]
    · cases e
  · next x y =>
    cases e
    rw [ha.str_inv, hb.str_inv, strEq_eq]
    split at hk <;> cases hk
    next hu =>
      have : ((⟨⟨x⟩⟩ : ByteArray) == ⟨⟨y⟩⟩) = (x == y) := by
        have := beq_toListBytes ⟨⟨x⟩⟩ ⟨⟨y⟩⟩
        rw [ba_toList, ba_toList] at this; exact this
      simp [Op.equalIn, run_underlying' hu, this]
  · cases e

theorem keyK_agg {t : TypeId} {k : KeyK} (hk : keyK P t = some k) : aggP P t = some false := by
  unfold keyK at hk; unfold aggP
  split at hk <;> cases hk <;> next hu => rw [hu]

theorem part_at {t : TypeId} (ht : aggP P t = some false) {L : List Value} {off : Nat} {V : Value} (e : L[off]? = some V) (w : World) : (part t ⟨L⟩ off).run P w = .ok V w := by
  simp [part, run_isAgg' ht, e]

theorem eqFields_ok (d : Nat) {x y : List AVal} {X Y : List Value} (hx : VRL ι x X) (hy : VRL ι y Y) (w : World) : ∀ (fs : List Field) (i : Nat) {sh : List KeyK} {r : Bool}, flatF P i fs = some sh →
    eqS sh (x.drop i) (y.drop i) = some r → (Op.eqFields (d + 1) ⟨X⟩ ⟨Y⟩ fs).run P w = .ok r w
  | [], i, sh, r, e, hr => by
    simp [flatF] at e; subst e
    simp [eqS] at hr; subst hr
    simp [Op.eqFields]
  | f :: fs, i, sh, r, e, hr => by
    simp only [flatF] at e
    split at e
    · next hc =>
      simp only [Bool.and_eq_true] at hc
      have hoff := Nat.eq_of_beq_eq_true hc.2
      have hname : f.name ≠ "_" := by simpa using hc.1
      split at e
      · next k sh' hk hsh =>
        cases e
        unfold eqS at hr
        split at hr
        · next heq => cases heq
        · next k2 sh2 a x' b y' heq hxd hyd =>
          cases heq
          have hxi : x[i]? = some a := by have := congrArg (fun l => l[0]?) hxd; simpa using this
          have hyi : y[i]? = some b := by have := congrArg (fun l => l[0]?) hyd; simpa using this
          have hx' : x.drop (i + 1) = x' := by have := congrArg List.tail hxd; simpa using this
          have hy' : y.drop (i + 1) = y' := by have := congrArg List.tail hyd; simpa using this
          obtain ⟨A, p1, p2⟩ := hx.get i hxi
          obtain ⟨B, q1, q2⟩ := hy.get i hyi
          have hpa := part_at (P := P) (keyK_agg hk) p1 w
          have hpb := part_at (P := P) (keyK_agg hk) q1 w
          split at hr
          · next hkv =>
            have hq := keyV_eq hk hkv p2 q2 d w
            rw [← hx', ← hy'] at hr
            have ih := eqFields_ok d hx hy w fs (i + 1) hsh hr
            simp only [Op.eqFields, if_pos hname, Sem.run_bind, hoff, hpa, hpb, Result.andThen_ok, hq, Bool.not_true, Bool.false_eq_true, if_false, ih]
          · next hkv =>
            have hq := keyV_eq hk hkv p2 q2 d w
            cases hr
            simp only [Op.eqFields, if_pos hname, Sem.run_bind, hoff, hpa, hpb, Result.andThen_ok, hq, Bool.not_false, if_true, Sem.run_pure]
          · cases hr
        · cases hr
      · cases e
    · cases e

theorem eqArr_ok (d : Nat) {e : TypeId} {k : KeyK} (hk : keyK P e = some k) {x y : List AVal} {X Y : List Value} (hx : VRL ι x X) (hy : VRL ι y Y) (w : World) : ∀ (n i : Nat) {r : Bool},
    eqS (List.replicate n k) (x.drop i) (y.drop i) = some r →
    (forIn (List.range' i n) ((none, ()) : Option Bool × Unit) fun i (__s : Option Bool × Unit) => do
              let __do_lift ← part e ⟨X⟩ i
              let __do_lift_1 ← part e ⟨Y⟩ i
              let __do_lift ← Op.equalIn (d + 1) e __do_lift __do_lift_1
              if (!__do_lift) = true then pure (ForInStep.done (some false, ())) else pure (ForInStep.yield (none, ())) : Sem (Option Bool × Unit)).run P w = .ok (if r then none else some false, ()) w
  | 0, i, r, hr => by
    simp [eqS] at hr; subst hr
    simp
  | n + 1, i, r, hr => by
    simp only [List.replicate_succ] at hr
    unfold eqS at hr
    split at hr
    · next heq => cases heq
    · next k2 sh2 a x' b y' heq hxd hyd =>
      cases heq
      have hxi : x[i]? = some a := by have := congrArg (fun l => l[0]?) hxd; simpa using this
      have hyi : y[i]? = some b := by have := congrArg (fun l => l[0]?) hyd; simpa using this
      have hx' : x.drop (i + 1) = x' := by have := congrArg List.tail hxd; simpa using this
      have hy' : y.drop (i + 1) = y' := by have := congrArg List.tail hyd; simpa using this
      obtain ⟨A, p1, p2⟩ := hx.get i hxi
      obtain ⟨B, q1, q2⟩ := hy.get i hyi
      have hpa := part_at (P := P) (keyK_agg hk) p1 w
      have hpb := part_at (P := P) (keyK_agg hk) q1 w
      simp only [List.range'_succ, List.forIn_cons, Sem.run_bind, hpa, hpb, Result.andThen_ok]
      split at hr
      · next hkv =>
        have hq := keyV_eq hk hkv p2 q2 d w
        rw [← hx', ← hy'] at hr
        have ih := eqArr_ok d hk hx hy w n (i + 1) hr
        simp only [hq, Result.andThen_ok, Bool.not_true, Bool.false_eq_true, if_false, Sem.run_pure]
        exact ih
      · next hkv =>
        have hq := keyV_eq hk hkv p2 q2 d w
        cases hr
        simp only [hq, Result.andThen_ok, Bool.not_false, if_true, Sem.run_pure, Bool.false_eq_true, if_false]
      · cases hr
    · cases hr

theorem eq_fin {t : TypeId} {A B : Value} {r : Bool} {x y : Operand} (h1 : binOp .eql t A B = (do pure (.bool (← Op.equalIn 10000 t A B)))) (h2 : binOp .neq t A B = (do pure (.bool (!(← Op.equalIn 10000 t A B)))))
    (hq' : ∀ d w, (Op.equalIn (d + 2) t A B).run P w = .ok r w) (hg : ∀ op w, (eqGuard op t x y A B).run P w = .ok () w) (op : BinOp) (hop : op = .eql ∨ op = .neq) (w : World) :
    (eqGuard op t x y A B).run P w = .ok () w ∧ (binOp op t A B).run P w = .ok (.bool (if op = .neq then !r else r)) w := by
  refine ⟨hg op w, ?_⟩
  have hq : ∀ w, (Op.equalIn 10000 t A B).run P w = .ok r w := fun w => hq' 9998 w
  rcases hop with rfl | rfl
  · rw [h1]; simp [hq]
  · rw [h2]; simp [hq]

theorem eqK_bool {t : TypeId} (hk : eqK P t = some .bool) : P.underlying t = some .bool := by
  unfold eqK at hk; repeat' split at hk
  all_goals first | assumption | (simp at hk; done)
theorem eqK_ptr {t : TypeId} (hk : eqK P t = some .ptr) : ∃ e, P.underlying t = some (.pointer e) := by
  unfold eqK at hk; repeat' split at hk
  all_goals first | exact ⟨_, by assumption⟩ | (simp at hk; done)
theorem eqK_slice {t : TypeId} (hk : eqK P t = some .slice) : ∃ e, P.underlying t = some (.slice e) := by
  unfold eqK at hk; repeat' split at hk
  all_goals first | exact ⟨_, by assumption⟩ | (simp at hk; done)
theorem eqK_map {t : TypeId} (hk : eqK P t = some .map) : ∃ e f, P.underlying t = some (.map e f) := by
  unfold eqK at hk; repeat' split at hk
  all_goals first | exact ⟨_, _, by assumption⟩ | (simp at hk; done)
theorem eqK_func {t : TypeId} (hk : eqK P t = some .func) : ∃ a b c, P.underlying t = some (.func a b c) := by
  unfold eqK at hk; repeat' split at hk
  all_goals first | exact ⟨_, _, _, by assumption⟩ | (simp at hk; done)
theorem eqK_agg {t : TypeId} {sh : List KeyK} (hk : eqK P t = some (.agg sh)) : P.eqGuardType P.depth t = false ∧
    ((∃ fs, P.underlying t = some (.struct fs) ∧ P.stoodInHeld t = false ∧ flatF P 0 fs.toList = some sh) ∨ (∃ n e k, P.underlying t = some (.array n e) ∧ keyK P e = some k ∧ szP P e = some 1 ∧ sh = List.replicate n k)) := by
  unfold eqK at hk
  split at hk <;> first | (simp at hk; done) | skip
  · next fs hu =>
    split at hk
    · next hc =>
      simp only [Bool.and_eq_true, Bool.not_eq_true'] at hc
      simp only [Option.map_eq_some_iff] at hk
      obtain ⟨sh', h1, h2⟩ := hk
      cases h2
      exact ⟨hc.2, .inl ⟨fs, hu, hc.1, h1⟩⟩
    · cases hk
  · next n e hu =>
    split at hk
    · next hc =>
      simp only [Bool.not_eq_true'] at hc
      split at hk
      · next k h1 h2 => cases hk; exact ⟨hc, .inr ⟨n, e, k, hu, h1, h2, rfl⟩⟩
      · cases hk
    · cases hk

/-- What the model's '==' says at a type of this kind. -/
theorem eqV_ok {t : TypeId} {k : EqK} (hk : eqK P t = some k ∨ (k = .iface ∧ ∃ ms, P.underlying t = some (.interface ms))) {a b : AVal} {r : Bool} (e : eqV k a b = some r) {A B : Value} (ha : VR ι a A) (hb : VR ι b B) (op : BinOp) (hop : op = .eql ∨ op = .neq) (x y : Operand)
    (hc : k = .iface → isConstO x = true ∨ isConstO y = true) (w : World) :
    (eqGuard op t x y A B).run P w = .ok () w ∧ (binOp op t A B).run P w = .ok (.bool (if op = .neq then !r else r)) w := by
  have hg0 : ∀ (A B : Value), (∀ p q, A = .agg p → B = .agg q → False) → (A = .nilIface → B = .nilIface → False) → ∀ op w, (eqGuard op t x y A B).run P w = .ok () w := by
    intro A B n1 n2 op w
    cases op <;> first
      | (unfold eqGuard; simp only [Bool.not_false, if_true]; rfl)
      | (unfold eqGuard; simp only [Bool.not_true, Bool.false_eq_true, if_false]; split <;> first | exact (n2 rfl rfl).elim | exact (n1 _ _ rfl rfl).elim | rfl)
  unfold eqV at e
  split at e
  · next p q =>
    cases e
    rw [ha.bool_inv, hb.bool_inv]
    have hu := eqK_bool (hk.resolve_right (fun h => by cases h.1))
    exact eq_fin rfl rfl (fun d w => by rw [Op.equalIn]; simp [run_underlying' hu]) (hg0 _ _ (by simp) (by simp)) op hop w
  · cases e
    obtain ⟨el, hu⟩ := eqK_ptr (hk.resolve_right (fun h => by cases h.1))
    simp only [VR] at ha hb; subst ha hb
    exact eq_fin rfl rfl (fun d w => by rw [Op.equalIn]; simp [run_underlying' hu]) (hg0 _ _ (by simp) (by simp)) op hop w
  · cases e
    obtain ⟨el, hu⟩ := eqK_ptr (hk.resolve_right (fun h => by cases h.1))
    simp only [VR] at ha hb; subst ha; obtain ⟨i, _, rfl⟩ := hb
    exact eq_fin rfl rfl (fun d w => by rw [Op.equalIn]; simp [run_underlying' hu]) (hg0 _ _ (by simp) (by simp)) op hop w
  · cases e
    obtain ⟨el, hu⟩ := eqK_ptr (hk.resolve_right (fun h => by cases h.1))
    simp only [VR] at ha hb; subst hb; obtain ⟨i, _, rfl⟩ := ha
    exact eq_fin rfl rfl (fun d w => by rw [Op.equalIn]; simp [run_underlying' hu]) (hg0 _ _ (by simp) (by simp)) op hop w
  · cases e
    obtain ⟨el, hu⟩ := eqK_slice (hk.resolve_right (fun h => by cases h.1))
    simp only [VR] at ha hb; subst ha hb
    exact eq_fin rfl rfl (fun d w => by rw [Op.equalIn]; simp [run_underlying' hu]) (hg0 _ _ (by simp) (by simp)) op hop w
  · cases e
    obtain ⟨el, hu⟩ := eqK_slice (hk.resolve_right (fun h => by cases h.1))
    simp only [VR] at ha; subst ha
    obtain ⟨A', n, C, hB⟩ : ∃ A n C, B = .slice (some A) n C := by
      rcases hb.sl_inv with ⟨i, C, _, _, h3, _⟩ | ⟨_, ⟨A, h3⟩, _⟩
      · exact ⟨_, _, _, h3⟩
      · exact ⟨_, _, _, h3⟩
    subst hB
    exact eq_fin rfl rfl (fun d w => by rw [Op.equalIn]; simp [run_underlying' hu]) (hg0 _ _ (by simp) (by simp)) op hop w
  · cases e
    obtain ⟨el, hu⟩ := eqK_slice (hk.resolve_right (fun h => by cases h.1))
    simp only [VR] at hb; subst hb
    obtain ⟨A', n, C, hA⟩ : ∃ A' n C, A = .slice (some A') n C := by
      rcases ha.sl_inv with ⟨i, C, _, _, h3, _⟩ | ⟨_, ⟨A, h3⟩, _⟩
      · exact ⟨_, _, _, h3⟩
      · exact ⟨_, _, _, h3⟩
    subst hA
    exact eq_fin rfl rfl (fun d w => by rw [Op.equalIn]; simp [run_underlying' hu]) (hg0 _ _ (by simp) (by simp)) op hop w
  · cases e
    obtain ⟨el, el2, hu⟩ := eqK_map (hk.resolve_right (fun h => by cases h.1))
    simp only [VR] at ha hb; subst ha hb
    exact eq_fin rfl rfl (fun d w => by rw [Op.equalIn]; simp [run_underlying' hu]) (hg0 _ _ (by simp) (by simp)) op hop w
  · cases e
    obtain ⟨el, el2, hu⟩ := eqK_map (hk.resolve_right (fun h => by cases h.1))
    simp only [VR] at ha hb; subst ha; obtain ⟨i, _, rfl⟩ := hb
    exact eq_fin rfl rfl (fun d w => by rw [Op.equalIn]; simp [run_underlying' hu]) (hg0 _ _ (by simp) (by simp)) op hop w
  · cases e
    obtain ⟨el, el2, hu⟩ := eqK_map (hk.resolve_right (fun h => by cases h.1))
    simp only [VR] at ha hb; subst hb; obtain ⟨i, _, rfl⟩ := ha
    exact eq_fin rfl rfl (fun d w => by rw [Op.equalIn]; simp [run_underlying' hu]) (hg0 _ _ (by simp) (by simp)) op hop w
  · cases e
    obtain ⟨_, _, _, hu⟩ := eqK_func (hk.resolve_right (fun h => by cases h.1))
    simp only [VR] at ha hb; subst ha hb
    exact eq_fin rfl rfl (fun d w => by rw [Op.equalIn]; simp [run_underlying' hu]) (hg0 _ _ (by simp) (by simp)) op hop w
  · cases e
    obtain ⟨_, _, _, hu⟩ := eqK_func (hk.resolve_right (fun h => by cases h.1))
    simp only [VR] at ha hb; subst ha; obtain ⟨_, _, rfl, _, _⟩ := hb
    exact eq_fin rfl rfl (fun d w => by rw [Op.equalIn]; simp [run_underlying' hu]) (hg0 _ _ (by simp) (by simp)) op hop w
  · cases e
    obtain ⟨_, _, _, hu⟩ := eqK_func (hk.resolve_right (fun h => by cases h.1))
    simp only [VR] at ha hb; subst hb; obtain ⟨_, _, rfl, _, _⟩ := ha
    exact eq_fin rfl rfl (fun d w => by rw [Op.equalIn]; simp [run_underlying' hu]) (hg0 _ _ (by simp) (by simp)) op hop w
  · cases e
    have hu : ∃ ms, P.underlying t = some (.interface ms) := by
      rcases hk with hk | ⟨_, hu⟩
      · unfold eqK at hk; repeat' split at hk
        all_goals (simp at hk; done)
      · exact hu
    obtain ⟨ms, hu⟩ := hu
    simp only [VR] at ha hb; subst ha hb
    refine eq_fin rfl rfl (fun d w => by rw [Op.equalIn]; simp [run_underlying' hu]) (fun op w => ?_) op hop w
    unfold eqGuard
    rcases hc rfl with hx | hy
    · cases x <;> simp [isConstO] at hx <;> cases op <;> simp
    · cases y <;> simp [isConstO] at hy <;> cases op <;> simp
  · cases e
    have hu : ∃ ms, P.underlying t = some (.interface ms) := by
      rcases hk with hk | ⟨_, hu⟩
      · unfold eqK at hk; repeat' split at hk
        all_goals (simp at hk; done)
      · exact hu
    obtain ⟨ms, hu⟩ := hu
    simp only [VR] at ha hb; subst ha; obtain ⟨_, rfl, _⟩ := hb
    exact eq_fin rfl rfl (fun d w => by rw [Op.equalIn]; simp [run_underlying' hu]) (hg0 _ _ (by simp) (by simp)) op hop w
  · cases e
    have hu : ∃ ms, P.underlying t = some (.interface ms) := by
      rcases hk with hk | ⟨_, hu⟩
      · unfold eqK at hk; repeat' split at hk
        all_goals (simp at hk; done)
      · exact hu
    obtain ⟨ms, hu⟩ := hu
    simp only [VR] at ha hb; subst hb; obtain ⟨_, rfl, _⟩ := ha
    exact eq_fin rfl rfl (fun d w => by rw [Op.equalIn]; simp [run_underlying' hu]) (hg0 _ _ (by simp) (by simp)) op hop w
  · next sh l l' =>
    obtain ⟨hgt, hsh⟩ := eqK_agg (hk.resolve_right (fun h => by cases h.1))
    obtain ⟨X, rfl, hx⟩ := ha.agg_inv
    obtain ⟨Y, rfl, hy⟩ := hb.agg_inv
    refine eq_fin rfl rfl (fun d w => ?_) (fun op w => run_eqGuard_agg w op t x y _ _ hgt) op hop w
    rcases hsh with ⟨fs, hu, hst, hfl⟩ | ⟨n, el, kk, hu, hkk, hsz, rfl⟩
    · have hf : P.fieldsOf t = fs := by simp [Program.fieldsOf, hu]
      rw [run_equalIn_struct w (d + 1) t _ _ (by rw [hf]; exact hu) hst, hf]
      exact eqFields_ok d hx hy w fs.toList 0 hfl (by simpa using e)
    · rw [Op.equalIn]
      simp only [Sem.run_bind, run_underlying' hu, Result.andThen_ok, run_sizeOf' hsz]
      rw [Std.Legacy.Range.forIn_eq_forIn_range']
      have := eqArr_ok (P := P) d hkk hx hy w n 0 (by simpa using e)
      have hsize : (Std.Legacy.Range.size [:n]) = n := by simp [Std.Legacy.Range.size]
      simp only [Nat.mul_one]
      rw [hsize, this]
      cases r <;> simp
  · cases e
end
end Go.Am

/- The abstract machine, part 15: maps, type assertions, builtins, calls. Conditions: none. -/
namespace Go.Am

section
variable {P : Program} {G : Nat → Option Nat} {ι : Gh} {h : Hp} {w : World} {tm : List AVal} {ρ : Operand → Value}

/-! ### Maps -/
theorem keyK_type {t : TypeId} {k : KeyK} (hk : keyK P t = some k) : (k = .bool ∧ P.underlying t = some .bool) ∨ (k = .int ∧ ∃ i, P.underlying t = some (.int i)) ∨ (k = .str ∧ P.underlying t = some .string) := by
  unfold keyK at hk
  split at hk <;> cases hk
  · exact .inl ⟨rfl, by assumption⟩
  · exact .inr (.inl ⟨rfl, _, by assumption⟩)
  · exact .inr (.inr ⟨rfl, by assumption⟩)

theorem keyV_isKey {k : KeyK} {a b : AVal} {r : Bool} (e : keyV k a b = some r) : isKey k a = true := by
  unfold keyV at e; split at e <;> first | rfl | (cases e; done)

theorem run_checkKey {t : TypeId} {k : KeyK} (hk : keyK P t = some k) (b : Bool) (A : Value) (d : Nat) (w : World) : (Instr.checkKey b (d + 1) t A).run P w = .ok () w := by
  rcases keyK_type hk with ⟨_, hu⟩ | ⟨_, i, hu⟩ | ⟨_, hu⟩ <;> simp [Instr.checkKey, run_underlying' hu]

/-- The model's look at the keys, one after the other. -/
theorem sameNow_ok {t : TypeId} {k : KeyK} (hk : keyK P t = some k) {a b : AVal} {r : Bool} (e : keyV k a b = some r) {A B : Value} (ha : VR ι a A) (hb : VR ι b B) : ∃ d, P.underlying t = some d ∧ Instr.sameNow d A B = some r := by
  unfold keyV at e
  split at e
  · cases e
    rcases keyK_type hk with ⟨_, hu⟩ | ⟨h1, i, hu⟩ | ⟨h1, hu⟩
    · exact ⟨_, hu, by rw [ha.bool_inv, hb.bool_inv]; rfl⟩
    · cases h1
    · cases h1
  · split at e
    · next hkk =>
      subst hkk; cases e
      rcases keyK_type hk with ⟨h1, hu⟩ | ⟨_, i, hu⟩ | ⟨h1, hu⟩
      · cases h1
      · exact ⟨_, hu, by rw [ha.int_inv, hb.int_inv]; simp [Instr.sameNow]⟩
      · cases h1
    · cases e
  · next x y =>
    cases e
    rcases keyK_type hk with ⟨h1, hu⟩ | ⟨h1, i, hu⟩ | ⟨_, hu⟩
    · cases h1
    · cases h1
    · refine ⟨_, hu, ?_⟩
      have : ((⟨⟨x⟩⟩ : ByteArray) == ⟨⟨y⟩⟩) = (x == y) := by
        have := beq_toListBytes ⟨⟨x⟩⟩ ⟨⟨y⟩⟩
        rw [ba_toList, ba_toList] at this; exact this
      rw [ha.str_inv, hb.str_inv, strEq_eq]; simp [Instr.sameNow, this]
  · cases e

theorem findNow_ok {t : TypeId} {kk : KeyK} (hk : keyK P t = some kk) {d : TypeDesc} (hd : P.underlying t = some d) {k : AVal} {K : Value} (hK : VR ι k K) : ∀ {es : List (AVal × AVal)} {ES : List MapEntry} (i : Nat), EsR ι es ES → ∀ {r : Option AVal}, findE kk k es = some r →
    (r = none ∧ Instr.findNow d K ES i = some none) ∨ ∃ v V j, r = some v ∧ VR ι v V ∧ Instr.findNow d K ES i = some (some (i + j, V))
  | [], ES, i, hes, r, e => by
    simp only [EsR] at hes; subst hes
    simp [findE] at e; subst e
    exact .inl ⟨rfl, rfl⟩
  | (a, u) :: es, ES, i, hes, r, e => by
    obtain ⟨E, ES', rfl, h1, h2, h3⟩ := hes
    simp only [findE] at e
    split at e
    · next hkv =>
      cases e
      obtain ⟨d', q1, q2⟩ := sameNow_ok (P := P) hk hkv hK h1
      rw [hd] at q1; cases q1
      exact .inr ⟨u, E.val, 0, rfl, h2, by simp [Instr.findNow, q2]⟩
    · next hkv =>
      obtain ⟨d', q1, q2⟩ := sameNow_ok (P := P) hk hkv hK h1
      rw [hd] at q1; cases q1
      rcases findNow_ok hk hd hK (i + 1) h3 e with ⟨p1, p2⟩ | ⟨v, V, j, p1, p2, p3⟩
      · exact .inl ⟨p1, by simp [Instr.findNow, q2, p2]⟩
      · exact .inr ⟨v, V, j + 1, p1, p2, by simp [Instr.findNow, q2, p3]; omega⟩
    · cases e

theorem run_findKey {t : TypeId} {kk : KeyK} (hk : keyK P t = some kk) {k : AVal} {K : Value} (hK : VR ι k K) {es : List (AVal × AVal)} {ES : List MapEntry} (hes : EsR ι es ES) {r : Option AVal} (e : findE kk k es = some r) (w : World) :
    (r = none ∧ (Instr.findKey t K ES).run P w = .ok none w) ∨ ∃ v V j, r = some v ∧ VR ι v V ∧ (Instr.findKey t K ES).run P w = .ok (some (j, V)) w := by
  obtain ⟨d, hd⟩ : ∃ d, P.underlying t = some d := by
    rcases keyK_type hk with ⟨_, hu⟩ | ⟨_, i, hu⟩ | ⟨_, hu⟩ <;> exact ⟨_, hu⟩
  rcases findNow_ok hk hd hK 0 hes e with ⟨p1, p2⟩ | ⟨v, V, j, p1, p2, p3⟩
  · exact .inl ⟨p1, by simp [Instr.findKey, run_underlying' hd, p2]⟩
  · exact .inr ⟨v, V, 0 + j, p1, p2, by simp [Instr.findKey, run_underlying' hd, p3]⟩

theorem zeroV_some {t : TypeId} {z : AVal} (e : zeroV P t = some z) : ∃ V, (∀ w, (zeroValue t).run P w = .ok V w) ∧ ∀ ι, VR ι z V := by
  unfold zeroV at e
  cases hi : P.info? t with
  | none => simp [hi] at e
  | some i =>
    simp only [hi] at e
    cases hz : i.zero with
    | none => simp [hz] at e
    | some V =>
      simp only [hz] at e
      exact ⟨V, fun w => by simp [zeroValue, run_typeInfo' hi, hz], fun ι => cval_ok e ι⟩

theorem VRL.two {ι : Gh} {a b : AVal} {A B : Value} (h1 : VR ι a A) (h2 : VR ι b B) : VRL ι [a, b] [A, B] :=
  VRL.cons_iff.2 ⟨_, _, rfl, h1, VRL.cons_iff.2 ⟨_, _, rfl, h2, by simp [VRL]⟩⟩

theorem sim_lookup (R : Rel G ι h w) (ho : OpR G ι tm ρ) {x y : Operand} {a b : AOpd} (e1 : copd G x = some a) (e2 : copd G y = some b) {t kt et : TypeId} (ht : P.underlying t = some (.map kt et)) {kk : KeyK} (hk : keyK P kt = some kk) {z : AVal} (hz : zeroV P et = some z)
    {ok : Bool} {o : Oper} (hop : o.op = .lookup t x y ok) {r : ARes} (e : aop tm h (.lookup kk z ok a b) = some r) : RSim P G ι h w r ((execOp ρ o).run P w) := by
  have hx := ho.one e1
  have hy := ho.one e2
  obtain ⟨Z, z1, z2⟩ := zeroV_some hz
  simp only [aop] at e
  split at e
  · next hkey =>
    split at e
    · cases e
    · next es hes =>
      -- the entries that the model sees
      have hE : ∃ ES : Array MapEntry, EsR ι es ES.toList ∧ ((∃ q, ρ x = .map (some q) ∧ ∃ c, (getObj q).run P w = .ok (.map ES c) w) ∨ (ρ x = .map none ∧ ES = #[])) := by
        split at hes
        · next hv =>
          cases hes
          rw [hv] at hx
          have hX : ρ x = .map none := by simpa only [VR] using hx
          exact ⟨#[], by simp [EsR], .inr ⟨hX, rfl⟩⟩
        · next g hv =>
          split at hes
          · next es' hg =>
            cases hes
            rw [hv] at hx
            simp only [VR] at hx
            obtain ⟨i, h1, h2⟩ := hx
            obtain ⟨i', h3, hO⟩ := R.ob g _ hg
            rw [h1] at h3; cases h3
            obtain ⟨hb, ES, clk, q1, q2⟩ := hO
            have hgo : (getObj i.b).run P w = .ok (.map ES clk) w := by simp [getObj, Sem.run, q1]
            exact ⟨ES, q2, .inl ⟨i.b, h2, clk, hgo⟩⟩
          · cases hes
        · cases hes
      obtain ⟨ES, q1, q3⟩ := hE
      have hck := run_checkKey (P := P) hk ES.isEmpty (ρ y) 9999 w
      have key : ∀ (r' : Option AVal), findE kk (opd tm b) es = some r' → ∀ v', (v' = match r' with | some v => (if ok then AVal.tup [v, .bool true] else v) | none => (if ok then AVal.tup [z, .bool false] else z)) →
          RSim P G ι h w (.val v' h) ((execOp ρ o).run P w) := by
        intro r' hf v' hv'
        rcases run_findKey (P := P) hk hy q1 hf w with ⟨rfl, p2⟩ | ⟨v, V, j, rfl, p1, p2⟩
        · refine .same R (V := if ok then .tuple #[Z, .bool false] else Z) ?_ ?_
          · subst hv'; cases ok
            · exact z2 ι
            · exact VR.of_tup (VRL.two (z2 ι) (VR.of_bool false))
          · rcases q3 with ⟨q, hX, c, hgo⟩ | ⟨hX, rfl⟩
            · simp only [execOp, hop, Instr.lookup, Sem.run_bind, run_underlying' ht, Result.andThen_ok, hX, hgo, hck, p2, z1, Sem.run_pure]
            · simp only [execOp, hop, Instr.lookup, Sem.run_bind, run_underlying' ht, Result.andThen_ok, hX, hck, p2, z1, Sem.run_pure]
        · refine .same R (V := if ok then .tuple #[V, .bool true] else V) ?_ ?_
          · subst hv'; cases ok
            · exact p1
            · exact VR.of_tup (VRL.two p1 (VR.of_bool true))
          · rcases q3 with ⟨q, hX, c, hgo⟩ | ⟨hX, rfl⟩
            · simp only [execOp, hop, Instr.lookup, Sem.run_bind, run_underlying' ht, Result.andThen_ok, hX, hgo, hck, p2, Sem.run_pure]
            · simp only [execOp, hop, Instr.lookup, Sem.run_bind, run_underlying' ht, Result.andThen_ok, hX, hck, p2, Sem.run_pure]
      split at e
      · cases e
      · next v hf => cases e; exact key _ hf _ rfl
      · next hf => cases e; exact key _ hf _ rfl
  · cases e

theorem keyV_same {k : KeyK} {a b : AVal} (e : keyV k a b = some true) {A B : Value} (ha : VR ι a A) (hb : VR ι b B) : Instr.sameBits 10000 B A = true := by
  unfold keyV at e
  split at e
  · next x y =>
    rw [ha.bool_inv, hb.bool_inv]; simp at e; subst e; simp [Instr.sameBits]
  · next k x k' y =>
    split at e
    · next hk => subst hk; simp at e; subst e; rw [ha.int_inv, hb.int_inv]; simp [Instr.sameBits]
    · cases e
  · next x y =>
    rw [strEq_eq] at e; simp at e; subst e
    rw [ha.str_inv, hb.str_inv]
    have : ((⟨⟨x⟩⟩ : ByteArray) == ⟨⟨x⟩⟩) = true := by
      have := beq_toListBytes ⟨⟨x⟩⟩ ⟨⟨x⟩⟩
      rw [this]; simp
    simp [Instr.sameBits, this]
  · cases e

/-- Where the model's look finds the key: what the update does to the entries. -/
theorem upd_ok {t : TypeId} {kk : KeyK} (hk : keyK P t = some kk) {d : TypeDesc} (hd : P.underlying t = some d) {k v : AVal} {K V : Value} (hK : VR ι k K) (hV : VR ι v V) (clk : Nat) : ∀ {es es' : List (AVal × AVal)} {ES : List MapEntry} (i : Nat), EsR ι es ES → updE kk k v es = some es' →
    (Instr.findNow d K ES i = some none ∧ EsR ι es' (ES ++ [{ key := K, val := V, born := clk }])) ∨
    ∃ j U E, Instr.findNow d K ES i = some (some (i + j, U)) ∧ ES[j]? = some E ∧ Instr.sameBits 10000 E.key K = true ∧ EsR ι es' (ES.modify j fun e => { e with key := K, val := V })
  | [], es', ES, i, hes, e => by
    simp only [EsR] at hes; subst hes
    simp [updE] at e; subst e
    exact .inl ⟨rfl, by simp only [List.nil_append, EsR]; exact ⟨_, _, rfl, hK, hV, rfl⟩⟩
  | (a, u) :: es, es', ES, i, hes, e => by
    obtain ⟨E, ES', rfl, h1, h2, h3⟩ := hes
    simp only [updE] at e
    split at e
    · next hkv =>
      cases e
      obtain ⟨d', q1, q2⟩ := sameNow_ok (P := P) hk hkv hK h1
      rw [hd] at q1; cases q1
      have hs := keyV_same hkv hK h1
      refine .inr ⟨0, E.val, E, by simp [Instr.findNow, q2], by simp, hs, ?_⟩
      simp only [List.modify_zero_cons, EsR]
      refine ⟨_, _, rfl, ?_, hV, h3⟩
      -- the key that was there is the key
      have : VR ι a K := by
        unfold keyV at hkv
        split at hkv
        · simp at hkv; subst hkv; exact hK
        · split at hkv
          · next hk' => subst hk'; simp at hkv; subst hkv; exact hK
          · cases hkv
        · rw [strEq_eq] at hkv; simp at hkv; subst hkv; exact hK
        · cases hkv
      exact this
    · next hkv =>
      split at e
      · next r hr =>
        cases e
        obtain ⟨d', q1, q2⟩ := sameNow_ok (P := P) hk hkv hK h1
        rw [hd] at q1; cases q1
        rcases upd_ok hk hd hK hV clk (i + 1) h3 hr with ⟨p1, p2⟩ | ⟨j, U, E', p1, p2, p3, p4⟩
        · exact .inl ⟨by simp [Instr.findNow, q2, p1], by simp only [List.cons_append, EsR]; exact ⟨_, _, rfl, h1, h2, p2⟩⟩
        · refine .inr ⟨j + 1, U, E', by simp [Instr.findNow, q2, p1]; omega, by simpa using p2, p3, ?_⟩
          simp only [List.modify_succ_cons, EsR]
          exact ⟨_, _, rfl, h1, h2, p4⟩
      · cases e
    · cases e

theorem sim_mupd (R : Rel G ι h w) (ho : OpR G ι tm ρ) {x y z : Operand} {a b c : AOpd} (e1 : copd G x = some a) (e2 : copd G y = some b) (e3 : copd G z = some c) {t kt et : TypeId} (ht : P.underlying t = some (.map kt et)) {kk : KeyK} (hk : keyK P kt = some kk)
    {o : Oper} (hop : o.op = .insert t x y z ∨ o.op = .mapUpdate t x y z) {g : Nat} (hg1 : opd tm a = .map g) {es es' : List (AVal × AVal)} (hg : h.m.get g = some (.map es)) (e : updE kk (opd tm b) (opd tm c) es = some es') :
    RSim P G ι h w (.val und (h.set g (.map es'))) ((execOp ρ o).run P w) := by
  have hx := ho.one e1
  have hy := ho.one e2
  have hz := ho.one e3
  rw [hg1] at hx
  simp only [VR] at hx
  obtain ⟨i, h1, h2⟩ := hx
  obtain ⟨i', h3, hO⟩ := R.ob g _ hg
  rw [h1] at h3; cases h3
  obtain ⟨hb, ES, clk, q1, q2⟩ := hO
  have hgo : (getObj i.b).run P w = .ok (.map ES clk) w := by simp [getObj, Sem.run, q1]
  have hck := run_checkKey (P := P) hk false (ρ y) 9999 w
  obtain ⟨d, hd⟩ : ∃ d, P.underlying kt = some d := by
    rcases keyK_type hk with ⟨_, hu⟩ | ⟨_, i, hu⟩ | ⟨_, hu⟩ <;> exact ⟨_, hu⟩
  have hso : ∀ o : Go.Obj, (setObj i.b o).run P w = .ok () { w with heap := w.heap.setIfInBounds i.b o } := by intro o; simp [setObj, Sem.run, q1]
  -- the world behind
  have fin : ∀ (N : Array MapEntry) (c' : Nat), EsR ι es' N.toList → Rel G ι (h.set g (.map es')) { w with heap := w.heap.setIfInBounds i.b (.map N c') } ∧ Fr ι h w ι (h.set g (.map es')) { w with heap := w.heap.setIfInBounds i.b (.map N c') } := by
    intro N c' hN
    have hlt := hb
    refine rel_set R hg rfl h1 (by simp) (fun B hB => by simp [Array.getElem?_setIfInBounds, Ne.symm hB]) rfl rfl rfl ⟨by simpa using hb, N, c', by simp [hlt], hN⟩
  rcases upd_ok (P := P) hk hd hy hz clk 0 q2 e with ⟨p1, p2⟩ | ⟨j, U, E, p1, p2, p3, p4⟩
  · obtain ⟨f1, f2⟩ := fin (ES.push { key := ρ y, val := ρ z, born := clk }) (clk + 1) (by simpa using p2)
    refine ⟨ι, _, undef, f1, f2, VR.und, .inr ⟨?_, rfl⟩⟩
    have hf : (Instr.findKey kt (ρ y) ES.toList).run P w = .ok none w := by simp [Instr.findKey, run_underlying' hd, p1]
    rcases hop with hop | hop <;> simp only [execOp, hop, Instr.mapUpdate, Sem.run_bind, run_underlying' ht, Result.andThen_ok, h2, hgo, hck, hf, hso, Sem.run_pure]
  · simp only [Nat.zero_add] at p1
    obtain ⟨f1, f2⟩ := fin (ES.modify j fun e => { e with key := ρ y, val := ρ z }) clk (by simpa using p4)
    refine ⟨ι, _, undef, f1, f2, VR.und, .inr ⟨?_, rfl⟩⟩
    have hf : (Instr.findKey kt (ρ y) ES.toList).run P w = .ok (some (j, U)) w := by simp [Instr.findKey, run_underlying' hd, p1]
    have hE : ES[j]? = some E := by simpa using p2
    have hks : (Instr.keyThatStays (((ES[j]?).map (·.key)).getD (ρ y)) (ρ y)).run P w = .ok (ρ y) w := by
      simp [Instr.keyThatStays, hE, p3]
    rcases hop with hop | hop <;> simp only [execOp, hop, Instr.mapUpdate, Sem.run_bind, run_underlying' ht, Result.andThen_ok, h2, hgo, hck, hf, hks, hso, Sem.run_pure]
end
end Go.Am

/- The abstract machine, part 16: the remaining operations, and all operations joined. Conditions: none. -/
namespace Go.Am

section
variable {P : Program} {G : Nat → Option Nat} {ι : Gh} {h : Hp} {w : World} {tm : List AVal} {ρ : Operand → Value}

theorem sim_eq (R : Rel G ι h w) (ho : OpR G ι tm ρ) {x y : Operand} {a b : AOpd} (e1 : copd G x = some a) (e2 : copd G y = some b) {op : BinOp} {t yt : TypeId} {o : Oper} (hop : o.op = .binOp op t x y yt) {k : EqK} {neg : Bool}
    (hk : eqK P t = some k ∨ (k = .iface ∧ ∃ ms, P.underlying t = some (.interface ms))) (hc : k = .iface → isConstO x = true ∨ isConstO y = true) (hneg : (neg = false ∧ op = .eql) ∨ (neg = true ∧ op = .neq))
    {r : Bool} (e : eqV k (opd tm a) (opd tm b) = some r) : RSim P G ι h w (.val (.bool (if neg then !r else r)) h) ((execOp ρ o).run P w) := by
  have hop2 : op = .eql ∨ op = .neq := by rcases hneg with ⟨_, h⟩ | ⟨_, h⟩ <;> simp [h]
  obtain ⟨q1, q2⟩ := eqV_ok (P := P) hk e (ho.one e1) (ho.one e2) op hop2 x y hc w
  refine .same R (VR.of_bool _) ?_
  rcases hneg with ⟨rfl, rfl⟩ | ⟨rfl, rfl⟩ <;> simp [execOp, hop, q1, q2]

theorem sim_tassert (R : Rel G ι h w) (ho : OpR G ι tm ρ) {x : Operand} {a : AOpd} (e1 : copd G x = some a) {xt t : TypeId} {z : AVal} (hz : zeroV P t = some z) {d : TypeDesc} (hd : P.underlying t = some d) (hn : ∀ ms, d ≠ .interface ms)
    {ok : Bool} {o : Oper} (hop : o.op = .typeAssert x xt t ok) {r : ARes} (e : aop tm h (.tassert t z ok a) = some r) : RSim P G ι h w r ((execOp ρ o).run P w) := by
  have hx := ho.one e1
  obtain ⟨Z, z1, z2⟩ := zeroV_some hz
  simp only [aop] at e
  split at e
  · next t' v hv =>
    rw [hv] at hx
    simp only [VR] at hx
    obtain ⟨W, h1, h2⟩ := hx
    split at e
    · next ht =>
      have ht := Nat.eq_of_beq_eq_true ht
      subst ht
      cases e
      refine .same R (V := if ok then .tuple #[W, .bool true] else W) ?_ ?_
      · cases ok
        · exact h2
        · exact VR.of_tup (VRL.two h2 (VR.of_bool true))
      · cases d <;> first | exact absurd rfl (hn _) | (cases ok <;> simp [execOp, hop, Instr.typeAssert, run_underlying' hd, h1])
    · next ht =>
      have ht := nbeq_ne ht
      split at e
      · next hok =>
        cases e
        subst hok
        refine .same R (V := .tuple #[Z, .bool false]) (VR.of_tup (VRL.two (z2 ι) (VR.of_bool false))) ?_
        cases d <;> first | exact absurd rfl (hn _) | simp [execOp, hop, Instr.typeAssert, run_underlying' hd, h1, ht, z1]
      · cases e
  · next hv =>
    rw [hv] at hx
    have h1 : ρ x = .nilIface := by simpa only [VR] using hx
    split at e
    · next hok =>
      cases e
      subst hok
      refine .same R (V := .tuple #[Z, .bool false]) (VR.of_tup (VRL.two (z2 ι) (VR.of_bool false))) ?_
      cases d <;> first | exact absurd rfl (hn _) | simp [execOp, hop, Instr.typeAssert, run_underlying' hd, h1, z1]
    · cases e
  · cases e

theorem sim_nilchk (R : Rel G ι h w) (ho : OpR G ι tm ρ) {x : Operand} {a : AOpd} (e1 : copd G x = some a) {o : Oper} (hop : o.op = .nilCheck x) (e : isC (opd tm a) = true) : RSim P G ι h w (.val (opd tm a) h) ((execOp ρ o).run P w) := by
  have hx := ho.one e1
  refine .same R hx ?_
  unfold isC at e
  split at e
  · next hv => rw [hv] at hx; simp only [VR] at hx; obtain ⟨A, C, h1, _⟩ := hx; simp [execOp, hop, h1]
  · next hv => rw [hv] at hx; simp only [VR] at hx; obtain ⟨i, _, h1⟩ := hx; simp [execOp, hop, h1]
  · next hv => rw [hv] at hx; rcases hx.sl_inv with ⟨i, C, _, _, h1, _⟩ | ⟨_, ⟨A, h1⟩, _⟩ <;> simp [execOp, hop, h1]
  · next hv => rw [hv] at hx; simp only [VR] at hx; obtain ⟨W, h1, _⟩ := hx; simp [execOp, hop, h1]
  · cases e

/-! ### Builtins -/
theorem exec_builtin {o : Oper} {c : Call} (hop : o.op = .call c) {b : Builtin} (hc : c.callee = .builtin b) :
    ∃ cs, (execOp ρ o).run P w = (builtin b c.argTypes o.type cs (c.args.map ρ)).run P w := by
  refine ⟨c.args.map fun | .const _ => true | _ => false, ?_⟩
  simp only [execOp, hop, resolve, hc, Sem.run_bind, Sem.run_pure, Result.andThen_ok, invoke]
  rfl

theorem copds_one {xs : Array Operand} {a : AOpd} (e : copds G xs.toList = some [a]) : ∃ x, xs = #[x] ∧ copd G x = some a := by
  obtain ⟨l⟩ := xs
  match l with
  | [] => simp [copds] at e
  | [x] =>
    simp only [copds] at e
    split at e
    · next h1 h2 => cases e; exact ⟨x, rfl, h1⟩
    · cases e
  | x :: y :: l =>
    simp only [copds] at e
    split at e
    · next h1 h2 =>
      split at h2
      · cases h2; cases e
      · cases h2
    · cases e
theorem copds_two {xs : Array Operand} {a b : AOpd} (e : copds G xs.toList = some [a, b]) : ∃ x y, xs = #[x, y] ∧ copd G x = some a ∧ copd G y = some b := by
  obtain ⟨l⟩ := xs
  match l with
  | [] => simp [copds] at e
  | x :: l =>
    simp only [copds] at e
    split at e
    · next h1 h2 =>
      cases e
      obtain ⟨y, h3, h4⟩ := copds_one (xs := ⟨l⟩) h2
      cases h3
      exact ⟨x, y, rfl, h1, h4⟩
    · cases e

/-- What a type has to be for len. -/
def LenT (d : TypeDesc) : LenK → Prop
  | .str => d = .string
  | .sl => ∃ e, d = .slice e
  | .map => ∃ k e, d = .map k e

theorem EsR.length : ∀ {es : List (AVal × AVal)} {L : List MapEntry}, EsR ι es L → es.length = L.length
  | [], L, h => by simp only [EsR] at h; simp [h]
  | _ :: es, L, h => by obtain ⟨E, L', rfl, _, _, h3⟩ := h; simp [EsR.length h3]

theorem sim_len (R : Rel G ι h w) (ho : OpR G ι tm ρ) {c : Call} {o : Oper} (hop : o.op = .call c) (hc : c.callee = .builtin .len) {a : AOpd} (ha : copds G c.args.toList = some [a]) {t : TypeId} (ht : c.argTypes[0]? = some t)
    {d : TypeDesc} (hd : P.underlying t = some d) {k : LenK} (hk : LenT d k) {r : ARes} (e : aop tm h (.len k a) = some r) : RSim P G ι h w r ((execOp ρ o).run P w) := by
  obtain ⟨x, hxs, hxa⟩ := copds_one ha
  have hx := ho.one hxa
  obtain ⟨cs, hcs⟩ := exec_builtin (P := P) (w := w) (ρ := ρ) hop hc
  rw [hcs, hxs]
  simp only [aop] at e
  split at e
  · next l hv =>
    cases e
    rw [hv] at hx
    simp only [LenT] at hk; subst hk
    refine .same R (VR.of_int _ _) ?_
    have hsz : (⟨⟨l⟩⟩ : ByteArray).size = l.length := rfl
    simp [builtin, Builtin.len_, ht, run_underlying' hd, hx.str_inv, goInt, ln_eq, hsz]
  · next hv =>
    cases e
    rw [hv] at hx
    obtain ⟨el, rfl⟩ := hk
    have h1 : ρ x = .slice none 0 0 := by simpa only [VR] using hx
    exact .same R (VR.of_int _ _) (by simp [builtin, Builtin.len_, ht, run_underlying' hd, h1, goInt])
  · next g of n cc hv =>
    cases e
    rw [hv] at hx
    obtain ⟨el, rfl⟩ := hk
    refine .same R (VR.of_int _ _) ?_
    rcases hx.sl_inv with ⟨i, C, _, _, h1, _⟩ | ⟨rfl, ⟨A, h1⟩, _⟩ <;> simp [builtin, Builtin.len_, ht, run_underlying' hd, h1, goInt]
  · next hv =>
    cases e
    rw [hv] at hx
    obtain ⟨k, el, rfl⟩ := hk
    have h1 : ρ x = .map none := by simpa only [VR] using hx
    exact .same R (VR.of_int _ _) (by simp [builtin, Builtin.len_, ht, run_underlying' hd, h1, goInt])
  · next g hv =>
    rw [hv] at hx
    obtain ⟨k, el, rfl⟩ := hk
    split at e
    · next es hg =>
      cases e
      simp only [VR] at hx
      obtain ⟨i, h1, h2⟩ := hx
      obtain ⟨i', h3, hO⟩ := R.ob g _ hg
      rw [h1] at h3; cases h3
      obtain ⟨hb, ES, clk, q1, q2⟩ := hO
      have hgo : (getObj i.b).run P w = .ok (.map ES clk) w := by simp [getObj, Sem.run, q1]
      have hlen : es.length = ES.size := by simpa using q2.length
      refine .same R (VR.of_int _ _) ?_
      simp [builtin, Builtin.len_, ht, run_underlying' hd, h2, hgo, goInt, ln_eq, hlen]
    · cases e
  · cases e

theorem sim_app (R : Rel G ι h w) (ho : OpR G ι tm ρ) {c : Call} {o : Oper} (hop : o.op = .call c) (hc : c.callee = .builtin .append) {a b : AOpd} (ha : copds G c.args.toList = some [a, b]) {el : TypeId} {k by_ : Nat} (hT : AppT P c.argTypes el k by_)
    {r : ARes} (e : aop tm h (.app k by_ a b) = some r) : RSim P G ι h w r ((execOp ρ o).run P w) := by
  obtain ⟨x, y, hxs, hxa, hya⟩ := copds_two ha
  obtain ⟨cs, hcs⟩ := exec_builtin (P := P) (w := w) (ρ := ρ) hop hc
  rw [hcs, hxs]
  obtain ⟨v, h', rfl, ι', w', V, q1, q2, q3, q4⟩ := app_ok hT o.type R (ho.one hxa) (ho.one hya) e
  have hA : (#[x, y] : Array Operand).map ρ = #[ρ x, ρ y] := by simp
  exact .val q1 q2 q3 (by rw [hA]; simp [builtin, q4])

theorem rdS_pre (R : Rel G ι h w) {k : Nat} {x : AVal} {X : Value} {m n : Nat} {l : List AVal} (e : rdS h k x = some (m, l)) (hx : VR ι x X) (hle : n ≤ m) :
    ∃ L, (Builtin.firstCells k n X).run P w = .ok ⟨L⟩ w ∧ VRL ι (l.take (n * k)) L := by
  unfold rdS at e
  split at e
  · next s =>
    split at e
    · next hk =>
      have hk := Nat.eq_of_beq_eq_true hk
      subst hk
      cases e
      rw [hx.str_inv]
      refine ⟨(s.take n).map fun b => Value.int .u8 b.toNat, ?_, ?_⟩
      · simp only [Builtin.firstCells, ba_extract, Sem.run_pure, Nat.sub_zero, List.drop_zero]
        congr 1
        apply Array.toList_inj.1; simp
      · have := VRL.take n (byteCells_ok ι s)
        simpa using this
    · cases e
  · cases e
    have hX : X = .slice none 0 0 := by simpa only [VR] using hx
    subst hX
    exact ⟨[], by simp [Builtin.firstCells], by simp [VRL]⟩
  · next g o m' c =>
    split at e
    · next ob hg =>
      split at e
      · next l' hr =>
        cases e
        obtain ⟨i, h1, hO⟩ := R.ob g ob hg
        obtain ⟨L, k1, k2, k3⟩ := load_many hO hr
        have hle' : n * k ≤ m * k := Nat.mul_le_mul_right k hle
        refine ⟨L.take (n * k), ?_, VRL.take _ k2⟩
        have hlen : (L.take (n * k)).length = n * k := by rw [List.length_take]; omega
        have hld : ∀ (j : Nat) (V : Value), (L.take (n * k))[j]? = some V → w.cell? ⟨i.b, o + i.d + j, none⟩ = some V := by
          intro j V hj
          rw [List.getElem?_take] at hj
          split at hj
          · exact k3 j V hj
          · cases hj
        rcases hx.sl_inv with ⟨j, C, h2, h3, rfl, _, _⟩ | ⟨rfl, ⟨A, rfl⟩, _, _⟩
        · rw [h1] at h2; cases h2
          simp only [Builtin.firstCells]
          exact run_loadCells P w _ _ _ _ hlen hld
        · have hn : n = 0 := by omega
          subst hn
          simp [Builtin.firstCells, loadCells, loadCellsFrom]
      · cases e
    · cases e
  · cases e

theorem sim_cpy (R : Rel G ι h w) (ho : OpR G ι tm ρ) {c : Call} {o : Oper} (hop : o.op = .call c) (hc : c.callee = .builtin .copy) {a b : AOpd} (ha : copds G c.args.toList = some [a, b]) {t : TypeId} (ht : c.argTypes[0]? = some t) {el : TypeId} (hd : P.underlying t = some (.slice el))
    {k : Nat} (hk : szP P el = some k) {r : ARes} (e : aop tm h (.cpy k a b) = some r) : RSim P G ι h w r ((execOp ρ o).run P w) := by
  obtain ⟨x, y, hxs, hxa, hya⟩ := copds_two ha
  obtain ⟨cs, hcs⟩ := exec_builtin (P := P) (w := w) (ρ := ρ) hop hc
  rw [hcs, hxs]
  have hx := ho.one hxa
  have hy := ho.one hya
  simp only [aop] at e
  split at e
  · next q hv hr =>
    obtain ⟨m, cx⟩ := q
    cases e
    rw [hv] at hx
    have h1 : ρ x = .slice none 0 0 := by simpa only [VR] using hx
    obtain ⟨q1, q2, _⟩ := rdS_ok (P := P) R hr hy
    obtain ⟨L, q3, q4⟩ := rdS_pre (P := P) R (n := 0) hr hy (by omega)
    refine .same R (VR.of_int _ _) ?_
    have hmin : Nat.min m 0 = 0 := Nat.min_zero m
    simp only [List.map_toArray, List.map_cons, List.map_nil, builtin, Builtin.copy_, ht, h1, List.getElem?_toArray, List.getElem?_cons_zero, List.getElem?_cons_succ, Sem.run_bind, run_underlying' hd, Result.andThen_ok, q1, hmin, run_sizeOf' hk, q3, Sem.run_pure, goInt]
    rfl
  · next g of n cc m cx hv hr =>
    rw [hv] at hx
    split at e
    · next ob hg =>
      split at e
      · next ob' hw =>
        cases e
        obtain ⟨q1, q2, _⟩ := rdS_ok (P := P) R hr hy
        obtain ⟨L, q3, q4⟩ := rdS_pre (P := P) R (n := Nat.min m n) hr hy (Nat.min_le_left m n)
        obtain ⟨i, hi, hO⟩ := R.ob g ob hg
        rw [takeN_eq] at hw
        obtain ⟨w', s1, s2, s3⟩ := store_obj (P := P) R hg hi hw q4
        have hst : ∃ A C, ρ x = .slice (some A) n C ∧ (storeCells A L).run P w = .ok () w' := by
          rcases hx.sl_inv with ⟨j, C, h2, h3, h4, _, _⟩ | ⟨rfl, ⟨A, h4⟩, _, _⟩
          · rw [hi] at h2; cases h2
            exact ⟨_, _, h4, s1⟩
          · refine ⟨A, 0, h4, ?_⟩
            have hl : L = [] := by
              have := q4.length
              have hz : Nat.min m 0 = 0 := Nat.min_zero m
              rw [hz] at this
              simp at this
              exact List.length_eq_zero_iff.1 this.symm
            subst hl
            simpa [storeCells] using s1
        obtain ⟨A, C, h4, h5⟩ := hst
        refine .val s2 s3 (VR.of_int _ _) ?_
        simp only [List.map_toArray, List.map_cons, List.map_nil, builtin, Builtin.copy_, ht, h4, List.getElem?_toArray, List.getElem?_cons_zero, List.getElem?_cons_succ, Sem.run_bind, run_underlying' hd, Result.andThen_ok, q1, run_sizeOf' hk, q3, h5, Sem.run_pure, goInt]
      · cases e
    · cases e
  · cases e

theorem reps_ok {z : List AVal} {Z : Array Value} (hz : VRL ι z Z.toList) : ∀ n, VRL ι (reps z n) (Builtin.zeroCells Z n).toList := by
  intro n
  have hl := hz.length
  have hreps : ∀ (n j : Nat), j < n * z.length → (reps z n)[j]? = z[j % z.length]? := by
    intro n
    induction n with
    | zero => intro j hj; simp at hj
    | succ n ih =>
      intro j hj
      rw [reps, cat_eq, List.getElem?_append]
      rw [Nat.succ_mul] at hj
      split
      · next hlt => rw [Nat.mod_eq_of_lt hlt]
      · next hlt => rw [ih _ (by omega)]; rw [Nat.mod_eq_sub_mod (a := j) (by omega)]
  have hrl : ∀ n, (reps z n).length = n * z.length := by
    intro n
    induction n with
    | zero => simp [reps]
    | succ n ih => rw [reps, cat_eq, List.length_append, ih, Nat.succ_mul]; omega
  have hZs : Z.size = z.length := by simpa using hl.symm
  refine VRL.of_get (by simp [Builtin.zeroCells, hrl, hZs]) fun j v hv => ?_
  have hlt : j < n * z.length := by have := (List.getElem?_eq_some_iff.1 hv).1; rw [hrl] at this; exact this
  have hzp : 0 < z.length := by rcases Nat.eq_zero_or_pos z.length with h0 | h0; rw [h0] at hlt; simp at hlt; exact h0
  rw [hreps n j hlt] at hv
  obtain ⟨V, h1, h2⟩ := hz.get _ hv
  refine ⟨V, ?_, h2⟩
  have hzg := zeros_get Z (n * Z.size) j (by rw [hZs]; exact hlt) (by omega)
  have : (Builtin.zeroCells Z n).toList[j]? = (Builtin.zeroCells Z n)[j]? := by simp
  rw [this]
  unfold Builtin.zeroCells
  rw [hzg, hZs]; simpa using h1

theorem sim_clr (R : Rel G ι h w) (ho : OpR G ι tm ρ) {c : Call} {o : Oper} (hop : o.op = .call c) (hc : c.callee = .builtin .clear) {a : AOpd} (ha : copds G c.args.toList = some [a]) {t : TypeId} (ht : c.argTypes[0]? = some t) {el : TypeId} (hd : P.underlying t = some (.slice el))
    {z : List AVal} (hz : zeroP P el = some z) {r : ARes} (e : aop tm h (.clr z a) = some r) : RSim P G ι h w r ((execOp ρ o).run P w) := by
  obtain ⟨x, hxs, hxa⟩ := copds_one ha
  obtain ⟨cs, hcs⟩ := exec_builtin (P := P) (w := w) (ρ := ρ) hop hc
  obtain ⟨Z, z1, z2⟩ := zeroP_some hz
  rw [hcs, hxs]
  have hx := ho.one hxa
  simp only [aop] at e
  have hund : VR ι und (.tuple #[]) := VR.und
  split at e
  · next hv =>
    cases e
    rw [hv] at hx
    have h1 : ρ x = .slice none 0 0 := by simpa only [VR] using hx
    exact .same R hund (by simp [builtin, Builtin.clear_, ht, run_underlying' hd, h1])
  · next hv =>
    cases e
    rw [hv] at hx
    rcases hx.sl_inv with ⟨i, C, _, _, h1, _⟩ | ⟨_, ⟨A, h1⟩, _⟩ <;> exact .same R hund (by simp [builtin, Builtin.clear_, ht, run_underlying' hd, h1])
  · next g of n cc hv =>
    rw [hv] at hx
    split at e
    · next ob hg =>
      split at e
      · next ob' hw =>
        cases e
        obtain ⟨i, hi, hO⟩ := R.ob g ob hg
        obtain ⟨w', s1, s2, s3⟩ := store_obj (P := P) R hg hi hw (reps_ok (z2 ι) (n + 1))
        rcases hx.sl_inv with ⟨j, C, h2, h3, h4, _, _⟩ | ⟨h0, _⟩
        · rw [hi] at h2; cases h2
          refine .val s2 s3 (by exact VR.und) (V := .tuple #[]) ?_
          simp [builtin, Builtin.clear_, ht, run_underlying' hd, h4, z1, s1]
        · omega
      · cases e
    · cases e
  · cases e

theorem minA_ok : ∀ {l : List AVal} {L : List Value} (_ : VRL ι l L) {k : IntKind} {x : Int} {v : AVal}, minA k x l = some v → ∃ V, VR ι v V ∧ (L.foldlM Builtin.min2 (.int k x)).run P w = .ok V w
  | [], L, hl, k, x, v, e => by simp only [VRL] at hl; subst hl; simp [minA] at e; subst e; exact ⟨_, VR.of_int _ _, by simp⟩
  | a :: l, L, hl, k, x, v, e => by
    obtain ⟨V, L', rfl, h1, h2⟩ := VRL.cons_iff.1 hl
    unfold minA at e
    split at e
    · next heq => cases heq
    · next k' y l' heq =>
      cases heq
      split at e
      · next hk =>
        subst hk
        obtain ⟨V', q1, q2⟩ := minA_ok h2 e
        refine ⟨V', q1, ?_⟩
        rw [h1.int_inv]
        simp only [List.foldlM_cons, Sem.run_bind, Builtin.min2, Sem.run_pure, Result.andThen_ok, q2]
      · cases e
    · cases e
theorem maxA_ok : ∀ {l : List AVal} {L : List Value} (_ : VRL ι l L) {k : IntKind} {x : Int} {v : AVal}, maxA k x l = some v → ∃ V, VR ι v V ∧ (L.foldlM Builtin.max2 (.int k x)).run P w = .ok V w
  | [], L, hl, k, x, v, e => by simp only [VRL] at hl; subst hl; simp [maxA] at e; subst e; exact ⟨_, VR.of_int _ _, by simp⟩
  | a :: l, L, hl, k, x, v, e => by
    obtain ⟨V, L', rfl, h1, h2⟩ := VRL.cons_iff.1 hl
    unfold maxA at e
    split at e
    · next heq => cases heq
    · next k' y l' heq =>
      cases heq
      split at e
      · next hk =>
        subst hk
        obtain ⟨V', q1, q2⟩ := maxA_ok h2 e
        refine ⟨V', q1, ?_⟩
        rw [h1.int_inv]
        simp only [List.foldlM_cons, Sem.run_bind, Builtin.max2, Sem.run_pure, Result.andThen_ok, q2]
      · cases e
    · cases e

theorem sim_minmax (R : Rel G ι h w) (ho : OpR G ι tm ρ) {c : Call} {o : Oper} (hop : o.op = .call c) {as : List AOpd} (ha : copds G c.args.toList = some as)
    {r : ARes}
    (e : (c.callee = .builtin .min ∧ aop tm h (.min as) = some r) ∨ (c.callee = .builtin .max ∧ aop tm h (.max as) = some r)) : RSim P G ι h w r ((execOp ρ o).run P w) := by
  have hl := ho.list ha
  have hargs : (c.args.map ρ).toList = c.args.toList.map ρ := by simp
  rcases e with ⟨hc, e⟩ | ⟨hc, e⟩
  · obtain ⟨cs, hcs⟩ := exec_builtin (P := P) (w := w) (ρ := ρ) hop hc
    rw [hcs]
    simp only [aop] at e
    unfold minV at e
    split at e
    · next k x l hv =>
      rw [hv] at hl
      obtain ⟨V, L', h1, h2, h3⟩ := VRL.cons_iff.1 hl
      cases hm : minA k x l with
      | none => rw [hm] at e; cases e
      | some v =>
        rw [hm] at e
        simp only [vl] at e; cases e
        obtain ⟨V', q1, q2⟩ := minA_ok (P := P) (w := w) h3 hm
        refine .same R q1 ?_
        rw [h2.int_inv] at h1
        simp [builtin, Builtin.min_, h1, q2]
    · cases e
  · obtain ⟨cs, hcs⟩ := exec_builtin (P := P) (w := w) (ρ := ρ) hop hc
    rw [hcs]
    simp only [aop] at e
    unfold maxV at e
    split at e
    · next k x l hv =>
      rw [hv] at hl
      obtain ⟨V, L', h1, h2, h3⟩ := VRL.cons_iff.1 hl
      cases hm : maxA k x l with
      | none => rw [hm] at e; cases e
      | some v =>
        rw [hm] at e
        simp only [vl] at e; cases e
        obtain ⟨V', q1, q2⟩ := maxA_ok (P := P) (w := w) h3 hm
        refine .same R q1 ?_
        rw [h2.int_inv] at h1
        simp [builtin, Builtin.max_, h1, q2]
    · cases e
end
end Go.Am

/- The abstract machine, part 17: calls, and every operation joined. Conditions: none. -/
namespace Go.Am

section
variable {P : Program} {G : Nat → Option Nat} {ι : Gh} {h : Hp} {w : World} {tm : List AVal} {ρ : Operand → Value}

theorem sim_dyn (ho : OpR G ι tm ρ) {c : Call} {o : Oper} (hop : o.op = .call c) {fo : Operand} (hc : c.callee = .value fo) {af : AOpd} (hf : copd G fo = some af) {as : List AOpd} (ha : copds G c.args.toList = some as)
    {f : Nat} {a cap : List AVal} (hv : opd tm af = .fn (.func f) a cap) : RSim P G ι h w (.call f (a ++ (opds tm as ++ cap))) ((execOp ρ o).run P w) := by
  have hx := ho.one hf
  rw [hv] at hx
  simp only [VR] at hx
  obtain ⟨A, C, h1, h2, h3⟩ := hx
  have hl := ho.list ha
  refine ⟨A ++ (c.args.toList.map ρ ++ C), h2.append (hl.append h3), ?_⟩
  have harr : (⟨A⟩ : Array Value) ++ c.args.map ρ ++ ⟨C⟩ = ⟨A ++ (c.args.toList.map ρ ++ C)⟩ := by
    apply Array.toList_inj.1; simp
  simp only [execOp, hop, resolve, hc, Deferred.ofValue, h1, Sem.run_bind, Sem.run_pure, Result.andThen_ok, invoke, harr]

theorem sim_defer (R : Rel G ι h w) (ho : OpR G ι tm ρ) {c : Call} {o : Oper} (hop : o.op = .defer c) {fo : Operand} (hc : c.callee = .value fo) {af : AOpd} (hf : copd G fo = some af) {as : List AOpd} (ha : copds G c.args.toList = some as)
    {f : Fn} {a cap : List AVal} (hv : opd tm af = .fn f a cap) : RSim P G ι h w (.dfr ⟨f, cat a (opds tm as), cap⟩) ((execOp ρ o).run P w) := by
  have hx := ho.one hf
  rw [hv] at hx
  simp only [VR] at hx
  obtain ⟨A, C, h1, h2, h3⟩ := hx
  have hl := ho.list ha
  refine ⟨⟨.fn f ⟨C⟩, ⟨A ++ c.args.toList.map ρ⟩⟩, ⟨_, C, rfl, by rw [cat_eq]; exact h2.append hl, h3⟩, ?_⟩
  have harr : (⟨A⟩ : Array Value) ++ c.args.map ρ = ⟨A ++ c.args.toList.map ρ⟩ := by apply Array.toList_inj.1; simp
  simp only [execOp, hop, resolve, hc, Deferred.ofValue, h1, Sem.run_bind, Sem.run_pure, Result.andThen_ok, harr]

theorem copdO_ne {x : Option Operand} {a : Option AOpd} (e : copdO G x = some a) : (x = none ∧ a = none) ∨ ∃ y b, x = some y ∧ a = some b := by
  cases x with
  | none => simp [copdO] at e; exact .inl ⟨rfl, e.symm⟩
  | some y => simp only [copdO] at e; split at e <;> cases e; exact .inr ⟨_, _, rfl, rfl⟩

theorem u1usome {x : Operand} {f : AOpd → AOp} {a : AOp} (e : u1 G x f = some a) : ∃ b, copd G x = some b ∧ a = f b := by
  unfold u1 at e; simp only [Option.map_eq_some_iff] at e
  obtain ⟨b, h1, h2⟩ := e; exact ⟨b, h1, h2.symm⟩
theorem u2usome {x y : Operand} {f : AOpd → AOpd → AOp} {a : AOp} (e : u2 G x y f = some a) : ∃ b c, copd G x = some b ∧ copd G y = some c ∧ a = f b c := by
  unfold u2 at e; split at e
  · next h1 h2 => cases e; exact ⟨_, _, h1, h2, rfl⟩
  · cases e
theorem u3usome {x y z : Operand} {f : AOpd → AOpd → AOpd → AOp} {a : AOp} (e : u3 G x y z f = some a) : ∃ b c d, copd G x = some b ∧ copd G y = some c ∧ copd G z = some d ∧ a = f b c d := by
  unfold u3 at e; split at e
  · next h1 h2 h3 => cases e; exact ⟨_, _, _, h1, h2, h3, rfl⟩
  · cases e

theorem vl_some {v : Option AVal} {r : ARes} (e : vl h v = some r) : ∃ u, v = some u ∧ r = .val u h := by
  cases v with
  | none => simp [vl] at e
  | some u => simp only [vl] at e; cases e; exact ⟨u, rfl, rfl⟩

theorem sim_callop (R : Rel G ι h w) (ho : OpR G ι tm ρ) {c : Call} {o : Oper} (hop : o.op = .call c) {a : AOp} (e : ccall P G c = some a) {r : ARes} (hr : aop tm h a = some r) : RSim P G ι h w r ((execOp ρ o).run P w) := by
  unfold ccall at e
  split at e
  · next f l hc ha =>
    cases e
    simp only [aop] at hr; cases hr
    have := sim_dyn (P := P) (h := h) (w := w) ho hop hc (af := .c (.fn (.func f) [] [])) rfl ha (f := f) (a := []) (cap := []) rfl
    simpa using this
  · next f l hne hc ha =>
    obtain ⟨b, h1, rfl⟩ := u1usome e
    simp only [aop] at hr
    split at hr
    · next f' a' c' hv =>
      cases hr
      rw [cat_eq, cat_eq]
      exact sim_dyn (P := P) (h := h) (w := w) ho hop hc h1 ha hv
    · cases hr
  · next x hc ha =>
    split at e
    · next t ht =>
      split at e
      · next hd => cases e; exact sim_len R ho hop hc ha ht hd (k := .str) rfl hr
      · next hd => cases e; exact sim_len R ho hop hc ha ht hd (k := .sl) ⟨_, rfl⟩ hr
      · next hd => cases e; exact sim_len R ho hop hc ha ht hd (k := .map) ⟨_, _, rfl⟩ hr
      · next n hd =>
        cases e
        simp only [aop, opd] at hr; cases hr
        obtain ⟨y, hxs, hxa⟩ := copds_one ha
        obtain ⟨cs, hcs⟩ := exec_builtin (P := P) (w := w) (ρ := ρ) hop hc
        rw [hcs, hxs]
        exact .same R (VR.of_int _ _) (by simp [builtin, Builtin.len_, ht, run_underlying' hd, goInt])
      · next hd =>
        split at e
        · next n hd2 =>
          cases e
          simp only [aop, opd] at hr; cases hr
          obtain ⟨y, hxs, hxa⟩ := copds_one ha
          obtain ⟨cs, hcs⟩ := exec_builtin (P := P) (w := w) (ρ := ρ) hop hc
          rw [hcs, hxs]
          exact .same R (VR.of_int _ _) (by simp [builtin, Builtin.len_, ht, run_underlying' hd, run_underlying' hd2, goInt])
        · cases e
      · cases e
    · cases e
  · next s x hc ha =>
    split at e
    · next t ht =>
      split at e
      · next el hd =>
        split at e
        · next i hi =>
          split at e
          · next z hz =>
            by_cases hbad : appBad P c.argTypes (ln z) i.size = true
            · rw [if_pos hbad] at e; cases e
            · rw [if_neg hbad] at e
              cases e
              simp only [appBad, Bool.or_eq_true, not_or, Bool.not_eq_true] at hbad
              have hzl : z.length = i.size := by
                have := hbad.2; simp only [Bool.not_eq_false'] at this
                have := Nat.eq_of_beq_eq_true this; rwa [ln_eq] at this
              refine sim_app R ho hop hc ha (el := el) ⟨⟨t, ht, hd⟩, ⟨i, z, hi, rfl, rfl, hz, hzl⟩, ?_⟩ hr
              have hh := hbad.1
              cases h1 : c.argTypes[1]? with
              | none => exact .inl rfl
              | some t1 =>
                rw [h1] at hh
                simp only at hh
                cases h2 : P.underlying t1 with
                | none => rw [h2] at hh; simp at hh
                | some d =>
                  refine .inr ⟨t1, d, rfl, h2, fun q hq => ?_⟩
                  subst hq
                  rw [h2] at hh; simp at hh
          · cases e
        · cases e
      · cases e
    · cases e
  · next d s hc ha =>
    split at e
    · next t ht =>
      split at e
      · next el hd =>
        simp only [Option.map_eq_some_iff] at e
        obtain ⟨k, hk, rfl⟩ := e
        exact sim_cpy R ho hop hc ha ht hd hk hr
      · cases e
    · cases e
  · next x hc ha =>
    split at e
    · next t ht =>
      split at e
      · next el hd =>
        simp only [Option.map_eq_some_iff] at e
        obtain ⟨z, hz, rfl⟩ := e
        exact sim_clr R ho hop hc ha ht hd hz hr
      · cases e
    · cases e
  · next l hc ha => cases e; exact sim_minmax R ho hop ha (.inl ⟨hc, hr⟩)
  · next l hc ha => cases e; exact sim_minmax R ho hop ha (.inr ⟨hc, hr⟩)
  · next l hc ha =>
    cases e
    simp only [aop] at hr; cases hr
    obtain ⟨cs, hcs⟩ := exec_builtin (P := P) (w := w) (ρ := ρ) hop hc
    rw [hcs]
    simp [RSim, builtin]
  · cases e
end
end Go.Am
end
