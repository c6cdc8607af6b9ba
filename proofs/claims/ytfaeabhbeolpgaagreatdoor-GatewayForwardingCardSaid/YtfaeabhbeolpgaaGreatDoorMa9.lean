/- The abstract machine, part 23: one operation of a region, wherever it stands; new blocks whose keys are given beforehand. Conditions: none. -/
import Derived.Test.YtfaeabhbeolpgaaGreatDoorMa8
set_option linter.all false
noncomputable section
namespace Go.Am

section
variable {P : Program} {G : Nat → Option Nat}

/-- One operation that ends well. -/
theorem op1uok {gf : CallF} (hG : CallOK P G gf) {ops : Array Oper} {i : Nat} {o : Oper} {ai : AIns} (ho : ops[i]? = some o) (hci : cins P G ops o = some ai)
    {dfr : Bool} {tm : List AVal} {df : List ADef} {h : Hp} {cm : AMode} {v : AVal} {df' : List ADef} {h' : Hp} {cm' : AMode} (e : ld1 gf dfr ai tm df h cm = some (v, df', h', cm'))
    {ι : Gh} {w : World} {a : Act} (b : Frame) (k : List Item) (cs : List Frame) (rest : List Nat) (R : Rel G ι h w) (hA : ActR ι ⟨tm, df⟩ a) (hro : b.roundOf = none) :
    ∃ ι' w' a', Rel G ι' h' w' ∧ Fr ι h w ι' h' w' ∧ ActR ι' ⟨putD tm ai.dst v, df'⟩ a' ∧ cm' = cm ∧
      Steps P (lone (b.atR a (.inRegion ops (i :: rest) :: k)) cs w) (lone (b.atR a' (.inRegion ops rest :: k)) cs w') := by
  have hw := wanted_ok hci hA.tm
  obtain ⟨hdst, hopc⟩ := cins_dst hci
  have hfin : ∀ v, (b.atR a (.inRegion ops (i :: rest) :: k)).finish v = b.atR (a.put o.dst v) (.inRegion ops rest :: k) := by
    intro v; rw [Frame.finish_atR, ho]; rfl
  unfold ld1 at e
  split at e
  · next hwa =>
    rw [hwa] at hw
    have hg := stepGR_op (P := P) (b := b) (k := k) (cs := cs) (w := w) (rest := rest) ho hw
    rw [hro, Oper.semAt_none] at hg
    have hOp := opR_of R hA.tm
    split at e
    · next v1 h1 hv =>
      cases e
      rw [hopc] at hv
      obtain ⟨ι1, w1, V, R1, F1, hV, hrun⟩ := sim_copB R hOp o hv
      rw [hdst]
      rcases hrun with hrun | ⟨hrun, rfl⟩
      · exact ⟨ι1, w1, _, R1, F1, (hA.mono F1.le).put hV, rfl, .one (step_lone_go (by rw [hg, ← hfin]; simp [stepG.apply, hrun]))⟩
      · exact ⟨ι1, w1, _, R1, F1, (hA.mono F1.le).put hV, rfl, .one (step_lone_go (by rw [hg, ← hfin]; simp [stepG.apply, hrun]))⟩
    · next f args hv =>
      rw [hopc] at hv
      obtain ⟨vargs, hva, hrun⟩ := sim_copB R hOp o hv
      split at e
      · next v1 h1 cm1 hcall =>
        cases e
        obtain ⟨⟨fn, f1, f2, f3⟩, ι1, w1, cs1, fr, R1, F1, hcs1, hsteps, hkind, hd, _, hm, fn', V, hf', hres, hV⟩ := hG false f args h .ret _ _ _ hcall ι w vargs (b.atR a (.inRegion ops (i :: rest) :: k) :: cs) R hva (fun h => by cases h)
        rw [run_callFunc f1 f2 f3] at hrun
        have hcs1' := hcs1.1 rfl
        subst hcs1'
        have henter : step P (lone (b.atR a (.inRegion ops (i :: rest) :: k)) cs w) = .next (lone (Frame.enter P f ⟨vargs⟩ .normal) (b.atR a (.inRegion ops (i :: rest) :: k) :: cs) w) :=
          step_lone_go (by rw [hg]; simp [stepG.apply, hrun, Frame.atR])
        have hleave : fr.leaving P w1 (.returned V) := ⟨hm, hd, hkind.1, fn', hf', hres⟩
        rw [hdst]
        refine ⟨ι1, w1, _, R1, F1, (hA.mono F1.le).put hV, rfl, .head henter (Steps.trans hsteps (.one ?_))⟩
        rw [← hfin]; exact step_leave_returned hleave
      · cases e
    · next d hv =>
      cases e
      rw [hopc] at hv
      obtain ⟨D, hD, hrun⟩ := sim_copB R hOp o hv
      rw [hdst]
      have hst : step P (lone (b.atR a (.inRegion ops (i :: rest) :: k)) cs w) = .next (lone (b.atR ({ a with defers := D :: a.defers }.put o.dst undef) (.inRegion ops rest :: k)) cs w) := by
        refine step_lone_go ?_
        have : ({ b.atR a (.inRegion ops (i :: rest) :: k) with defers := D :: a.defers } : Frame).finish undef = b.atR ({ a with defers := D :: a.defers }.put o.dst undef) (.inRegion ops rest :: k) := by
          have := Frame.finish_atR b { a with defers := D :: a.defers } ops i rest k undef
          rw [ho] at this; exact this
        rw [hg]; simp only [stepG.apply, Sem.runT_eq, hrun, GStep.bare_after]
        exact congrArg (fun fr => GStep.go { frame := fr, callers := cs, status := .running, dying := none } w) this
      have hA2 : ActR ι ⟨tm, d :: df⟩ { a with defers := D :: a.defers } := ⟨hA.tm, D, a.defers, rfl, hD, hA.df⟩
      exact ⟨ι, w, _, R, Fr.refl _ _ _, hA2.put VR.und, rfl, .one hst⟩
    · cases e
  · next hwa =>
    cases e
    have hwa : wantedA tm ai.guard = false := by simpa using hwa
    rw [hwa] at hw
    rw [hdst]
    have hst := stepR_op_skip (P := P) (b := b) (a := a) (k := k) (cs := cs) (w := w) (ops := ops) (i := i) (rest := rest) (by simp [ho]; simpa using hw)
    simp only [ho, Option.bind_some] at hst
    exact ⟨ι, w, _, R, Fr.refl _ _ _, hA.put VR.und, rfl, .one hst⟩

theorem pure_val {op : AOp} (hp : isPure op = true) {tm : List AVal} {h : Hp} {r : ARes} (e : aop tm h op = some r) : ∃ v, r = .val v h := by
  cases op <;> simp only [isPure, Bool.false_eq_true] at hp <;> simp only [aop] at e <;> (repeat' split at e) <;>
    first
      | (cases e; exact ⟨_, rfl⟩)
      | (obtain ⟨v, _, rfl⟩ := vl_some e; exact ⟨v, rfl⟩)
      | cases e

theorem ld1uof_one {gf : CallF} {dfr : Bool} {i : AIns} (hp : isPure i.op = true) {tm : List AVal} {h : Hp} {v : AVal} (e : one1 i tm h = some v) (df : List ADef) (cm : AMode) : ld1 gf dfr i tm df h cm = some (v, df, h, cm) := by
  unfold one1 at e
  unfold ld1
  split
  · next hw =>
    rw [if_pos hw] at e
    split at e
    · next v' h' hv =>
      cases e
      obtain ⟨u, hu⟩ := pure_val hp hv
      cases hu
      rw [hv]
    · cases e
  · next hw => rw [if_neg hw] at e; cases e; rfl

variable {ι : Gh} {h : Hp} {w : World} {tm : List AVal} {ρ : Operand → Value}

theorem new_op (ho : OpR G ι tm ρ) {o : Oper} {op : Op} (hop : o.op = op) {a : AOp} (e : cop P G op = some a) {f : Nat → AVal} {ob : Obj} (hr : Jp tm a = some (f, ob)) : NewR ι w ob f ((execOp ρ o).run P w) := by
  cases op with
  | alloc t =>
    simp only [cop, Option.map_eq_some_iff] at e
    obtain ⟨z, hz, rfl⟩ := e
    simp only [Jp] at hr; cases hr
    exact new_alloc hz hop
  | box t x =>
    simp only [cop] at e
    obtain ⟨b, h1, rfl⟩ := u1usome e
    simp only [Jp] at hr; cases hr
    exact new_box ho h1 hop
  | buildSlice t n ps =>
    simp only [cop] at e
    split at e
    · next el hu =>
      split at e
      · next z k hz hk =>
        split at e
        · next hc =>
          simp only [Bool.and_eq_true] at hc
          simp only [Option.map_eq_some_iff] at e
          obtain ⟨as, h1, rfl⟩ := e
          have hzk := Nat.eq_of_beq_eq_true hc.1
          rw [ln_eq] at hzk
          simp only [Jp] at hr
          split at hr
          · next t' ht' => cases hr; exact new_bslice ho hu hz hk hzk (ble_le hc.2) h1 hop ht'
          · cases hr
        · cases e
      · cases e
    · cases e
  | convert s d x =>
    simp only [cop] at e
    unfold cconv at e
    split at e
    · obtain ⟨b, h1, rfl⟩ := u1usome e
      simp [Jp] at hr
    · obtain ⟨b, h1, rfl⟩ := u1usome e
      simp [Jp] at hr
    · next el hs hd =>
      split at e
      · next he =>
        obtain ⟨b, h1, rfl⟩ := u1usome e
        simp only [Jp] at hr
        split at hr
        · next l hv => cases hr; exact new_convSB ho h1 hop hs hd he hv
        · cases hr
      · cases e
    · next el el2 hs hd =>
      split at e
      · split at e
        · obtain ⟨b, h1, rfl⟩ := u1usome e
          simp [Jp] at hr
        · cases e
      · cases e
    · split at e
      · obtain ⟨b, h1, rfl⟩ := u1usome e
        simp [Jp] at hr
      · cases e
    · cases e
  | makeMap t rs =>
    cases rs with
    | none =>
      simp only [cop] at e; cases e
      simp only [Jp] at hr; cases hr
      refine .of_alloc (.map #[] 0) ⟨w.heap.size, 0, 0, 0⟩ (.map (some w.heap.size)) rfl ⟨by simp, #[], 0, heap_alloc_new w _, by simp [EsR]⟩ (fun ι' k hk => by simp only [VR]; exact ⟨_, hk, rfl⟩) ?_
      simp [execOp, hop, Instr.makeMap]
    | some x => simp [cop] at e
  | makeSlice t x y =>
    simp only [cop] at e
    split at e
    · next el hu =>
      split at e
      · next z i hz hi =>
        split at e
        · next hzi =>
          have hzi := Nat.eq_of_beq_eq_true hzi
          rw [ln_eq] at hzi
          obtain ⟨b, c, h1, h2, rfl⟩ := u2usome e
          simp only [Jp] at hr
          split at hr
          · next l c' hl hc =>
            split at hr
            · next hcond =>
              simp only [Bool.and_eq_true] at hcond
              cases hr
              rw [ln_eq]
              exact new_mksl ho hu hz hi hzi h1 h2 hop hl hc (ble_le hcond.1) (ble_le hcond.2)
            · cases hr
          · cases hr
        · cases e
      · cases e
    · cases e
  | _ =>
    simp only [cop, cbin, cslice, ccall] at e
    (repeat' split at e) <;>
      first
        | (cases e; done)
        | (cases e; simp [Jp] at hr; done)
        | (obtain ⟨_, _, rfl⟩ := u1usome e; simp [Jp] at hr; done)
        | (obtain ⟨_, _, _, _, rfl⟩ := u2usome e; simp [Jp] at hr; done)
        | (obtain ⟨_, _, _, _, _, _, rfl⟩ := u3usome e; simp [Jp] at hr; done)
        | (simp only [Option.map_eq_some_iff] at e; obtain ⟨_, _, rfl⟩ := e; simp [Jp] at hr; done)
end
end Go.Am

/- The abstract machine, part 24: a region in any of its orders. Conditions: none. -/
namespace Go.Am

def AlV (ops : List AIns) (pre : List (List Nat)) (tm0 tmF : List AVal) (base j k : Nat) (v : AVal) (ob : Option Obj) : Prop := ∃ i, nth ops j = some i ∧ ∀ X, ViewR ops pre tm0 tmF j i X → al1 i X (base + k) = some (v, ob)

/-- New blocks whose turn has not come. -/
structure FloatR (ops : List AIns) (pre : List (List Nat)) (tm0 tmF : List AVal) (base lo : Nat) (S : Nat → Prop) (rem : List (Nat × Nat)) (ι : Gh) (h : Hp) (w : World) : Prop where
  kn : ∀ x ∈ rem, h.m.get (base + x.2) = none
  un : ∀ x ∈ rem, ¬ S x.1 → ι (base + x.2) = none
  fl : ∀ x ∈ rem, S x.1 → ∀ v ob, AlV ops pre tm0 tmF base x.1 x.2 v (some ob) → ∃ i, ι (base + x.2) = some i ∧ lo ≤ i.b ∧ ObjOK ι ob i w ∧ ¬ In ι h i.b
  sp : ∀ x ∈ rem, ∀ y ∈ rem, x.2 ≠ y.2 → ∀ i j, ι (base + x.2) = some i → ι (base + y.2) = some j → i.b ≠ j.b
  bd : ∀ x ∈ rem, ∀ i, ι (base + x.2) = some i → i.b < w.heap.size

theorem distinctA_inj : ∀ {l : List (Nat × Nat)}, distinctA l = true → ∀ {x y : Nat × Nat}, x ∈ l → y ∈ l → (x.1 = y.1 ∨ x.2 = y.2) → x = y
  | [], _, x, y, hx, _, _ => by cases hx
  | z :: l, h, x, y, hx, hy, e => by
    have key := fun a ha b hb => distinctA_ok h [z] l rfl a ha b hb
    simp only [distinctA, Bool.and_eq_true] at h
    rcases List.mem_cons.1 hx with hx | hx' <;> rcases List.mem_cons.1 hy with hy | hy'
    · rw [hx, hy]
    · have := key x (by simp [hx]) y hy'
      rcases e with e | e
      · exact absurd e this.1
      · exact absurd e this.2
    · have := key y (by simp [hy]) x hx'
      rcases e with e | e
      · exact absurd e.symm this.1
      · exact absurd e.symm this.2
    · exact distinctA_inj h.2 hx' hy' e
theorem distinctA_right : ∀ {a b : List (Nat × Nat)}, distinctA (a ++ b) = true → distinctA b = true
  | [], _, h => h
  | z :: a, b, h => by
    simp only [List.cons_append, distinctA, Bool.and_eq_true] at h
    exact distinctA_right h.2

theorem has_step {pre : List (List Nat)} {j q : Nat} (h : has (ancs pre []) j q = true) : ∃ ps m, pre[j]? = some ps ∧ m ∈ ps ∧ (m = q ∨ has (ancs pre []) m q = true) := by
  unfold has at h
  rw [nth_eq] at h
  cases hp : pre[j]? with
  | none =>
    have h1 : pre.length ≤ j := List.getElem?_eq_none_iff.1 hp
    have h2 : (ancs pre [])[j]? = none := by rw [List.getElem?_eq_none_iff, ancs_len]; simpa using h1
    rw [h2] at h; simp at h
  | some ps =>
    have h1 := ancs_get pre [] j ps hp
    simp only [List.length_nil, Nat.zero_add] at h1
    rw [h1] at h
    obtain ⟨m, hm, h2⟩ := ancRow_bit _ q ps h
    refine ⟨ps, m, rfl, hm, ?_⟩
    rcases h2 with rfl | h2
    · exact .inl rfl
    · right
      rw [nth_eq, List.getElem?_take] at h2
      split at h2
      · unfold has; rw [nth_eq]; exact h2
      · simp at h2

section
variable {P : Program} {G : Nat → Option Nat} {ops : List AIns} {pre : List (List Nat)} {tm0 tmF : List AVal} {base lo : Nat} {S S' : Nat → Prop} {rem : List (Nat × Nat)} {ι ι' ι0 : Gh} {h h' h0 : Hp} {w w' w0 : World}

theorem FloatR.step (F : FloatR ops pre tm0 tmF base lo S rem ι h w) (r : Fr ι h w ι' h' w') (hS : ∀ x ∈ rem, S' x.1 → S x.1 ∨ ∀ v ob, ¬ AlV ops pre tm0 tmF base x.1 x.2 v (some ob)) (hS2 : ∀ q, S q → S' q) (hk : ∀ x ∈ rem, base + x.2 < h.next) : FloatR ops pre tm0 tmF base lo S' rem ι' h' w' := by
  refine ⟨fun x hx => (r.lo _ (hk x hx)).2 (F.kn x hx), fun x hx hs => by rw [(r.lo _ (hk x hx)).1]; exact F.un x hx (fun h => hs (hS2 _ h)), fun x hx hs v ob ha => ?_, fun x hx y hy hne i j h1 h2 => ?_, fun x hx i h1 => ?_⟩
  · rcases hS x hx hs with hs | hs
    · obtain ⟨i, h1, h2, h3, h4⟩ := F.fl x hx hs v ob ha
      refine ⟨i, by rw [(r.lo _ (hk x hx)).1]; exact h1, h2, (h3.of_block (r.fr _ h3.1 fun ho => h4 ?_) r.sz).mono r.le, fun hin => ?_⟩
      · obtain ⟨g, o, j, q1, q2, q3, q4⟩ := ho; exact ⟨g, o, j, q1, q3, q4⟩
      · rcases r.al _ hin with h5 | h5
        · exact h4 h5
        · have := h3.1; omega
    · exact absurd ha (hs v ob)
  · rw [(r.lo _ (hk x hx)).1] at h1
    rw [(r.lo _ (hk y hy)).1] at h2
    exact F.sp x hx y hy hne i j h1 h2
  · rw [(r.lo _ (hk x hx)).1] at h1
    exact Nat.lt_of_lt_of_le (F.bd x hx i h1) r.sz

/-- A new block under a key given beforehand. -/
theorem ext_free (R : Rel G ι h w) (F0 : Fr ι0 h0 w0 ι h w) {K : Nat} {i : Inf} (hn : ι K = none) (hlt : K < h.next) (hge : h0.next ≤ K) (hs : w'.heap.size = w.heap.size + 1) (hold : ∀ B, B < w.heap.size → w'.heap[B]? = w.heap[B]?)
    (h1 : w'.os = w.os) (h2 : w'.tape = w.tape) (h3 : w'.output = w.output) : Rel G (ι.ext K i) h w' ∧ Fr ι0 h0 w0 (ι.ext K i) h w' := by
  have hle : ι.le (ι.ext K i) := Gh.le_ext i hn
  have hsame : ∀ g o, h.m.get g = some o → (ι.ext K i) g = ι g := by
    intro g o hg
    obtain ⟨j, k1, _⟩ := R.ob g o hg
    rw [k1]; exact hle _ _ k1
  refine ⟨⟨fun g o hg => ?_, fun g hg => ?_, fun g g' o o' j j' q1 q2 q3 q4 q5 q6 => ?_, fun x g hx => ?_⟩, Gh.le_trans F0.le hle, h1.trans F0.os, h2.trans F0.tp, h3.trans F0.out, by have := F0.sz; omega, fun B hB hn => ?_, fun B hB => ?_, fun B hB => ?_, F0.nn, fun g hg => ⟨?_, (F0.lo g hg).2⟩⟩
  · obtain ⟨j, k1, k2⟩ := R.ob g o hg
    exact ⟨j, hle _ _ k1, (k2.of_block (hold _ k2.1) (by omega)).mono hle⟩
  · simp only [Gh.ext]; rw [if_neg (by omega)]; exact R.nx g hg
  · rw [hsame g o q1] at q3; rw [hsame g' o' q2] at q4; exact R.sp g g' o o' j j' q1 q2 q3 q4 q5 q6
  · obtain ⟨j, k1, k2, k3⟩ := R.gl x g hx
    exact ⟨j, hle _ _ k1, k2, k3⟩
  · rw [hold B (Nat.lt_of_lt_of_le hB F0.sz), F0.fr B hB hn]
  · obtain ⟨g, o, j, q1, q2, q3, q4⟩ := hB
    rw [hsame g o q1] at q3
    exact F0.ow B ⟨g, o, j, q1, q2, q3, q4⟩
  · obtain ⟨g, o, j, q1, q3, q4⟩ := hB
    rw [hsame g o q1] at q3
    exact F0.al B ⟨g, o, j, q1, q3, q4⟩
  · simp only [Gh.ext]; rw [if_neg (by omega)]; exact (F0.lo g hg).1

theorem FloatR.alloc (F : FloatR ops pre tm0 tmF base lo S rem ι h w) (R : Rel G ι h w) (hd : distinctA rem = true) {j k : Nat} (hm : (j, k) ∈ rem) {i : Inf} (hn : ι (base + k) = none) (hb : i.b = w.heap.size) (hs : w'.heap.size = w.heap.size + 1) (hold : ∀ B, B < w.heap.size → w'.heap[B]? = w.heap[B]?)
    (hlo : lo ≤ w.heap.size) (hS : ∀ q, S' q ↔ q = j ∨ S q) {v : AVal} {ob : Obj} (ha : ∀ v' ob', AlV ops pre tm0 tmF base j k v' (some ob') → ob' = ob) (ho : ObjOK ι ob i w') : FloatR ops pre tm0 tmF base lo S' rem (ι.ext (base + k) i) h w' := by
  have hle : ι.le (ι.ext (base + k) i) := Gh.le_ext i hn
  have hin : ∀ B, In (ι.ext (base + k) i) h B → In ι h B := by
    rintro B ⟨g, o, q, q1, q2, q3⟩
    obtain ⟨q', k1, _⟩ := R.ob g o q1
    rw [hle _ _ k1] at q2; cases q2
    exact ⟨g, o, q, q1, k1, q3⟩
  have hinb : ∀ B, In ι h B → B < w.heap.size := by
    rintro B ⟨g, o, q, q1, q2, q3⟩
    obtain ⟨q', k1, k2⟩ := R.ob g o q1
    rw [k1] at q2; cases q2
    rw [← q3]; exact k2.1
  have hne : ∀ x ∈ rem, x ≠ (j, k) → (ι.ext (base + k) i) (base + x.2) = ι (base + x.2) ∧ x.1 ≠ j ∧ x.2 ≠ k := by
    intro x hx hxe
    have h1 : x.2 ≠ k := fun e => hxe (distinctA_inj hd hx hm (.inr e))
    exact ⟨by simp only [Gh.ext]; rw [if_neg (by omega)], fun e => hxe (distinctA_inj hd hx hm (.inl e)), h1⟩
  refine ⟨F.kn, fun x hx hs' => ?_, fun x hx hs' v' ob' ha' => ?_, fun x hx y hy hxy p q h1 h2 => ?_, fun x hx p h1 => ?_⟩
  · by_cases hxe : x = (j, k)
    · subst hxe; exact absurd ((hS j).2 (.inl rfl)) hs'
    · rw [(hne x hx hxe).1]; exact F.un x hx fun hh => hs' ((hS _).2 (.inr hh))
  · by_cases hxe : x = (j, k)
    · subst hxe
      rw [ha v' ob' ha']
      exact ⟨i, Gh.ext_same _ _ _, by omega, ho.mono hle, fun hh => by have := hinb _ (hin _ hh); omega⟩
    · obtain ⟨e1, e2, e3⟩ := hne x hx hxe
      rcases (hS _).1 hs' with hh | hh
      · exact absurd hh e2
      · obtain ⟨p, p1, p2, p3, p4⟩ := F.fl x hx hh v' ob' ha'
        exact ⟨p, by rw [e1]; exact p1, p2, (p3.of_block (hold _ p3.1) (by omega)).mono hle, fun hh => p4 (hin _ hh)⟩
  · by_cases hxe : x = (j, k)
    · subst hxe
      have hye : y ≠ (j, k) := fun e => hxy (by rw [e])
      rw [Gh.ext_same] at h1; cases h1
      rw [(hne y hy hye).1] at h2
      have := F.bd y hy q h2; omega
    · rw [(hne x hx hxe).1] at h1
      by_cases hye : y = (j, k)
      · subst hye
        rw [Gh.ext_same] at h2; cases h2
        have := F.bd x hx p h1; omega
      · rw [(hne y hy hye).1] at h2
        exact F.sp x hx y hy hxy p q h1 h2
  · by_cases hxe : x = (j, k)
    · subst hxe; rw [Gh.ext_same] at h1; cases h1; omega
    · rw [(hne x hx hxe).1] at h1
      have := F.bd x hx p h1; omega

/-- A new block's turn comes. -/
theorem adopt1 (R : Rel G ι h w) (F0 : Fr ι0 h0 w0 ι h w) {K : Nat} {i : Inf} {ob : Obj} (hi : ι K = some i) (hn : h.m.get K = none) (ho : ObjOK ι ob i w) (hin : ¬ In ι h i.b) (hge : h0.next ≤ K) (hlo : w0.heap.size ≤ i.b) :
    Rel G ι ⟨h.m.put K (some ob), h.next⟩ w ∧ Fr ι0 h0 w0 ι ⟨h.m.put K (some ob), h.next⟩ w := by
  refine ⟨⟨fun g o hg => ?_, R.nx, fun g g' o o' j j' q1 q2 q3 q4 q5 q6 => ?_, R.gl⟩, F0.le, F0.os, F0.tp, F0.out, F0.sz, F0.fr, fun B hB => ?_, fun B hB => ?_, F0.nn, fun g hg => ⟨(F0.lo g hg).1, fun hh => ?_⟩⟩
  · simp only [Tree.get_put] at hg
    split at hg
    · next e => subst e; cases hg; exact ⟨i, hi, ho⟩
    · exact R.ob g o hg
  · simp only [Tree.get_put] at q1 q2
    split at q1
    · next e =>
      subst e; cases q1
      rw [if_neg (Ne.symm q6)] at q2
      rw [hi] at q3; cases q3
      exact fun e => hin ⟨g', o', j', q2, q4, e.symm⟩
    · split at q2
      · next e2 =>
        subst e2; cases q2
        rw [hi] at q4; cases q4
        exact fun e => hin ⟨g, o, j, q1, q3, e⟩
      · exact R.sp g g' o o' j j' q1 q2 q3 q4 q5 q6
  · obtain ⟨g, o, j, q1, q2, q3, q4⟩ := hB
    simp only [Tree.get_put] at q1
    split at q1
    · next e => subst e; rw [hi] at q3; cases q3; right; omega
    · exact F0.ow B ⟨g, o, j, q1, q2, q3, q4⟩
  · obtain ⟨g, o, j, q1, q3, q4⟩ := hB
    simp only [Tree.get_put] at q1
    split at q1
    · next e => subst e; rw [hi] at q3; cases q3; right; omega
    · exact F0.al B ⟨g, o, j, q1, q3, q4⟩
  · simp only [Tree.get_put]; rw [if_neg (by omega)]; exact (F0.lo g hg).2 hh

theorem adopt_run (hbase : h0.next ≤ base) : ∀ {l rem : List (Nat × Nat)} {h h1 : Hp}, AdF ops pre tm0 tmF base l h h1 → (∀ x ∈ l, S x.1) → distinctA (l ++ rem) = true → Rel G ι h w → Fr ι0 h0 w0 ι h w → FloatR ops pre tm0 tmF base w0.heap.size S (l ++ rem) ι h w →
    Rel G ι h1 w ∧ Fr ι0 h0 w0 ι h1 w ∧ FloatR ops pre tm0 tmF base w0.heap.size S rem ι h1 w ∧ h1.next = h.next
  | [], rem, h, h1, e, hs, hd, R, F0, F => by
    simp only [AdF] at e; subst e
    exact ⟨R, F0, F, rfl⟩
  | (j, k) :: l, rem, h, h1, e, hs, hd, R, F0, F => by
    obtain ⟨i, v, ob, hi, hal, e⟩ := e
    have hd' : distinctA (l ++ rem) = true := by
      have : (j, k) :: l ++ rem = [(j, k)] ++ (l ++ rem) := rfl
      rw [this] at hd; exact distinctA_right hd
    have hne : ∀ x ∈ l ++ rem, (k : Nat) ≠ x.2 := fun x hx => (distinctA_ok hd [(j, k)] (l ++ rem) rfl (j, k) (by simp) x hx).2
    have hm : (j, k) ∈ (j, k) :: l ++ rem := by simp
    cases ob with
    | none =>
      exact adopt_run hbase e (fun x hx => hs x (List.mem_cons_of_mem _ hx)) hd' R F0
        ⟨fun x hx => F.kn x (List.mem_cons_of_mem _ hx), fun x hx => F.un x (List.mem_cons_of_mem _ hx), fun x hx => F.fl x (List.mem_cons_of_mem _ hx), fun x hx y hy => F.sp x (List.mem_cons_of_mem _ hx) y (List.mem_cons_of_mem _ hy), fun x hx => F.bd x (List.mem_cons_of_mem _ hx)⟩
    | some ob =>
      obtain ⟨p, p1, p2, p3, p4⟩ := F.fl (j, k) hm (hs (j, k) (by simp)) v ob ⟨i, hi, hal⟩
      obtain ⟨R1, F1⟩ := adopt1 R F0 p1 (F.kn (j, k) hm) p3 p4 (by simp only; omega) p2
      have := adopt_run hbase e (fun x hx => hs x (List.mem_cons_of_mem _ hx)) hd' R1 F1
        ⟨fun x hx => by
            simp only [Tree.get_put]
            rw [if_neg (by have := hne x hx; omega)]
            exact F.kn x (List.mem_cons_of_mem _ hx),
          fun x hx => F.un x (List.mem_cons_of_mem _ hx), fun x hx h1 v' ob' h2 => by
            obtain ⟨q, q1, q2, q3, q4⟩ := F.fl x (List.mem_cons_of_mem _ hx) h1 v' ob' h2
            refine ⟨q, q1, q2, q3, fun hh => ?_⟩
            obtain ⟨g, o, r, r1, r2, r3⟩ := hh
            simp only [Tree.get_put] at r1
            split at r1
            · next e2 =>
              subst e2
              exact F.sp (j, k) hm x (List.mem_cons_of_mem _ hx) (hne x hx) r q r2 q1 r3
            · exact q4 ⟨g, o, r, r1, r2, r3⟩,
          fun x hx y hy => F.sp x (List.mem_cons_of_mem _ hx) y (List.mem_cons_of_mem _ hy), fun x hx => F.bd x (List.mem_cons_of_mem _ hx)⟩
      exact this
end
end Go.Am

/- The abstract machine, part 25: a region in any of its orders is met. Conditions: none. -/
namespace Go.Am

theorem isAl_not_pure {op : AOp} (h : isAl op = true) : isPure op = false := by cases op <;> simp_all [isAl, isPure]
theorem memW_it : ∀ {win : List IW} {n : Nat}, memW n win = true → .one n ∈ win ∨ .again n ∈ win
  | [], n, h => by simp [memW] at h
  | .one m :: l, n, h => by
    simp only [memW, Bool.or_eq_true] at h
    rcases h with h | h
    · rw [Nat.eq_of_beq_eq_true h]; simp
    · rcases memW_it h with h | h <;> simp [h]
  | .again m :: l, n, h => by
    simp only [memW, Bool.or_eq_true] at h
    rcases h with h | h
    · rw [Nat.eq_of_beq_eq_true h]; simp
    · rcases memW_it h with h | h <;> simp [h]
  | .res m k :: l, n, h => by
    simp only [memW] at h
    rcases memW_it h with h | h <;> simp [h]
theorem memR_it : ∀ {win : List IW} {n k : Nat}, memR n k win = true → .res n k ∈ win
  | [], n, k, h => by simp [memR] at h
  | .one m :: l, n, k, h => by simp only [memR] at h; exact List.mem_cons_of_mem _ (memR_it h)
  | .again m :: l, n, k, h => by simp only [memR] at h; exact List.mem_cons_of_mem _ (memR_it h)
  | .res m q :: l, n, k, h => by
    simp only [memR, Bool.or_eq_true, Bool.and_eq_true] at h
    rcases h with ⟨h1, h2⟩ | h
    · rw [Nat.eq_of_beq_eq_true h1, Nat.eq_of_beq_eq_true h2]; simp
    · exact List.mem_cons_of_mem _ (memR_it h)

section
variable {ops : List AIns} {pre : List (List Nat)} {tm0 tmF : List AVal} {base : Nat}

theorem chkPh_loud {A nn : List Nat} : ∀ {ps : List IPh} {prev : Option Nat} {d x : Nat}, chkPh ops A nn prev ps d = true → memL x ps = true → pureAt ops x = false ∧ alAt ops x = false
  | [], prev, d, x, h, m => by simp [memL] at m
  | p :: ps, prev, d, x, h, m => by
    simp only [chkPh] at h
    split at h
    · cases h
    · simp only [Bool.and_eq_true] at h
      simp only [memL, Bool.or_eq_true] at m
      have h2 := h.2
      clear h
      split at h2
      · next hl =>
        rw [hl] at m
        split at h2
        · simp [memL] at m
        · cases h2
      · next y hl =>
        rw [hl] at m
        simp only [Bool.and_eq_true, Bool.not_eq_true'] at h2
        rcases m with m | m
        · rw [← Nat.eq_of_beq_eq_true m]; exact h2.1.1.1.1.1
        · exact chkPh_loud h2.2 m
theorem chkPh_ad {A nn : List Nat} : ∀ {ps : List IPh} {prev : Option Nat} {d : Nat} {x : Nat × Nat}, chkPh ops A nn prev ps d = true → x ∈ allAd ps → alAt ops x.1 = true
  | [], prev, d, x, h, m => by simp [allAd] at m
  | p :: ps, prev, d, x, h, m => by
    simp only [chkPh] at h
    split at h
    · cases h
    · simp only [Bool.and_eq_true] at h
      simp only [allAd, cat_eq, List.mem_append] at m
      rcases m with m | m
      · have := List.all_eq_true.1 h.1.2 x m
        simp only [Bool.and_eq_true] at this
        exact this.1.2
      · have h2 := h.2
        clear h
        split at h2
        · split at h2
          · simp [allAd] at m
          · cases h2
        · simp only [Bool.and_eq_true] at h2
          exact chkPh_ad h2.2 m
theorem laterOK_ok {A : List Nat} {x y : Nat} : ∀ {ps : List IPh}, laterOK A x ps = true → memL y ps = true → has A y x = true
  | [], h, m => by simp [memL] at m
  | p :: ps, h, m => by
    simp only [laterOK, Bool.and_eq_true] at h
    simp only [memL, Bool.or_eq_true] at m
    rcases m with m | m
    · split at m
      · next z hz => rw [hz] at h; rw [← Nat.eq_of_beq_eq_true m]; exact h.1
      · cases m
    · exact laterOK_ok h.2 m
theorem DFs_res {gf : CallF} {dfr : Bool} {fin : List ADef × Hp × AMode} {j k : Nat} : ∀ {ps : List IPh} {df : List ADef} {h : Hp} {cm : AMode}, DFs gf dfr ops pre tm0 tmF base fin ps df h cm → memPR j k ps = true → ∃ v ob, AlF ops pre tm0 tmF base j k v ob
  | [], df, h, cm, e, m => by simp [memPR] at m
  | p :: ps, df, h, cm, e, m => by
    obtain ⟨e1, h1, e2, e3⟩ := e
    simp only [memPR, Bool.or_eq_true] at m
    rcases m with m | m
    · exact e1 _ (memR_it m)
    · split at e3
      · rw [e3.1] at m; simp [memPR] at m
      · obtain ⟨i, v, df2, h2, cm2, _, _, _, e4⟩ := e3
        exact DFs_res e4 m

theorem count_set : ∀ {l : List Bool} {i : Nat}, l[i]? = some false → (l.set i true).count false + 1 = l.count false
  | [], i, h => by simp at h
  | b :: l, 0, h => by simp at h; subst h; simp
  | b :: l, i + 1, h => by
    simp only [List.set_cons_succ, List.count_cons]
    have := count_set (l := l) (i := i) (by simpa using h)
    omega
end

section
variable {P : Program} {G : Nat → Option Nat}

theorem ord_run {gf : CallF} (hG : CallOK P G gf) {dfr : Bool} {ops : Array Oper} {l : List AIns} {pre : List (List Nat)} {kk : Nat} {plan : List IPh} {tm0 tmF : List AVal} {base : Nat}
    (hl : ∀ (j : Nat) (o : Oper), ops[j]? = some o → ∃ ai, nth l j = some ai ∧ cins P G ops o = some ai) (hlen : l.length = ops.size) (hpre : pre = ops.toList.map preOf) (H : PlanOK l pre kk plan)
    {fin : List ADef × Hp × AMode} (AR : ∀ j k, memPR j k plan = true → ∃ v ob, AlF l pre tm0 tmF base j k v ob) {ι0 : Gh} {h0 : Hp} {w0 : World} (hbase : h0.next ≤ base)
    (b : Frame) (k : List Item) (cs : List Frame) (hro : b.roundOf = none) :
    ∀ (fuel t : Nat) (listed : Array Bool) (ps : List IPh) (prev : Option Nat) (d : Nat) (df : List ADef) (h : Hp) (cm : AMode) (ι : Gh) (w : World) (a : Act),
      listed.size = ops.size → (∀ (j : Nat) (q : List Nat), pre[j]? = some q → listed.getD j false = true → ∀ m ∈ q, listed.getD m false = true) →
      chkPh l (ancs pre []) (List.range l.length) prev ps d = true → (∀ y, prev = some y → listed.getD y false = true) →
      DFs gf dfr l pre tm0 tmF base fin ps df h cm → (∀ x, memL x ps = true → ¬ listed.getD x false = true) →
      (∀ j, j < l.length → pureAt l j = false → alAt l j = false → ¬ listed.getD j false = true → memL j ps = true) →
      (∃ A0, allAd plan = A0 ++ allAd ps ∧ ∀ x ∈ A0, listed.getD x.1 false = true) →
      Rel G ι h w → Fr ι0 h0 w0 ι h w → FloatR l pre tm0 tmF base w0.heap.size (fun q => listed.getD q false = true) (allAd ps) ι h w → (∀ x ∈ allAd plan, base + x.2 < h.next) →
      (∃ tm, VRL ι tm a.tmps.toList ∧ Agr l tm0 tmF (fun q => listed.getD q false = true) tm) → DefsR ι df a.defers → listed.toList.count false ≤ fuel →
      ∃ ι' w' a', Rel G ι' fin.2.1 w' ∧ Fr ι0 h0 w0 ι' fin.2.1 w' ∧ ActR ι' ⟨tmF, fin.1⟩ a' ∧ fin.2.2 = cm ∧
        Steps P (lone (b.atR a (.inRegion ops (Region.linearise.go .any ops fuel t listed []) :: k)) cs w) (lone (b.atR a' k) cs w') := by
  have hpre' : ∀ (j : Nat) (o : Oper), ops[j]? = some o → pre[j]? = some (preOf o) := by
    intro j o ho
    rw [hpre, List.getElem?_map, Array.getElem?_toList, ho]; rfl
  -- all are done
  have finish : ∀ (listed : Array Bool) (ps : List IPh) (prev : Option Nat) (d : Nat) (df : List ADef) (h : Hp) (cm : AMode) (ι : Gh) (w : World) (a : Act), (∀ j, j < l.length → listed.getD j false = true) →
      chkPh l (ancs pre []) (List.range l.length) prev ps d = true →
      DFs gf dfr l pre tm0 tmF base fin ps df h cm → (∀ x, memL x ps = true → ¬ listed.getD x false = true) → (∃ A0, allAd plan = A0 ++ allAd ps ∧ ∀ x ∈ A0, listed.getD x.1 false = true) →
      Rel G ι h w → Fr ι0 h0 w0 ι h w → FloatR l pre tm0 tmF base w0.heap.size (fun q => listed.getD q false = true) (allAd ps) ι h w →
      (∃ tm, VRL ι tm a.tmps.toList ∧ Agr l tm0 tmF (fun q => listed.getD q false = true) tm) → DefsR ι df a.defers →
      ∃ ι' w' a', Rel G ι' fin.2.1 w' ∧ Fr ι0 h0 w0 ι' fin.2.1 w' ∧ ActR ι' ⟨tmF, fin.1⟩ a' ∧ fin.2.2 = cm ∧ Steps P (lone (b.atR a (.inRegion ops [] :: k)) cs w) (lone (b.atR a' k) cs w') := by
    intro listed ps prev d df h cm ι w a hall hch hf hml hA R F0 F htm hdf
    obtain ⟨A0, hA1, _⟩ := hA
    cases ps with
    | nil => exact absurd hf (by simp [DFs])
    | cons p ps =>
      obtain ⟨f1, h1, f2, f3⟩ := hf
      split at f3
      · next hl0 =>
        obtain ⟨rfl, rfl⟩ := f3
        have had : allAd [p] = p.adopt ++ [] := by simp [allAd, cat_eq]
        have hdis := H.dis
        rw [hA1] at hdis
        have hdis := distinctA_right hdis
        rw [had] at hdis F
        obtain ⟨R1, F1, _, _⟩ := adopt_run (S := fun q => listed.getD q false = true) hbase f2 (fun x hx => hall _ (by
          have := chkPh_ad hch (x := x) (by rw [had]; simpa using hx)
          unfold alAt at this
          rw [nth_eq] at this
          rcases Nat.lt_or_ge x.1 l.length with h' | h'
          · exact h'
          · rw [List.getElem?_eq_none_iff.2 h'] at this; cases this)) hdis R F0 F
        obtain ⟨tm, t1, t2⟩ := htm
        have : tm = tmF := list_ext fun t => t2.new t fun q hq => hall q (dstAt_lt hq)
        subst this
        exact ⟨ι, w, a, R1, F1, ⟨t1, hdf⟩, rfl, .one stepR_region_end⟩
      · next x hx =>
        obtain ⟨i, v, df2, h2, cm2, g1, _⟩ := f3
        have hlt : x < l.length := by rw [nth_eq] at g1; exact (List.getElem?_eq_some_iff.1 g1).1
        exact absurd (hall x hlt) (hml x (by simp [memL, hx]))
  intro fuel
  induction fuel with
  | zero =>
    intro t listed ps prev d df h cm ι w a hsz hcl hch hpv hf hml hmr hA R F0 F hlt htm hdf hcnt
    simp only [Region.linearise.go, List.reverse_nil]
    refine finish listed ps prev d df h cm ι w a (fun j hj => ?_) hch hf hml hA R F0 F htm hdf
    have h0 : listed.toList.count false = 0 := by omega
    rw [List.count_eq_zero] at h0
    have hj' : j < listed.size := by omega
    cases hb : listed[j] with
    | true => simp [hj', hb]
    | false => exact absurd (hb ▸ Array.getElem_mem_toList hj') h0
  | succ fuel ih =>
    intro t listed ps prev d df h cm ι w a hsz hcl hch hpv hf hml hmr hA R F0 F hlt htm hdf hcnt
    have hgo : Region.linearise.go .any ops (fuel + 1) t listed [] = match (Region.ready .any ops listed)[t % (Region.ready .any ops listed).length]? with
      | some i => i :: Region.linearise.go .any ops fuel (t / (Region.ready .any ops listed).length) (listed.setIfInBounds i true) []
      | none => [] := by
      rw [Region.linearise.go]
      change (match (Region.ready .any ops listed)[t % (Region.ready .any ops listed).length]? with
        | some i => Region.linearise.go .any ops fuel (t / (Region.ready .any ops listed).length) (listed.setIfInBounds i true) [i]
        | none => [].reverse) = _
      split
      · rw [linearise_go_acc]; rfl
      · rfl
    rw [hgo]
    cases hi : (Region.ready .any ops listed)[t % (Region.ready .any ops listed).length]? with
    | none =>
      have hnil : Region.ready .any ops listed = [] := by
        cases hr : Region.ready .any ops listed with
        | nil => rfl
        | cons x xs =>
          rw [hr] at hi
          have hlt : t % (x :: xs).length < (x :: xs).length := Nat.mod_lt _ (by simp)
          simp at hi
          simp at hlt
          omega
      refine finish listed ps prev d df h cm ι w a (fun j => ?_) hch hf hml hA R F0 F htm hdf
      induction j using Nat.strongRecOn with
      | _ j ihj =>
        intro hj
        have hj' : j < listed.size := by omega
        cases hb : listed[j] with
        | true => simp [hj', hb]
        | false =>
          exfalso
          have hjo : j < ops.size := by omega
          have hmem : j ∈ Region.ready .any ops listed := by
            rw [mem_ready]
            refine ⟨by simp [hj', hb], ops[j], by simp [hjo], fun e he hbd => ?_⟩
            have hm : e.on ∈ preOf ops[j] := by
              unfold preOf
              exact List.mem_map.2 ⟨e, List.mem_filter.2 ⟨by simpa using he, hbd⟩, rfl⟩
            have hlt' := H.lt j _ (hpre' j ops[j] (by simp [hjo])) e.on hm
            exact ihj e.on hlt' (by omega)
          rw [hnil] at hmem; cases hmem
    | some i =>
      simp only
      obtain ⟨hun, o, ho, hall⟩ := mem_ready.1 (List.mem_of_getElem? hi)
      have hio : i < ops.size := (Array.getElem?_eq_some_iff.1 ho).1
      have hil : i < listed.size := by omega
      have hnS : ¬ listed.getD i false = true := by simp [hil] at hun ⊢; exact hun
      obtain ⟨ai, hai, hci⟩ := hl i o ho
      obtain ⟨hdst, hopc⟩ := cins_dst hci
      have hpi := hpre' i o ho
      have hps : ∀ m ∈ preOf o, listed.getD m false = true := by
        intro m hm
        obtain ⟨e, he, rfl⟩ := List.mem_map.1 hm
        obtain ⟨h1, h2⟩ := List.mem_filter.1 he
        exact hall e (by simpa using h1) h2
      have hclo : ∀ (j q : Nat), listed.getD j false = true → has (ancs pre []) j q = true → listed.getD q false = true := has_closed (S := fun q => listed.getD q false = true) hcl
      have hanc : ∀ q, has (ancs pre []) i q = true → listed.getD q false = true := by
        intro q hq
        obtain ⟨ps', m, g1, g2, g3⟩ := has_step hq
        rw [hpi] at g1; cases g1
        rcases g3 with rfl | g3
        · exact hps _ g2
        · exact hclo m q (hps m g2) g3
      obtain ⟨tm, ht1, ht2⟩ := htm
      have hV : ViewR l pre tm0 tmF i ai tm := .of_agr H ht2 hai hanc fun t _ q _ h2 _ h4 => hnS (hclo q i h4 h2)
      have hA0 : ActR ι ⟨tm, df⟩ a := ⟨ht1, hdf⟩
      -- the set with one more
      have hS' : ∀ q, (listed.setIfInBounds i true).getD q false = true ↔ q = i ∨ listed.getD q false = true := by
        intro q
        by_cases hq : i = q
        · subst hq; simp [hil]
        · rw [getD_set_ne false hq]
          exact ⟨.inr, fun h => h.resolve_left (fun e => hq e.symm)⟩
      have hsz' : (listed.setIfInBounds i true).size = ops.size := by simpa using hsz
      have hcl' : ∀ (j : Nat) (q : List Nat), pre[j]? = some q → (listed.setIfInBounds i true).getD j false = true → ∀ m ∈ q, (listed.setIfInBounds i true).getD m false = true := by
        intro j q hj hs m hm
        rcases (hS' j).1 hs with rfl | hs
        · rw [hpi] at hj; cases hj; exact (hS' m).2 (.inr (hps m hm))
        · exact (hS' m).2 (.inr (hcl j q hj hs m hm))
      have hcnt' : (listed.setIfInBounds i true).toList.count false ≤ fuel := by
        have hb : listed.toList[i]? = some false := by simp [hil] at hun ⊢; exact hun
        have := count_set hb
        rw [Array.toList_setIfInBounds]; omega
      have hmono : ∀ q, listed.getD q false = true → (listed.setIfInBounds i true).getD q false = true := fun q h => (hS' q).2 (.inr h)
      obtain ⟨A0, hA1, hA2⟩ := hA
      have hin : i < l.length := by omega
      have hdis := H.dis
      rw [hA1] at hdis
      have hdis2 := distinctA_right hdis
      cases hp : pureAt l i with
      | true =>
        cases ps with
        | nil => exact absurd hf (by simp [DFs])
        | cons p ps =>
          have hf0 := hf
          obtain ⟨f1, _⟩ := hf
          have hone : OneF l pre tm0 tmF h i := by
            have hch' := hch
            simp only [chkPh] at hch'
            split at hch'
            · cases hch'
            · simp only [Bool.and_eq_true] at hch'
              have := List.all_eq_true.1 hch'.1.1 i (List.mem_range.2 hin)
              simp only [hp, Bool.not_true, Bool.false_or, Bool.or_eq_true] at this
              rcases this with (hw | hx) | hy
              · rcases memW_it hw with hw | hw
                · exact f1 _ hw
                · exact f1 _ hw
              · split at hx
                · next x hxl => exact absurd (hanc x hx) (hml x (by simp [memL, hxl]))
                · cases hx
              · split at hy
                · next y => exact absurd (hclo y i (hpv y rfl) hy) hnS
                · cases hy
          obtain ⟨ai', v, g1, g2, g3⟩ := hone
          rw [hai] at g1; cases g1
          have hpu : isPure ai.op = true := by unfold pureAt at hp; rw [hai] at hp; exact hp
          obtain ⟨ι1, w1, a1, R1, F1, hA', _, hst⟩ := op1uok hG ho hci (ld1uof_one (gf := gf) (dfr := dfr) hpu (g2 tm hV) df cm) b k cs (Region.linearise.go .any ops fuel (t / (Region.ready .any ops listed).length) (listed.setIfInBounds i true) []) R hA0 hro
          have hnot : ∀ x ∈ allAd (p :: ps), x.1 ≠ i := by
            intro x hx e
            have := chkPh_ad hch hx
            unfold alAt at this
            rw [e, hai] at this
            rw [isAl_not_pure this] at hpu; cases hpu
          obtain ⟨ι', w', a', q1, q2, q3, q4, q5⟩ := ih (t / (Region.ready .any ops listed).length) (listed.setIfInBounds i true) (p :: ps) prev d df h cm ι1 w1 a1 hsz' hcl' hch (fun y hy => hmono y (hpv y hy)) hf0
            (fun x hx hs => by
              rcases (hS' x).1 hs with rfl | hs
              · have := (chkPh_loud hch hx).1; rw [hp] at this; cases this
              · exact hml x hx hs)
            (fun j h1 h2 h3 h4 => hmr j h1 h2 h3 fun h5 => h4 (hmono j h5)) ⟨A0, hA1, fun x hx => hmono _ (hA2 x hx)⟩ R1 (F0.trans F1)
            (F.step F1 (fun x hx hs => .inl (((hS' _).1 hs).resolve_left (hnot x hx))) hmono (fun x hx => hlt x (by rw [hA1]; exact List.mem_append_right _ hx)))
            (fun x hx => Nat.lt_of_lt_of_le (hlt x hx) F1.nn) ⟨_, hA'.tm, ht2.add H hS' hai g3⟩ hA'.df hcnt'
          exact ⟨ι', w', a', q1, q2, q3, q4, hst.trans q5⟩
      | false =>
        rcases H.cls i hin with hc | ⟨hal, kx, hk1, hk2⟩ | ⟨hal, hlo⟩
        · rw [hp] at hc; cases hc
        · -- a new block
          obtain ⟨v, ob, ai', g1, g2, g3⟩ := AR i kx hk2
          rw [hai] at g1; cases g1
          have hmem : (i, kx) ∈ allAd ps := by
            rw [hA1] at hk1
            rcases List.mem_append.1 hk1 with h1 | h1
            · exact absurd (hA2 _ h1) hnS
            · exact h1
          have hload : ∀ x, memL x ps = true → ¬ (listed.setIfInBounds i true).getD x false = true := by
            intro x hx hs
            rcases (hS' x).1 hs with rfl | hs
            · have := (chkPh_loud hch hx).2; rw [hal] at this; cases this
            · exact hml x hx hs
          have hv := g2 tm hV
          have hw := wanted_ok hci ht1
          have hfin : ∀ v, (b.atR a (.inRegion ops (i :: Region.linearise.go .any ops fuel (t / (Region.ready .any ops listed).length) (listed.setIfInBounds i true) []) :: k)).finish v =
              b.atR (a.put o.dst v) (.inRegion ops (Region.linearise.go .any ops fuel (t / (Region.ready .any ops listed).length) (listed.setIfInBounds i true) []) :: k) := by
            intro v; rw [Frame.finish_atR, ho]; rfl
          unfold al1 at hv
          split at hv
          · next hwa =>
            rw [hwa] at hw
            split at hv
            · next f ob1 hav =>
              cases hv
              have hg := stepGR_op (P := P) (b := b) (k := k) (cs := cs) (w := w) (rest := Region.linearise.go .any ops fuel (t / (Region.ready .any ops listed).length) (listed.setIfInBounds i true) []) ho hw
              rw [hro, Oper.semAt_none] at hg
              have hcop : cop P G o.op = some ai.op := by
                rw [hopc] at hav ⊢
                unfold copB at hav ⊢
                split at hav
                · next x hx => rw [hx]
                · simp [Jp] at hav
              obtain ⟨inf, w1, V, n1, n2, n3, ⟨n4, n5, n6⟩, n7, n8, n9⟩ := new_op (w := w) (ι := ι) (opR_of R ht1) rfl hcop hav
              have hnone := F.un (i, kx) hmem hnS
              have hklt := hlt (i, kx) hk1
              obtain ⟨R1, F1⟩ := ext_free R F0 (i := inf) hnone hklt (by simp only; omega) n2 n3 n4 n5 n6
              have hle : ι.le (ι.ext (base + kx) inf) := Gh.le_ext inf hnone
              have hst : step P (lone (b.atR a (.inRegion ops (i :: Region.linearise.go .any ops fuel (t / (Region.ready .any ops listed).length) (listed.setIfInBounds i true) []) :: k)) cs w) = .next (lone (b.atR (a.put o.dst V) (.inRegion ops (Region.linearise.go .any ops fuel (t / (Region.ready .any ops listed).length) (listed.setIfInBounds i true) []) :: k)) cs w1) :=
                step_lone_go (by rw [hg, ← hfin]; simp [stepG.apply, n9])
              have hput := (hA0.mono hle).put (dst := o.dst) (n8 _ _ (Gh.ext_same ι (base + kx) inf))
              obtain ⟨ι', w', a', q1, q2, q3, q4, q5⟩ := ih (t / (Region.ready .any ops listed).length) (listed.setIfInBounds i true) ps prev d df h cm (ι.ext (base + kx) inf) w1 (a.put o.dst V) hsz' hcl' hch (fun y hy => hmono y (hpv y hy)) hf hload
                (fun j h1 h2 h3 h4 => hmr j h1 h2 h3 fun h5 => h4 (hmono j h5)) ⟨A0, hA1, fun x hx => hmono _ (hA2 x hx)⟩ R1 F1
                (F.alloc R hdis2 hmem hnone n1 n2 n3 F0.sz hS' (v := f (base + kx)) (ob := ob1) (fun v' ob' hh => by
                  obtain ⟨ai', z1, z2⟩ := hh
                  rw [hai] at z1; cases z1
                  have z3 := z2 tm hV
                  rw [g2 tm hV] at z3
                  cases z3; rfl) n7)
                hlt ⟨_, hput.tm, by rw [← hdst]; exact ht2.add H hS' hai g3⟩ hput.df hcnt'
              exact ⟨ι', w', a', q1, q2, q3, q4, .head hst q5⟩
            · cases hv
          · next hwa =>
            cases hv
            have hwa : wantedA tm ai.guard = false := by simpa using hwa
            rw [hwa] at hw
            have hst := stepR_op_skip (P := P) (b := b) (a := a) (k := k) (cs := cs) (w := w) (ops := ops) (i := i) (rest := Region.linearise.go .any ops fuel (t / (Region.ready .any ops listed).length) (listed.setIfInBounds i true) []) (by simp [ho]; simpa using hw)
            simp only [ho, Option.bind_some] at hst
            have hput := hA0.put (dst := o.dst) (v := und) (V := undef) VR.und
            obtain ⟨ι', w', a', q1, q2, q3, q4, q5⟩ := ih (t / (Region.ready .any ops listed).length) (listed.setIfInBounds i true) ps prev d df h cm ι w (a.put o.dst undef) hsz' hcl' hch (fun y hy => hmono y (hpv y hy)) hf hload
              (fun j h1 h2 h3 h4 => hmr j h1 h2 h3 fun h5 => h4 (hmono j h5)) ⟨A0, hA1, fun x hx => hmono _ (hA2 x hx)⟩ R F0
              (F.step (Fr.refl _ _ _) (fun x hx hs => by
                rcases (hS' _).1 hs with e | hs
                · right
                  intro v' ob' hh
                  have hxe : x = (i, kx) := distinctA_inj hdis2 hx hmem (.inl e)
                  subst hxe
                  obtain ⟨ai', z1, z2⟩ := hh
                  rw [hai] at z1; cases z1
                  have z3 := z2 tm hV
                  rw [g2 tm hV] at z3
                  cases z3
                · exact .inl hs) hmono (fun x hx => hlt x (by rw [hA1]; exact List.mem_append_right _ hx)))
              hlt ⟨_, hput.tm, by rw [← hdst]; exact ht2.add H hS' hai g3⟩ hput.df hcnt'
            exact ⟨ι', w', a', q1, q2, q3, q4, .head hst q5⟩
        · -- one that is heard
          have hml1 := hmr i hin hp hal hnS
          cases ps with
          | nil => exact absurd hf (by simp [DFs])
          | cons p ps =>
            obtain ⟨f1, h1, f2, f3⟩ := hf
            have hch' := hch
            simp only [chkPh] at hch'
            split at hch'
            · cases hch'
            · next d1 hd1 =>
              simp only [Bool.and_eq_true] at hch'
              split at f3
              · next hl0 =>
                rw [f3.1] at hml1
                simp [memL, hl0] at hml1
              · next x hx =>
                rw [hx] at hch'
                have hc2 := hch'.2
                simp only [Bool.and_eq_true, Bool.not_eq_true'] at hc2
                obtain ⟨⟨⟨⟨⟨⟨hcp, hcal⟩, hcn⟩, hcs⟩, hcad⟩, hclat⟩, hcps⟩ := hc2
                have hxi : x = i := by
                  simp only [memL, hx, Bool.or_eq_true] at hml1
                  rcases hml1 with h2 | h2
                  · exact Nat.eq_of_beq_eq_true h2
                  · exact absurd (hanc x (laterOK_ok hclat h2)) (hml x (by simp [memL, hx]))
                subst hxi
                obtain ⟨ai', v, df2, h2, cm2, g1, g2, g3, g4⟩ := f3
                rw [hai] at g1; cases g1
                have had : allAd (p :: ps) = p.adopt ++ allAd ps := by simp [allAd, cat_eq]
                rw [had] at F hdis2
                obtain ⟨R1, F1, FF, hnx⟩ := adopt_run (S := fun q => listed.getD q false = true) hbase f2 (fun y hy => hanc _ (List.all_eq_true.1 hcad y hy)) hdis2 R F0 F
                obtain ⟨ι1, w1, a1, R2, F2, hA', hcm, hst⟩ := op1uok hG ho hci (g2 tm hV) b k cs (Region.linearise.go .any ops fuel (t / (Region.ready .any ops listed).length) (listed.setIfInBounds x true) []) R1 hA0 hro
                have hnx' : ∀ y ∈ allAd plan, base + y.2 < h1.next := fun y hy => by rw [hnx]; exact hlt y hy
                obtain ⟨ι', w', a', q1, q2, q3, q4, q5⟩ := ih (t / (Region.ready .any ops listed).length) (listed.setIfInBounds x true) ps (some x) (addM d1 x) df2 h2 cm2 ι1 w1 a1 hsz' hcl' hcps (fun y hy => by cases hy; exact (hS' _).2 (.inl rfl)) g4
                  (fun y hy hs => by
                    rcases (hS' y).1 hs with rfl | hs
                    · exact hnS (hanc _ (laterOK_ok hclat hy))
                    · exact hml y (by simp [memL, hy]) hs)
                  (fun j k1 k2 k3 k4 => by
                    have := hmr j k1 k2 k3 fun h5 => k4 (hmono j h5)
                    simp only [memL, hx, Bool.or_eq_true] at this
                    rcases this with h5 | h5
                    · rw [← Nat.eq_of_beq_eq_true h5] at k4; exact absurd ((hS' _).2 (.inl rfl)) k4
                    · exact h5)
                  ⟨A0 ++ p.adopt, by rw [hA1, had, List.append_assoc], fun y hy => by
                    rcases List.mem_append.1 hy with hy | hy
                    · exact hmono _ (hA2 y hy)
                    · exact hmono _ (hanc _ (List.all_eq_true.1 hcad y hy))⟩ R2 (F1.trans F2)
                  (FF.step F2 (fun y hy hs => .inl (((hS' _).1 hs).resolve_left (fun e => by
                    have := chkPh_ad hcps hy
                    rw [e, hal] at this; cases this))) hmono (fun y hy => hnx' y (by rw [hA1, had]; exact List.mem_append_right _ (List.mem_append_right _ hy))))
                  (fun y hy => Nat.lt_of_lt_of_le (hnx' y hy) F2.nn) ⟨_, hA'.tm, ht2.add H hS' hai g3⟩ hA'.df hcnt'
                exact ⟨ι', w', a', q1, q2, q3, q4.trans hcm, hst.trans q5⟩
end
end Go.Am
end
