/- The abstract machine, part 18: every operation that compiles is met by the model's. Conditions: none. -/
import Derived.Test.YtfaeabhbeolpgaaGreatDoorMa6
set_option linter.all false
noncomputable section
namespace Go.Am

section
variable {P : Program} {G : Nat → Option Nat} {ι : Gh} {h : Hp} {w : World} {tm : List AVal} {ρ : Operand → Value}

theorem sim_op (R : Rel G ι h w) (ho : OpR G ι tm ρ) {o : Oper} {op : Op} (hop : o.op = op) {a : AOp} (e : cop P G op = some a) {r : ARes} (hr : aop tm h a = some r) : RSim P G ι h w r ((execOp ρ o).run P w) := by
  cases op with
  | move x =>
    simp only [cop] at e
    obtain ⟨b, h1, rfl⟩ := u1usome e
    simp only [aop] at hr; cases hr
    exact sim_mov R ho h1 (.inl hop)
  | assign x =>
    simp only [cop] at e
    obtain ⟨b, h1, rfl⟩ := u1usome e
    simp only [aop] at hr; cases hr
    exact sim_mov R ho h1 (.inr hop)
  | pick x y z =>
    simp only [cop] at e
    obtain ⟨b, c, d, h1, h2, h3, rfl⟩ := u3usome e
    simp only [aop] at hr
    split at hr
    · next hv => cases hr; exact sim_pick R ho h1 h2 h3 hop (t := true) hv
    · next hv => cases hr; exact sim_pick R ho h1 h2 h3 hop (t := false) hv
    · cases hr
  | alloc t =>
    simp only [cop, Option.map_eq_some_iff] at e
    obtain ⟨z, hz, rfl⟩ := e
    simp only [aop] at hr; cases hr
    exact sim_alloc R hz hop
  | box t x =>
    simp only [cop] at e
    obtain ⟨b, h1, rfl⟩ := u1usome e
    simp only [aop] at hr; cases hr
    exact sim_box R ho h1 hop
  | build t ps =>
    simp only [cop] at e
    split at e
    · next z fs hz hu =>
      split at e
      · cases e
      · next hall =>
        simp only [Option.map_eq_some_iff] at e
        obtain ⟨as, h1, rfl⟩ := e
        simp only [aop] at hr
        split at hr
        · next l hl => cases hr; exact sim_build R ho hz hop (.inl ⟨fs, hu, by revert hall; cases (fs.toList.all fun f => (szP P f.type).isSome) <;> simp, h1⟩) hl
        · cases hr
    · next z n el hz hu =>
      split at e
      · next s hs =>
        simp only [Option.map_eq_some_iff] at e
        obtain ⟨as, h1, rfl⟩ := e
        simp only [aop] at hr
        split at hr
        · next l hl => cases hr; exact sim_build R ho hz hop (.inr ⟨n, el, s, hu, hs, h1⟩) hl
        · cases hr
      · cases e
    · cases e
  | buildSlice t n ps =>
    simp only [cop] at e
    split at e
    · next el hu =>
      split at e
      · next z k hz hk =>
        split at e
        · next hc =>
          simp only [Bool.and_eq_true] at hc
          simp only [Option.map_eq_some_iff] at e
          obtain ⟨as, h1, rfl⟩ := e
          have hzk := Nat.eq_of_beq_eq_true hc.1
          rw [ln_eq] at hzk
          simp only [aop] at hr
          split at hr
          · next t' ht' => cases hr; exact sim_bslice R ho hu hz hk hzk (ble_le hc.2) h1 hop ht'
          · cases hr
        · cases e
      · cases e
    · cases e
  | insert t m k v =>
    simp only [cop] at e
    split at e
    · next kt et hu =>
      split at e
      · next kk hk =>
        obtain ⟨b, c, d, h1, h2, h3, rfl⟩ := u3usome e
        simp only [aop] at hr
        split at hr
        · next g hv =>
          split at hr
          · next es hg =>
            split at hr
            · split at hr
              · next es' hes => cases hr; exact sim_mupd R ho h1 h2 h3 hu hk (.inl hop) hv hg hes
              · cases hr
            · cases hr
          · cases hr
        · cases hr
      · cases e
    · cases e
  | mapUpdate t m k v =>
    simp only [cop] at e
    split at e
    · next kt et hu =>
      split at e
      · next kk hk =>
        obtain ⟨b, c, d, h1, h2, h3, rfl⟩ := u3usome e
        simp only [aop] at hr
        split at hr
        · next g hv =>
          split at hr
          · next es hg =>
            split at hr
            · split at hr
              · next es' hes => cases hr; exact sim_mupd R ho h1 h2 h3 hu hk (.inr hop) hv hg hes
              · cases hr
            · cases hr
          · cases hr
        · cases hr
      · cases e
    · cases e
  | load t x =>
    simp only [cop] at e
    split at e
    · next n ha hs =>
      obtain ⟨b, h1, rfl⟩ := u1usome e
      simp only [aop] at hr
      split at hr
      · next g of hv =>
        split at hr
        · next ob hg =>
          split at hr
          · next l hl => cases hr; exact sim_loadN R ho h1 hop ha hs hv hg hl
          · cases hr
        · cases hr
      · cases hr
    · next n ha hs =>
      obtain ⟨b, h1, rfl⟩ := u1usome e
      simp only [aop] at hr
      split at hr
      · next g of hv =>
        split at hr
        · next ob hg =>
          obtain ⟨v, hv', rfl⟩ := vl_some hr
          exact sim_load1 R ho h1 hop ha hv hg hv'
        · cases hr
      · cases hr
    · cases e
  | store t x y =>
    simp only [cop] at e
    split at e
    · next n hs =>
      obtain ⟨b, c, h1, h2, rfl⟩ := u2usome e
      simp only [aop] at hr
      split at hr
      · next g of hv =>
        split at hr
        · next ob hg =>
          split at hr
          · next hl =>
            split at hr
            · next ob' hw => cases hr; exact sim_store R ho h1 h2 hop hs hv hg (Nat.eq_of_beq_eq_true hl) hw
            · cases hr
          · cases hr
        · cases hr
      · cases hr
    · cases e
  | nilCheck x =>
    simp only [cop] at e
    obtain ⟨b, h1, rfl⟩ := u1usome e
    simp only [aop] at hr
    split at hr
    · next hc => cases hr; exact sim_nilchk R ho h1 hop hc
    · cases hr
  | binOp bop t x y yt =>
    simp only [cop] at e
    have hbin : ∀ {a}, u2 G x y (.bin bop) = some a → aop tm h a = some r → RSim P G ι h w r ((execOp ρ o).run P w) := by
      intro a e hr
      obtain ⟨b, c, h1, h2, rfl⟩ := u2usome e
      simp only [aop] at hr
      obtain ⟨v, hv, rfl⟩ := vl_some hr
      exact sim_bin R ho h1 h2 hop hv
    have heq : ∀ {a} {k : EqK} {neg : Bool}, u2 G x y (.eq k neg) = some a → aop tm h a = some r → (eqK P t = some k ∨ (k = .iface ∧ ∃ ms, P.underlying t = some (.interface ms))) → (k = .iface → isConstO x = true ∨ isConstO y = true) →
        ((neg = false ∧ bop = .eql) ∨ (neg = true ∧ bop = .neq)) → RSim P G ι h w r ((execOp ρ o).run P w) := by
      intro a k neg e hr hk hc hn
      obtain ⟨b, c, h1, h2, rfl⟩ := u2usome e
      simp only [aop] at hr
      split at hr
      · next q hq => cases hr; exact sim_eq R ho h1 h2 hop hk hc hn hq
      · cases hr
    unfold cbin at e
    split at e
    · exact hbin e hr
    · exact hbin e hr
    · next ms hu =>
      split at e
      · next hc =>
        simp only [Bool.or_eq_true] at hc
        split at e
        · next h1 => exact heq e hr (.inr ⟨rfl, ms, hu⟩) (fun _ => hc) (.inl ⟨rfl, h1⟩)
        · split at e
          · next h1 => exact heq e hr (.inr ⟨rfl, ms, hu⟩) (fun _ => hc) (.inr ⟨rfl, h1⟩)
          · cases e
      · cases e
    · have hni : ∀ {k}, eqK P t = some k → k = .iface → False := by
        intro k hk hki
        subst hki
        unfold eqK at hk; repeat' split at hk
        all_goals (simp at hk; done)
      split at e
      · next k hk =>
        split at e
        · next h1 => exact heq e hr (.inl hk) (fun hi => (hni hk hi).elim) (.inl ⟨rfl, h1⟩)
        · split at e
          · next h1 => exact heq e hr (.inl hk) (fun hi => (hni hk hi).elim) (.inr ⟨rfl, h1⟩)
          · cases e
      · cases e
  | unOp uop t x =>
    simp only [cop] at e
    obtain ⟨b, h1, rfl⟩ := u1usome e
    exact sim_un R ho h1 hop hr
  | convert s d x =>
    simp only [cop] at e
    unfold cconv at e
    split at e
    · next k0 k hs hd =>
      obtain ⟨b, h1, rfl⟩ := u1usome e
      simp only [aop] at hr
      split at hr
      · next k1 n hv => cases hr; exact sim_convI R ho h1 hop hs hd hv
      · cases hr
    · next hs hd =>
      obtain ⟨b, h1, rfl⟩ := u1usome e
      simp only [aop] at hr
      split at hr
      · next l hv => cases hr; rw [← hv]; exact sim_convS R ho h1 hop hs hd hv
      · cases hr
    · next el hs hd =>
      split at e
      · next he =>
        obtain ⟨b, h1, rfl⟩ := u1usome e
        simp only [aop] at hr
        split at hr
        · next l hv => cases hr; exact sim_convSB R ho h1 hop hs hd he hv
        · cases hr
      · cases e
    · next el el2 hs hd =>
      split at e
      · next he =>
        split at e
        · next hsd =>
          have hsd := Nat.eq_of_beq_eq_true hsd
          subst hsd
          obtain ⟨b, h1, rfl⟩ := u1usome e
          simp only [aop] at hr
          split at hr
          · next g of n c hv =>
            split at hr
            · next t z k m hg => cases hr; exact sim_convSS R ho h1 hop hs he hv hg
            · cases hr
          · cases hr
        · cases e
      · cases e
    · next el hs hd =>
      split at e
      · next he =>
        obtain ⟨b, h1, rfl⟩ := u1usome e
        simp only [aop] at hr
        split at hr
        · next n l hrd =>
          split at hr
          · cases hr
          · next r' hcb hns => cases hr; exact sim_convBS R ho h1 hop hs hd he hrd (fun s hs' => hns s hs') hcb
          · cases hr
        · cases hr
      · cases e
    · cases e
  | makeInterface t x =>
    simp only [cop] at e
    split at e
    · cases e
    · cases e
    · next d hn hd =>
      obtain ⟨b, h1, rfl⟩ := u1usome e
      simp only [aop] at hr; cases hr
      exact sim_mki R ho h1 hop hd (fun ms hms => hn ms (by rw [hms]))
  | makeFunc f xs ys =>
    simp only [cop] at e
    split at e
    · next a' c' h1 h2 =>
      cases e
      simp only [aop] at hr; cases hr
      exact sim_mkf R ho h1 h2 hop
    · cases e
  | makeMap t rs =>
    cases rs with
    | none =>
      simp only [cop] at e; cases e
      simp only [aop] at hr; cases hr
      exact sim_mkmap R hop
    | some x => simp [cop] at e
  | makeSlice t x y =>
    simp only [cop] at e
    split at e
    · next el hu =>
      split at e
      · next z i hz hi =>
        split at e
        · next hzi =>
          have hzi := Nat.eq_of_beq_eq_true hzi
          rw [ln_eq] at hzi
          obtain ⟨b, c, h1, h2, rfl⟩ := u2usome e
          simp only [aop] at hr
          split at hr
          · next l c' hl hc =>
            split at hr
            · next hcond =>
              simp only [Bool.and_eq_true] at hcond
              cases hr
              rw [ln_eq]
              exact sim_mksl R ho hu hz hi hzi h1 h2 hop hl hc (ble_le hcond.1) (ble_le hcond.2)
            · cases hr
          · cases hr
        · cases e
      · cases e
    · cases e
  | slice t x lo hi mx =>
    simp only [cop] at e
    unfold cslice at e
    split at e
    · cases e
    · next hmx =>
      have hsl : mx ≠ none → hi ≠ none := by
        intro h1 h2
        apply hmx
        cases mx with
        | none => exact absurd rfl h1
        | some y => subst h2; simp
      split at e
      · next alo ahi amx e1 e2 e3 =>
        have hmn : amx = none → mx = none := by
          intro hh
          rcases copdO_ne e3 with ⟨h, _⟩ | ⟨_, _, _, h⟩
          · exact h
          · rw [hh] at h; cases h
        split at e
        · next hu =>
          split at e
          · obtain ⟨b, h1, rfl⟩ := u1usome e
            have hm := hmn rfl
            subst hm
            simp only [aop] at hr
            split at hr
            · next s hv =>
              split at hr
              · next l u c' hcut => cases hr; exact sim_slcS R ho h1 e1 e2 hop hu hv hcut
              · cases hr
            · cases hr
          · cases e
        · next el hu =>
          split at e
          · next k hk =>
            obtain ⟨b, h1, rfl⟩ := u1usome e
            simp only [aop] at hr
            obtain ⟨v, hv, rfl⟩ := vl_some hr
            exact sim_slc R ho h1 e1 e2 e3 hsl hop hu hk hv
          · cases e
        · next n el hu =>
          split at e
          · next k hk =>
            obtain ⟨b, h1, rfl⟩ := u1usome e
            have hm := hmn rfl
            subst hm
            simp only [aop] at hr
            split at hr
            · next g of hv =>
              split at hr
              · next l u c' hcut => cases hr; exact sim_slcA R ho h1 e1 e2 hop (.inl hu) hk hv hcut
              · cases hr
            · cases hr
          · cases e
        · next t' hu =>
          split at e
          · next n el hu' =>
            split at e
            · next k hk =>
              obtain ⟨b, h1, rfl⟩ := u1usome e
              have hm := hmn rfl
              subst hm
              simp only [aop] at hr
              split at hr
              · next g of hv =>
                split at hr
                · next l u c' hcut => cases hr; exact sim_slcA R ho h1 e1 e2 hop (.inr ⟨t', hu, hu'⟩) hk hv hcut
                · cases hr
              · cases hr
            · cases e
          · cases e
        · cases e
      · cases e
  | fieldAddr s x f =>
    simp only [cop] at e
    split at e
    · next fs hu =>
      split at e
      · next fd hf =>
        split at e
        · next m hm =>
          obtain ⟨b, h1, rfl⟩ := u1usome e
          simp only [aop] at hr
          split at hr
          · next g of hv => cases hr; exact sim_faddr R ho h1 hop hu hf hm hv
          · cases hr
        · cases e
      · cases e
    · cases e
  | field t x f =>
    simp only [cop] at e
    split at e
    · next fs hu =>
      split at e
      · next fd hf =>
        split at e
        · next m ha hs =>
          obtain ⟨b, h1, rfl⟩ := u1usome e
          simp only [aop] at hr
          split at hr
          · next l hv => cases hr; exact sim_fld R ho h1 hop hu hf hv (.inr ⟨m, ha, hs, rfl⟩)
          · cases hr
        · next m ha hs =>
          obtain ⟨b, h1, rfl⟩ := u1usome e
          simp only [aop] at hr
          split at hr
          · next l hv =>
            obtain ⟨v, hv', rfl⟩ := vl_some hr
            exact sim_fld R ho h1 hop hu hf hv (.inl ⟨ha, hv'⟩)
          · cases hr
        · cases e
      · cases e
    · cases e
  | indexAddr t x i =>
    simp only [cop] at e
    split at e
    · next el hu =>
      split at e
      · next k hk =>
        obtain ⟨b, c, h1, h2, rfl⟩ := u2usome e
        simp only [aop] at hr
        split at hr
        · next g of n c' i' hv hi =>
          split at hr
          · next hlt => cases hr; exact sim_iaddrS R ho h1 h2 hop hu hk hv hi (blt_lt hlt)
          · cases hr
        · cases hr
      · cases e
    · next n el hu =>
      split at e
      · next k hk =>
        obtain ⟨b, c, h1, h2, rfl⟩ := u2usome e
        simp only [aop] at hr
        split at hr
        · next g of i' hv hi =>
          split at hr
          · next hlt => cases hr; exact sim_iaddrA R ho h1 h2 hop hu hk hv hi (blt_lt hlt)
          · cases hr
        · cases hr
      · cases e
    · cases e
  | index t x i =>
    simp only [cop] at e
    split at e
    · next hu =>
      obtain ⟨b, c, h1, h2, rfl⟩ := u2usome e
      simp only [aop] at hr
      split at hr
      · next s i' hv hi =>
        split at hr
        · next u hu' => cases hr; exact sim_idxS R ho h1 h2 hop hu hv hi hu'
        · cases hr
      · cases hr
    · next n el hu =>
      split at e
      · next ag k ha hk =>
        obtain ⟨b, c, h1, h2, rfl⟩ := u2usome e
        simp only [aop] at hr
        split at hr
        · next l i' hv hi =>
          split at hr
          · next hlt =>
            split at hr
            · next hag => cases hr; subst hag; exact sim_idxA R ho h1 h2 hop hu hk hv hi (blt_lt hlt) (.inr ⟨ha, rfl⟩)
            · next hag =>
              obtain ⟨v, hv', rfl⟩ := vl_some hr
              have : ag = false := by simpa using hag
              subst this
              exact sim_idxA R ho h1 h2 hop hu hk hv hi (blt_lt hlt) (.inl ⟨ha, hv'⟩)
          · cases hr
        · cases hr
      · cases e
    · cases e
  | lookup t x i ok =>
    simp only [cop] at e
    split at e
    · next kt et hu =>
      split at e
      · next z kk hz hk =>
        obtain ⟨b, c, h1, h2, rfl⟩ := u2usome e
        exact sim_lookup R ho h1 h2 hu hk hz hop hr
      · cases e
    · cases e
  | typeAssert x xt t ok =>
    simp only [cop] at e
    split at e
    · cases e
    · cases e
    · next d hn hd =>
      split at e
      · next z hz =>
        obtain ⟨b, h1, rfl⟩ := u1usome e
        exact sim_tassert R ho h1 hz hd (fun ms hms => hn ms (by rw [hms])) hop hr
      · cases e
  | extract x i =>
    simp only [cop] at e
    obtain ⟨b, h1, rfl⟩ := u1usome e
    simp only [aop] at hr
    split at hr
    · next l hv =>
      obtain ⟨v, hv', rfl⟩ := vl_some hr
      exact sim_ext R ho h1 hop hv hv'
    · cases hr
  | call c =>
    simp only [cop] at e
    exact sim_callop R ho hop e hr
  | defer c =>
    simp only [cop] at e
    split at e
    · next f l hc ha =>
      obtain ⟨b, h1, rfl⟩ := u1usome e
      simp only [aop] at hr
      split at hr
      · next f' a' c' hv => cases hr; exact sim_defer R ho hop hc h1 ha hv
      · cases hr
    · cases e
  | panic x =>
    simp only [cop] at e
    obtain ⟨b, h1, rfl⟩ := u1usome e
    simp only [aop] at hr
    split at hr
    · next t v hv =>
      cases hr
      have hx := ho.one h1
      refine ⟨ρ x, by rw [← hv]; exact hx, ?_⟩
      rw [hv] at hx
      simp only [VR] at hx
      obtain ⟨W, h2, _⟩ := hx
      simp [execOp, hop, Instr.panic, h2]
    · cases hr
  | _ => simp [cop] at e
end
end Go.Am

/- The abstract machine, part 19: regions, code and calls are met by the model's machine. Conditions: none. -/
namespace Go.Am

def DefsR (ι : Gh) : List ADef → List Deferred → Prop
  | [], L => L = []
  | d :: l, L => ∃ D L', L = D :: L' ∧ DefR ι d D ∧ DefsR ι l L'
theorem DefR.mono {ι ι' : Gh} (h : ι.le ι') {d : ADef} {D : Deferred} (x : DefR ι d D) : DefR ι' d D :=
  let ⟨A, C, h1, h2, h3⟩ := x; ⟨A, C, h1, VRL.mono h _ _ h2, VRL.mono h _ _ h3⟩
theorem DefsR.mono {ι ι' : Gh} (h : ι.le ι') : ∀ {l : List ADef} {L : List Deferred}, DefsR ι l L → DefsR ι' l L
  | [], _, x => x
  | _ :: _, _, x => let ⟨D, L', h1, h2, h3⟩ := x; ⟨D, L', h1, h2.mono h, DefsR.mono h h3⟩

def ChR (ι : Gh) : List (AVal × Bool) → List PanicEntry → Prop
  | [], L => L = []
  | (v, r) :: l, L => ∃ V L', L = { v := V, recovered := r } :: L' ∧ VR ι v V ∧ ChR ι l L'
theorem ChR.mono {ι ι' : Gh} (h : ι.le ι') : ∀ {l : List (AVal × Bool)} {L : List PanicEntry}, ChR ι l L → ChR ι' l L
  | [], _, x => x
  | (_, _) :: _, _, x => let ⟨V, L', h1, h2, h3⟩ := x; ⟨V, L', h1, VR.mono h _ _ h2, ChR.mono h h3⟩
theorem ChR.append {ι : Gh} : ∀ {l : List (AVal × Bool)} {L : List PanicEntry} (_ : ChR ι l L) {r : List (AVal × Bool)} {R : List PanicEntry} (_ : ChR ι r R), ChR ι (l ++ r) (L ++ R)
  | [], L, x, r, R, y => by simp only [ChR] at x; subst x; simpa using y
  | (v, q) :: l, L, x, r, R, y => by
    obtain ⟨V, L', rfl, h2, h3⟩ := x
    exact ⟨V, L' ++ R, rfl, h2, ChR.append h3 y⟩

def ModeR (ι : Gh) : AMode → FrameMode → Prop
  | .ret, m => m = .returning
  | .pan ch, m => ∃ CH, m = .panicking CH ∧ ChR ι ch CH
theorem ModeR.mono {ι ι' : Gh} (h : ι.le ι') {u : AMode} {m : FrameMode} (x : ModeR ι u m) : ModeR ι' u m := by
  cases u with
  | ret => exact x
  | pan ch => obtain ⟨CH, h1, h2⟩ := x; exact ⟨CH, h1, h2.mono h⟩

structure ActR (ι : Gh) (A : AAct) (a : Act) : Prop where
  tm : VRL ι A.tm a.tmps.toList
  df : DefsR ι A.df a.defers
theorem ActR.mono {ι ι' : Gh} (h : ι.le ι') {A : AAct} {a : Act} (x : ActR ι A a) : ActR ι' A a := ⟨VRL.mono h _ _ x.tm, x.df.mono h⟩

theorem VRL.putD {ι : Gh} {tm : List AVal} {a : Act} (h : VRL ι tm a.tmps.toList) {dst : Option Tmp} {v : AVal} {V : Value} (hv : VR ι v V) : VRL ι (putD tm dst v) (a.put dst V).tmps.toList := by
  cases dst with
  | none => exact h
  | some d => simp only [Am.putD, setN_eq, Act.put, Array.toList_setIfInBounds]; exact h.set d hv

theorem ActR.put {ι : Gh} {A : AAct} {a : Act} (h : ActR ι A a) {dst : Option Tmp} {v : AVal} {V : Value} (hv : VR ι v V) : ActR ι ⟨putD A.tm dst v, A.df⟩ (a.put dst V) :=
  ⟨h.tm.putD hv, by cases dst <;> exact h.df⟩

section
variable {P : Program} {G : Nat → Option Nat} {ι : Gh} {h : Hp} {w : World}

theorem opR_of (R : Rel G ι h w) {tm : List AVal} {a : Act} (hA : VRL ι tm a.tmps.toList) : OpR G ι tm a.eval := by
  intro x b e
  cases x with
  | tmp t =>
    simp only [copd] at e; cases e
    simp only [opd, nth_eq, Act.eval]
    cases ht : tm[t]? with
    | none =>
      have : a.tmps.toList.length ≤ t := by rw [← hA.length]; exact List.getElem?_eq_none_iff.1 ht
      have : a.tmps[t]? = none := by rw [Array.getElem?_eq_none]; simpa using this
      simp only [Array.getD_eq_getD_getElem?, this]
      exact VR.und
    | some v =>
      obtain ⟨V, h1, h2⟩ := hA.get t ht
      have : a.tmps[t]? = some V := by simpa using h1
      simp only [Array.getD_eq_getD_getElem?, this]
      exact h2
  | const v =>
    simp only [copd] at e
    split at e
    · next c hc => cases e; exact cval_ok hc ι
    · cases e
  | global g =>
    simp only [copd] at e
    split at e
    · next id hid =>
      cases e
      obtain ⟨i, h1, h2, h3⟩ := R.gl g id hid
      simp only [opd, VR, Act.eval]
      exact ⟨i, h1, by rw [h2, h3]⟩
    · cases e
  | func f =>
    simp only [copd] at e; cases e
    simp only [opd, VR, Act.eval]
    exact ⟨[], [], rfl, by simp [VRL], by simp [VRL]⟩

theorem sim_copB (R : Rel G ι h w) {tm : List AVal} {ρ : Operand → Value} (ho : OpR G ι tm ρ) (o : Oper) {r : ARes} (hr : aop tm h (copB P G o.op) = some r) : RSim P G ι h w r ((execOp ρ o).run P w) := by
  unfold copB at hr
  split at hr
  · next a ha => exact sim_op R ho rfl ha hr
  · simp [aop] at hr

/-! ### What a run comes to -/
def CsR (dfr : Bool) (ι : Gh) (cm : AMode) (cs : List Frame) : Prop := dfr = true → ∃ c0 rest, cs = c0 :: rest ∧ ModeR ι cm c0.mode
def CsTo (dfr : Bool) (ι : Gh) (cm : AMode) (cs cs' : List Frame) : Prop :=
  (dfr = false → cs' = cs) ∧ (dfr = true → ∃ c0 rest u, cs = c0 :: rest ∧ cs' = { c0 with mode := u } :: rest ∧ ModeR ι cm u)
theorem CsR.mono {dfr : Bool} {ι ι' : Gh} (h : ι.le ι') {cm : AMode} {cs : List Frame} (x : CsR dfr ι cm cs) : CsR dfr ι' cm cs := fun hd => let ⟨c0, rest, h1, h2⟩ := x hd; ⟨c0, rest, h1, h2.mono h⟩
theorem CsTo.mono {dfr : Bool} {ι ι' : Gh} (h : ι.le ι') {cm : AMode} {cs cs' : List Frame} (x : CsTo dfr ι cm cs cs') : CsTo dfr ι' cm cs cs' := ⟨x.1, fun hd => let ⟨c0, rest, u, h1, h2, h3⟩ := x.2 hd; ⟨c0, rest, u, h1, h2, h3.mono h⟩⟩
theorem CsR.to {dfr : Bool} {cm : AMode} {cs : List Frame} (x : CsR dfr ι cm cs) : CsTo dfr ι cm cs cs := ⟨fun _ => rfl, fun hd => let ⟨c0, rest, h1, h2⟩ := x hd; ⟨c0, rest, c0.mode, h1, h1, h2⟩⟩
theorem CsTo.csR {dfr : Bool} {cm : AMode} {cs cs' : List Frame} (x : CsTo dfr ι cm cs cs') : CsR dfr ι cm cs' := fun hd => let ⟨c0, rest, u, _, h2, h3⟩ := x.2 hd; ⟨{ c0 with mode := u }, rest, h2, h3⟩
theorem CsTo.trans {dfr : Bool} {ι' : Gh} {cm cm' : AMode} {cs cs' cs'' : List Frame} (x : CsTo dfr ι cm cs cs') (y : CsTo dfr ι' cm' cs' cs'') : CsTo dfr ι' cm' cs cs'' := by
  refine ⟨fun hd => (y.1 hd).trans (x.1 hd), fun hd => ?_⟩
  obtain ⟨c0, rest, u, h1, h2, h3⟩ := x.2 hd
  obtain ⟨c0', rest', u', h4, h5, h6⟩ := y.2 hd
  rw [h2] at h4; cases h4
  exact ⟨c0, rest, u', h1, h5, h6⟩

def ArrA (P : Program) (ι : Gh) (m : Machine) (b : Frame) (k : List Item) (cs : List Frame) : AExit → Act → World → Prop
  | .normal, a, w => Steps P m (lone (b.atR a k) cs w)
  | .exit id, a, w => ∃ k1, Steps P m (lone (b.atR a (.code (.exit id) :: k1)) cs w) ∧ exitTo id k1 = exitTo id k
  | .ret, a, w => ∃ k1, Steps P m (lone (b.atR a (.code .ret :: k1)) cs w)
  | .pan ch, a, w => ∃ CH todo, ChR ι ch CH ∧ Steps P m (lone { b.atR a todo with mode := .panicking CH } cs w)

theorem ArrA.of_steps {m m' : Machine} {b : Frame} {k : List Item} {cs : List Frame} {X : AExit} {a : Act} {w : World} (s : Steps P m m') (x : ArrA P ι m' b k cs X a w) : ArrA P ι m b k cs X a w := by
  cases X with
  | normal => exact s.trans x
  | exit id => obtain ⟨k1, h1, h2⟩ := x; exact ⟨k1, s.trans h1, h2⟩
  | ret => obtain ⟨k1, h1⟩ := x; exact ⟨k1, s.trans h1⟩
  | pan ch => obtain ⟨CH, todo, h1, h2⟩ := x; exact ⟨CH, todo, h1, s.trans h2⟩

def kindOf (dfr : Bool) : CallKind := if dfr then .deferred else .normal

/-- The end of a call's frame. -/
def EndR (P : Program) (ι : Gh) (E : AEnd) (fr : Frame) (w : World) : Prop :=
  fr.defers = [] ∧ (∃ fn, P.funcs[fr.fn]? = some fn) ∧ match E with
  | .ret v => fr.mode = .returning ∧ ∃ fn V, P.funcs[fr.fn]? = some fn ∧ (results fn fr.tmps).run P w = .ok V w ∧ VR ι v V
  | .pan ch => ∃ CH, fr.mode = .panicking CH ∧ ChR ι ch CH

def CallOK (P : Program) (G : Nat → Option Nat) (gf : CallF) : Prop :=
  ∀ dfr f args h cm E h' cm', gf dfr f args h cm = some (E, h', cm') → ∀ ι w (vargs : List Value) cs, Rel G ι h w → VRL ι args vargs → CsR dfr ι cm cs →
    (∃ fn, P.funcs[f]? = some fn ∧ fn.name ≠ "runtime.NumGoroutine" ∧ fn.body.isSome = true) ∧
    ∃ ι' w' cs' fr, Rel G ι' h' w' ∧ Fr ι h w ι' h' w' ∧ CsTo dfr ι' cm' cs cs' ∧ Steps P (lone (Frame.enter P f ⟨vargs⟩ (kindOf dfr)) cs w) (lone fr cs' w') ∧ (fr.kind = kindOf dfr ∧ fr.fn = f) ∧ EndR P ι' E fr w'

theorem run_callFunc {f : Nat} {fn : Func} (h1 : P.funcs[f]? = some fn) (h2 : fn.name ≠ "runtime.NumGoroutine") (h3 : fn.body.isSome = true) (A : Array Value) (w : World) : (callFunc f A).run P w = .ok (.enter f A) w := by
  obtain ⟨c, hc⟩ := Option.isSome_iff_exists.1 h3
  simp [callFunc, h1, h2, hc]

def SubR (P : Program) (G : Nat → Option Nat) (ops : Array Oper) : List Nat → List AIns → Prop
  | [], l => l = []
  | i :: is, l => ∃ o ai l', l = ai :: l' ∧ ops[i]? = some o ∧ cins P G ops o = some ai ∧ SubR P G ops is l'

theorem wanted_ok {ops : Array Oper} {o : Oper} {ai : AIns} (hc : cins P G ops o = some ai) {tm : List AVal} {a : Act} (hA : VRL ι tm a.tmps.toList) : Region.wanted o (yielded ops a.tmps) = wantedA tm ai.guard := by
  unfold cins at hc
  split at hc
  · next g hg =>
    cases hc
    unfold cguard at hg
    split at hg
    · next hgd => cases hg; simp [Region.wanted, hgd, wantedA]
    · next j bb hgd =>
      split at hg
      · next d hd =>
        cases hg
        simp only [Region.wanted, hgd, wantedA, nth_eq, yielded, hd, Option.bind_some]
        cases ht : tm[d]? with
        | none =>
          have : a.tmps.toList.length ≤ d := by rw [← hA.length]; exact List.getElem?_eq_none_iff.1 ht
          have : a.tmps[d]? = none := by rw [Array.getElem?_eq_none]; simpa using this
          rw [this]; simp
        | some v =>
          obtain ⟨V, h1, h2⟩ := hA.get d ht
          have h3 : a.tmps[d]? = some V := by simpa using h1
          rw [h3]
          cases v with
          | bool q => rw [h2.bool_inv]; simp
          | sl g o n c =>
            rcases h2.sl_inv with ⟨_, _, _, _, h4, _⟩ | ⟨_, ⟨_, h4⟩, _⟩ <;> rw [h4] <;> simp
          | _ =>
            simp only [VR] at h2
            first
              | (subst h2; simp; done)
              | (obtain ⟨_, _, h4⟩ := h2; subst h4; simp; done)
              | (obtain ⟨_, h4, _⟩ := h2; subst h4; simp; done)
              | (obtain ⟨_, _, h4, _, _⟩ := h2; subst h4; simp; done)
      · cases hg
  · cases hc

theorem cins_dst {ops : Array Oper} {o : Oper} {ai : AIns} (hc : cins P G ops o = some ai) : ai.dst = o.dst ∧ ai.op = copB P G o.op := by
  unfold cins at hc
  split at hc
  · cases hc; exact ⟨rfl, rfl⟩
  · cases hc
end
end Go.Am

/- The abstract machine, part 20: the simulation, by recursion on the fuel. Conditions: none. -/
namespace Go.Am

section
variable {P : Program} {G : Nat → Option Nat}

theorem recoverD_ok {ι : Gh} {cm : AMode} {c0 : Frame} {rest : List Frame} (hm : ModeR ι cm c0.mode) :
    (∃ v V older, cm = .pan ((v, false) :: older) ∧ VR ι v V ∧ ∃ u, recoverD (c0 :: rest) = some (V, { c0 with mode := u } :: rest) ∧ ModeR ι (.pan ((v, true) :: older)) u) ∨
    ((∀ v older, cm ≠ .pan ((v, false) :: older)) ∧ recoverD (c0 :: rest) = none) := by
  cases cm with
  | ret =>
    right
    refine ⟨by simp, ?_⟩
    simp only [ModeR] at hm
    simp [recoverD, hm]
  | pan ch =>
    obtain ⟨CH, h1, h2⟩ := hm
    cases ch with
    | nil =>
      simp only [ChR] at h2; subst h2
      right
      exact ⟨by simp, by simp [recoverD, h1]⟩
    | cons x ch =>
      obtain ⟨v, r⟩ := x
      obtain ⟨V, L', rfl, h3, h4⟩ := h2
      cases r with
      | false =>
        left
        refine ⟨v, V, ch, rfl, h3, .panicking ({ v := V, recovered := true } :: L'), ?_, ?_⟩
        · simp [recoverD, h1]
        · exact ⟨_, rfl, V, L', rfl, h3, h4⟩
      | true =>
        right
        exact ⟨by simp, by simp [recoverD, h1]⟩

/-- A region in the order of the text. -/
theorem ops_ok {gf : CallF} (hG : CallOK P G gf) {ops : Array Oper} : ∀ (is : List Nat) (l : List AIns), SubR P G ops is l → ∀ {dfr : Bool} {A : AAct} {h : Hp} {cm : AMode} {X : AExit} {A' : AAct} {h' : Hp} {cm' : AMode},
    opsA gf dfr l A h cm = some (X, A', h', cm') → ∀ {ι : Gh} {w : World} {a : Act} (b : Frame) (k : List Item) (cs : List Frame), Rel G ι h w → ActR ι A a → b.kind = kindOf dfr → b.roundOf = none → CsR dfr ι cm cs →
    ∃ ι' w' a' cs', Rel G ι' h' w' ∧ Fr ι h w ι' h' w' ∧ ActR ι' A' a' ∧ CsTo dfr ι' cm' cs cs' ∧ ArrA P ι' (lone (b.atR a (.inRegion ops is :: k)) cs w) b k cs' X a' w'
  | [], l, hs, dfr, A, h, cm, X, A', h', cm', e, ι, w, a, b, k, cs, R, hA, hk, hro, hcs => by
    simp only [SubR] at hs; subst hs
    simp only [opsA] at e; cases e
    exact ⟨ι, w, a, cs, R, Fr.refl _ _ _, hA, hcs.to, .one stepR_region_end⟩
  | i :: is, l, hs, dfr, A, h, cm, X, A', h', cm', e, ι, w, a, b, k, cs, R, hA, hk, hro, hcs => by
    obtain ⟨o, ai, l', rfl, ho, hci, hs'⟩ := hs
    have hw := wanted_ok hci hA.tm
    obtain ⟨hdst, hopc⟩ := cins_dst hci
    simp only [opsA] at e
    have hfin : ∀ v, (b.atR a (.inRegion ops (i :: is) :: k)).finish v = b.atR (a.put o.dst v) (.inRegion ops is :: k) := by
      intro v; rw [Frame.finish_atR, ho]; rfl
    split at e
    · next hwa =>
      rw [hwa] at hw
      have hg := stepGR_op (P := P) (b := b) (k := k) (cs := cs) (w := w) (rest := is) ho hw
      rw [hro, Oper.semAt_none] at hg
      have hOp := opR_of R hA.tm
      -- the operation has a value
      have value : ∀ {v : AVal} {h1 : Hp} {ι1 : Gh} {w1 : World} {V : Value}, Rel G ι1 h1 w1 → Fr ι h w ι1 h1 w1 → VR ι1 v V → step P (lone (b.atR a (.inRegion ops (i :: is) :: k)) cs w) = .next (lone (b.atR (a.put o.dst V) (.inRegion ops is :: k)) cs w1) →
          opsA gf dfr l' ⟨putD A.tm ai.dst v, A.df⟩ h1 cm = some (X, A', h', cm') →
          ∃ ι' w' a' cs', Rel G ι' h' w' ∧ Fr ι h w ι' h' w' ∧ ActR ι' A' a' ∧ CsTo dfr ι' cm' cs cs' ∧ ArrA P ι' (lone (b.atR a (.inRegion ops (i :: is) :: k)) cs w) b k cs' X a' w' := by
        intro v h1 ι1 w1 V R1 F1 hv hst e'
        rw [hdst] at e'
        obtain ⟨ι', w', a', cs', q1, q2, q3, q4, q5⟩ := ops_ok hG is l' hs' e' b k cs R1 ((hA.mono F1.le).put hv) hk hro (hcs.mono F1.le)
        exact ⟨ι', w', a', cs', q1, F1.trans q2, q3, q4, .of_steps (.one hst) q5⟩
      split at e
      · next v h1 hv =>
        rw [hopc] at hv
        obtain ⟨ι1, w1, V, R1, F1, hV, hrun⟩ := sim_copB R hOp o hv
        rcases hrun with hrun | ⟨hrun, rfl⟩
        · exact value R1 F1 hV (step_lone_go (by rw [hg, ← hfin]; simp [stepG.apply, hrun])) e
        · exact value R1 F1 hV (step_lone_go (by rw [hg, ← hfin]; simp [stepG.apply, hrun])) e
      · next f args hv =>
        rw [hopc] at hv
        obtain ⟨vargs, hva, hrun⟩ := sim_copB R hOp o hv
        split at e
        · next v h1 cm1 hcall =>
          obtain ⟨⟨fn, f1, f2, f3⟩, ι1, w1, cs1, fr, R1, F1, hcs1, hsteps, hkind, hd, _, hm, fn', V, hf', hres, hV⟩ := hG false f args h .ret _ _ _ hcall ι w vargs (b.atR a (.inRegion ops (i :: is) :: k) :: cs) R hva (fun h => by cases h)
          rw [run_callFunc f1 f2 f3] at hrun
          have hcs1' := hcs1.1 rfl
          subst hcs1'
          have henter : step P (lone (b.atR a (.inRegion ops (i :: is) :: k)) cs w) = .next (lone (Frame.enter P f ⟨vargs⟩ .normal) (b.atR a (.inRegion ops (i :: is) :: k) :: cs) w) :=
            step_lone_go (by rw [hg]; simp [stepG.apply, hrun, Frame.atR])
          have hleave : fr.leaving P w1 (.returned V) := ⟨hm, hd, hkind.1, fn', hf', hres⟩
          rw [hdst] at e
          obtain ⟨ι', w', a', cs', q1, q2, q3, q4, q5⟩ := ops_ok hG is l' hs' e b k cs R1 ((hA.mono F1.le).put hV) hk hro (hcs.mono F1.le)
          refine ⟨ι', w', a', cs', q1, F1.trans q2, q3, q4, .of_steps (.head henter (Steps.trans hsteps (.one ?_))) q5⟩
          rw [← hfin]; exact step_leave_returned hleave
        · next ch h1 cm1 hcall =>
          cases e
          obtain ⟨⟨fn, f1, f2, f3⟩, ι1, w1, cs1, fr, R1, F1, hcs1, hsteps, hkind, hd, ⟨fn', hf'⟩, CH, hm, hch⟩ := hG false f args h .ret _ _ _ hcall ι w vargs (b.atR a (.inRegion ops (i :: is) :: k) :: cs) R hva (fun h => by cases h)
          rw [run_callFunc f1 f2 f3] at hrun
          have hcs1' := hcs1.1 rfl
          subst hcs1'
          have henter : step P (lone (b.atR a (.inRegion ops (i :: is) :: k)) cs w) = .next (lone (Frame.enter P f ⟨vargs⟩ .normal) (b.atR a (.inRegion ops (i :: is) :: k) :: cs) w) :=
            step_lone_go (by rw [hg]; simp [stepG.apply, hrun, Frame.atR])
          have hleave : fr.leaving P w1 (.panicked CH) := ⟨hm, hd, fn', hf'⟩
          refine ⟨ι1, w1, a, cs, R1, F1, hA.mono F1.le, (hcs.mono F1.le).to, CH, .inRegion ops (i :: is) :: k, hch, .head henter (Steps.trans hsteps (.one ?_))⟩
          rw [← Frame.raise_atR]; exact step_leave_panicked hleave
        · cases e
      · next d hv =>
        rw [hopc] at hv
        obtain ⟨D, hD, hrun⟩ := sim_copB R hOp o hv
        rw [hdst] at e
        have hst : step P (lone (b.atR a (.inRegion ops (i :: is) :: k)) cs w) = .next (lone (b.atR ({ a with defers := D :: a.defers }.put o.dst undef) (.inRegion ops is :: k)) cs w) := by
          refine step_lone_go ?_
          have : ({ b.atR a (.inRegion ops (i :: is) :: k) with defers := D :: a.defers } : Frame).finish undef = b.atR ({ a with defers := D :: a.defers }.put o.dst undef) (.inRegion ops is :: k) := by
            have := Frame.finish_atR b { a with defers := D :: a.defers } ops i is k undef
            rw [ho] at this; exact this
          rw [hg]; simp only [stepG.apply, Sem.runT_eq, hrun, GStep.bare_after]
          exact congrArg (fun fr => GStep.go { frame := fr, callers := cs, status := .running, dying := none } w) this
        have hA2 : ActR ι ⟨A.tm, d :: A.df⟩ { a with defers := D :: a.defers } := ⟨hA.tm, D, a.defers, rfl, hD, hA.df⟩
        obtain ⟨ι', w', a', cs', q1, q2, q3, q4, q5⟩ := ops_ok hG is l' hs' e b k cs R (hA2.put VR.und) hk hro hcs
        exact ⟨ι', w', a', cs', q1, q2, q3, q4, .of_steps (.one hst) q5⟩
      · next v hv =>
        cases e
        rw [hopc] at hv
        obtain ⟨V, hV, hrun⟩ := sim_copB R hOp o hv
        refine ⟨ι, w, a, cs, R, Fr.refl _ _ _, hA, hcs.to, [{ v := V, recovered := false }], .inRegion ops (i :: is) :: k, ⟨V, [], rfl, hV, rfl⟩, .one (step_lone_go ?_)⟩
        rw [hg, ← Frame.raise_atR]; simp [stepG.apply, hrun]
      · next hv =>
        rw [hopc] at hv
        have hrun := sim_copB R hOp o hv
        simp only [RSim] at hrun
        split at e
        · next hdf =>
          subst hdf
          obtain ⟨c0, rest, rfl, hmode⟩ := hcs rfl
          have hk' : (b.atR a (.inRegion ops (i :: is) :: k)).kind = .deferred := hk
          have htr := tryRecover_deferred hk' (c0 :: rest)
          have hrn : (b.atR a (.inRegion ops (i :: is) :: k)).roundOf = none := hro
          rcases recoverD_ok (rest := rest) hmode with ⟨v, V, older, rfl, hV, u, hrec, hu⟩ | ⟨hne, hrec⟩
          · rw [hdst] at e
            simp only at e
            have hst : step P (lone (b.atR a (.inRegion ops (i :: is) :: k)) (c0 :: rest) w) = .next (lone (b.atR (a.put o.dst V) (.inRegion ops is :: k)) ({ c0 with mode := u } :: rest) w) := by
              refine step_lone_go ?_
              rw [hg, ← hfin]
              rw [hrec] at htr
              simp only [stepG.apply, Sem.runT_eq, hrun, GStep.bare_after, hrn, htr]
              rfl
            obtain ⟨ι', w', a', cs', q1, q2, q3, q4, q5⟩ := ops_ok hG is l' hs' e b k ({ c0 with mode := u } :: rest) R (hA.put hV) hk hro (fun _ => ⟨_, rest, rfl, hu⟩)
            refine ⟨ι', w', a', cs', q1, q2, q3, ⟨(fun h => by cases h), fun _ => ?_⟩, .of_steps (.one hst) q5⟩
            obtain ⟨c1, r1, u1, z1, z2, z3⟩ := q4.2 rfl
            cases z1
            exact ⟨c0, rest, u1, rfl, z2, z3⟩
          · have e2 : opsA gf true l' ⟨putD A.tm ai.dst .nili, A.df⟩ h cm = some (X, A', h', cm') := by
              split at e
              · next v older => exact absurd rfl (hne v older)
              · exact e
            rw [hdst] at e2
            have hst : step P (lone (b.atR a (.inRegion ops (i :: is) :: k)) (c0 :: rest) w) = .next (lone (b.atR (a.put o.dst .nilIface) (.inRegion ops is :: k)) (c0 :: rest) w) := by
              refine step_lone_go ?_
              rw [hg, ← hfin]
              rw [hrec] at htr
              simp only [stepG.apply, Sem.runT_eq, hrun, GStep.bare_after, hrn, htr]
              rfl
            obtain ⟨ι', w', a', cs', q1, q2, q3, q4, q5⟩ := ops_ok hG is l' hs' e2 b k (c0 :: rest) R (hA.put (v := .nili) (V := .nilIface) (by simp only [VR])) hk hro (fun _ => ⟨c0, rest, rfl, hmode⟩)
            exact ⟨ι', w', a', cs', q1, q2, q3, q4, .of_steps (.one hst) q5⟩
        · next hdf =>
          have hdf : dfr = false := by simpa using hdf
          subst hdf
          have hk' : (b.atR a (.inRegion ops (i :: is) :: k)).kind = .normal := hk
          have hrn : (b.atR a (.inRegion ops (i :: is) :: k)).roundOf = none := hro
          have htr : tryRecover (b.atR a (.inRegion ops (i :: is) :: k)) cs = none := by
            cases cs <;> simp [tryRecover, hk']
          refine value (v := .nili) (V := .nilIface) R (Fr.refl _ _ _) (by simp only [VR]) ?_ e
          refine step_lone_go ?_
          rw [hg, ← hfin]
          simp only [stepG.apply, Sem.runT_eq, hrun, GStep.bare_after, hrn, htr]
          rfl
      · cases e
    · next hwa =>
      have hwa : wantedA A.tm ai.guard = false := by simpa using hwa
      rw [hwa] at hw
      rw [hdst] at e
      have hst := stepR_op_skip (P := P) (b := b) (a := a) (k := k) (cs := cs) (w := w) (ops := ops) (i := i) (rest := is) (by simp [ho]; simpa using hw)
      simp only [ho, Option.bind_some] at hst
      obtain ⟨ι', w', a', cs', q1, q2, q3, q4, q5⟩ := ops_ok hG is l' hs' e b k cs R (hA.put VR.und) hk hro hcs
      exact ⟨ι', w', a', cs', q1, q2, q3, q4, .of_steps (.one hst) q5⟩
end
end Go.Am
end
