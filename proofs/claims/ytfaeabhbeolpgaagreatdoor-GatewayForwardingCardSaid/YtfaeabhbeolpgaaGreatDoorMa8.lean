/- The abstract machine, part 21: regions of several orders, the side that does not look at the model's machine. Conditions: none. -/
import Derived.Test.YtfaeabhbeolpgaaGreatDoorMa7
set_option linter.all false
noncomputable section
namespace Go.Am

/-! ### What an operation looks at -/
section
variable {tm tm' : List AVal}
theorem opd_congr {x : AOpd} (H : ∀ t ∈ oT x, nth tm t = nth tm' t) : opd tm x = opd tm' x := by
  cases x with
  | t n => simp only [opd, H n (by simp [oT])]
  | c v => rfl
theorem opds_congr : ∀ {l : List AOpd}, (∀ t ∈ osT l, nth tm t = nth tm' t) → opds tm l = opds tm' l
  | [], _ => rfl
  | x :: l, H => by
    simp only [osT, cat_eq, List.mem_append] at H
    simp only [opds, opd_congr (fun t ht => H t (.inl ht)), opds_congr (fun t ht => H t (.inr ht))]
theorem bound_congr {x : Option AOpd} (H : ∀ t ∈ oOT x, nth tm t = nth tm' t) (d : Nat) : bound tm x d = bound tm' x d := by
  cases x with
  | none => rfl
  | some x => simp only [bound, opd_congr (x := x) H]
theorem cutB_congr {lo hi mx : Option AOpd} (h1 : ∀ t ∈ oOT lo, nth tm t = nth tm' t) (h2 : ∀ t ∈ oOT hi, nth tm t = nth tm' t) (h3 : ∀ t ∈ oOT mx, nth tm t = nth tm' t) (n : Nat) (c : Option Nat) :
    cutB tm n c lo hi mx = cutB tm' n c lo hi mx := by
  unfold cutB
  rw [bound_congr h1, bound_congr h2]
  cases mx with
  | none => rfl
  | some m => simp only [opd_congr (x := m) h3]
theorem fillA_congr : ∀ {l : List (Nat × Nat × AOpd)}, (∀ t ∈ psT l, nth tm t = nth tm' t) → ∀ cs, fillA tm l cs = fillA tm' l cs
  | [], _, _ => rfl
  | (o, n, x) :: l, H, cs => by
    simp only [psT, cat_eq, List.mem_append] at H
    simp only [fillA, opd_congr (x := x) (fun t ht => H t (.inl ht)), fillA_congr (l := l) (fun t ht => H t (.inr ht))]
theorem fillS_congr {k n : Nat} : ∀ {l : List (Nat × AOpd)}, (∀ t ∈ qsT l, nth tm t = nth tm' t) → ∀ cs, fillS tm k n l cs = fillS tm' k n l cs
  | [], _, _ => rfl
  | (o, x) :: l, H, cs => by
    simp only [qsT, cat_eq, List.mem_append] at H
    simp only [fillS, opd_congr (x := x) (fun t ht => H t (.inl ht)), fillS_congr (l := l) (fun t ht => H t (.inr ht))]

theorem aop_congr {op : AOp} (H : ∀ t ∈ opT op, nth tm t = nth tm' t) (h : Hp) : aop tm h op = aop tm' h op := by
  cases op <;> simp only [opT, cat_eq, List.mem_append] at H
  case bad => rfl
  case alloc => rfl
  case mkmap => rfl
  case recover => rfl
  case mov x => simp only [aop, opd_congr (x := x) H]
  case box x => simp only [aop, opd_congr (x := x) H]
  case load1 x => simp only [aop, opd_congr (x := x) H]
  case loadN _ x => simp only [aop, opd_congr (x := x) H]
  case nilchk x => simp only [aop, opd_congr (x := x) H]
  case un _ x => simp only [aop, opd_congr (x := x) H]
  case convI _ x => simp only [aop, opd_congr (x := x) H]
  case convSB x => simp only [aop, opd_congr (x := x) H]
  case convBS x => simp only [aop, opd_congr (x := x) H]
  case convSS x => simp only [aop, opd_congr (x := x) H]
  case mki _ x => simp only [aop, opd_congr (x := x) H]
  case strv x => simp only [aop, opd_congr (x := x) H]
  case faddr _ x => simp only [aop, opd_congr (x := x) H]
  case fld _ _ x => simp only [aop, opd_congr (x := x) H]
  case tassert _ _ _ x => simp only [aop, opd_congr (x := x) H]
  case ext _ x => simp only [aop, opd_congr (x := x) H]
  case len _ x => simp only [aop, opd_congr (x := x) H]
  case clr _ x => simp only [aop, opd_congr (x := x) H]
  case panic x => simp only [aop, opd_congr (x := x) H]
  case store _ a x => simp only [aop, opd_congr (x := a) (fun t ht => H t (.inl ht)), opd_congr (x := x) (fun t ht => H t (.inr ht))]
  case bin _ a x => simp only [aop, opd_congr (x := a) (fun t ht => H t (.inl ht)), opd_congr (x := x) (fun t ht => H t (.inr ht))]
  case eq _ _ a x => simp only [aop, opd_congr (x := a) (fun t ht => H t (.inl ht)), opd_congr (x := x) (fun t ht => H t (.inr ht))]
  case iaddrS _ a x => simp only [aop, opd_congr (x := a) (fun t ht => H t (.inl ht)), opd_congr (x := x) (fun t ht => H t (.inr ht))]
  case iaddrA _ _ a x => simp only [aop, opd_congr (x := a) (fun t ht => H t (.inl ht)), opd_congr (x := x) (fun t ht => H t (.inr ht))]
  case idxA _ _ _ a x => simp only [aop, opd_congr (x := a) (fun t ht => H t (.inl ht)), opd_congr (x := x) (fun t ht => H t (.inr ht))]
  case idxS a x => simp only [aop, opd_congr (x := a) (fun t ht => H t (.inl ht)), opd_congr (x := x) (fun t ht => H t (.inr ht))]
  case lookup _ _ _ a x => simp only [aop, opd_congr (x := a) (fun t ht => H t (.inl ht)), opd_congr (x := x) (fun t ht => H t (.inr ht))]
  case app _ _ a x => simp only [aop, opd_congr (x := a) (fun t ht => H t (.inl ht)), opd_congr (x := x) (fun t ht => H t (.inr ht))]
  case cpy _ a x => simp only [aop, opd_congr (x := a) (fun t ht => H t (.inl ht)), opd_congr (x := x) (fun t ht => H t (.inr ht))]
  case mksl _ _ a x => simp only [aop, opd_congr (x := a) (fun t ht => H t (.inl ht)), opd_congr (x := x) (fun t ht => H t (.inr ht))]
  case pick a b c => simp only [aop, opd_congr (x := a) (fun t ht => H t (.inl ht)), opd_congr (x := b) (fun t ht => H t (.inr (.inl ht))), opd_congr (x := c) (fun t ht => H t (.inr (.inr ht)))]
  case mupd _ a b c => simp only [aop, opd_congr (x := a) (fun t ht => H t (.inl ht)), opd_congr (x := b) (fun t ht => H t (.inr (.inl ht))), opd_congr (x := c) (fun t ht => H t (.inr (.inr ht)))]
  case build _ ps => simp only [aop, fillA_congr H]
  case bslice _ _ _ ps => simp only [aop, fillS_congr H]
  case mkf _ a c => simp only [aop, opds_congr (l := a) (fun t ht => H t (.inl ht)), opds_congr (l := c) (fun t ht => H t (.inr ht))]
  case slcS x lo hi => simp only [aop, opd_congr (x := x) (fun t ht => H t (.inl ht)), cutB_congr (lo := lo) (hi := hi) (mx := none) (fun t ht => H t (.inr (.inl ht))) (fun t ht => H t (.inr (.inr ht))) (fun t ht => by simp [oOT] at ht)]
  case slc k x lo hi mx =>
    simp only [aop, opd_congr (x := x) (fun t ht => H t (.inl ht))]
    unfold slcV
    simp only [cutB_congr (lo := lo) (hi := hi) (mx := mx) (fun t ht => H t (.inr (.inl ht))) (fun t ht => H t (.inr (.inr (.inl ht)))) (fun t ht => H t (.inr (.inr (.inr ht))))]
  case slcA _ _ x lo hi => simp only [aop, opd_congr (x := x) (fun t ht => H t (.inl ht)), cutB_congr (lo := lo) (hi := hi) (mx := none) (fun t ht => H t (.inr (.inl ht))) (fun t ht => H t (.inr (.inr ht))) (fun t ht => by simp [oOT] at ht)]
  case min xs => simp only [aop, opds_congr H]
  case max xs => simp only [aop, opds_congr H]
  case call _ xs => simp only [aop, opds_congr H]
  case dyn f xs => simp only [aop, opd_congr (x := f) (fun t ht => H t (.inl ht)), opds_congr (l := xs) (fun t ht => H t (.inr ht))]
  case defer f xs => simp only [aop, opd_congr (x := f) (fun t ht => H t (.inl ht)), opds_congr (l := xs) (fun t ht => H t (.inr ht))]
theorem allocV_congr {op : AOp} (H : ∀ t ∈ opT op, nth tm t = nth tm' t) : Jp tm op = Jp tm' op := by
  cases op <;> simp only [opT, cat_eq, List.mem_append] at H
  case box x => simp only [Jp, opd_congr (x := x) H]
  case bslice _ _ _ ps => simp only [Jp, fillS_congr H]
  case convSB x => simp only [Jp, opd_congr (x := x) H]
  case mksl _ _ a x => simp only [Jp, opd_congr (x := a) (fun t ht => H t (.inl ht)), opd_congr (x := x) (fun t ht => H t (.inr ht))]
  all_goals rfl
theorem wantedA_congr {i : AIns} (H : ∀ t ∈ insT i, nth tm t = nth tm' t) : wantedA tm i.guard = wantedA tm' i.guard := by
  unfold insT at H
  cases hg : i.guard with
  | none => rfl
  | some g => obtain ⟨t, b⟩ := g; rw [hg] at H; simp only [wantedA, H t (by simp)]
theorem insT_op {i : AIns} (H : ∀ t ∈ insT i, nth tm t = nth tm' t) : ∀ t ∈ opT i.op, nth tm t = nth tm' t := by
  unfold insT at H
  intro t ht
  split at H
  · exact H t (List.mem_cons_of_mem _ ht)
  · exact H t ht
theorem one1ucongr {i : AIns} (H : ∀ t ∈ insT i, nth tm t = nth tm' t) (h : Hp) : one1 i tm h = one1 i tm' h := by
  unfold one1; rw [wantedA_congr H, aop_congr (insT_op H)]
theorem al1ucongr {i : AIns} (H : ∀ t ∈ insT i, nth tm t = nth tm' t) (k : Nat) : al1 i tm k = al1 i tm' k := by
  unfold al1; rw [wantedA_congr H, allocV_congr (insT_op H)]
theorem ld1ucongr {i : AIns} (H : ∀ t ∈ insT i, nth tm t = nth tm' t) (gf : CallF) (dfr : Bool) (df : List ADef) (h : Hp) (cm : AMode) : ld1 gf dfr i tm df h cm = ld1 gf dfr i tm' df h cm := by
  unfold ld1; rw [wantedA_congr H, aop_congr (insT_op H)]
end

/-! ### Equal values -/
theorem strEq_eq' : ∀ {a b : List UInt8}, strEq a b = true → a = b
  | [], [], _ => rfl
  | [], _ :: _, h => by simp [strEq] at h
  | _ :: _, [], h => by simp [strEq] at h
  | a :: x, b :: y, h => by
    simp only [strEq, Bool.and_eq_true] at h
    have h1 : a.toNat = b.toNat := Nat.eq_of_beq_eq_true h.1
    rw [UInt8.toNat_inj.1 h1, strEq_eq' h.2]
mutual
theorem veq_eq : ∀ (a b : AVal), veq a b = true → a = b
  | a, b, h => by
    cases a <;> cases b <;> try (simp [veq] at h; done)
    case bool.bool => simp [veq] at h; rw [h]
    case int.int => simp [veq] at h; rw [h.1, h.2]
    case str.str => simp only [veq] at h; rw [strEq_eq' h]
    case nilp.nilp => rfl
    case ptr.ptr => simp only [veq, Bool.and_eq_true] at h; rw [Nat.eq_of_beq_eq_true h.1, Nat.eq_of_beq_eq_true h.2]
    case nils.nils => rfl
    case sl.sl g o n c g' o' n' c' =>
      simp only [veq, Bool.and_eq_true] at h
      rw [Nat.eq_of_beq_eq_true h.1.1.1, Nat.eq_of_beq_eq_true h.1.1.2, Nat.eq_of_beq_eq_true h.1.2]
      cases c <;> cases c' <;> simp at h
      · rfl
      · rw [h.2]
    case nilm.nilm => rfl
    case map.map => simp only [veq] at h; rw [Nat.eq_of_beq_eq_true h]
    case nilf.nilf => rfl
    case nili.nili => rfl
    case fn.fn f a c f' a' c' =>
      cases f <;> cases f' <;> try (simp [veq] at h; done)
      simp only [veq, Bool.and_eq_true] at h
      rw [Nat.eq_of_beq_eq_true h.1.1, veqL_eq _ _ h.1.2, veqL_eq _ _ h.2]
    case ifc.ifc => simp only [veq, Bool.and_eq_true] at h; rw [Nat.eq_of_beq_eq_true h.1, veq_eq _ _ h.2]
    case agg.agg => simp only [veq] at h; rw [veqL_eq _ _ h]
    case tup.tup => simp only [veq] at h; rw [veqL_eq _ _ h]
theorem veqL_eq : ∀ (a b : List AVal), veqL a b = true → a = b
  | [], [], _ => rfl
  | [], _ :: _, h => by simp [veqL] at h
  | _ :: _, [], h => by simp [veqL] at h
  | a :: l, b :: l', h => by
    simp only [veqL, Bool.and_eq_true] at h
    rw [veq_eq a b h.1, veqL_eq l l' h.2]
end
end Go.Am

/- The abstract machine, part 22: what a checked plan says. Conditions: none. -/
namespace Go.Am

/-! ### Who comes before whom -/
theorem ancRow_bit (acc : List Nat) (i : Nat) : ∀ ps : List Nat, Nat.testBit (ancRow acc ps) i = true → ∃ m ∈ ps, m = i ∨ Nat.testBit ((nth acc m).getD 0) i = true
  | [], h => by simp [ancRow] at h
  | m :: ps, h => by
    simp only [ancRow] at h
    rw [show Nat.lor (Nat.lor (ancRow acc ps) (Nat.shiftLeft 1 m)) ((nth acc m).getD 0) = ((ancRow acc ps) ||| (1 <<< m)) ||| ((nth acc m).getD 0) from rfl] at h
    simp only [Nat.testBit_or, Bool.or_eq_true] at h
    rcases h with (h | h) | h
    · obtain ⟨m', h1, h2⟩ := ancRow_bit acc i ps h; exact ⟨m', List.mem_cons_of_mem _ h1, h2⟩
    · refine ⟨m, List.mem_cons_self, .inl ?_⟩
      rw [Nat.one_shiftLeft, Nat.testBit_two_pow] at h
      simpa using h
    · exact ⟨m, List.mem_cons_self, .inr h⟩

theorem ancs_take : ∀ (pre : List (List Nat)) (acc : List Nat), (ancs pre acc).take acc.length = acc
  | [], acc => by simp [ancs]
  | ps :: l, acc => by
    simp only [ancs, cat_eq]
    have := ancs_take l (acc ++ [ancRow acc ps])
    have h2 := congrArg (List.take acc.length) this
    rw [List.take_take] at h2
    simpa using h2
theorem ancs_get : ∀ (pre : List (List Nat)) (acc : List Nat) (d : Nat) (ps : List Nat), pre[d]? = some ps → (ancs pre acc)[acc.length + d]? = some (ancRow ((ancs pre acc).take (acc.length + d)) ps)
  | [], acc, d, ps, h => by simp at h
  | qs :: l, acc, 0, ps, h => by
    simp at h; subst h
    simp only [ancs, cat_eq, Nat.add_zero]
    have h1 := ancs_take l (acc ++ [ancRow acc qs])
    have h2 : (ancs l (acc ++ [ancRow acc qs])).take acc.length = acc := by
      have := congrArg (List.take acc.length) h1
      rw [List.take_take] at this
      simpa using this
    rw [h2]
    have h3 := congrArg (·[acc.length]?) h1
    simp only [List.length_append, List.length_cons, List.length_nil] at h3
    rw [List.getElem?_take_of_lt (by omega)] at h3
    rw [h3]; simp
  | qs :: l, acc, d + 1, ps, h => by
    simp only [ancs, cat_eq]
    have := ancs_get l (acc ++ [ancRow acc qs]) d ps (by simpa using h)
    simp only [List.length_append, List.length_cons, List.length_nil] at this
    rw [show acc.length + (d + 1) = acc.length + (0 + 1) + d from by omega]
    exact this
theorem ancs_len : ∀ (pre : List (List Nat)) (acc : List Nat), (ancs pre acc).length = acc.length + pre.length
  | [], acc => by simp [ancs]
  | ps :: l, acc => by simp only [ancs, cat_eq]; rw [ancs_len l]; simp; omega

/-- A set that holds what stands directly before its members holds all that stands before them. -/
theorem has_closed {pre : List (List Nat)} {S : Nat → Prop} (cl : ∀ j ps, pre[j]? = some ps → S j → ∀ m ∈ ps, S m) : ∀ (j i : Nat), S j → has (ancs pre []) j i = true → S i := by
  intro j
  induction j using Nat.strongRecOn with
  | _ j ih =>
    intro i hj h
    unfold has at h
    rw [nth_eq] at h
    cases hp : pre[j]? with
    | none =>
      have h1 : pre.length ≤ j := List.getElem?_eq_none_iff.1 hp
      have h2 : (ancs pre [])[j]? = none := by rw [List.getElem?_eq_none_iff, ancs_len]; simpa using h1
      rw [h2] at h; simp at h
    | some ps =>
      have h1 := ancs_get pre [] j ps hp
      simp only [List.length_nil, Nat.zero_add] at h1
      rw [h1] at h
      obtain ⟨m, hm, h2⟩ := ancRow_bit _ i ps h
      have hSm := cl j ps hp hj m hm
      rcases h2 with rfl | h2
      · exact hSm
      · rw [nth_eq, List.getElem?_take] at h2
        split at h2
        · next hlt => exact ih m hlt i hSm (by unfold has; rw [nth_eq]; exact h2)
        · simp at h2

/-! ### Sets of numbers -/
theorem inM_add {d n m : Nat} : inM (addM d n) m = true ↔ m = n ∨ inM d m = true := by
  unfold inM addM
  rw [show Nat.lor d (Nat.shiftLeft 1 n) = d ||| (1 <<< n) from rfl, Nat.testBit_or, Nat.one_shiftLeft, Nat.testBit_two_pow]
  simp only [Bool.or_eq_true, decide_eq_true_eq]
  constructor
  · rintro (h | h)
    · exact .inr h
    · exact .inl h.symm
  · rintro (h | h)
    · exact .inr h.symm
    · exact .inl h
theorem subM_mem {a d i : Nat} (h : subM a d = true) (hi : Nat.testBit a i = true) : inM d i = true := by
  unfold subM at h
  have h := Nat.eq_of_beq_eq_true h
  have h2 : a &&& d = a := h
  rw [← h2, Nat.testBit_and] at hi
  simp at hi
  exact hi.2
theorem inM_zero (m : Nat) : inM 0 m = false := by simp [inM]

/-! ### The facts of a checked plan -/
structure PlanOK (ops : List AIns) (pre : List (List Nat)) (kk : Nat) (plan : List IPh) : Prop where
  len : pre.length = ops.length
  lt : ∀ (j : Nat) (ps : List Nat), pre[j]? = some ps → ∀ m ∈ ps, m < j
  dep : ∀ j i t q, nth ops j = some i → t ∈ insT i → dstAt ops q = some t → has (ancs pre []) j q = true ∨ has (ancs pre []) q j = true
  dst : ∀ j q t, dstAt ops j = some t → dstAt ops q = some t → j = q
  cls : ∀ j, j < ops.length → pureAt ops j = true ∨ (alAt ops j = true ∧ ∃ k, (j, k) ∈ allAd plan ∧ memPR j k plan = true) ∨ (alAt ops j = false ∧ memL j plan = true)
  dis : distinctA (allAd plan) = true
  kk : ∀ x ∈ allAd plan, x.2 < kk
  ph : chkPh ops (ancs pre []) (List.range ops.length) none plan 0 = true

theorem dstAt_lt {ops : List AIns} {q t : Nat} (h : dstAt ops q = some t) : q < ops.length := by
  unfold dstAt at h
  rw [nth_eq] at h
  rcases Nat.lt_or_ge q ops.length with h1 | h1
  · exact h1
  · rw [List.getElem?_eq_none_iff.2 h1] at h; cases h

theorem chkPlan_ok {ops : List AIns} {pre : List (List Nat)} {kk : Nat} {plan : List IPh} (h : chkPlan ops pre kk plan = true) : PlanOK ops pre kk plan := by
  unfold chkPlan at h
  simp only [Bool.and_eq_true, ln_eq] at h
  obtain ⟨⟨⟨⟨⟨⟨⟨h1, h2⟩, h3⟩, h4⟩, h5⟩, h6⟩, h7⟩, h8⟩ := h
  have hl : pre.length = ops.length := Nat.eq_of_beq_eq_true h1
  refine ⟨hl, fun j ps hp m hm => ?_, fun j i t q hj ht hq => ?_, fun j q t hj hq => ?_, fun j hj => ?_, h6, fun x hx => ?_, h8⟩
  · have hlt : j < ops.length := by rw [← hl]; exact (List.getElem?_eq_some_iff.1 hp).1
    have := List.all_eq_true.1 h2 j (List.mem_range.2 hlt)
    rw [nth_eq, hp] at this
    exact Nat.le_of_ble_eq_true (List.all_eq_true.1 this m hm)
  · have hlt : j < ops.length := by rw [nth_eq] at hj; exact (List.getElem?_eq_some_iff.1 hj).1
    have := List.all_eq_true.1 h3 j (List.mem_range.2 hlt)
    rw [hj] at this
    have := List.all_eq_true.1 (List.all_eq_true.1 this t ht) q (List.mem_range.2 (dstAt_lt hq))
    simp only [hq, BEq.rfl, Bool.not_true, Bool.false_or, Bool.or_eq_true] at this
    exact this
  · have := List.all_eq_true.1 h4 j (List.mem_range.2 (dstAt_lt hj))
    rw [hj] at this
    have := List.all_eq_true.1 this q (List.mem_range.2 (dstAt_lt hq))
    simp only [hq, BEq.rfl, Bool.not_true, Bool.or_false] at this
    exact (Nat.eq_of_beq_eq_true this).symm
  · have := List.all_eq_true.1 h5 j (List.mem_range.2 hj)
    simp only [Bool.or_eq_true] at this
    rcases this with h | h
    · exact .inl h
    · right
      split at h
      · next ha =>
        obtain ⟨⟨q, k⟩, hq, h⟩ := List.any_eq_true.1 h
        simp only [Bool.and_eq_true] at h
        have := Nat.eq_of_beq_eq_true h.1
        subst this
        exact .inl ⟨ha, k, hq, h.2⟩
      · next ha => exact .inr ⟨by simpa using ha, h⟩
  · exact Nat.le_of_ble_eq_true (List.all_eq_true.1 h7 x hx)

theorem distinctA_ok : ∀ {l : List (Nat × Nat)}, distinctA l = true → ∀ a b, l = a ++ b → ∀ x ∈ a, ∀ y ∈ b, x.1 ≠ y.1 ∧ x.2 ≠ y.2
  | [], _, a, b, e, x, hx, y, hy => by
    have : a = [] := (List.append_eq_nil_iff.1 e.symm).1
    subst this; cases hx
  | z :: l, h, a, b, e, x, hx, y, hy => by
    simp only [distinctA, Bool.and_eq_true] at h
    cases a with
    | nil => cases hx
    | cons c a =>
      simp at e
      obtain ⟨rfl, rfl⟩ := e
      rcases List.mem_cons.1 hx with rfl | hx
      · have := List.all_eq_true.1 h.1 y (List.mem_append_right _ hy)
        simp only [Bool.and_eq_true, Bool.not_eq_true'] at this
        refine ⟨fun e => ?_, fun e => ?_⟩
        · rw [e] at this; simp at this
        · rw [e] at this; simp at this
      · exact distinctA_ok h.2 a b rfl x hx y hy

/-! ### The order that is looked at -/
section
variable {ops : List AIns} {pre : List (List Nat)} {kk : Nat} {plan : List IPh} {tm0 tmF : List AVal} {base j : Nat}

open Classical in
/-- What the place t holds when j runs. -/
noncomputable def vw (ops : List AIns) (pre : List (List Nat)) (tm0 tmF : List AVal) (j t : Nat) : Option AVal :=
  if ∃ q, dstAt ops q = some t ∧ has (ancs pre []) j q = true then nth tmF t else nth tm0 t
def ViewR (ops : List AIns) (pre : List (List Nat)) (tm0 tmF : List AVal) (j : Nat) (i : AIns) (X : List AVal) : Prop := ∀ t ∈ insT i, nth X t = vw ops pre tm0 tmF j t

structure Agr (ops : List AIns) (tm0 tmF : List AVal) (D : Nat → Prop) (tm : List AVal) : Prop where
  l1 : tm.length = tmF.length
  l0 : tm0.length = tmF.length
  new : ∀ t, (∀ q, dstAt ops q = some t → D q) → nth tm t = nth tmF t
  old : ∀ t, (∀ q, dstAt ops q = some t → ¬ D q) → nth tm t = nth tm0 t

theorem ViewR.of_agr (H : PlanOK ops pre kk plan) {D : Nat → Prop} {tm : List AVal} (A : Agr ops tm0 tmF D tm) {j : Nat} {i : AIns} (hi : nth ops j = some i) (hd : ∀ q, has (ancs pre []) j q = true → D q)
    (hn : ∀ t ∈ insT i, ∀ q, dstAt ops q = some t → has (ancs pre []) q j = true → has (ancs pre []) j q = false → ¬ D q) : ViewR ops pre tm0 tmF j i tm := by
  intro t ht
  unfold vw
  split
  · next h =>
    obtain ⟨q, h1, h2⟩ := h
    exact A.new t fun q' h' => by rw [H.dst q' q t h' h1]; exact hd q h2
  · next h =>
    refine A.old t fun q hq => ?_
    have hnq : has (ancs pre []) j q = false := by
      cases hb : has (ancs pre []) j q
      · rfl
      · exact absurd ⟨q, hq, hb⟩ h
    rcases H.dep j i t q hi ht hq with h1 | h1
    · rw [hnq] at h1; cases h1
    · exact hn t ht q hq h1 hnq

theorem ViewR.same {j : Nat} {i : AIns} {X Y : List AVal} (hx : ViewR ops pre tm0 tmF j i X) (hy : ViewR ops pre tm0 tmF j i Y) : ∀ t ∈ insT i, nth X t = nth Y t := fun t ht => (hx t ht).trans (hy t ht).symm

theorem putD_len (tm : List AVal) (dst : Option Nat) (v : AVal) : (putD tm dst v).length = tm.length := by
  cases dst <;> simp [putD, setN_eq]
theorem nth_putD (tm : List AVal) (dst : Option Nat) (v : AVal) (t : Nat) : nth (putD tm dst v) t = if dst = some t ∧ t < tm.length then some v else nth tm t := by
  cases dst with
  | none => simp [putD]
  | some d =>
    simp only [putD, setN_eq, nth_eq, List.getElem?_set, Option.some.injEq]
    by_cases h : d = t
    · subst h
      by_cases h2 : d < tm.length
      · simp [h2]
      · simp only [h2, and_false, if_false, if_true]; rw [List.getElem?_eq_none_iff.2 (Nat.le_of_not_lt h2)]
    · simp [h]
theorem nth_none {tm : List AVal} {t : Nat} (h : tm.length ≤ t) : nth tm t = none := by rw [nth_eq, List.getElem?_eq_none_iff.2 h]
theorem list_ext {a b : List AVal} (h : ∀ t, nth a t = nth b t) : a = b := List.ext_getElem? fun t => by have := h t; rwa [nth_eq, nth_eq] at this

/-- What is put stays. -/
theorem Agr.put_eq (H : PlanOK ops pre kk plan) {D : Nat → Prop} {tm : List AVal} {j : Nat} {i : AIns} (hi : nth ops j = some i) {v : AVal} (A : Agr ops tm0 tmF D (putD tm i.dst v)) (hj : D j) : putD tmF i.dst v = tmF := by
  refine list_ext fun t => ?_
  rw [nth_putD]
  split
  · next h =>
    obtain ⟨h1, h2⟩ := h
    have hd : dstAt ops j = some t := by unfold dstAt; rw [hi]; exact h1
    have := A.new t fun q hq => by rw [H.dst q j t hq hd]; exact hj
    rw [← this, nth_putD, if_pos ⟨h1, by rw [← putD_len tm i.dst v, A.l1]; exact h2⟩]
  · rfl
theorem Agr.back (H : PlanOK ops pre kk plan) {D D' : Nat → Prop} (hD : ∀ q, D' q ↔ q = j ∨ D q) {tm : List AVal} {i : AIns} (hi : nth ops j = some i) {v : AVal} (hj : ¬ D j) (A : Agr ops tm0 tmF D' (putD tm i.dst v))
    (h0 : ∀ t, (∀ q, dstAt ops q = some t → ¬ D q) → nth tm t = nth tm0 t) : Agr ops tm0 tmF D tm := by
  refine ⟨by rw [← putD_len tm i.dst v]; exact A.l1, A.l0, fun t ht => ?_, h0⟩
  have hne : i.dst ≠ some t := by
    intro he
    have hd : dstAt ops j = some t := by unfold dstAt; rw [hi]; exact he
    exact hj (ht j hd)
  have := A.new t fun q hq => (hD q).2 (.inr (ht q hq))
  rw [nth_putD, if_neg (fun h => hne h.1)] at this
  exact this
theorem old_put {D D' : Nat → Prop} (hD : ∀ q, D' q ↔ q = j ∨ D q) {tm : List AVal} {i : AIns} (hi : nth ops j = some i) {v : AVal}
    (h0 : ∀ t, (∀ q, dstAt ops q = some t → ¬ D q) → nth tm t = nth tm0 t) : ∀ t, (∀ q, dstAt ops q = some t → ¬ D' q) → nth (putD tm i.dst v) t = nth tm0 t := by
  intro t ht
  have hne : i.dst ≠ some t := by
    intro he
    have hd : dstAt ops j = some t := by unfold dstAt; rw [hi]; exact he
    exact ht j hd ((hD j).2 (.inl rfl))
  rw [nth_putD, if_neg (fun h => hne h.1)]
  exact h0 t fun q hq hd => ht q hq ((hD q).2 (.inr hd))
/-- One more is done. -/
theorem Agr.add (H : PlanOK ops pre kk plan) {D D' : Nat → Prop} (hD : ∀ q, D' q ↔ q = j ∨ D q) {tm : List AVal} {i : AIns} (hi : nth ops j = some i) {v : AVal} (A : Agr ops tm0 tmF D tm) (hv : putD tmF i.dst v = tmF) : Agr ops tm0 tmF D' (putD tm i.dst v) := by
  refine ⟨by rw [putD_len]; exact A.l1, A.l0, fun t ht => ?_, old_put hD hi A.old⟩
  rw [nth_putD]
  split
  · next h => rw [← hv, nth_putD, if_pos ⟨h.1, by rw [← A.l1]; exact h.2⟩]
  · next h =>
    by_cases he : i.dst = some t
    · have hlt : tm.length ≤ t := by
        rcases Nat.lt_or_ge t tm.length with h' | h'
        · exact absurd ⟨he, h'⟩ h
        · exact h'
      rw [nth_none hlt, nth_none (by rw [← A.l1]; exact hlt)]
    · refine A.new t fun q hq => ?_
      rcases (hD q).1 (ht q hq) with rfl | h1
      · unfold dstAt at hq; rw [hi] at hq; exact absurd hq he
      · exact h1

/-! The facts of each step, for whatever row of places agrees. -/
def OneF (ops : List AIns) (pre : List (List Nat)) (tm0 tmF : List AVal) (h : Hp) (j : Nat) : Prop := ∃ i v, nth ops j = some i ∧ (∀ X, ViewR ops pre tm0 tmF j i X → one1 i X h = some v) ∧ putD tmF i.dst v = tmF
def AlF (ops : List AIns) (pre : List (List Nat)) (tm0 tmF : List AVal) (base j k : Nat) (v : AVal) (ob : Option Obj) : Prop := ∃ i, nth ops j = some i ∧ (∀ X, ViewR ops pre tm0 tmF j i X → al1 i X (base + k) = some (v, ob)) ∧ putD tmF i.dst v = tmF
def ItF (ops : List AIns) (pre : List (List Nat)) (tm0 tmF : List AVal) (base : Nat) (h : Hp) : IW → Prop
  | .one j | .again j => OneF ops pre tm0 tmF h j
  | .res j k => ∃ v ob, AlF ops pre tm0 tmF base j k v ob
def AdF (ops : List AIns) (pre : List (List Nat)) (tm0 tmF : List AVal) (base : Nat) : List (Nat × Nat) → Hp → Hp → Prop
  | [], h, h1 => h1 = h
  | (j, k) :: l, h, h1 => ∃ i v ob, nth ops j = some i ∧ (∀ X, ViewR ops pre tm0 tmF j i X → al1 i X (base + k) = some (v, ob)) ∧
      AdF ops pre tm0 tmF base l (match ob with | some ob => ⟨h.m.put (base + k) (some ob), h.next⟩ | none => h) h1
def DFs (gf : CallF) (dfr : Bool) (ops : List AIns) (pre : List (List Nat)) (tm0 tmF : List AVal) (base : Nat) (fin : List ADef × Hp × AMode) : List IPh → List ADef → Hp → AMode → Prop
  | [], _, _, _ => False
  | p :: ps, df, h, cm => (∀ it ∈ p.win, ItF ops pre tm0 tmF base h it) ∧ ∃ h1, AdF ops pre tm0 tmF base p.adopt h h1 ∧
    match p.loud with
    | none => ps = [] ∧ fin = (df, h1, cm)
    | some x => ∃ i v df2 h2 cm2, nth ops x = some i ∧ (∀ X, ViewR ops pre tm0 tmF x i X → ld1 gf dfr i X df h1 cm = some (v, df2, h2, cm2)) ∧ putD tmF i.dst v = tmF ∧ DFs gf dfr ops pre tm0 tmF base fin ps df2 h2 cm2

def Clo (pre : List (List Nat)) (d : Nat) : Prop := ∀ j q, inM d j = true → has (ancs pre []) j q = true → inM d q = true
theorem Clo.add {d n : Nat} (C : Clo pre d) (h : subM (ancOf (ancs pre []) n) d = true) : Clo pre (addM d n) := by
  intro j q hj hq
  rcases inM_add.1 hj with rfl | hj
  · exact inM_add.2 (.inr (subM_mem h hq))
  · exact inM_add.2 (.inr (C j q hj hq))

theorem view_new (H : PlanOK ops pre kk plan) {d n : Nat} {tm : List AVal} {i : AIns} (hi : nth ops n = some i) (C : Clo pre d) (hn : inM d n = false) (hs : subM (ancOf (ancs pre []) n) d = true) (A : Agr ops tm0 tmF (fun q => inM d q = true) tm) : ViewR ops pre tm0 tmF n i tm :=
  .of_agr H A hi (fun q hq => subM_mem hs hq) fun t _ q _ h2 _ hq => by rw [C q n hq h2] at hn; cases hn
theorem view_again (H : PlanOK ops pre kk plan) {d n : Nat} {tm : List AVal} {i : AIns} (hi : nth ops n = some i) (hs : subM (ancOf (ancs pre []) n) d = true) (hy : notYet ops (ancs pre []) n d = true) (A : Agr ops tm0 tmF (fun q => inM d q = true) tm) : ViewR ops pre tm0 tmF n i tm :=
  .of_agr H A hi (fun q hq => subM_mem hs hq) fun t ht q hq h2 h3 h4 => by
    unfold notYet at hy
    rw [hi] at hy
    have := List.all_eq_true.1 (List.all_eq_true.1 hy t ht) q (List.mem_range.2 (by rw [ln_eq]; exact dstAt_lt hq))
    simp [hq, h3, h4] at this

theorem chkW_clo : ∀ {win : List IW} {d d' : Nat}, chkW ops (ancs pre []) win d = some d' → Clo pre d → Clo pre d' ∧ ∀ q, inM d q = true → inM d' q = true
  | [], d, d', h, C => by simp [chkW] at h; subst h; exact ⟨C, fun _ h => h⟩
  | .one n :: l, d, d', h, C => by
    simp only [chkW] at h
    split at h
    · next hc =>
      simp only [Bool.and_eq_true] at hc
      obtain ⟨h1, h2⟩ := chkW_clo h (C.add hc.2)
      exact ⟨h1, fun q hq => h2 q (inM_add.2 (.inr hq))⟩
    · cases h
  | .again n :: l, d, d', h, C => by
    simp only [chkW] at h
    split at h
    · exact chkW_clo h C
    · cases h
  | .res n k :: l, d, d', h, C => by
    simp only [chkW] at h
    split at h
    · next hc =>
      simp only [Bool.and_eq_true] at hc
      obtain ⟨h1, h2⟩ := chkW_clo h (C.add hc.2)
      exact ⟨h1, fun q hq => h2 q (inM_add.2 (.inr hq))⟩
    · cases h

/-- What holds before anything is done. -/
def Old (ops : List AIns) (tm0 : List AVal) (d : Nat) (tm : List AVal) : Prop := ∀ t, (∀ q, dstAt ops q = some t → ¬ inM d q = true) → nth tm t = nth tm0 t

theorem win_old : ∀ {win : List IW} {d d' : Nat} {tm tm' : List AVal} {h : Hp}, chkW ops (ancs pre []) win d = some d' → winA ops base win tm h = some tm' → Old ops tm0 d tm → Old ops tm0 d' tm'
  | [], d, d', tm, tm', h, hc, hw, o => by simp [chkW] at hc; simp [winA] at hw; subst hc; subst hw; exact o
  | .one n :: l, d, d', tm, tm', h, hc, hw, o => by
    simp only [chkW] at hc
    split at hc
    · simp only [winA] at hw
      split at hw
      · next i hi =>
        split at hw
        · next v hv => exact win_old hc hw (old_put (fun q => inM_add) hi o)
        · cases hw
      · cases hw
    · cases hc
  | .again n :: l, d, d', tm, tm', h, hc, hw, o => by
    simp only [chkW] at hc
    split at hc
    · simp only [winA] at hw
      split at hw
      · next i hi =>
        split at hw
        · next v hv =>
          split at hw
          · exact win_old hc hw o
          · cases hw
        · cases hw
      · cases hw
    · cases hc
  | .res n k :: l, d, d', tm, tm', h, hc, hw, o => by
    simp only [chkW] at hc
    split at hc
    · simp only [winA] at hw
      split at hw
      · next i hi =>
        split at hw
        · next v ob hv => exact win_old hc hw (old_put (fun q => inM_add) hi o)
        · cases hw
      · cases hw
    · cases hc

theorem win_ok (H : PlanOK ops pre kk plan) : ∀ {win : List IW} {d d' : Nat} {tm tm' : List AVal} {h : Hp}, chkW ops (ancs pre []) win d = some d' → winA ops base win tm h = some tm' → Clo pre d → Old ops tm0 d tm →
    Agr ops tm0 tmF (fun q => inM d' q = true) tm' → Agr ops tm0 tmF (fun q => inM d q = true) tm ∧ ∀ it ∈ win, ItF ops pre tm0 tmF base h it
  | [], d, d', tm, tm', h, hc, hw, C, o, A => by simp [chkW] at hc; simp [winA] at hw; subst hc; subst hw; exact ⟨A, by simp⟩
  | .one n :: l, d, d', tm, tm', h, hc, hw, C, o, A => by
    simp only [chkW] at hc
    split at hc
    · next hk =>
      simp only [Bool.and_eq_true, Bool.not_eq_true'] at hk
      simp only [winA] at hw
      split at hw
      · next i hi =>
        split at hw
        · next v hv =>
          obtain ⟨A1, F⟩ := win_ok H hc hw (C.add hk.2) (old_put (fun q => inM_add) hi o) A
          have A0 : Agr ops tm0 tmF (fun q => inM d q = true) tm := A1.back H (fun q => inM_add) hi (by rw [hk.1.2]; simp) o
          refine ⟨A0, fun it hit => ?_⟩
          rcases List.mem_cons.1 hit with rfl | hit
          · have hV := view_new H hi C hk.1.2 hk.2 A0
            exact ⟨i, v, hi, fun X hX => by rw [one1ucongr (hX.same hV)]; exact hv, A1.put_eq H hi (inM_add.2 (.inl rfl))⟩
          · exact F it hit
        · cases hw
      · cases hw
    · cases hc
  | .again n :: l, d, d', tm, tm', h, hc, hw, C, o, A => by
    simp only [chkW] at hc
    split at hc
    · next hk =>
      simp only [Bool.and_eq_true] at hk
      simp only [winA] at hw
      split at hw
      · next i hi =>
        split at hw
        · next v hv =>
          split at hw
          · next hsd =>
            obtain ⟨A0, F⟩ := win_ok H hc hw C o A
            refine ⟨A0, fun it hit => ?_⟩
            rcases List.mem_cons.1 hit with rfl | hit
            · have hV := view_again H hi hk.1.2 hk.2 A0
              refine ⟨i, v, hi, fun X hX => by rw [one1ucongr (hX.same hV)]; exact hv, ?_⟩
              have : putD tm i.dst v = tm := by
                refine list_ext fun t => ?_
                rw [nth_putD]
                split
                · next hh =>
                  unfold sameD at hsd
                  rw [hh.1] at hsd
                  simp only at hsd
                  have : ∃ u, nth tm t = some u := ⟨tm[t]'hh.2, by rw [nth_eq]; simp⟩
                  obtain ⟨u, hu⟩ := this
                  rw [hu] at hsd
                  rw [hu, veq_eq u v hsd]
                · rfl
              exact Agr.put_eq H hi (this.symm ▸ A0) hk.1.1.2
            · exact F it hit
          · cases hw
        · cases hw
      · cases hw
    · cases hc
  | .res n k :: l, d, d', tm, tm', h, hc, hw, C, o, A => by
    simp only [chkW] at hc
    split at hc
    · next hk =>
      simp only [Bool.and_eq_true, Bool.not_eq_true'] at hk
      simp only [winA] at hw
      split at hw
      · next i hi =>
        split at hw
        · next v ob hv =>
          obtain ⟨A1, F⟩ := win_ok H hc hw (C.add hk.2) (old_put (fun q => inM_add) hi o) A
          have A0 : Agr ops tm0 tmF (fun q => inM d q = true) tm := A1.back H (fun q => inM_add) hi (by rw [hk.1.2]; simp) o
          refine ⟨A0, fun it hit => ?_⟩
          rcases List.mem_cons.1 hit with rfl | hit
          · have hV := view_new H hi C hk.1.2 hk.2 A0
            exact ⟨v, ob, i, hi, fun X hX => by rw [al1ucongr (hX.same hV)]; exact hv, A1.put_eq H hi (inM_add.2 (.inl rfl))⟩
          · exact F it hit
        · cases hw
      · cases hw
    · cases hc

theorem adopt_ok (H : PlanOK ops pre kk plan) {d : Nat} {tm : List AVal} (A : Agr ops tm0 tmF (fun q => inM d q = true) tm) : ∀ {l : List (Nat × Nat)} {h h1 : Hp},
    (l.all fun q => inM d q.1 && subM (ancOf (ancs pre []) q.1) d && alAt ops q.1 && notYet ops (ancs pre []) q.1 d) = true → Jw ops base l tm h = some h1 → AdF ops pre tm0 tmF base l h h1
  | [], h, h1, _, e => by simp [Jw] at e; simp [AdF, e]
  | (j, k) :: l, h, h1, hc, e => by
    simp only [List.all_cons, Bool.and_eq_true] at hc
    simp only [Jw] at e
    split at e
    · next i hi =>
      have hV := view_again H hi hc.1.1.1.2 hc.1.2 A
      split at e
      · next v ob hv => exact ⟨i, v, some ob, hi, fun X hX => by rw [al1ucongr (hX.same hV)]; exact hv, adopt_ok H A hc.2 e⟩
      · next v hv => exact ⟨i, v, none, hi, fun X hX => by rw [al1ucongr (hX.same hV)]; exact hv, adopt_ok H A hc.2 e⟩
      · cases e
    · cases e

theorem plan_ok (H : PlanOK ops pre kk plan) {gf : CallF} {dfr : Bool} : ∀ {ps : List IPh} {prev : Option Nat} {d : Nat} {tm : List AVal} {df : List ADef} {h : Hp} {cm : AMode} {dfF : List ADef} {hF : Hp} {cmF : AMode},
    chkPh ops (ancs pre []) (List.range ops.length) prev ps d = true → dregA gf dfr ops base ps ⟨tm, df⟩ h cm = some (⟨tmF, dfF⟩, hF, cmF) → Clo pre d → Old ops tm0 d tm → tm0.length = tm.length →
    Agr ops tm0 tmF (fun q => inM d q = true) tm ∧ DFs gf dfr ops pre tm0 tmF base (dfF, hF, cmF) ps df h cm
  | [], prev, d, tm, df, h, cm, dfF, hF, cmF, hc, e, C, o, hl => by simp [chkPh] at hc
  | p :: ps, prev, d, tm, df, h, cm, dfF, hF, cmF, hc, e, C, o, hl => by
    simp only [chkPh] at hc
    split at hc
    · cases hc
    · next d1 hd1 =>
      simp only [Bool.and_eq_true] at hc
      obtain ⟨⟨_, hca⟩, hcl⟩ := hc
      have hca' := hca
      simp only [dregA] at e
      split at e
      · cases e
      · next tm1 htm1 =>
        split at e
        · cases e
        · next h1 hh1 =>
          have C1 := (chkW_clo hd1 C).1
          have o1 := win_old hd1 htm1 o
          have hl1 : tm0.length = tm1.length := by
            rw [hl]
            have : ∀ {win : List IW} {tm tm' : List AVal}, winA ops base win tm h = some tm' → tm'.length = tm.length := by
              intro win
              induction win with
              | nil => intro tm tm' hw; simp [winA] at hw; rw [hw]
              | cons it l ih =>
                intro tm tm' hw
                cases it with
                | one n =>
                  simp only [winA] at hw
                  split at hw
                  · split at hw
                    · rw [ih hw, putD_len]
                    · cases hw
                  · cases hw
                | again n =>
                  simp only [winA] at hw
                  split at hw
                  · split at hw
                    · split at hw
                      · exact ih hw
                      · cases hw
                    · cases hw
                  · cases hw
                | res n k =>
                  simp only [winA] at hw
                  split at hw
                  · split at hw
                    · rw [ih hw, putD_len]
                    · cases hw
                  · cases hw
            exact (this htm1).symm
          split at e
          · next hl2 =>
            rw [hl2] at hcl
            simp only at hcl
            split at hcl
            · next hps =>
              simp only at e
              cases e
              have A1 : Agr ops tm0 tmF (fun q => inM d1 q = true) tmF := ⟨rfl, hl1, fun _ _ => rfl, o1⟩
              obtain ⟨A0, F⟩ := win_ok (tmF := tmF) H hd1 htm1 C o A1
              refine ⟨A0, F, hF, adopt_ok H A1 hca hh1, ?_⟩
              rw [hl2]
              exact ⟨rfl, rfl⟩
            · cases hcl
          · next x hx =>
            rw [hx] at hcl
            simp only [Bool.and_eq_true, Bool.not_eq_true'] at hcl
            obtain ⟨⟨⟨⟨⟨⟨hcp, hcal⟩, hcn⟩, hcs⟩, hcad⟩, hclat⟩, hcps⟩ := hcl
            split at e
            · cases e
            · next i hi =>
              split at e
              · next v df2 h2 cm2 hv =>
                obtain ⟨A2, F2⟩ := plan_ok H hcps e (C1.add hcs) (old_put (fun q => inM_add) hi o1) (by rw [putD_len]; exact hl1)
                have A1 : Agr ops tm0 tmF (fun q => inM d1 q = true) tm1 := A2.back H (fun q => inM_add) hi (by rw [hcn]; simp) o1
                obtain ⟨A0, F⟩ := win_ok H hd1 htm1 C o A1
                refine ⟨A0, F, h1, adopt_ok H A1 hca hh1, ?_⟩
                rw [hx]
                have hV := view_new H hi C1 hcn hcs A1
                exact ⟨i, v, df2, h2, cm2, hi, fun X hX => by rw [ld1ucongr (hX.same hV)]; exact hv, A2.put_eq H hi (inM_add.2 (.inl rfl)), F2⟩
              · cases e
end
end Go.Am
end
