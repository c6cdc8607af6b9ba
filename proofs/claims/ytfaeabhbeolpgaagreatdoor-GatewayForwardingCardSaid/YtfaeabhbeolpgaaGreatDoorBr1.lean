/- From a reading of slices to an abstract heap. Conditions: none. -/
import Derived.Test.YtfaeabhbeolpgaaGreatDoorSy3
import Derived.ProofKit
import Derived.OpenShut
set_option linter.all false
noncomputable section
namespace Go.Am
open Go
noncomputable section

def mkT {α : Type} (f : Nat → α) : Nat → Tree α
  | 0 => .leaf
  | n + 1 => (mkT f n).put n (some (f n))
theorem mkT_get {α : Type} (f : Nat → α) : ∀ (n j : Nat), (mkT f n).get j = if j < n then some (f j) else none
  | 0, j => by simp [mkT, Tree.get_leaf]
  | n + 1, j => by
    rw [mkT, Tree.get_put, mkT_get f n j]
    by_cases h : j = n
    · subst h; simp
    · rw [if_neg h]
      by_cases h' : j < n
      · rw [if_pos h', if_pos (by omega)]
      · rw [if_neg h', if_neg (by omega)]

structure Sl1 where
  k : Nat
  n : Nat
  f : Nat → List AVal
  i : Inf
def Sl1.ob (s : Sl1) : Obj := .cells (mkT s.f s.n) (List.replicate s.k (.bool false)) s.k s.n false
def hpOf (S : Nat → Sl1) (M : Nat) : Hp := ⟨mkT (fun g => (S g).ob) M, M⟩
def ghOf (S : Nat → Sl1) (M : Nat) : Gh := fun g => if g < M then some (S g).i else none
def Sl1.ok (s : Sl1) (ι : Gh) (W : World) : Prop := s.i.b < W.heap.size ∧ s.i.k = s.k ∧ 0 < s.k ∧ ∀ j, j < s.n → (s.f j).length = s.k ∧ ∃ L, VRL ι (s.f j) L ∧ ∀ q, q < s.k → W.cell? ⟨s.i.b, (j * s.k + q) + s.i.d, none⟩ = L[q]?

theorem vrl_nth {ι : Gh} : ∀ {l : List AVal} {L : List Value} (q : Nat), VRL ι l L → q < l.length → ∃ v V, nth l q = some v ∧ L[q]? = some V ∧ VR ι v V
  | [], L, q, h, hq => by simp at hq
  | a :: l, L, q, h, hq => by
    simp only [VRL] at h
    obtain ⟨V, L', rfl, h2, h3⟩ := h
    cases q with
    | zero => exact ⟨a, V, rfl, rfl, h2⟩
    | succ q =>
      obtain ⟨v, V', e1, e2, e3⟩ := vrl_nth q h3 (by simpa using hq)
      exact ⟨v, V', e1, by simpa using e2, e3⟩
theorem elemAt_mkT (f : Nat → List AVal) (z : List AVal) (n j : Nat) : elemAt (mkT f n) z j = if j < n then f j else z := by
  unfold elemAt
  rw [mkT_get]
  by_cases h : j < n
  · rw [if_pos h, if_pos h]
  · rw [if_neg h, if_neg h]

theorem Sl1.ok.obj {s : Sl1} {ι : Gh} {W : World} (x : s.ok ι W) : ObjOK ι s.ob s.i W := by
  obtain ⟨h1, h2, h3, h4⟩ := x
  refine ⟨h1, ⟨by simp, fun e => ?_⟩, h2, fun j hj => ?_, fun h => by cases h⟩
  · rw [elemAt_mkT]
    by_cases he : e < s.n
    · rw [if_pos he]; exact (h4 e he).1
    · rw [if_neg he]; simp
  · have hq : j % s.k < s.k := Nat.mod_lt _ h3
    have hd : j / s.k < s.n := (Nat.div_lt_iff_lt_mul h3).2 hj
    obtain ⟨hl, L, hL, hc⟩ := h4 _ hd
    obtain ⟨v, V, e1, e2, e3⟩ := vrl_nth (j % s.k) hL (by rw [hl]; exact hq)
    refine ⟨v, V, ?_, ?_, e3⟩
    · unfold cellAt'
      rw [elemAt_mkT, if_pos hd]; exact e1
    · have := hc _ hq
      rw [Nat.div_add_mod' j s.k] at this
      rw [this]; exact e2

theorem rel_of {G : Nat → Option Nat} (hG : ∀ x, G x = none) {S : Nat → Sl1} {M : Nat} {W : World} (h : ∀ g, g < M → (S g).ok (ghOf S M) W) : Rel G (ghOf S M) (hpOf S M) W := by
  refine ⟨fun g o hg => ?_, fun g hg => ?_, fun g g' o o' i i' h1 h2 h3 h4 how _ => ?_, fun x g hx => by rw [hG] at hx; cases hx⟩
  · simp only [hpOf, mkT_get] at hg
    by_cases hM : g < M
    · rw [if_pos hM] at hg
      cases hg
      exact ⟨(S g).i, by simp [ghOf, hM], (h g hM).obj⟩
    · rw [if_neg hM] at hg; cases hg
  · have : ¬ g < M := by simpa [hpOf] using hg
    simp [ghOf, this]
  · simp only [hpOf, mkT_get] at h1
    by_cases hM : g < M
    · rw [if_pos hM] at h1
      cases h1
      cases how
    · rw [if_neg hM] at h1; cases h1

theorem noOwn {S : Nat → Sl1} {M B : Nat} : ¬ Own (ghOf S M) (hpOf S M) B := by
  rintro ⟨g, o, i, h1, how, _⟩
  simp only [hpOf, mkT_get] at h1
  by_cases hM : g < M
  · rw [if_pos hM] at h1
    cases h1
    cases how
  · rw [if_neg hM] at h1; cases h1

theorem sln_of {S : Nat → Sl1} {M g : Nat} {ι : Gh} {W : World} (hg : g < M) (x : (S g).ok ι W) {v : AVal} (hv : ((S g).n = 0 ∧ v = .nils) ∨ ∃ c, v = .sl g 0 (S g).n (some c)) : SlN (hpOf S M) (S g).k v (S g).n (S g).f := by
  rcases hv with ⟨h1, h2⟩ | ⟨c, hc⟩
  · exact .inl ⟨h2, h1⟩
  · refine .inr ⟨g, 0, some c, mkT (S g).f (S g).n, List.replicate (S g).k (.bool false), (S g).n, false, ?_, hg, x.2.2.1, ?_, by omega, fun j hj => ⟨?_, (x.2.2.2 j hj).1⟩⟩
    · rw [Nat.zero_mul]; exact hc
    · simp only [hpOf, mkT_get]
      rw [if_pos hg]; rfl
    · rw [elemAt_mkT, Nat.zero_add, if_pos hj]

section
variable {H : Type} {enc : TypeId × Value → H} {P : Program} {W : World}

theorem cells_get {a : Addr} {k : Nat} {L : List Value} (h : W.cells? 0 a k = some L) : L.length = k ∧ ∀ q, q < k → W.cell? (a.add q) = L[q]? := by
  unfold World.cells? at h
  rw [if_pos (Nat.zero_le _)] at h
  refine ⟨by simpa using mapM_some_length h, fun q hq => mapM_some_get h q q (by simp [hq])⟩
theorem spot_of {a : Addr} {V : Value} (h : W.cell? a = some V) : a.spot = none ∧ a.block < W.heap.size := by
  unfold World.cell? at h
  split at h
  · next hc =>
    refine ⟨?_, ?_⟩
    · by_cases hs : a.spot.isSome = true
      · rw [if_pos hs] at h; cases h
      · simpa using hs
    · exact (Array.getElem?_eq_some_iff.1 hc).1
  · cases h
theorem add_of {a : Addr} (h : a.spot = none) (q : Nat) : a.add q = ⟨a.block, q + a.off, none⟩ := by
  obtain ⟨b, o, s⟩ := a
  simp only at h
  subst h
  unfold Addr.add
  by_cases hq : q = 0
  · subst hq; simp
  · rw [if_neg hq]; simp [Nat.add_comm]

theorem add_zero (a : Addr) : a.add 0 = a := by simp [Addr.add]
theorem first_of {a : Addr} {k m : Nat} {e : TypeId} {held : Bool} {spare : Nat → Bool} {y : DataW H × List MemPlace} (h0k : 0 < k) (h : (W.cells? 0 a k).bind (DataW.trod enc P W 0 spare held m e) = some y) : a.spot = none ∧ a.block < W.heap.size := by
  obtain ⟨L, hL, _⟩ := Option.bind_eq_some_iff.1 h
  obtain ⟨hl, hc⟩ := cells_get hL
  have := hc 0 h0k
  rw [add_zero, List.getElem?_eq_getElem (by omega)] at this
  exact spot_of this

theorem sl_gen {t e : TypeId} {k fuel : Nat} {held : Bool} {cs : List Value} {x : DataW H × List MemPlace} (ht : P.underlying t = some (.slice e)) (hk : P.cellsOf e = k) (h0k : 0 < k) (hW : 0 < W.heap.size) (h : DataW.trod enc P W 0 (fun _ => true) held fuel t cs = some x) :
    ∃ (V : Value) (n : Nat) (i : Inf) (sv : Nat → AVal), cs = [V] ∧ i.b < W.heap.size ∧ i.k = k ∧ n < 2 ^ 63 ∧
      (∀ j, j < n → ∃ (L : List Value) (m : Nat) (y : DataW H × List MemPlace), L.length = k ∧ (∀ q, q < k → W.cell? ⟨i.b, (j * k + q) + i.d, none⟩ = L[q]?) ∧ DataW.trod enc P W 0 (fun _ => true) held m e L = some y) ∧
      (∀ g (ι : Gh), ι g = some i → VR ι (sv g) V) ∧ ∀ g, (n = 0 ∧ sv g = .nils) ∨ ∃ c, sv g = .sl g 0 n (some c) := by
  subst hk
  rcases DataW.trod_slice ht h with ⟨rfl, _⟩ | ⟨a, len, cap, elems, rest, n, _, rfl, _, _, hlc, hcap, hel, he, hr, _⟩
  · exact ⟨_, 0, ⟨0, 0, P.cellsOf e, 0⟩, fun _ => .nils, rfl, hW, rfl, by decide, fun j hj => absurd hj (by omega), fun g ι _ => by simp [VR], fun g => .inl ⟨rfl, rfl⟩⟩
  · by_cases hc0 : cap = 0
    · subst hc0
      obtain rfl : len = 0 := by omega
      exact ⟨_, 0, ⟨0, 0, P.cellsOf e, 0⟩, fun g => .sl g 0 0 (some 0), rfl, hW, rfl, by decide, fun j hj => absurd hj (by omega), fun g ι _ => by simp [VR], fun g => .inr ⟨0, rfl⟩⟩
    · have hs : a.spot = none ∧ a.block < W.heap.size := by
        by_cases hl0 : len = 0
        · subst hl0
          obtain ⟨r1, r2⟩ := hr rfl
          have := r2 0 (by omega)
          rw [List.getElem?_eq_getElem (by omega)] at this
          simp only [Nat.zero_add, Nat.zero_mul, add_zero] at this
          exact first_of h0k this
        · have := he 0 (by omega)
          rw [List.getElem?_eq_getElem (by omega)] at this
          simp only [Nat.zero_mul, add_zero] at this
          exact first_of h0k this
      refine ⟨_, len, ⟨a.block, a.off, P.cellsOf e, 0⟩, fun g => .sl g 0 len (some cap), rfl, hs.2, rfl, ?_, fun j hj => ?_, fun g ι hg => ?_, fun g => .inr ⟨cap, rfl⟩⟩
      · unfold maxLen at hcap; omega
      · have := he j hj
        rw [List.getElem?_eq_getElem (by omega)] at this
        obtain ⟨L, hL, hy⟩ := Option.bind_eq_some_iff.1 this
        obtain ⟨hl, hc⟩ := cells_get hL
        refine ⟨L, n, _, hl, fun q hq => ?_, hy⟩
        rw [← hc q hq, add_of hs.1, add_of (by rfl)]
        show W.cell? ⟨a.block, (j * P.cellsOf e + q) + a.off, none⟩ = W.cell? ⟨a.block, q + (j * P.cellsOf e + a.off), none⟩
        congr 2
        omega
      · simp only [VR]
        refine .inl ⟨_, hg, hlc, ?_⟩
        obtain ⟨b, o, s⟩ := a
        obtain ⟨rfl, _⟩ := hs
        simp
end
end
end Go.Am
end
