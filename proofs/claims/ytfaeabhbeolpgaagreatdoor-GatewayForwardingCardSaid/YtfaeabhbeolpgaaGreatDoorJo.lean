/- The law on forwarding, called in the model. Conditions: none. -/
import Derived.Test.YtfaeabhbeolpgaaGreatDoorSc3
import Derived.Test.YtfaeabhbeolpgaaGreatDoorSan3
import Derived.Test.YtfaeabhbeolpgaaGreatDoorBr3
import Derived.Below
set_option linter.all false
noncomputable section
set_option maxRecDepth 100000
namespace Go.Proofs.YtfaeabhbeolpgaaGreatDoor
open Go Go.Am Go.RowKit
noncomputable section

theorem only_mSan : Only (memoO mSan) := by
  intro f a h hf
  unfold memoO
  rw [show mSan.f = 4 from rfl, hf]
  rfl
theorem san_mSan : San (memoO mSan) := by
  intro h
  unfold memoO
  rfl
theorem below_of_fr {ι ι' : Gh} {h h' : Hp} {w w' : World} (F : Fr ι h w ι' h' w') (hn : ∀ B, ¬ Own ι h B) : Below w.heap.size w w' :=
  ⟨F.os, F.tp, F.out, F.sz, fun k hk => F.fr k hk (hn k)⟩

theorem law_any {H : Type} {enc : TypeId × Value → H} {W : World} {base : Nat} {v0 v1 v2 : Value} {d0 d1 d2 : DataW H} {p0 p1 p2 : List MemPlace} (hW : 0 < W.heap.size)
    (o0 : Value.okWide Tryz.prog W .any base 26 v0) (o1 : Value.okWide Tryz.prog W .any base 29 v1) (o2 : Value.okWide Tryz.prog W .any base 30 v2)
    (h0 : DataW.Trod enc Tryz.prog W 0 (fun _ => true) true 26 v0 d0 p0) (h1 : DataW.Trod enc Tryz.prog W 0 (fun _ => true) true 29 v1 d1 p1) (h2 : DataW.Trod enc Tryz.prog W 0 (fun _ => true) true 30 v2 d2 p2) :
    Calls Tryz.prog 3 #[v0, v1, v2] W (fun e W' => e = .returned (.bool true) ∧ Below W.heap.size W W') := by
  obtain ⟨ι, h, vc, vr, ve, rv, D, x, vm, k, f, R, hva, N, M, hk, hx, hno⟩ := bridge hW o0 o1 o2 h0 h1 h2
  obtain ⟨v, h', ⟨n, r⟩, rfl, _⟩ := c3 only_mSan san_mSan N x hx M hk
  have hc := callTo_of_evO hmix sanO_ok E0uok (r n (Nat.le_refl n))
  refine (calls_of_callTo hc R hva).mono fun e W' => ?_
  rintro ⟨ι', V, rfl, hV, _, F⟩
  simp only [VR] at hV
  subst hV
  exact ⟨rfl, below_of_fr F hno⟩
end
end Go.Proofs.YtfaeabhbeolpgaaGreatDoor
end
