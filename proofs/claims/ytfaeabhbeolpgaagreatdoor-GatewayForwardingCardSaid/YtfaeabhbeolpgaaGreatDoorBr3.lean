/- The three arguments, read, as an abstract heap: the whole. Conditions: none. -/
import Derived.Test.YtfaeabhbeolpgaaGreatDoorBr2
set_option linter.all false
noncomputable section
set_option maxRecDepth 100000
namespace Go.Proofs.YtfaeabhbeolpgaaGreatDoor
open Go Go.Am Go.WideShapes Go.RowKit Go.ChangeShapes
noncomputable section

section
variable {H : Type} {enc : TypeId × Value → H} {W : World}

def mkS (nc m ne km : Nat) (C : Nat → Nat → Nat) (rv : Nat → AVal) (E : Nat → Bool) (f : Nat → Nat) (D : ND) (n : Nat → Nat) (ic ir ie im : Inf) (iw : Nat → Inf) : Nat → Sl1
  | 0 => ⟨4, nc, fun j => cw (C j), ic⟩
  | 1 => ⟨1, m, fun s => [rv s], ir⟩
  | 2 => ⟨1, ne, fun j => [.bool (E j)], ie⟩
  | 3 => ⟨1, km, fun j => [.int .u8 (f j : Nat)], im⟩
  | s + 4 => ⟨3, n s, cellv D s, iw s⟩

theorem get1 {ι : Gh} {k : Nat} {i : Inf} {j : Nat} {L : List Value} {l : List AVal} (h1 : l.length = k) (h2 : VRL ι l L) (h3 : ∀ q, q < k → W.cell? ⟨i.b, (j * k + q) + i.d, none⟩ = L[q]?) :
    l.length = k ∧ ∃ L, VRL ι l L ∧ ∀ q, q < k → W.cell? ⟨i.b, (j * k + q) + i.d, none⟩ = L[q]? := ⟨h1, L, h2, h3⟩

theorem bridge {base : Nat} {v0 v1 v2 : Value} {d0 d1 d2 : DataW H} {p0 p1 p2 : List MemPlace} (hW : 0 < W.heap.size)
    (o0 : Value.okWide Tryz.prog W .any base 26 v0) (o1 : Value.okWide Tryz.prog W .any base 29 v1) (o2 : Value.okWide Tryz.prog W .any base 30 v2)
    (h0 : DataW.Trod enc Tryz.prog W 0 (fun _ => true) true 26 v0 d0 p0) (h1 : DataW.Trod enc Tryz.prog W 0 (fun _ => true) true 29 v1 d1 p1) (h2 : DataW.Trod enc Tryz.prog W 0 (fun _ => true) true 30 v2 d2 p2) :
    ∃ (ι : Gh) (h : Hp) (vc vr ve : AVal) (rv : Nat → AVal) (D : ND) (x : Nat → Nat) (vm : AVal) (k : Nat) (f : Nat → Nat),
      Rel G0 ι h W ∧ VRL ι [.agg [vc, vr, ve], .agg (rawv x), vm] [v0, v1, v2] ∧ NZ h vc vr ve rv D ∧ Msg h vm k f ∧ k < 2 ^ 63 ∧ (∀ i, x i < 256) ∧ ∀ B, ¬ Own ι h B := by
  obtain ⟨⟨cs0⟩, rfl, hs0⟩ := okWide_struct Tryz.underlying26 o0
  obtain ⟨⟨cs1⟩, rfl, hs1⟩ := okWide_struct Tryz.underlying29 o1
  obtain ⟨a2, l2, c2, rfl⟩ := okWide_slice Tryz.underlying30 o2
  obtain ⟨fu0, h0⟩ := h0
  obtain ⟨fu1, h1⟩ := h1
  obtain ⟨fu2, h2⟩ := h2
  have h0 : DataW.trod enc Tryz.prog W 0 (fun _ => true) true fu0 26 cs0 = some (d0, p0) := h0
  have h1 : DataW.trod enc Tryz.prog W 0 (fun _ => true) true fu1 29 cs1 = some (d1, p1) := h1
  have h2 : DataW.trod enc Tryz.prog W 0 (fun _ => true) true fu2 30 [.slice a2 l2 c2] = some (d2, p2) := h2
  obtain ⟨x, hx, hxv⟩ := el_raw h1
  obtain ⟨xs, n0, _, _, hl, hxl, he⟩ := DataW.trod_struct Tryz.underlying26 h0
  rw [kc26] at hl
  obtain ⟨A, B, C, rfl⟩ := list3 hl
  have hxl' : xs.length = 3 := hxl
  have g0 : DataW.trod enc Tryz.prog W 0 (fun _ => true) true n0 22 ((([A, B, C] : List Value).drop 0).take (Tryz.prog.cellsOf 22)) = xs[0]? := he 0 _ rfl
  have g1 : DataW.trod enc Tryz.prog W 0 (fun _ => true) true n0 23 ((([A, B, C] : List Value).drop 1).take (Tryz.prog.cellsOf 23)) = xs[1]? := he 1 _ rfl
  have g2 : DataW.trod enc Tryz.prog W 0 (fun _ => true) true n0 24 ((([A, B, C] : List Value).drop 2).take (Tryz.prog.cellsOf 24)) = xs[2]? := he 2 _ rfl
  rw [List.getElem?_eq_getElem (by omega)] at g0 g1 g2
  simp only [kc22, kc23, kc24] at g0 g1 g2
  obtain ⟨Vc, nc, ic, svc, eC, hbC, hkC, hnC, hC, hvC, hzC⟩ := sl_gen Tryz.underlying22 kc100 (by decide) hW g0
  obtain ⟨Vr, m, ir, svr, eR, hbR, hkR, hnR, hR, hvR, hzR⟩ := sl_gen Tryz.underlying23 kc65 (by decide) hW g1
  obtain ⟨Ve, ne, ie, sve, eE, hbE, hkE, hnE, hE, hvE, hzE⟩ := sl_gen Tryz.underlying24 kc4 (by decide) hW g2
  obtain ⟨Vm, km, im, svm, eM, hbM, hkM, hnM, hM, hvM, hzM⟩ := sl_gen Tryz.underlying30 kc5 (by decide) hW h2
  simp at eC eR eE eM
  subst eC eR eE
  -- the rows
  have rows : ∀ j, ∃ r : Value × Nat × Inf × (Nat → AVal), j < m → (∀ q, q < 1 → W.cell? ⟨ir.b, (j * 1 + q) + ir.d, none⟩ = [r.1][q]?) ∧ r.2.2.1.b < W.heap.size ∧ r.2.2.1.k = 3 ∧ r.2.1 < 2 ^ 63 ∧
      (∀ j', j' < r.2.1 → ∃ (L : List Value) (m' : Nat) (y : DataW H × List MemPlace), L.length = 3 ∧ (∀ q, q < 3 → W.cell? ⟨r.2.2.1.b, (j' * 3 + q) + r.2.2.1.d, none⟩ = L[q]?) ∧ DataW.trod enc Tryz.prog W 0 (fun _ => true) true m' 67 L = some y) ∧
      (∀ g (ι : Gh), ι g = some r.2.2.1 → VR ι (r.2.2.2 g) r.1) ∧ ∀ g, (r.2.1 = 0 ∧ r.2.2.2 g = .nils) ∨ ∃ c, r.2.2.2 g = .sl g 0 r.2.1 (some c) := by
    intro j
    by_cases hj : j < m
    · obtain ⟨L, m', y, _, hLc, hLt⟩ := hR j hj
      obtain ⟨V, n, i, sv, rfl, q1, q2, q3, q4, q5, q6⟩ := sl_gen Tryz.underlying65 kc67 (by decide) hW hLt
      exact ⟨(V, n, i, sv), fun _ => ⟨hLc, q1, q2, q3, q4, q5, q6⟩⟩
    · exact ⟨(.slice none 0 0, 0, ir, fun _ => .nils), fun h => absurd h hj⟩
  obtain ⟨row, hrow⟩ := Classical.axiomOfChoice rows
  -- the cells of the rows
  have cells : ∀ j : Nat × Nat, ∃ r : Int × Int × Nat, r.2.2 < 256 ∧ (j.1 < m → j.2 < (row j.1).2.1 → ∀ q, q < 3 → W.cell? ⟨(row j.1).2.2.1.b, (j.2 * 3 + q) + (row j.1).2.2.1.d, none⟩ = [Value.int .i64 r.1, .int .i64 r.2.1, .int .u8 (r.2.2 : Nat)][q]?) := by
    rintro ⟨s, j⟩
    by_cases hs : s < m
    · by_cases hj : j < (row s).2.1
      · obtain ⟨L, m', y, _, hLc, hLt⟩ := (hrow s hs).2.2.2.2.1 j hj
        obtain ⟨t, a, b, hb, rfl⟩ := el_cell hLt
        exact ⟨(t, a, b), hb, fun _ _ => hLc⟩
      · exact ⟨(0, 0, 0), by decide, fun _ h => absurd h hj⟩
    · exact ⟨(0, 0, 0), by decide, fun h => absurd h hs⟩
  obtain ⟨cel, hcel⟩ := Classical.axiomOfChoice cells
  have clss : ∀ j : Nat, ∃ r : (Nat → Nat), (∀ i, r i < 2 ^ 64) ∧ (j < nc → ∃ L : List Value, (∀ ι, VRL ι (cw r) L) ∧ ∀ q, q < 4 → W.cell? ⟨ic.b, (j * 4 + q) + ic.d, none⟩ = L[q]?) := by
    intro j
    by_cases hj : j < nc
    · obtain ⟨L, m', y, _, hLc, hLt⟩ := hC j hj
      obtain ⟨w, hw, hv⟩ := el_class hLt
      exact ⟨w, hw, fun _ => ⟨L, hv, hLc⟩⟩
    · exact ⟨fun _ => 0, fun _ => by show 0 < 2 ^ 64; decide, fun h => absurd h hj⟩
  obtain ⟨cl, hcl⟩ := Classical.axiomOfChoice clss
  have ends : ∀ j : Nat, ∃ r : Bool, j < ne → ∀ q, q < 1 → W.cell? ⟨ie.b, (j * 1 + q) + ie.d, none⟩ = [Value.bool r][q]? := by
    intro j
    by_cases hj : j < ne
    · obtain ⟨L, m', y, _, hLc, hLt⟩ := hE j hj
      obtain ⟨b, rfl⟩ := el_bool hLt
      exact ⟨b, fun _ => hLc⟩
    · exact ⟨false, fun h => absurd h hj⟩
  obtain ⟨en, hen⟩ := Classical.axiomOfChoice ends
  have msgs : ∀ j : Nat, ∃ r : Nat, r < 256 ∧ (j < km → ∀ q, q < 1 → W.cell? ⟨im.b, (j * 1 + q) + im.d, none⟩ = [Value.int .u8 (r : Nat)][q]?) := by
    intro j
    by_cases hj : j < km
    · obtain ⟨L, m', y, _, hLc, hLt⟩ := hM j hj
      obtain ⟨b, hb, rfl⟩ := el_u8 hLt
      exact ⟨b, hb, fun _ => hLc⟩
    · exact ⟨0, by decide, fun h => absurd h hj⟩
  obtain ⟨f, hf⟩ := Classical.axiomOfChoice msgs
  let D : ND := ⟨nc, cl, m, fun s => (row s).2.1, fun s i => (cel (s, i)).1, fun s i => (cel (s, i)).2.1, fun s i => (cel (s, i)).2.2, ne, en⟩
  let rv : Nat → AVal := fun s => (row s).2.2.2 (s + 4)
  let S := mkS nc m ne km cl rv en f D (fun s => (row s).2.1) ic ir ie im (fun s => (row s).2.2.1)
  have i0 : ghOf S (m + 4) 0 = some ic := by unfold ghOf; rw [if_pos (by omega)]; rfl
  have i1 : ghOf S (m + 4) 1 = some ir := by unfold ghOf; rw [if_pos (by omega)]; rfl
  have i2 : ghOf S (m + 4) 2 = some ie := by unfold ghOf; rw [if_pos (by omega)]; rfl
  have i3 : ghOf S (m + 4) 3 = some im := by unfold ghOf; rw [if_pos (by omega)]; rfl
  have i4 : ∀ s, s < m → ghOf S (m + 4) (s + 4) = some (row s).2.2.1 := fun s hs => by unfold ghOf; rw [if_pos (by omega)]; rfl
  have k0 : (S 0).ok (ghOf S (m + 4)) W := by
    refine ⟨hbC, hkC, show 0 < 4 by decide, fun j hj => ?_⟩
    obtain ⟨L, e1, e2⟩ := (hcl j).2 hj
    exact ⟨rfl, L, e1 _, e2⟩
  have k1 : (S 1).ok (ghOf S (m + 4)) W := by
    refine ⟨hbR, hkR, show 0 < 1 by decide, fun j hj => ?_⟩
    refine ⟨rfl, _, ?_, (hrow j hj).1⟩
    show VRL _ [rv j] [(row j).1]
    simp only [VRL]
    exact ⟨_, _, rfl, (hrow j hj).2.2.2.2.2.1 (j + 4) _ (i4 j hj), rfl⟩
  have k2 : (S 2).ok (ghOf S (m + 4)) W := by
    refine ⟨hbE, hkE, show 0 < 1 by decide, fun j hj => ?_⟩
    refine ⟨rfl, _, ?_, hen j hj⟩
    show VRL _ [.bool (en j)] _
    simp [VRL, VR]
  have k3 : (S 3).ok (ghOf S (m + 4)) W := by
    refine ⟨hbM, hkM, show 0 < 1 by decide, fun j hj => ?_⟩
    refine ⟨rfl, _, ?_, (hf j).2 hj⟩
    show VRL _ [.int .u8 (f j : Nat)] _
    simp [VRL, VR]
  have k4 : ∀ s, s < m → (S (s + 4)).ok (ghOf S (m + 4)) W := fun s hs => by
    refine ⟨(hrow s hs).2.1, (hrow s hs).2.2.1, show 0 < 3 by decide, fun j hj => ?_⟩
    refine ⟨rfl, _, ?_, (hcel (s, j)).2 hs hj⟩
    show VRL _ (cellv D s j) _
    simp [cellv, VRL, VR, D]
  refine ⟨ghOf S (m + 4), hpOf S (m + 4), svc 0, svr 1, sve 2, rv, D, x, svm 3, km, f, rel_of (fun _ => rfl) ?_, ?_, ?_, ⟨sln_of (S := S) (g := 3) (by omega) k3 (hzM 3), fun i _ => (hf i).1⟩, hnM, hx, fun B => noOwn⟩
  · intro g hg
    match g, hg with
    | 0, _ => exact k0
    | 1, _ => exact k1
    | 2, _ => exact k2
    | 3, _ => exact k3
    | s + 4, hg => exact k4 s (by omega)
  · simp only [VRL, VR]
    refine ⟨_, _, rfl, ⟨_, rfl, _, _, rfl, hvC 0 _ i0, _, _, rfl, hvR 1 _ i1, _, _, rfl, hvE 2 _ i2, rfl⟩, _, _, rfl, ⟨_, rfl, hxv _⟩, _, _, rfl, ?_, rfl⟩
    rw [eM]; exact hvM 3 _ i3
  · exact ⟨⟨sln_of (S := S) (g := 0) (by omega) k0 (hzC 0), fun i j => (hcl i).1 j⟩, sln_of (S := S) (g := 1) (by omega) k1 (hzR 1),
      fun s hs => sln_of (S := S) (g := s + 4) (by have : s < m := hs; omega) (k4 s hs) ((hrow s hs).2.2.2.2.2.2 (s + 4)), sln_of (S := S) (g := 2) (by omega) k2 (hzE 2), hnC, hnR, fun s hs => (hrow s hs).2.2.2.1, fun s i => (hcel (s, i)).1⟩
end
end
end Go.Proofs.YtfaeabhbeolpgaaGreatDoor
end
