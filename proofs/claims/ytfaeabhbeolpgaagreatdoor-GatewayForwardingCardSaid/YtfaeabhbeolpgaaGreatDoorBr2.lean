/- The three arguments, read, as an abstract heap. Conditions: none. -/
import Derived.Test.YtfaeabhbeolpgaaGreatDoorSc3
import Derived.Test.YtfaeabhbeolpgaaGreatDoorBr1
set_option linter.all false
noncomputable section
namespace Go.Proofs.YtfaeabhbeolpgaaGreatDoor
open Go Go.Am Go.WideShapes Go.RowKit Go.ChangeShapes
noncomputable section

section
variable {H : Type} {enc : TypeId × Value → H} {W : World} {held : Bool} {sp : Nat → Bool}

theorem el_u8 {m : Nat} {L : List Value} {y : DataW H × List MemPlace} (h : DataW.trod enc Tryz.prog W 0 sp held m 5 L = some y) : ∃ b : Nat, b < 256 ∧ L = [.int .u8 (b : Nat)] := by
  obtain ⟨n, rfl, _, hw⟩ := DataW.trod_int Tryz.underlying5 h
  have : 0 ≤ n ∧ n ≤ 255 := by simpa [Lit.wf, IntKind.min, IntKind.max, IntKind.signed, IntKind.bits] using hw
  refine ⟨n.toNat, by omega, ?_⟩
  rw [Int.toNat_of_nonneg this.1]
theorem el_u64 {m : Nat} {L : List Value} {y : DataW H × List MemPlace} (h : DataW.trod enc Tryz.prog W 0 sp held m 98 L = some y) : ∃ b : Nat, b < 2 ^ 64 ∧ L = [.int .u64 (b : Nat)] := by
  obtain ⟨n, rfl, _, hw⟩ := DataW.trod_int Tryz.underlying98 h
  have : 0 ≤ n ∧ n ≤ 18446744073709551615 := by simpa [Lit.wf, IntKind.min, IntKind.max, IntKind.signed, IntKind.bits] using hw
  refine ⟨n.toNat, by omega, ?_⟩
  rw [Int.toNat_of_nonneg this.1]
theorem el_int {m : Nat} {L : List Value} {y : DataW H × List MemPlace} (h : DataW.trod enc Tryz.prog W 0 sp held m 3 L = some y) : ∃ n : Int, L = [.int .i64 n] := by
  obtain ⟨n, rfl, _, hw⟩ := DataW.trod_int Tryz.underlying3 h
  exact ⟨n, rfl⟩
theorem el_bool {m : Nat} {L : List Value} {y : DataW H × List MemPlace} (h : DataW.trod enc Tryz.prog W 0 sp held m 4 L = some y) : ∃ b : Bool, L = [.bool b] := by
  obtain ⟨n, rfl, _⟩ := DataW.trod_bool Tryz.underlying4 h
  exact ⟨n, rfl⟩

theorem kc5 : Tryz.prog.cellsOf 5 = 1 := by kernel_rfl
theorem kc4 : Tryz.prog.cellsOf 4 = 1 := by kernel_rfl
theorem kc3 : Tryz.prog.cellsOf 3 = 1 := by kernel_rfl
theorem kc98 : Tryz.prog.cellsOf 98 = 1 := by kernel_rfl
theorem kc100 : Tryz.prog.cellsOf 100 = 4 := by kernel_rfl
theorem kc67 : Tryz.prog.cellsOf 67 = 3 := by kernel_rfl
theorem kc65 : Tryz.prog.cellsOf 65 = 1 := by kernel_rfl
theorem kc26 : Tryz.prog.cellsOf 26 = 3 := by kernel_rfl
theorem kc29 : Tryz.prog.cellsOf 29 = 7 := by kernel_rfl
theorem kc27 : Tryz.prog.cellsOf 27 = 6 := by kernel_rfl
theorem kc22 : Tryz.prog.cellsOf 22 = 1 := by kernel_rfl
theorem kc23 : Tryz.prog.cellsOf 23 = 1 := by kernel_rfl
theorem kc24 : Tryz.prog.cellsOf 24 = 1 := by kernel_rfl

theorem list3 {α : Type} {L : List α} (h : L.length = 3) : ∃ a b c, L = [a, b, c] := by
  match L, h with
  | [a, b, c], _ => exact ⟨a, b, c, rfl⟩
theorem list4 {α : Type} {L : List α} (h : L.length = 4) : ∃ a b c d, L = [a, b, c, d] := by
  match L, h with
  | [a, b, c, d], _ => exact ⟨a, b, c, d, rfl⟩
theorem list6 {α : Type} {L : List α} (h : L.length = 6) : ∃ a b c d e f, L = [a, b, c, d, e, f] := by
  match L, h with
  | [a, b, c, d, e, f], _ => exact ⟨a, b, c, d, e, f, rfl⟩
theorem list7 {α : Type} {L : List α} (h : L.length = 7) : ∃ a b c d e f g, L = [a, b, c, d, e, f, g] := by
  match L, h with
  | [a, b, c, d, e, f, g], _ => exact ⟨a, b, c, d, e, f, g, rfl⟩

theorem el_class {m : Nat} {L : List Value} {y : DataW H × List MemPlace} (h : DataW.trod enc Tryz.prog W 0 sp held m 100 L = some y) : ∃ w : Nat → Nat, (∀ j, w j < 2 ^ 64) ∧ ∀ ι, VRL ι (cw w) L := by
  obtain ⟨xs, n, _, _, hl, hxl, he⟩ := DataW.trod_array Tryz.underlying100 h
  rw [kc100] at hl
  obtain ⟨a, b, c, d, rfl⟩ := list4 hl
  simp only [kc98] at he
  have g : ∀ i, (hi : i < 4) → ∃ v : Nat, v < 2 ^ 64 ∧ (([a, b, c, d] : List Value).drop (i * 1)).take 1 = [.int .u64 (v : Nat)] := fun i hi => by
    have := he i hi
    rw [List.getElem?_eq_getElem (by omega)] at this
    exact el_u64 this
  obtain ⟨v0, h0, e0⟩ := g 0 (by omega)
  obtain ⟨v1, h1, e1⟩ := g 1 (by omega)
  obtain ⟨v2, h2, e2⟩ := g 2 (by omega)
  obtain ⟨v3, h3, e3⟩ := g 3 (by omega)
  simp at e0 e1 e2 e3
  subst e0 e1 e2 e3
  refine ⟨fun j => match j with | 0 => v0 | 1 => v1 | 2 => v2 | 3 => v3 | _ => 0, fun j => ?_, fun ι => ?_⟩
  · rcases j with _ | _ | _ | _ | j
    · exact h0
    · exact h1
    · exact h2
    · exact h3
    · show 0 < 2 ^ 64; decide
  · simp [cw, VRL, VR]

theorem el_cell {m : Nat} {L : List Value} {y : DataW H × List MemPlace} (h : DataW.trod enc Tryz.prog W 0 sp held m 67 L = some y) : ∃ (t a : Int) (b : Nat), b < 256 ∧ L = [.int .i64 t, .int .i64 a, .int .u8 (b : Nat)] := by
  obtain ⟨xs, n, _, _, hl, hxl, he⟩ := DataW.trod_struct Tryz.underlying67 h
  rw [kc67] at hl
  obtain ⟨a, b, c, rfl⟩ := list3 hl
  have hxl' : xs.length = 3 := hxl
  have g0 : DataW.trod enc Tryz.prog W 0 sp held n 3 ((([a, b, c] : List Value).drop 0).take (Tryz.prog.cellsOf 3)) = xs[0]? := he 0 _ rfl
  have g1 : DataW.trod enc Tryz.prog W 0 sp held n 3 ((([a, b, c] : List Value).drop 1).take (Tryz.prog.cellsOf 3)) = xs[1]? := he 1 _ rfl
  have g2 : DataW.trod enc Tryz.prog W 0 sp held n 5 ((([a, b, c] : List Value).drop 2).take (Tryz.prog.cellsOf 5)) = xs[2]? := he 2 _ rfl
  rw [List.getElem?_eq_getElem (by omega)] at g0 g1 g2
  simp only [kc3, kc5] at g0 g1 g2
  obtain ⟨v0, e0⟩ := el_int g0
  obtain ⟨v1, e1⟩ := el_int g1
  obtain ⟨v2, h2, e2⟩ := el_u8 g2
  simp at e0 e1 e2
  subst e0 e1 e2
  exact ⟨v0, v1, v2, h2, rfl⟩
theorem el_raw {m : Nat} {L : List Value} {y : DataW H × List MemPlace} (h : DataW.trod enc Tryz.prog W 0 sp held m 29 L = some y) : ∃ x : Nat → Nat, (∀ j, x j < 256) ∧ ∀ ι, VRL ι (rawv x) L := by
  obtain ⟨xs, n, _, _, hl, hxl, he⟩ := DataW.trod_struct Tryz.underlying29 h
  rw [kc29] at hl
  obtain ⟨a, b0, b1, b2, b3, b4, b5, rfl⟩ := list7 hl
  have hxl' : xs.length = 2 := hxl
  have g0 : DataW.trod enc Tryz.prog W 0 sp held n 5 ((([a, b0, b1, b2, b3, b4, b5] : List Value).drop 0).take (Tryz.prog.cellsOf 5)) = xs[0]? := he 0 _ rfl
  have g1 : DataW.trod enc Tryz.prog W 0 sp held n 27 ((([a, b0, b1, b2, b3, b4, b5] : List Value).drop 1).take (Tryz.prog.cellsOf 27)) = xs[1]? := he 1 _ rfl
  rw [List.getElem?_eq_getElem (by omega)] at g0 g1
  simp only [kc5, kc27] at g0 g1
  obtain ⟨va, ha, ea⟩ := el_u8 g0
  simp at ea
  subst ea
  obtain ⟨zs, n', _, _, hl', hzl, he'⟩ := DataW.trod_array Tryz.underlying27 g1
  simp only [kc5] at he'
  have g : ∀ i, (hi : i < 6) → ∃ v : Nat, v < 256 ∧ (([b0, b1, b2, b3, b4, b5] : List Value).drop (i * 1)).take 1 = [.int .u8 (v : Nat)] := fun i hi => by
    have := he' i hi
    rw [List.getElem?_eq_getElem (by omega)] at this
    exact el_u8 this
  obtain ⟨v0, h0, e0⟩ := g 0 (by omega)
  obtain ⟨v1, h1, e1⟩ := g 1 (by omega)
  obtain ⟨v2, h2, e2⟩ := g 2 (by omega)
  obtain ⟨v3, h3, e3⟩ := g 3 (by omega)
  obtain ⟨v4, h4, e4⟩ := g 4 (by omega)
  obtain ⟨v5, h5, e5⟩ := g 5 (by omega)
  simp at e0 e1 e2 e3 e4 e5
  subst e0 e1 e2 e3 e4 e5
  refine ⟨fun j => match j with | 0 => va | 1 => v0 | 2 => v1 | 3 => v2 | 4 => v3 | 5 => v4 | 6 => v5 | _ => 0, fun j => ?_, fun ι => ?_⟩
  · rcases j with _ | _ | _ | _ | _ | _ | _ | j
    · exact ha
    · exact h0
    · exact h1
    · exact h2
    · exact h3
    · exact h4
    · exact h5
    · show 0 < 256; decide
  · simp [rawv, VRL, VR]
end
end
end Go.Proofs.YtfaeabhbeolpgaaGreatDoor
end
