/- Plain facts on bits: the number of ones of a word, sets of bytes. Conditions: none. -/
import Derived.KernelRfl
set_option linter.all false
noncomputable section
namespace Univ

def cnt (p : Nat → Bool) : Nat → Nat
  | 0 => 0
  | n + 1 => cnt p n + (if p n then 1 else 0)
theorem cnt_le (p : Nat → Bool) : ∀ n, cnt p n ≤ n
  | 0 => Nat.le_refl _
  | n + 1 => by have := cnt_le p n; simp only [cnt]; split <;> omega
theorem cnt_add (p : Nat → Bool) (m : Nat) : ∀ n, cnt p (m + n) = cnt p m + cnt (fun i => p (m + i)) n
  | 0 => by simp [cnt]
  | n + 1 => by rw [← Nat.add_assoc]; simp only [cnt]; rw [cnt_add p m n, Nat.add_assoc]
theorem cnt_congr {p q : Nat → Bool} : ∀ n, (∀ i, i < n → p i = q i) → cnt p n = cnt q n
  | 0, _ => rfl
  | n + 1, h => by simp only [cnt]; rw [cnt_congr n (fun i hi => h i (by omega)), h n (by omega)]
theorem cnt_or_and (p q : Nat → Bool) : ∀ n, cnt (fun i => p i || q i) n + cnt (fun i => p i && q i) n = cnt p n + cnt q n
  | 0 => rfl
  | n + 1 => by
    have := cnt_or_and p q n
    simp only [cnt]
    have hp : p n = true ∨ p n = false := by cases p n <;> simp
    have hq : q n = true ∨ q n = false := by cases q n <;> simp
    rcases hp with hp | hp <;> rcases hq with hq | hq <;> simp [hp, hq] <;> omega
theorem cnt_zero_iff (p : Nat → Bool) : ∀ n, cnt p n = 0 ↔ ∀ i, i < n → p i = false
  | 0 => by simp [cnt]
  | n + 1 => by
    simp only [cnt]
    constructor
    · intro h i hi
      have h1 : cnt p n = 0 := by omega
      rcases Nat.lt_or_eq_of_le (Nat.lt_succ_iff.1 hi) with h2 | h2
      · exact (cnt_zero_iff p n).1 h1 i h2
      · subst h2; cases hp : p i with
        | false => rfl
        | true => rw [hp] at h; simp at h
    · intro h
      rw [(cnt_zero_iff p n).2 (fun i hi => h i (by omega)), h n (by omega)]; rfl
theorem cnt_full_iff (p : Nat → Bool) : ∀ n, cnt p n = n ↔ ∀ i, i < n → p i = true
  | 0 => by simp [cnt]
  | n + 1 => by
    have hle := cnt_le p n
    simp only [cnt]
    constructor
    · intro h i hi
      have h1 : cnt p n = n := by split at h <;> omega
      rcases Nat.lt_or_eq_of_le (Nat.lt_succ_iff.1 hi) with h2 | h2
      · exact (cnt_full_iff p n).1 h1 i h2
      · subst h2; cases hp : p i with
        | true => rfl
        | false => rw [hp] at h; simp at h; omega
    · intro h
      rw [(cnt_full_iff p n).2 (fun i hi => h i (by omega)), h n (by omega)]; rfl

/-! ### The ones of a word -/
def pop (x : Nat) : Nat := cnt (fun i => x.testBit i) 64
def popb (x : Nat) : Nat := cnt (fun i => x.testBit i) 8

theorem and_split (a b c d : Nat) (ha : a < 256) (hc : c < 256) : (a + 256 * b) &&& (c + 256 * d) = (a &&& c) + 256 * (b &&& d) := by
  have h1 := Nat.div_add_mod ((a + 256 * b) &&& (c + 256 * d)) 256
  have h2 : ((a + 256 * b) &&& (c + 256 * d)) / 256 = b &&& d := by
    rw [show (256 : Nat) = 2 ^ 8 from rfl, Nat.and_div_two_pow]
    congr 1 <;> omega
  have h3 : ((a + 256 * b) &&& (c + 256 * d)) % 256 = a &&& c := by
    rw [show (256 : Nat) = 2 ^ 8 from rfl, Nat.and_mod_two_pow]
    congr 1 <;> omega
  rw [h2, h3] at h1
  omega

def rep (c : Nat) : Nat → Nat
  | 0 => 0
  | k + 1 => c + 256 * rep c k
def st1 (M x : Nat) : Nat := ((x / 2) &&& M) + (x &&& M)
def st2 (M x : Nat) : Nat := ((x / 4) &&& M) + (x &&& M)
def st3 (M x : Nat) : Nat := ((x / 16) + x) &&& M

theorem t1 : ∀ l, l < 256 → ∀ r, r < 2 → (l / 2 + 128 * r) &&& 85 = (l / 2) &&& 85 := by decide +kernel
theorem t2 : ∀ l, l < 256 → ∀ r, r < 4 → (l / 4 + 64 * r) &&& 51 = (l / 4) &&& 51 := by decide +kernel
theorem tb : ∀ l, l < 256 → st1 85 l < 256 ∧ st2 51 (st1 85 l) < 256 ∧ (∀ j, j < 8 → True) ∧ st3 15 (st2 51 (st1 85 l)) = popb l := by decide +kernel
theorem tn : ∀ l, l < 256 → st2 51 (st1 85 l) / 16 ≤ 4 ∧ st2 51 (st1 85 l) % 16 ≤ 4 := by decide +kernel

theorem st1usplit (k l y : Nat) (hl : l < 256) : st1 (rep 85 (k + 1)) (l + 256 * y) = st1 85 l + 256 * st1 (rep 85 k) y := by
  unfold st1
  have e : (l + 256 * y) / 2 = (l / 2 + 128 * (y % 2)) + 256 * (y / 2) := by omega
  have hl2 : l / 2 + 128 * (y % 2) < 256 := by omega
  rw [e, rep, and_split _ _ _ _ hl2 (by omega), and_split _ _ _ _ hl (by omega), t1 l hl (y % 2) (by omega)]
  omega
theorem st2usplit (k l y : Nat) (hl : l < 256) : st2 (rep 51 (k + 1)) (l + 256 * y) = st2 51 l + 256 * st2 (rep 51 k) y := by
  unfold st2
  have e : (l + 256 * y) / 4 = (l / 4 + 64 * (y % 4)) + 256 * (y / 4) := by omega
  have hl2 : l / 4 + 64 * (y % 4) < 256 := by omega
  rw [e, rep, and_split _ _ _ _ hl2 (by omega), and_split _ _ _ _ hl (by omega), t2 l hl (y % 4) (by omega)]
  omega
theorem t3 : ∀ l, l < 256 → ∀ r, r < 16 → (l / 16 + l + 16 * r) &&& 15 = (l / 16 + l) &&& 15 := by decide +kernel
def phi : Nat → Nat → Nat
  | 0, _ => 0
  | k + 1, x => popb (x % 256) + 256 * phi k (x / 256)
theorem psi (k : Nat) : ∀ x, x < 256 ^ k → st3 (rep 15 k) (st2 (rep 51 k) (st1 (rep 85 k) x)) = phi k x ∧ st2 (rep 51 k) (st1 (rep 85 k) x) % 16 ≤ 4 := by
  induction k with
  | zero => intro x hx; simp [rep, st1, st2, st3, phi]
  | succ k ih =>
    intro x hx
    have hx2 : x / 256 < 256 ^ k := by rw [Nat.pow_succ] at hx; omega
    obtain ⟨h1, h2⟩ := ih (x / 256) hx2
    have hl : x % 256 < 256 := by omega
    obtain ⟨b1, b2, _, b3⟩ := tb (x % 256) hl
    obtain ⟨n1, n2⟩ := tn (x % 256) hl
    have e : x = x % 256 + 256 * (x / 256) := by omega
    have e1 : st1 (rep 85 (k + 1)) x = st1 85 (x % 256) + 256 * st1 (rep 85 k) (x / 256) := by
      have := st1usplit k (x % 256) (x / 256) hl
      rw [← e] at this; exact this
    rw [e1, st2usplit k _ _ b1]
    generalize ha : st2 51 (st1 85 (x % 256)) = a at *
    generalize hb : st2 (rep 51 k) (st1 (rep 85 k) (x / 256)) = b at *
    refine ⟨?_, by omega⟩
    simp only [phi]
    rw [← h1, ← b3]
    unfold st3
    have e2 : (a + 256 * b) / 16 + (a + 256 * b) = (a / 16 + a + 16 * (b % 16)) + 256 * (b / 16 + b) := by omega
    rw [e2, rep, and_split _ _ _ _ (by omega) (by omega), t3 a b2 (b % 16) (by omega)]

theorem popb_le (x : Nat) : popb x ≤ 8 := cnt_le _ 8
theorem pop_bytes (x : Nat) : pop x = popb (x % 256) + popb (x / 256 % 256) + popb (x / 256 / 256 % 256) + popb (x / 256 / 256 / 256 % 256) + popb (x / 256 / 256 / 256 / 256 % 256) + popb (x / 256 / 256 / 256 / 256 / 256 % 256)
    + popb (x / 256 / 256 / 256 / 256 / 256 / 256 % 256) + popb (x / 256 / 256 / 256 / 256 / 256 / 256 / 256 % 256) := by
  have step : ∀ x n, cnt (fun i => x.testBit i) (8 + n) = popb (x % 256) + cnt (fun i => (x / 256).testBit i) n := by
    intro x n
    rw [cnt_add]
    congr 1
    · exact cnt_congr 8 fun i hi => by rw [show (256 : Nat) = 2 ^ 8 from rfl, Nat.testBit_mod_two_pow]; simp [hi]
    · exact cnt_congr n fun i _ => by rw [show (256 : Nat) = 2 ^ 8 from rfl, Nat.testBit_div_two_pow, Nat.add_comm]
  unfold pop
  rw [show (64 : Nat) = 8 + (8 + (8 + (8 + (8 + (8 + (8 + (8 + 0))))))) from rfl, step, step, step, step, step, step, step, step]
  simp only [cnt]
  omega

def m1 : Nat := 6148914691236517205
def m2 : Nat := 3689348814741910323
def m3 : Nat := 1085102592571150095
/-- The ones of a word, as Go's library counts them. -/
def oc (x : Nat) : Nat :=
  let y := st3 m3 (st2 m2 (st1 m1 x))
  let y1 := y + y / 256
  let y2 := y1 + y1 / 65536
  let y3 := y2 + y2 / 4294967296
  y3 % 128
theorem fa1 (c B : Nat) (h : c ≤ 8) : (c + 256 * B) / 256 = B := by omega
theorem fa2 (a b E : Nat) (ha : a ≤ 16) (hb : b ≤ 16) : (a + 256 * b + 65536 * E) / 65536 = E := by omega
theorem fa3 (a b c d F : Nat) (ha : a ≤ 32) (hb : b ≤ 32) (hc : c ≤ 32) (hd : d ≤ 32) : (a + 256 * b + 65536 * c + 16777216 * d + 4294967296 * F) / 4294967296 = F := by omega
theorem fa4 (a b c d F s r : Nat) (hF : F = s + 256 * r) (h : a + s ≤ 64) : (a + 256 * b + 65536 * c + 16777216 * d + 4294967296 * F + F) % 128 = a + s := by
  subst hF
  have : a + 256 * b + 65536 * c + 16777216 * d + 4294967296 * (s + 256 * r) + (s + 256 * r) = (a + s) + 128 * (2 * b + 512 * c + 131072 * d + 33554432 * (s + 256 * r) + 2 * r) := by omega
  rw [this, Nat.add_mul_mod_self_left]
  exact Nat.mod_eq_of_lt (by omega)
theorem fb1 (c0 c1 c2 B2 B3 : Nat) (e2 : B2 = c2 + 256 * B3) : c0 + 256 * (c1 + 256 * B2) + (c1 + 256 * B2) = (c0 + c1) + 256 * (c1 + c2) + 65536 * (B2 + B3) := by subst e2; omega
theorem fb2 (c2 c3 c4 B4 B5 : Nat) (e4 : B4 = c4 + 256 * B5) : (c2 + 256 * (c3 + 256 * B4)) + (c3 + 256 * B4) = (c2 + c3) + 256 * (c3 + c4) + 65536 * (B4 + B5) := by subst e4; omega
theorem fb3 (a b E2 E4 p q r s F : Nat) (h2 : E2 = p + 256 * q + 65536 * E4) (h4 : E4 = r + 256 * s + 65536 * F) : a + 256 * b + 65536 * E2 + E2 = (a + p) + 256 * (b + q) + 65536 * (p + r) + 16777216 * (q + s) + 4294967296 * (E4 + F) := by subst h2; subst h4; omega
theorem fb4 (c4 c5 c6 c7 E6 : Nat) (h6 : E6 = c6 + c7 + 256 * c7) : ((c4 + c5) + 256 * (c5 + c6) + 65536 * E6) + E6 = (c4 + c5 + (c6 + c7)) + 256 * (c5 + c6 + 256 * E6 + c7) := by omega
theorem fin (c0 c1 c2 c3 c4 c5 c6 c7 : Nat) (h0 : c0 ≤ 8) (h1 : c1 ≤ 8) (h2 : c2 ≤ 8) (h3 : c3 ≤ 8) (h4 : c4 ≤ 8) (h5 : c5 ≤ 8) (h6 : c6 ≤ 8) (h7 : c7 ≤ 8) (y y1 y2 : Nat)
    (hy : y = c0 + 256 * (c1 + 256 * (c2 + 256 * (c3 + 256 * (c4 + 256 * (c5 + 256 * (c6 + 256 * c7))))))) (hy1 : y1 = y + y / 256) (hy2 : y2 = y1 + y1 / 65536) :
    (y2 + y2 / 4294967296) % 128 = c0 + c1 + c2 + c3 + c4 + c5 + c6 + c7 := by
  have q1 : y1 = (c0 + c1) + 256 * (c1 + c2) + 65536 * ((c2 + 256 * (c3 + 256 * (c4 + 256 * (c5 + 256 * (c6 + 256 * c7))))) + (c3 + 256 * (c4 + 256 * (c5 + 256 * (c6 + 256 * c7))))) := by
    rw [hy1, hy, fa1 _ _ h0, fb1 _ _ c2 _ _ rfl]
  have g2 : (c2 + 256 * (c3 + 256 * (c4 + 256 * (c5 + 256 * (c6 + 256 * c7))))) + (c3 + 256 * (c4 + 256 * (c5 + 256 * (c6 + 256 * c7)))) = (c2 + c3) + 256 * (c3 + c4) + 65536 * ((c4 + 256 * (c5 + 256 * (c6 + 256 * c7))) + (c5 + 256 * (c6 + 256 * c7))) := fb2 _ _ _ _ _ rfl
  have g4 : (c4 + 256 * (c5 + 256 * (c6 + 256 * c7))) + (c5 + 256 * (c6 + 256 * c7)) = (c4 + c5) + 256 * (c5 + c6) + 65536 * ((c6 + 256 * c7) + c7) := fb2 _ _ _ _ _ rfl
  rw [g2, g4] at q1
  have q2 : y2 = ((c0 + c1) + (c2 + c3)) + 256 * ((c1 + c2) + (c3 + c4)) + 65536 * ((c2 + c3) + (c4 + c5)) + 16777216 * ((c3 + c4) + (c5 + c6)) + 4294967296 * (((c4 + c5) + 256 * (c5 + c6) + 65536 * ((c6 + 256 * c7) + c7)) + ((c6 + 256 * c7) + c7)) := by
    rw [hy2, q1, fa2 _ _ _ (by clear q1 g2 g4 hy hy1 hy2; omega) (by clear q1 g2 g4 hy hy1 hy2; omega), fb3 _ _ _ _ _ _ _ _ _ rfl rfl]
  have q3 : y2 / 4294967296 = ((c4 + c5) + 256 * (c5 + c6) + 65536 * ((c6 + 256 * c7) + c7)) + ((c6 + 256 * c7) + c7) := by
    rw [q2, fa3 _ _ _ _ _ (by clear q1 q2 g2 g4 hy hy1 hy2; omega) (by clear q1 q2 g2 g4 hy hy1 hy2; omega) (by clear q1 q2 g2 g4 hy hy1 hy2; omega) (by clear q1 q2 g2 g4 hy hy1 hy2; omega)]
  rw [q3, q2, fa4 _ _ _ _ _ (c4 + c5 + (c6 + c7)) _ (fb4 c4 c5 c6 c7 ((c6 + 256 * c7) + c7) (Nat.add_right_comm _ _ _)) (by clear q1 q2 q3 g2 g4 hy hy1 hy2; omega)]
  simp only [Nat.add_assoc]
theorem oc_eq (x : Nat) (hx : x < 2 ^ 64) : oc x = pop x := by
  have h := (psi 8 x (by omega)).1
  rw [show rep 15 8 = m3 from rfl, show rep 51 8 = m2 from rfl, show rep 85 8 = m1 from rfl] at h
  unfold oc
  rw [h, pop_bytes]
  simp only [phi, Nat.mul_zero, Nat.add_zero]
  exact fin _ _ _ _ _ _ _ _ (popb_le _) (popb_le _) (popb_le _) (popb_le _) (popb_le _) (popb_le _) (popb_le _) (popb_le _) _ _ _ rfl rfl rfl
end Univ
end
