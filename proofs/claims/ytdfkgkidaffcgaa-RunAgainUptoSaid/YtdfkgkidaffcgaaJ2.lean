/- Doubles as whole multiples of 2^-1074; rounding to the nearest, even between two. Words, what they stand for, sums, products, order, whole parts. Whole parts of doubles, order, and what a segment guesses. -/
import Ieee.Arith
import Derived.Test.YtdfkgkidaffcgaaJ1
set_option linter.all false
section
set_option exponentiation.threshold 4000
set_option autoImplicit false
namespace Inc
open Ieee

/-- n / d to the nearest whole number, to the even one between two -/
def hev (n d : Nat) : Nat := n / d + (if d < 2 * (n % d) ∨ (d = 2 * (n % d) ∧ n / d % 2 = 1) then 1 else 0)

theorem hev_err {n d : Nat} (hd : 0 < d) : 2 * (hev n d * d) ≤ 2 * n + d ∧ 2 * n ≤ 2 * (hev n d * d) + d := by
  have h1 := Nat.div_add_mod n d
  have h2 := Nat.mod_lt n hd
  unfold hev
  have e : d * (n / d) = n / d * d := Nat.mul_comm ..
  generalize n / d = q at *
  generalize n % d = r at *
  split
  · rename_i h
    have : (q + 1) * d = q * d + d := by rw [Nat.add_mul, Nat.one_mul]
    omega
  · rename_i h
    simp only [Nat.add_zero]
    omega

theorem hev_exact {k d : Nat} (hd : 0 < d) : hev (k * d) d = k := by
  unfold hev
  rw [Nat.mul_div_cancel _ hd, Nat.mul_mod_left]
  rw [if_neg (by omega)]; rfl

theorem hev_scale {n d c : Nat} (hd : 0 < d) (hc : 0 < c) : hev (n * c) (d * c) = hev n d := by
  unfold hev
  rw [Nat.mul_div_mul_right _ _ hc, Nat.mul_mod_mul_right]
  have h1 : (d * c < 2 * (n % d * c)) ↔ d < 2 * (n % d) := by
    rw [← Nat.mul_assoc]
    exact Nat.mul_lt_mul_right hc
  have h2 : (d * c = 2 * (n % d * c)) ↔ d = 2 * (n % d) := by
    rw [← Nat.mul_assoc]
    exact Nat.mul_left_inj (by omega)
  simp only [h1, h2]

theorem hev_mono {n m d : Nat} (hd : 0 < d) (h : n ≤ m) : hev n d ≤ hev m d := by
  have hq : n / d ≤ m / d := Nat.div_le_div_right h
  rcases Nat.lt_or_ge (n / d) (m / d) with h' | h'
  · unfold hev
    split <;> split <;> omega
  · have heq : n / d = m / d := by omega
    have h1 := Nat.div_add_mod n d
    have h2 := Nat.div_add_mod m d
    rw [heq] at h1
    have hr : n % d ≤ m % d := by omega
    unfold hev
    rw [heq]
    split
    · rename_i hc
      rw [if_pos]; omega
      omega
    · omega

theorem hev_le {n d k : Nat} (hd : 0 < d) (h : n ≤ k * d) : hev n d ≤ k := by
  have := hev_mono hd h
  rwa [hev_exact hd] at this
theorem le_hev {n d k : Nat} (hd : 0 < d) (h : k * d ≤ n) : k ≤ hev n d := by
  have := hev_mono hd h
  rwa [hev_exact hd] at this

/-- The digits that go, of a number in units of 2^-2148: all but 53, and those below 2^-1074. -/
def drop (n : Nat) : Nat := max (n.log2 - 52) 1074
/-- The rung that is nearest, without the ceiling. -/
def rungOf (n : Nat) : Nat := if n = 0 then 0 else (drop n - 1074) * 2 ^ 52 + hev n (2 ^ drop n)
/-- What a rung stands for, in units of 2^-1074. -/
def mag (r : Nat) : Nat := if r < 2 ^ 52 then r else (2 ^ 52 + r % 2 ^ 52) * 2 ^ (r / 2 ^ 52 - 1)

theorem drop_ge (n : Nat) : 1074 ≤ drop n := by unfold drop; omega

theorem pow_split {a b : Nat} (h : b ≤ a) : 2 ^ a = 2 ^ (a - b) * 2 ^ b := by rw [← Nat.pow_add]; congr 1; omega

theorem hev_hi {n : Nat} : hev n (2 ^ drop n) ≤ 2 ^ 53 := by
  refine hev_le (Nat.two_pow_pos _) ?_
  rw [← Nat.pow_add]
  have h1 := Nat.lt_log2_self (n := n)
  have h2 : 2 ^ (n.log2 + 1) ≤ 2 ^ (53 + drop n) := Nat.pow_le_pow_right (by omega) (by unfold drop; omega)
  omega

theorem hev_lo {n : Nat} (hn : n ≠ 0) (h : 1074 < drop n) : 2 ^ 52 ≤ hev n (2 ^ drop n) := by
  refine le_hev (Nat.two_pow_pos _) ?_
  rw [← Nat.pow_add]
  have h1 := Nat.log2_self_le hn
  have h2 : 52 + drop n = n.log2 := by unfold drop at *; omega
  rw [h2]; exact h1

theorem log2_mono {n m : Nat} (hn : n ≠ 0) (h : n ≤ m) : n.log2 ≤ m.log2 := by
  have hm : m ≠ 0 := by omega
  rw [Nat.le_log2 hm]
  exact Nat.le_trans (Nat.log2_self_le hn) h

theorem rungOf_mono {n m : Nat} (h : n ≤ m) : rungOf n ≤ rungOf m := by
  unfold rungOf
  split
  · omega
  · rename_i hn
    rw [if_neg (by omega)]
    have hd : drop n ≤ drop m := by have := log2_mono hn h; unfold drop; omega
    rcases Nat.lt_or_ge (drop n) (drop m) with h' | h'
    · have h1 := hev_hi (n := n)
      have h2 := hev_lo (n := m) (by omega) (by have := drop_ge n; omega)
      have h3 : (drop n - 1074 + 1) * 2 ^ 52 ≤ (drop m - 1074) * 2 ^ 52 := Nat.mul_le_mul_right _ (by have := drop_ge n; omega)
      omega
    · have heq : drop n = drop m := by omega
      rw [heq]
      have := hev_mono (Nat.two_pow_pos (drop m)) h
      omega

theorem mag_rung {d k : Nat} (hk : k ≤ 2 ^ 53) (h : 0 < d → 2 ^ 52 ≤ k) : mag (d * 2 ^ 52 + k) = k * 2 ^ d := by
  unfold mag
  rcases Nat.lt_or_ge k (2 ^ 52) with h1 | h1
  · have : d = 0 := by
      rcases Nat.eq_zero_or_pos d with h' | h'
      · exact h'
      · have := h h'; omega
    subst this
    rw [if_pos (by omega)]; simp
  · rw [if_neg (by omega)]
    rcases Nat.lt_or_ge k (2 ^ 53) with h2 | h2
    · have e1 : (d * 2 ^ 52 + k) % 2 ^ 52 = k - 2 ^ 52 := by omega
      have e2 : (d * 2 ^ 52 + k) / 2 ^ 52 = d + 1 := by omega
      rw [e1, e2, show 2 ^ 52 + (k - 2 ^ 52) = k from by omega, Nat.add_sub_cancel]
    · obtain rfl : k = 2 ^ 53 := by omega
      have e1 : (d * 2 ^ 52 + 2 ^ 53) % 2 ^ 52 = 0 := by omega
      have e2 : (d * 2 ^ 52 + 2 ^ 53) / 2 ^ 52 = d + 2 := by omega
      rw [e1, e2, show d + 2 - 1 = d + 1 from by omega, Nat.pow_succ 2 d]
      rw [show (2 : Nat) ^ 53 = 2 ^ 52 * 2 from rfl]
      generalize 2 ^ d = x
      generalize (2 : Nat) ^ 52 = y
      grind

theorem mag_rungOf {n : Nat} (hn : n ≠ 0) : mag (rungOf n) = hev n (2 ^ drop n) * 2 ^ (drop n - 1074) := by
  unfold rungOf
  rw [if_neg hn]
  exact mag_rung hev_hi (fun h => hev_lo hn (by omega))

theorem mag_zero : mag 0 = 0 := by decide

/-- in units of 2^-2148 -/
theorem mag_rungOf' {n : Nat} (hn : n ≠ 0) : mag (rungOf n) * 2 ^ 1074 = hev n (2 ^ drop n) * 2 ^ drop n := by
  rw [mag_rungOf hn, Nat.mul_assoc, ← Nat.pow_add, Nat.sub_add_cancel (drop_ge n)]

/-- how far off the nearest one is -/
theorem rung_err (n : Nat) : 2 * (mag (rungOf n) * 2 ^ 1074) ≤ 2 * n + 2 ^ drop n ∧ 2 * n ≤ 2 * (mag (rungOf n) * 2 ^ 1074) + 2 ^ drop n := by
  rcases Nat.eq_zero_or_pos n with rfl | hn
  · have : rungOf 0 = 0 := rfl
    rw [this, mag_zero]; try simp
  · rw [mag_rungOf' (by omega)]
    exact hev_err (Nat.two_pow_pos _)

/-- a number of 53 digits at most is hit -/
theorem rung_exact {n d : Nat} (hd : 1074 ≤ d) (h53 : n < 2 ^ (d + 53)) (hdv : 2 ^ d ∣ n) : mag (rungOf n) * 2 ^ 1074 = n := by
  rcases Nat.eq_zero_or_pos n with rfl | hn
  · have : rungOf 0 = 0 := rfl
    rw [this, mag_zero] <;> omega
  · rw [mag_rungOf' (by omega)]
    have hle : drop n ≤ d := by
      have : n.log2 < d + 53 := by rw [Nat.log2_lt (by omega)]; exact h53
      unfold drop; omega
    obtain ⟨c, hc⟩ : 2 ^ drop n ∣ n := Nat.dvd_trans (Nat.pow_dvd_pow 2 hle) hdv
    have : hev n (2 ^ drop n) = c := by
      conv => lhs; arg 1; rw [hc, Nat.mul_comm]
      exact hev_exact (Nat.two_pow_pos _)
    rw [this, Nat.mul_comm]; exact hc.symm

theorem log2_mul_pow {m k : Nat} (hm : m ≠ 0) : (m * 2 ^ k).log2 = m.log2 + k := by
  have hp := Nat.two_pow_pos k
  have hne : m * 2 ^ k ≠ 0 := by have := Nat.mul_pos (show 0 < m by omega) hp; omega
  rw [Nat.log2_eq_iff hne]
  have h1 := Nat.log2_self_le hm
  have h2 := Nat.lt_log2_self (n := m)
  constructor
  · rw [Nat.pow_add]; exact Nat.mul_le_mul_right _ h1
  · rw [show m.log2 + k + 1 = (m.log2 + 1) + k from by omega, Nat.pow_add]; exact (Nat.mul_lt_mul_right hp).2 h2

theorem cut_even (neg : Bool) (n d : Nat) : Toward.even.cut neg n d = hev n (2 ^ d) := by
  unfold Toward.cut
  simp only [Nat.one_shiftLeft]
  rcases Nat.lt_or_ge (n.log2 + 2) d with h | h
  · have hm : min d (n.log2 + 2) = n.log2 + 2 := by omega
    rw [hm]
    have h1 := Nat.lt_log2_self (n := n)
    have h2 : 2 ^ (n.log2 + 2) = 2 * 2 ^ (n.log2 + 1) := by rw [Nat.pow_succ 2 (n.log2 + 1)]; omega
    have h3 : n < 2 ^ (n.log2 + 2) := by omega
    have h4 : 2 ^ (n.log2 + 2) ≤ 2 ^ d := Nat.pow_le_pow_right (by omega) (by omega)
    unfold hev
    rw [Nat.div_eq_of_lt h3, Nat.mod_eq_of_lt h3, Nat.div_eq_of_lt (Nat.lt_of_lt_of_le h3 h4), Nat.mod_eq_of_lt (Nat.lt_of_lt_of_le h3 h4)]
    simp
    rw [decide_eq_false (by omega)]; simp; omega
  · have hm : min d (n.log2 + 2) = d := by omega
    rw [hm]
    unfold hev
    congr 1
    by_cases h1 : 2 ^ d < 2 * (n % 2 ^ d)
    · simp [h1]
    · by_cases h2 : 2 ^ d = 2 * (n % 2 ^ d)
      · by_cases h3 : n / 2 ^ d % 2 = 1
        · rw [if_pos (.inr ⟨h2, h3⟩)]; simp [h3, ← h2]
        · rw [if_neg (by omega)]; simp [h3, h1]
      · rw [if_neg (by omega)]; simp [h2, h1]

/-- the ceiling: the rung of infinity -/
def infR : Nat := 2047 * 2 ^ 52
theorem infR_eq : double.infRung = infR := rfl

/-- 'nearest', in units of 2^-2148 -/
theorem nearest_eq (neg : Bool) (m : Nat) (p : Int) (hp : -2148 ≤ p) :
    double.nearest neg m p = double.word neg (min (rungOf (m * 2 ^ (p + 2148).toNat)) infR) := by
  unfold Format.nearest
  rcases Nat.eq_zero_or_pos m with rfl | hm
  · rw [if_pos rfl]; simp [rungOf]
  · rw [if_neg (by omega)]
    have hne : m * 2 ^ (p + 2148).toNat ≠ 0 := by
      have := Nat.mul_pos hm (Nat.two_pow_pos (p + 2148).toNat); omega
    have hlog := log2_mul_pow (k := (p + 2148).toNat) (show m ≠ 0 by omega)
    simp only [show double.leastPlace = -1074 from rfl, show double.fractionBits = 52 from rfl, show double.binade = 2 ^ 52 from rfl, infR_eq]
    congr 2
    unfold rungOf
    rw [if_neg hne]
    have hdrop : (drop (m * 2 ^ (p + 2148).toNat) : Int) = max (p + m.log2 - 52) (-1074) + 2148 := by
      unfold drop; rw [hlog]; omega
    generalize hD : drop (m * 2 ^ (p + 2148).toNat) = D at *
    rw [show ((52 : Nat) : Int) = 52 from rfl]
    generalize hL : max (p + (m.log2 : Int) - 52) (-1074) = L at *
    have hL2 : -1074 ≤ L := by omega
    rw [show (L - -1074).toNat = D - 1074 from by omega]
    congr 1
    rw [cut_even, Nat.shiftLeft_eq]
    rcases Int.le_total L p with h | h
    · rw [show (L - p).toNat = 0 from by omega, Nat.pow_zero]
      rw [show m * 2 ^ (p + 2148).toNat = (m * 2 ^ (p - L).toNat) * 2 ^ D from by rw [Nat.mul_assoc, ← Nat.pow_add]; congr 2; omega]
      rw [hev_exact (Nat.two_pow_pos _)]
      have := hev_exact (k := m * 2 ^ (p - L).toNat) (d := 1) (by omega)
      rwa [Nat.mul_one] at this
    · rw [show (p - L).toNat = 0 from by omega, Nat.pow_zero, Nat.mul_one]
      rw [show 2 ^ D = 2 ^ (L - p).toNat * 2 ^ (p + 2148).toNat from by rw [← Nat.pow_add]; congr 1; omega]
      exact (hev_scale (Nat.two_pow_pos _) (Nat.two_pow_pos _)).symm

end Inc
end
section
set_option exponentiation.threshold 4000
set_option autoImplicit false
namespace Inc
open Ieee

@[irreducible] def U : Nat := 2 ^ 1074
theorem U_eq : U = 2 ^ 1074 := by unfold U; rfl
theorem U_pos : 0 < U := by rw [U_eq]; exact Nat.two_pow_pos _
theorem U_split {a b : Nat} (h : a + b = 1074) : U = 2 ^ a * 2 ^ b := by rw [U_eq, ← Nat.pow_add, h]
theorem U_mul {a b : Nat} (h : b = a + 1074) : 2 ^ b = 2 ^ a * U := by rw [U_eq, ← Nat.pow_add, h]

def rungOfW (w : Nat) : Nat := w % 2 ^ 63
def negW (w : Nat) : Bool := w / 2 ^ 63 % 2 == 1
/-- what a word stands for, in units of 2^-1074 (an infinity: as the number that would be next) -/
def sval (w : Nat) : Int := if negW w then -(mag (rungOfW w) : Int) else mag (rungOfW w)
def Fin (w : Nat) : Prop := rungOfW w < infR
/-- no NaN -/
def Num (w : Nat) : Prop := rungOfW w ≤ infR

theorem Fin.num {w : Nat} (h : Fin w) : Num w := Nat.le_of_lt h

theorem mag_succ_lt (r : Nat) : mag r < mag (r + 1) := by
  unfold mag
  rcases Nat.lt_or_ge (r + 1) (2 ^ 52) with h | h
  · rw [if_pos (by omega), if_pos h]; omega
  · rcases Nat.lt_or_ge r (2 ^ 52) with h' | h'
    · obtain rfl : r = 2 ^ 52 - 1 := by omega
      decide
    · rw [if_neg (by omega), if_neg (by omega)]
      rcases Nat.lt_or_ge (r % 2 ^ 52 + 1) (2 ^ 52) with h1 | h1
      · have e1 : (r + 1) % 2 ^ 52 = r % 2 ^ 52 + 1 := by omega
        have e2 : (r + 1) / 2 ^ 52 = r / 2 ^ 52 := by omega
        rw [e1, e2]
        exact (Nat.mul_lt_mul_right (Nat.two_pow_pos _)).2 (by omega)
      · have e1 : (r + 1) % 2 ^ 52 = 0 := by omega
        have e2 : (r + 1) / 2 ^ 52 = r / 2 ^ 52 + 1 := by omega
        have e3 : r % 2 ^ 52 = 2 ^ 52 - 1 := by omega
        rw [e1, e2, e3]
        have hq : r / 2 ^ 52 + 1 - 1 = (r / 2 ^ 52 - 1) + 1 := by omega
        rw [hq, Nat.pow_succ 2 (r / 2 ^ 52 - 1)]
        have hp := Nat.two_pow_pos (r / 2 ^ 52 - 1)
        generalize 2 ^ (r / 2 ^ 52 - 1) = x at *
        omega

theorem mag_mono {r s : Nat} (h : r ≤ s) : mag r ≤ mag s := by
  induction s with
  | zero => obtain rfl : r = 0 := by omega
            exact Nat.le_refl _
  | succ s ih =>
    rcases Nat.lt_or_ge r (s + 1) with h' | h'
    · exact Nat.le_of_lt (Nat.lt_of_le_of_lt (ih (by omega)) (mag_succ_lt s))
    · obtain rfl : r = s + 1 := by omega
      exact Nat.le_refl _

theorem mag_strict {r s : Nat} (h : r < s) : mag r < mag s := Nat.lt_of_lt_of_le (mag_succ_lt r) (mag_mono h)
theorem mag_inj {r s : Nat} (h : mag r = mag s) : r = s := by
  rcases Nat.lt_trichotomy r s with h' | h' | h'
  · have := mag_strict h'; omega
  · exact h'
  · have := mag_strict h'; omega

/-- how a finite word reads -/
theorem read_fin {w : Nat} (h : Fin w) : ∃ m p, double.read w = .number (negW w) m p ∧ -1074 ≤ p ∧ m * 2 ^ (p + 1074).toNat = mag (rungOfW w) := by
  unfold Format.read
  have hs : double.signWeight = 2 ^ 63 := by rfl
  have hb : double.binade = 2 ^ 52 := by rfl
  have hl : double.leastPlace = -1074 := by rfl
  simp only [hs, hb, hl, infR_eq]
  unfold Fin at h
  unfold negW
  rw [show w % 2 ^ 63 = rungOfW w from rfl]
  generalize rungOfW w = r at *
  unfold mag
  split
  · exact ⟨_, _, rfl, by omega, by simp⟩
  · refine ⟨_, _, rfl, by omega, ?_⟩
    congr 2
    omega

theorem read_inf {w : Nat} (h : rungOfW w = infR) : double.read w = .infinity (negW w) := by
  unfold Format.read
  have hs : double.signWeight = 2 ^ 63 := by rfl
  have hb : double.binade = 2 ^ 52 := by rfl
  simp only [hs, hb, infR_eq]
  unfold negW
  rw [show w % 2 ^ 63 = rungOfW w from rfl, h]
  rw [if_neg (by decide), if_neg (by omega), if_pos rfl]

theorem read_nan {w : Nat} (h : infR < rungOfW w) : double.read w = .nan (negW w) (rungOfW w - infR) := by
  unfold Format.read
  have hs : double.signWeight = 2 ^ 63 := by rfl
  have hb : double.binade = 2 ^ 52 := by rfl
  have hi : (2 : Nat) ^ 52 < infR := by decide
  simp only [hs, hb, infR_eq]
  unfold negW
  rw [show w % 2 ^ 63 = rungOfW w from rfl]
  rw [if_neg (by omega), if_neg (by omega), if_neg (by omega)]

/-- the word of a sign and a size in units of 2^-2148, rounded -/
def wr (neg : Bool) (n : Nat) : Nat := double.word neg (min (rungOf n) infR)

theorem word_eq (neg : Bool) (r : Nat) : double.word neg r = (if neg then 2 ^ 63 + r else r) := by
  unfold Format.word
  rw [show double.signWeight = 2 ^ 63 from rfl]

theorem infR_lt : infR < 2 ^ 63 := by decide

theorem wr_rung (neg : Bool) (n : Nat) : rungOfW (wr neg n) = min (rungOf n) infR := by
  unfold wr rungOfW
  rw [word_eq]
  have := infR_lt
  cases neg
  · simp only [Bool.false_eq_true, if_false]; rw [Nat.mod_eq_of_lt (by omega)]
  · simp only [if_true]
    rw [Nat.add_mod_left, Nat.mod_eq_of_lt (by omega)]
theorem wr_neg (neg : Bool) (n : Nat) : negW (wr neg n) = neg := by
  unfold wr negW
  rw [word_eq]
  have := infR_lt
  cases neg
  · simp only [Bool.false_eq_true, if_false]; rw [Nat.div_eq_of_lt (by omega)]; rfl
  · simp only [if_true]
    rw [Nat.add_div_left _ (by omega), Nat.div_eq_of_lt (by omega)]; rfl
theorem wr_num (neg : Bool) (n : Nat) : Num (wr neg n) := by unfold Num; rw [wr_rung]; omega
theorem wr_lt (neg : Bool) (n : Nat) : wr neg n < 2 ^ 64 := by
  unfold wr; rw [word_eq]; have := infR_lt; split <;> omega
theorem wr_sval (neg : Bool) (n : Nat) : sval (wr neg n) = if neg then -(mag (min (rungOf n) infR) : Int) else mag (min (rungOf n) infR) := by
  unfold sval; rw [wr_neg, wr_rung]

/-- float64(n) -/
def ofI (n : Int) : Nat := double.write (.number (n < 0) n.natAbs 0)
theorem UU : U * U = 2 ^ 2148 := by rw [U_eq, ← Nat.pow_add]
theorem nearest_wr (neg : Bool) (m : Nat) {p : Int} (hp : -2148 ≤ p) : double.nearest neg m p = wr neg (m * 2 ^ (p + 2148).toNat) := by
  unfold wr; exact nearest_eq neg m p hp
theorem nearest_wr0 (neg : Bool) (m : Nat) : double.nearest neg m 0 = wr neg (m * (U * U)) := by
  rw [nearest_wr neg m (by omega), UU]; rfl
theorem ofI_eq (n : Int) : ofI n = wr (decide (n < 0)) (n.natAbs * (U * U)) := by
  unfold ofI Format.write
  exact nearest_wr0 _ _

theorem mul_fin {x y : Nat} (hx : Fin x) (hy : Fin y) : double.mul x y = some (wr (negW x ^^ negW y) (mag (rungOfW x) * mag (rungOfW y))) := by
  obtain ⟨m, p, h1, h2, h3⟩ := read_fin hx
  obtain ⟨n, q, k1, k2, k3⟩ := read_fin hy
  unfold Format.mul
  rw [h1, k1]
  simp only [Datum.product, Option.map_some, Format.write]
  rw [nearest_eq _ _ _ (by omega)]
  unfold wr
  rw [← h3, ← k3]
  have e : (p + q + 2148).toNat = (p + 1074).toNat + (q + 1074).toNat := by omega
  rw [e, Nat.pow_add]
  congr 4
  generalize 2 ^ (p + 1074).toNat = a
  generalize 2 ^ (q + 1074).toNat = b
  grind

theorem signed_scale (s : Bool) (m : Nat) (k : Nat) : signed s m k = (if s then -((m * 2 ^ k : Nat) : Int) else ((m * 2 ^ k : Nat) : Int)) := by
  unfold signed; rw [Nat.shiftLeft_eq]

/-- a sum: the exact one, in units of 2^-1074, rounded -/
def sumNeg (x y : Nat) : Bool := if sval x + sval y = 0 then negW x && negW y else decide (sval x + sval y < 0)

theorem add_fin {x y : Nat} (hx : Fin x) (hy : Fin y) : double.add x y = some (wr (sumNeg x y) ((sval x + sval y).natAbs * U)) := by
  obtain ⟨m, p, h1, h2, h3⟩ := read_fin hx
  obtain ⟨n, q, k1, k2, k3⟩ := read_fin hy
  unfold Format.add
  rw [h1, k1]
  simp only [Datum.sum, Option.map_some, Format.write]
  generalize hb : min p q = b
  have hb2 : -1074 ≤ b := by omega
  rw [nearest_eq _ _ _ (by omega)]
  -- the exact sum, in units of 2^-1074
  have key : (signed (negW x) m (p - b).toNat + signed (negW y) n (q - b).toNat) * ((2 ^ (b + 1074).toNat : Nat) : Int) = sval x + sval y := by
    unfold sval
    rw [← h3, ← k3, signed_scale, signed_scale]
    have e1 : (p + 1074).toNat = (p - b).toNat + (b + 1074).toNat := by omega
    have e2 : (q + 1074).toNat = (q - b).toNat + (b + 1074).toNat := by omega
    rw [e1, e2, Nat.pow_add, Nat.pow_add, ← Nat.mul_assoc, ← Nat.mul_assoc]
    generalize m * 2 ^ (p - b).toNat = u
    generalize n * 2 ^ (q - b).toNat = v
    generalize 2 ^ (b + 1074).toNat = z
    cases negW x <;> cases negW y <;> simp <;> grind
  generalize hT : signed (negW x) m (p - b).toNat + signed (negW y) n (q - b).toNat = T at *
  have hz : 0 < ((2 ^ (b + 1074).toNat : Nat) : Int) := by have := Nat.two_pow_pos (b + 1074).toNat; omega
  have hneg : (if T = 0 then negW x && negW y else decide (T < 0)) = sumNeg x y := by
    unfold sumNeg
    rw [← key]
    have e0 : (T * ((2 ^ (b + 1074).toNat : Nat) : Int) = 0) ↔ T = 0 := by
      rw [Int.mul_eq_zero]; omega
    have e1 : (T * ((2 ^ (b + 1074).toNat : Nat) : Int) < 0) ↔ T < 0 := by
      constructor
      · intro h
        rcases Int.lt_or_le T 0 with h' | h'
        · exact h'
        · have := Int.mul_nonneg h' (Int.le_of_lt hz); omega
      · intro h; exact Int.mul_neg_of_neg_of_pos h hz
    simp only [e0, e1]
  simp only [hneg]
  have e : T.natAbs * 2 ^ (b + 2148).toNat = (sval x + sval y).natAbs * U := by
    rw [← key, Int.natAbs_mul, Int.natAbs_natCast, Nat.mul_assoc, U_mul (show (b + 2148).toNat = (b + 1074).toNat + 1074 by omega)]
  rw [e]
  rfl

/-- rounding keeps order, with signs -/
theorem wr_mono {s t : Bool} {a b : Nat} {x y : Int} (hx : x = if s then -(a : Int) else a) (hy : y = if t then -(b : Int) else b) (h : x ≤ y) : sval (wr s a) ≤ sval (wr t b) := by
  rw [wr_sval, wr_sval]
  cases s <;> cases t <;> simp only [if_true, Bool.false_eq_true, if_false] at *
  · have : a ≤ b := by omega
    have := mag_mono (show min (rungOf a) infR ≤ min (rungOf b) infR by have := rungOf_mono this; omega)
    omega
  · have ha : a = 0 := by omega
    have hb : b = 0 := by omega
    subst ha hb
    have : rungOf 0 = 0 := rfl
    rw [this, Nat.zero_min, mag_zero]; omega
  · omega
  · have : b ≤ a := by omega
    have := mag_mono (show min (rungOf b) infR ≤ min (rungOf a) infR by have := rungOf_mono this; omega)
    omega

theorem sum_signed (x y : Nat) (U : Nat) : (sval x + sval y) * (U : Int) = if sumNeg x y then -(((sval x + sval y).natAbs * U : Nat) : Int) else (((sval x + sval y).natAbs * U : Nat) : Int) := by
  unfold sumNeg
  generalize sval x + sval y = z
  rw [Int.natCast_mul]
  by_cases h0 : z = 0
  · subst h0; simp
  · rw [if_neg h0]
    by_cases h1 : z < 0
    · rw [decide_eq_true h1]; simp only [if_true]
      have : (z.natAbs : Int) = -z := by omega
      rw [this]; grind
    · rw [decide_eq_false h1]; simp only [Bool.false_eq_true, if_false]
      have : (z.natAbs : Int) = z := by omega
      rw [this]

theorem add_mono {x x' y : Nat} (h : sval x ≤ sval x') :
    sval (wr (sumNeg x y) ((sval x + sval y).natAbs * U)) ≤ sval (wr (sumNeg x' y) ((sval x' + sval y).natAbs * U)) := by
  refine wr_mono (sum_signed x y _) (sum_signed x' y _) ?_
  exact Int.mul_le_mul_of_nonneg_right (by omega) (by omega)

end Inc
end
section
set_option exponentiation.threshold 4000
set_option autoImplicit false
namespace Inc
open Ieee

theorem read_fin' {w : Nat} (h : Fin w) : ∃ m p, double.read w = .number (negW w) m p ∧ -1074 ≤ p ∧ m * 2 ^ (p + 1074).toNat = mag (rungOfW w) ∧ m < 2 ^ 53 := by
  obtain ⟨m, p, h1, h2, h3⟩ := read_fin h
  refine ⟨m, p, h1, h2, h3, ?_⟩
  unfold Format.read at h1
  have hs : double.signWeight = 2 ^ 63 := by rfl
  have hb : double.binade = 2 ^ 52 := by rfl
  have hl : double.leastPlace = -1074 := by rfl
  simp only [hs, hb, hl, infR_eq] at h1
  split at h1
  · injection h1 with _ h1 _; omega
  · split at h1
    · injection h1 with _ h1 _; omega
    · split at h1 <;> cases h1

theorem cut_zero (neg : Bool) (n d : Nat) : Toward.zero.cut neg n d = n / 2 ^ d := by
  unfold Toward.cut
  simp only [Nat.one_shiftLeft, Bool.toNat_false, Nat.add_zero]
  rcases Nat.lt_or_ge (n.log2 + 2) d with h | h
  · rw [show min d (n.log2 + 2) = n.log2 + 2 from by omega]
    have h1 := Nat.lt_log2_self (n := n)
    have h2 : 2 ^ (n.log2 + 2) = 2 * 2 ^ (n.log2 + 1) := by rw [Nat.pow_succ 2 (n.log2 + 1)]; omega
    have h3 : n < 2 ^ (n.log2 + 2) := by omega
    have h4 : 2 ^ (n.log2 + 2) ≤ 2 ^ d := Nat.pow_le_pow_right (by omega) (by omega)
    rw [Nat.div_eq_of_lt h3, Nat.div_eq_of_lt (Nat.lt_of_lt_of_le h3 h4)]
  · rw [show min d (n.log2 + 2) = d from by omega]

theorem cut_down (neg : Bool) (n d : Nat) : Toward.down.cut neg n d = n / 2 ^ d + (if neg = true ∧ n % 2 ^ d ≠ 0 then 1 else 0) := by
  unfold Toward.cut
  simp only [Nat.one_shiftLeft]
  rcases Nat.lt_or_ge (n.log2 + 2) d with h | h
  · rw [show min d (n.log2 + 2) = n.log2 + 2 from by omega]
    have h1 := Nat.lt_log2_self (n := n)
    have h2 : 2 ^ (n.log2 + 2) = 2 * 2 ^ (n.log2 + 1) := by rw [Nat.pow_succ 2 (n.log2 + 1)]; omega
    have h3 : n < 2 ^ (n.log2 + 2) := by omega
    have h4 : 2 ^ (n.log2 + 2) ≤ 2 ^ d := Nat.pow_le_pow_right (by omega) (by omega)
    rw [Nat.div_eq_of_lt h3, Nat.div_eq_of_lt (Nat.lt_of_lt_of_le h3 h4), Nat.mod_eq_of_lt h3, Nat.mod_eq_of_lt (Nat.lt_of_lt_of_le h3 h4)]
    cases neg <;> by_cases h0 : n = 0 <;> simp [h0]
  · rw [show min d (n.log2 + 2) = d from by omega]
    cases neg <;> by_cases h0 : n % 2 ^ d = 0 <;> simp [h0]

/-- a whole number of at most 53 digits and then noughts: written exactly -/
theorem write_whole {k m j : Nat} (hk : k = m * 2 ^ j) (hm : m < 2 ^ 53) : mag (rungOf (k * (U * U))) = k * U := by
  have e0 : k * (U * U) = m * 2 ^ (j + 2148) := by rw [UU, hk, Nat.mul_assoc, ← Nat.pow_add]
  have h := rung_exact (n := k * (U * U)) (d := j + 2148) (by omega)
    (by rw [e0, Nat.add_comm (j + 2148) 53, Nat.pow_add 2 53]; exact (Nat.mul_lt_mul_right (Nat.two_pow_pos _)).2 hm)
    (by rw [e0]; exact Nat.dvd_mul_left _ _)
  rw [← U_eq] at h
  exact Nat.eq_of_mul_eq_mul_right U_pos (h.trans (Nat.mul_assoc k U U).symm)

theorem rungOf_pow {k : Nat} (hk : 1126 ≤ k) : rungOf (2 ^ k) = (k - 1125) * 2 ^ 52 := by
  have hne : 2 ^ k ≠ 0 := by have := Nat.two_pow_pos k; omega
  have hd : drop (2 ^ k) = k - 52 := by unfold drop; rw [Nat.log2_two_pow]; omega
  unfold rungOf
  rw [if_neg hne, hd]
  have : hev (2 ^ k) (2 ^ (k - 52)) = 2 ^ 52 := by
    have e : 2 ^ k = 2 ^ 52 * 2 ^ (k - 52) := by rw [← Nat.pow_add]; congr 1; omega
    rw [e]; exact hev_exact (Nat.two_pow_pos _)
  rw [this]
  omega

theorem rungOf_fin {n : Nat} (h : n ≤ 2 ^ 3171) : rungOf n < infR := by
  have h1 := rungOf_mono h
  rw [rungOf_pow (by omega)] at h1
  unfold infR
  omega

/-- the rung's size over U, and what is left -/
theorem mag_split {m : Nat} {p : Int} (hp0 : -1074 ≤ p) :
    m * 2 ^ (p + 1074).toNat = (m * 2 ^ p.toNat / 2 ^ (-p).toNat) * U + (m * 2 ^ p.toNat % 2 ^ (-p).toNat) * 2 ^ (p + 1074).toNat ∧
    (m * 2 ^ p.toNat % 2 ^ (-p).toNat) * 2 ^ (p + 1074).toNat < U ∧ (m * 2 ^ p.toNat % 2 ^ (-p).toNat ≠ 0 → 0 < (m * 2 ^ p.toNat % 2 ^ (-p).toNat) * 2 ^ (p + 1074).toNat) := by
  rcases Int.le_total 0 p with hp | hp
  · rw [show (-p).toNat = 0 from by omega, Nat.pow_zero, Nat.div_one, Nat.mod_one]
    refine ⟨?_, by have := U_pos; omega, by omega⟩
    rw [U_mul (show (p + 1074).toNat = p.toNat + 1074 by omega), Nat.zero_mul, Nat.add_zero, Nat.mul_assoc]
  · rw [show p.toNat = 0 from by omega, Nat.pow_zero, Nat.mul_one]
    have hU : U = 2 ^ (-p).toNat * 2 ^ (p + 1074).toNat := U_split (by omega)
    have hz := Nat.two_pow_pos (p + 1074).toNat
    have hd := Nat.div_add_mod m (2 ^ (-p).toNat)
    have hlt := Nat.mod_lt m (Nat.two_pow_pos (-p).toNat)
    generalize (p + 1074).toNat = a at *
    generalize (-p).toNat = b at *
    refine ⟨?_, ?_, fun h => Nat.mul_pos (by omega) hz⟩
    · have hd' : m / 2 ^ b * 2 ^ b + m % 2 ^ b = m := by rw [Nat.mul_comm]; exact hd
      rw [hU, ← Nat.mul_assoc, ← Nat.add_mul, hd']
    · rw [hU]; exact (Nat.mul_lt_mul_right hz).2 hlt

/-- what a whole number's double is as an int -/
theorem back_whole {s : Bool} {k m j : Nat} (hk : k = m * 2 ^ j) (hm : m < 2 ^ 53) (hb : k ≤ 2 ^ 65) :
    (double.read (double.write (Datum.number s k 0))).toInt .zero = some (if s then -(k : Int) else k) := by
  have hex := write_whole hk hm
  have hw : double.write (Datum.number s k 0) = wr s (k * (U * U)) := by
    unfold Format.write
    exact nearest_wr0 _ _
  rw [hw]
  have hfin : rungOf (k * (U * U)) < infR := by
    refine rungOf_fin ?_
    have := Nat.mul_le_mul_right (U * U) hb
    refine Nat.le_trans this ?_
    rw [UU, ← Nat.pow_add]
    exact Nat.pow_le_pow_right (by omega) (by omega)
  have hF : Fin (wr s (k * (U * U))) := by unfold Fin; rw [wr_rung]; omega
  obtain ⟨m2, p2, k1, k2, k3, _⟩ := read_fin' hF
  rw [wr_rung, Nat.min_eq_left (Nat.le_of_lt hfin), hex] at k3
  rw [k1, wr_neg]
  simp only [Datum.toInt, Datum.integral]
  rw [cut_zero, Nat.shiftLeft_eq]
  obtain ⟨q1, q2, q3⟩ := mag_split (m := m2) k2
  rw [k3] at q1
  have hk2 : m2 * 2 ^ p2.toNat / 2 ^ (-p2).toNat = k := by
    generalize m2 * 2 ^ p2.toNat / 2 ^ (-p2).toNat = Q at *
    generalize m2 * 2 ^ p2.toNat % 2 ^ (-p2).toNat * 2 ^ (p2 + 1074).toNat = r at *
    have e1 : Q ≤ k := Nat.le_of_mul_le_mul_right (show Q * U ≤ k * U by omega) U_pos
    have e2 : k < Q + 1 := by
      refine Nat.lt_of_mul_lt_mul_right (a := U) ?_
      rw [Nat.add_mul, Nat.one_mul]; omega
    omega
  rw [hk2]
  refine congrArg some ?_
  rw [signed_scale, Nat.pow_zero, Nat.mul_one]

/-- the floor, by parts -/
theorem floor_parts {Q r K : Nat} {neg : Bool} {R : Nat} (hr : r < U) (h0 : R ≠ 0 → 0 < r) (h1 : R = 0 → r = 0) (hK : K = Q + (if neg = true ∧ R ≠ 0 then 1 else 0)) :
    (if neg then -(K : Int) else (K : Int)) = (if neg then -((Q * U + r : Nat) : Int) else ((Q * U + r : Nat) : Int)) / (U : Int) := by
  have hUpos : (0 : Int) < (U : Int) := by have := U_pos; omega
  have hr' : (r : Int) < (U : Int) := by omega
  have hr0 : (0 : Int) ≤ (r : Int) := by omega
  have hq : ((Q * U + r : Nat) : Int) = (Q : Int) * (U : Int) + r := by rw [Int.natCast_add, Int.natCast_mul]
  rw [hq]
  cases neg
  · simp only [Bool.false_eq_true, if_false, false_and, Nat.add_zero] at hK ⊢
    subst hK
    rw [Int.add_comm, Int.add_mul_ediv_right _ _ (by omega), Int.ediv_eq_zero_of_lt hr0 hr']
    omega
  · simp only [if_true, true_and] at hK ⊢
    by_cases hR : R = 0
    · rw [if_neg (by omega)] at hK
      have hz := h1 hR
      subst hz hK
      rw [show ((0 : Nat) : Int) = 0 from rfl, Int.add_zero, ← Int.neg_mul, Int.mul_ediv_cancel _ (by omega)]
    · rw [if_pos hR] at hK
      have hp := h0 hR
      subst hK
      have e : -((Q : Int) * (U : Int) + r) = ((U : Int) - r) + (-((Q : Int) + 1)) * (U : Int) := by grind
      rw [e, Int.add_mul_ediv_right _ _ (by omega), Int.ediv_eq_zero_of_lt (by omega) (by omega)]
      omega

/-- The whole part of a double that lies far below the greatest: as Go's Floor, and then as an int. -/
theorem floor_ok {w : Nat} (h : Fin w) (hb : mag (rungOfW w) ≤ 2 ^ 64 * U) :
    (double.read (double.write ((double.read w).integral .down))).toInt .zero = some (sval w / (U : Int)) := by
  obtain ⟨m, p, h1, h2, h3, hm⟩ := read_fin' h
  rw [h1]
  simp only [Datum.integral]
  rw [cut_down, Nat.shiftLeft_eq]
  obtain ⟨q1, q2, q3⟩ := mag_split (m := m) h2
  rw [h3] at q1
  have hform : ∃ m' j, m * 2 ^ p.toNat / 2 ^ (-p).toNat + (if negW w = true ∧ m * 2 ^ p.toNat % 2 ^ (-p).toNat ≠ 0 then 1 else 0) = m' * 2 ^ j ∧ m' < 2 ^ 53 := by
    rcases Int.lt_or_le p 0 with hp | hp
    · refine ⟨m / 2 ^ (-p).toNat + (if negW w = true ∧ m % 2 ^ (-p).toNat ≠ 0 then 1 else 0), 0, ?_, ?_⟩
      · rw [show p.toNat = 0 from by omega, Nat.pow_zero, Nat.mul_one, Nat.mul_one]
      · have : m / 2 ^ (-p).toNat ≤ m / 2 := Nat.div_le_div_left (by
          have := Nat.pow_le_pow_right (show 0 < 2 by omega) (show 1 ≤ (-p).toNat by omega)
          omega) (by omega)
        split <;> omega
    · refine ⟨m, p.toNat, ?_, hm⟩
      rw [show (-p).toNat = 0 from by omega, Nat.pow_zero, Nat.div_one, Nat.mod_one, if_neg (by omega), Nat.add_zero]
  obtain ⟨m', j, hk, hm'⟩ := hform
  have hQ : m * 2 ^ p.toNat / 2 ^ (-p).toNat ≤ 2 ^ 64 := Nat.le_of_mul_le_mul_right (Nat.le_trans (by omega) hb) U_pos
  rw [back_whole hk hm' (by split <;> omega)]
  refine congrArg some ?_
  unfold sval
  rw [q1]
  exact floor_parts q2 q3 (fun h => by rw [h, Nat.zero_mul]) rfl

end Inc
end
