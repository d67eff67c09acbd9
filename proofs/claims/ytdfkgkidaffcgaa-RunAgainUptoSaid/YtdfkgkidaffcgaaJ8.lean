/- Walks: math.Ldexp of a whole number of 53 digits. One digit of a long division, as math/bits divides. Plain mathematics. Walks: comparisons and products of 128 bits. -/
import Derived.Laws.BitsLemmas
import Derived.Test.YtdfkgkidaffcgaaProg
import Derived.WalkKit
import Derived.WalkSpells
import Derived.WalkLawsBesides
import Derived.BigQuiet
import Derived.Deep.QuietTactic
import Derived.Test.YtdfkgkidaffcgaaJ7
set_option linter.all false
section
set_option exponentiation.threshold 4000
namespace Go.Proofs.Ytdfkgkidaffcgaa
open Go.RowKit

theorem order_gt {x y : Nat} (hx : Inc.Fin x) (hy : Inc.Fin y) (h1 : x < 9223372036854775808) (h : y < x) : FloatKind.f64.format.order x y = some Ordering.gt := by
  show Ieee.double.order x y = _
  rw [Inc.order_fin hx hy, Inc.sval_plain h1, Inc.sval_plain (by omega)]
  have := Inc.mag_strict h
  simp only [compare, compareOfLessAndEq]
  rw [if_neg (by omega), if_neg (by omega)]

theorem order_lt {x y : Nat} (hx : Inc.Fin x) (hy : Inc.Fin y) (h1 : y < 9223372036854775808) (h : x < y) : FloatKind.f64.format.order x y = some Ordering.lt := by
  show Ieee.double.order x y = _
  rw [Inc.order_fin hx hy, Inc.sval_plain h1, Inc.sval_plain (by omega)]
  have := Inc.mag_strict h
  simp only [compare, compareOfLessAndEq]
  rw [if_pos (by omega)]

theorem fin_of {x : Nat} (h : x < 9218868437227405312) : Inc.Fin x := by
  unfold Inc.Fin Inc.rungOfW Inc.infR; omega

set_option maxRecDepth 100000 in
theorem normalize_f (f : Nat) (h0 : 4503599627370496 < f) (h1 : f < 9218868437227405312) (w : World) :
    Calls Try.prog 97 #[.float .f64 f] w fun e w' => e = .returned (.tuple #[.float .f64 f, .int .i64 0]) ∧ w = w' := by
  have h2 := abs_f f (by omega) w
  rw [Nat.mod_eq_of_lt (by omega)] at h2
  have h3 := order_gt (fin_of h1) (fin_of (x := 4503599627370496) (by omega)) (by omega) h0
  clear h0 h1
  go_enter Try.func97, Try.ntmps97
  go_wp2_with (go_at_call 88; refine (h2).mono ?_; rintro e w' ⟨rfl, rfl⟩)
  go_ret2
  exact ⟨rfl, rfl⟩

theorem mul_one_digits (m e : Nat) (h1 : 2 ^ 52 ≤ m) (h2 : m ≤ 2 ^ 53) (he : e ≤ 2000) : Ieee.double.mul 4607182418800017408 (e * 4503599627370496 + m) = some (e * 4503599627370496 + m) := by
  have hi : Inc.infR = 2047 * 2 ^ 52 := rfl
  have hy : Inc.Fin (e * 4503599627370496 + m) := fin_of (by omega)
  have h1f : Inc.Fin 4607182418800017408 := fin_of (by omega)
  rw [Inc.mul_fin h1f hy]
  have r1 : Inc.rungOfW (e * 4503599627370496 + m) = e * 2 ^ 52 + m := by unfold Inc.rungOfW; omega
  have m1 : Inc.mag (Inc.rungOfW 4607182418800017408) = Inc.U := by rw [Inc.U_eq]; decide +kernel
  have m2 := Inc.mag_rung (d := e) h2 (fun _ => h1)
  have n1 : Inc.negW 4607182418800017408 = false := by decide
  have n2 : Inc.negW (e * 4503599627370496 + m) = false := by unfold Inc.negW; simp; omega
  have e1 : Inc.U * (m * 2 ^ e) = m * 2 ^ (e + 1074) := by rw [Inc.U_eq, Nat.pow_add]; grind
  have e2 := Inc.rungOf_digits h1 h2 (k := e + 1074) (by omega)
  rw [Nat.add_sub_cancel] at e2
  rw [r1, m1, m2, e1, n1, n2]
  unfold Inc.wr
  rw [Inc.word_eq, e2]
  simp only [Bool.xor_self, Bool.false_eq_true, if_false]
  rw [Nat.min_eq_left (by omega)]

theorem bits_mask_i64 (x : Int) (h0 : 0 ≤ x) (h1 : x < 2048) : bits .and .i64 x 2047 = x := by
  have := bits_mask .i64 63 (by decide) (fun n h0 h1 => by rw [IntKind.wrap_i64]; omega) 11 (by decide) x h0 (by omega)
  rw [show ((2 : Int) ^ 11 - 1) = 2047 from rfl] at this
  rw [this]; omega

theorem andNot_exp (f : Nat) (h : f < 9218868437227405312) : bits .andNot .u64 (f : Int) 9218868437227405312 = ((f % 4503599627370496 : Nat) : Int) := by
  have h1 := u64_andNot (f : Int) 9218868437227405312 (by omega) (by omega) (by omega) (by omega)
  rw [h1]
  have h2 : f % 9223372036854775808 = f := by omega
  have h3 : (18446744073709551615 - (9218868437227405312 : Int).toNat) = 9223372036854775808 + 4503599627370495 := by decide
  rw [h3, Int.toNat_natCast]
  congr 1
  have h4 : (f : Nat) &&& (9223372036854775808 + 4503599627370495) = f % 4503599627370496 := by
    apply Nat.eq_of_testBit_eq
    intro i
    rw [Nat.testBit_and, show (4503599627370496 : Nat) = 2 ^ 52 from rfl, Nat.testBit_mod_two_pow, show (9223372036854775808 + 4503599627370495 : Nat) = 2 ^ 63 + (2 ^ 52 - 1) from rfl]
    rcases Nat.lt_trichotomy i 63 with hi | rfl | hi
    · rw [Nat.testBit_two_pow_add_gt hi, Nat.testBit_two_pow_sub_one]
      cases f.testBit i <;> simp
    · have : f.testBit 63 = false := Nat.testBit_lt_two_pow (by omega)
      rw [this]; simp
    · have : f.testBit i = false := Nat.testBit_lt_two_pow (Nat.lt_of_lt_of_le (show f < 2 ^ 64 by omega) (Nat.pow_le_pow_right (by omega) (by omega)))
      rw [this]; simp
  exact h4

set_option maxRecDepth 100000 in
theorem ldexp_f (M : Nat) (X : Int) (h1 : 4503599627370496 ≤ M) (h2 : M ≤ 9007199254740992) (hx : -1000 ≤ X) (hx' : X ≤ 900) (w : World) :
    Calls Try.prog 92 #[.float .f64 (4836865999795912704 + M), .int .i64 X] w fun e w' => e = .returned (.float .f64 ((1074 + X).toNat * 4503599627370496 + M)) ∧ w = w' := by
  have hY := mul_one_digits M (1074 + X).toNat h1 h2 (by omega)
  obtain ⟨Y, hYe⟩ : ∃ Y, Y = (1074 + X).toNat * 4503599627370496 + M := ⟨_, rfl⟩
  rw [← hYe] at hY ⊢
  obtain ⟨f, hf⟩ : ∃ f, f = 4836865999795912704 + M := ⟨_, rfl⟩
  rw [← hf]
  have q0 := order_gt (fin_of (x := f) (by omega)) (fin_of (x := 0) (by omega)) (by omega) (by omega)
  have q1 : (FloatKind.f64.format.order f f != some Ordering.eq) = false := by
    rw [show FloatKind.f64.format.order f f = some .eq from Inc.order_self (fin_of (by omega))]; rfl
  have q2 : (FloatKind.f64.format.order (f % 9223372036854775808) 9218868437227405311 == some Ordering.gt) = false :=
    Inc.order_le (fin_of (by omega)) (fin_of (by omega)) (by omega) (by omega)
  have h4 := isinf_f f (by omega) w
  have h5 := isnan_f f w
  rw [q1] at h5
  rw [q2] at h4
  have h6 := normalize_f f (by omega) (by omega) w
  have h7 := run_bits f w
  obtain ⟨h, hh⟩ : ∃ h : Nat, h = f / 4503599627370496 := ⟨_, rfl⟩
  obtain ⟨l, hl⟩ : ∃ l : Nat, l = f % 4503599627370496 := ⟨_, rfl⟩
  have e1 : (f : Int) / 4503599627370496 = (h : Int) := by omega
  have e2 : bits .and .i64 (h : Int) 2047 = (h : Int) := bits_mask_i64 _ (by omega) (by omega)
  have e3 : bits .andNot .u64 (f : Int) 9218868437227405312 = (l : Int) := by rw [andNot_exp f (by omega), hl]
  have e4 : bits .or .u64 (l : Int) ((X + h) * 4503599627370496) = (Y : Int) := by
    have := bits_join .u64 64 (by decide) (fun n h0 h1 => by rw [IntKind.wrap_u64]; omega) 52 ((X + h) * 4503599627370496) (l : Int) (by omega) (by omega) (by omega) (by omega) (by omega) (by omega)
    have hc : bits .or .u64 (l : Int) ((X + h) * 4503599627370496) = bits .or .u64 ((X + h) * 4503599627370496) (l : Int) := by
      simp only [bits]
      congr 2
      exact Nat.or_comm _ _
    rw [hc, this]
    omega
  rw [show X + (h : Int) = X + ((h : Int) - 1023) + 1023 by omega] at e4
  have h8 := run_frombits Y w
  have h9 := run_float_arith (P := Try.prog) (w := w) .mul 49 .f64 4607182418800017408 Y Y hY
  have b1 : 1075 ≤ (h : Int) ∧ (h : Int) ≤ 1076 := by omega
  clear hY q1 q2 hh hl hYe hf h1 h2
  go_enter Try.func92, Try.ntmps92
  go_wp2_with (first
    | (go_at_call 74; refine (h4).mono ?_; rintro e w' ⟨rfl, rfl⟩)
    | (go_at_call 72; refine (h5).mono ?_; rintro e w' ⟨rfl, rfl⟩)
    | (go_at_call 97; refine (h6).mono ?_; rintro e w' ⟨rfl, rfl⟩))
  go_ret
  exact ⟨rfl, rfl⟩

set_option maxRecDepth 100000 in
theorem ldexp_any (M : Nat) (X : Int) (h1 : 4503599627370496 ≤ M) (h2 : M ≤ 9007199254740992) (hx : -1000 ≤ X) (hx' : X ≤ 900) (w : World) :
    Calls Try.prog 85 #[.float .f64 (4836865999795912704 + M), .int .i64 X] w fun e w' => e = .returned (.float .f64 ((1074 + X).toNat * 4503599627370496 + M)) ∧ w = w' := by
  have h := ldexp_f M X h1 h2 hx hx' w
  generalize 4836865999795912704 + M = f at *
  generalize (1074 + X).toNat * 4503599627370496 + M = Y at *
  go_enter Try.func85, Try.ntmps85
  go_wp2_with (go_at_call 92; refine (h).mono ?_; rintro e w' ⟨rfl, rfl⟩)
  go_ret
  exact ⟨rfl, rfl⟩
end Go.Proofs.Ytdfkgkidaffcgaa
end
namespace Inc

/-- what holds of a guessed digit q and its remainder r: a is the dividend's upper part, b its next digit, n1 and n0 the divisor's halves -/
structure Guess (n1 n0 a b q r : Nat) : Prop where
  sum : q * n1 + r = a
  hi : (a * 4294967296 + b) / (n1 * 4294967296 + n0) ≤ q
  rlt : r < 4294967296
  qlt : q ≤ 4294967297

structure Halves (n1 n0 a b : Nat) : Prop where
  n1lo : 2147483648 ≤ n1
  n1hi : n1 < 4294967296
  n0hi : n0 < 4294967296
  ahi : a < n1 * 4294967296 + n0
  bhi : b < 4294967296

theorem Guess.start {n1 n0 a b : Nat} (h : Halves n1 n0 a b) : Guess n1 n0 a b (a / n1) (a % n1) := by
  obtain ⟨h1, h2, h3, h4, h5⟩ := h
  have hd := Nat.div_add_mod a n1
  have hm := Nat.mod_lt a (show 0 < n1 by omega)
  refine ⟨by rw [Nat.mul_comm]; exact hd, ?_, by omega, ?_⟩
  · rw [← Nat.lt_succ_iff, Nat.div_lt_iff_lt_mul (by omega)]
    have e : (a / n1 + 1) * (n1 * 4294967296 + n0) = (n1 * (a / n1)) * 4294967296 + n1 * 4294967296 + (a / n1 + 1) * n0 := by
      rw [Nat.mul_add, Nat.add_mul, Nat.one_mul, Nat.mul_comm (a / n1) (n1 * 4294967296), Nat.mul_right_comm]
    simp only [Nat.succ_eq_add_one]
    omega
  · rw [← Nat.lt_succ_iff, Nat.div_lt_iff_lt_mul (by omega)]
    simp only [Nat.succ_eq_add_one]
    omega

theorem digit_lt {n1 n0 a b : Nat} (h : Halves n1 n0 a b) : (a * 4294967296 + b) / (n1 * 4294967296 + n0) < 4294967296 := by
  obtain ⟨h1, h2, h3, h4, h5⟩ := h
  rw [Nat.div_lt_iff_lt_mul (by omega)]
  omega

/-- the guess is too great -/
theorem Guess.big {n1 n0 a b q r : Nat} (h : Halves n1 n0 a b) (g : Guess n1 n0 a b q r) (hc : 4294967296 ≤ q ∨ 4294967296 * r + b < q * n0) :
    (a * 4294967296 + b) / (n1 * 4294967296 + n0) < q := by
  have hd := digit_lt h
  obtain ⟨h1, h2, h3, h4, h5⟩ := h
  obtain ⟨g1, g2, g3, g4⟩ := g
  rcases hc with hc | hc
  · omega
  · rw [Nat.div_lt_iff_lt_mul (by omega), Nat.mul_add, ← Nat.mul_assoc]
    omega

/-- the guess is right -/
theorem Guess.right {n1 n0 a b q r : Nat} (h : Halves n1 n0 a b) (g : Guess n1 n0 a b q r) (hc : q * n0 ≤ 4294967296 * r + b) :
    q = (a * 4294967296 + b) / (n1 * 4294967296 + n0) := by
  obtain ⟨h1, h2, h3, h4, h5⟩ := h
  obtain ⟨g1, g2, g3, g4⟩ := g
  refine Nat.le_antisymm ?_ g2
  rw [Nat.le_div_iff_mul_le (by omega), Nat.mul_add, ← Nat.mul_assoc]
  omega

/-- one less, and the remainder is still a digit -/
theorem Guess.next {n1 n0 a b q r : Nat} (h : Halves n1 n0 a b) (g : Guess n1 n0 a b q r) (hc : (a * 4294967296 + b) / (n1 * 4294967296 + n0) < q)
    (hr : r + n1 < 4294967296) : Guess n1 n0 a b (q - 1) (r + n1) := by
  obtain ⟨g1, g2, g3, g4⟩ := g
  obtain ⟨q, rfl⟩ : ∃ p, q = p + 1 := ⟨q - 1, by have := Nat.lt_of_le_of_lt (Nat.zero_le _) hc; omega⟩
  rw [Nat.add_mul, Nat.one_mul] at g1
  exact ⟨by rw [Nat.add_sub_cancel]; omega, Nat.le_of_lt_succ hc, hr, by omega⟩

/-- one less, and the remainder is no digit: the guess is right -/
theorem Guess.last {n1 n0 a b q r : Nat} (h : Halves n1 n0 a b) (g : Guess n1 n0 a b q r) (hc : (a * 4294967296 + b) / (n1 * 4294967296 + n0) < q)
    (hr : 4294967296 ≤ r + n1) : q - 1 = (a * 4294967296 + b) / (n1 * 4294967296 + n0) := by
  obtain ⟨h1, h2, h3, h4, h5⟩ := h
  obtain ⟨g1, g2, g3, g4⟩ := g
  obtain ⟨q, rfl⟩ : ∃ p, q = p + 1 := ⟨q - 1, by have := Nat.lt_of_le_of_lt (Nat.zero_le _) hc; omega⟩
  rw [Nat.add_sub_cancel]
  refine Nat.le_antisymm ?_ (Nat.le_of_lt_succ hc)
  rw [Nat.add_mul, Nat.one_mul] at g1
  have hq : q * n0 ≤ 4294967296 * 4294967296 := Nat.mul_le_mul (by omega) (by omega)
  rw [Nat.le_div_iff_mul_le (by omega), Nat.mul_add, ← Nat.mul_assoc]
  omega

theorem two_digits' (B y u c : Nat) (hy : 0 < y) : u / y * B + ((u % y) * B + c) / y = (u * B + c) / y ∧ ((u % y) * B + c) % y = (u * B + c) % y := by
  have h := Nat.div_add_mod u y
  have e : u * B + c = (u % y * B + c) + y * (u / y * B) := by
    rw [← Nat.mul_assoc]
    have h' : (y * (u / y) + u % y) * B = u * B := by rw [h]
    rw [Nat.add_mul] at h'
    omega
  rw [e, Nat.add_mul_div_left _ _ hy, Nat.add_mul_mod_self_left]
  exact ⟨Nat.add_comm _ _, rfl⟩

/-- two digits are the quotient -/
theorem two_digits (y u c : Nat) (hy : 0 < y) : u / y * 4294967296 + ((u % y) * 4294967296 + c) / y = (u * 4294967296 + c) / y ∧ ((u % y) * 4294967296 + c) % y = (u * 4294967296 + c) % y :=
  two_digits' _ y u c hy

end Inc
namespace Go.Proofs.Ytdfkgkidaffcgaa
open Go.RowKit

theorem nan64_any (a : Int) (w : World) :
    Calls Try.prog 95 #[.int .i64 a] w fun e w' => e = .returned (.bool false) ∧ w = w' := by
  go_enter Try.func95, Try.ntmps95
  go_wp2
  go_ret
  exact ⟨by simp, rfl⟩

theorem nanu_any (a : Int) (w : World) :
    Calls Try.prog 96 #[.int .u64 a] w fun e w' => e = .returned (.bool false) ∧ w = w' := by
  go_enter Try.func96, Try.ntmps96
  go_wp2
  go_ret
  exact ⟨by simp, rfl⟩

def cmpI (a b : Int) : Int := if a < b then -1 else if b < a then 1 else 0

theorem cmp64_any (a b : Int) (w : World) :
    Calls Try.prog 89 #[.int .i64 a, .int .i64 b] w fun e w' => e = .returned (.int .i64 (cmpI a b)) ∧ w = w' := by
  go_enter Try.func89, Try.ntmps89
  go_wp2_with (go_at_call 95; refine (nan64_any _ _).mono ?_; rintro e w' ⟨rfl, rfl⟩)
  all_goals (go_ret; exact ⟨by unfold cmpI; simp [*] <;> omega, rfl⟩)

end Go.Proofs.Ytdfkgkidaffcgaa
