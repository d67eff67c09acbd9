/- Walks: floats: Along, IsNaN. What remains of arithmetic is said by the hypotheses: the bits of a product, of a sum. Order of doubles: that of what they stand for. Plain mathematics. Walks: math.Floor, ratio.Clamp. -/
import Derived.Laws.FloatArith
import Derived.Laws.Externs
import Derived.Laws.BitsAllLaws
import Derived.Test.YtdfkgkidaffcgaaJ2
set_option linter.all false
namespace Go.Proofs.Ytdfkgkidaffcgaa
open Go.RowKit

theorem along_f (s b p r : Nat) (d : Int) (w : World) (hm : floatBits .mul .f64 s (floatOfInt .f64 d) = some p) (ha : floatBits .add .f64 p b = some r) :
    Calls Try.prog 60 #[.float .f64 s, .int .u64 d, .float .f64 b] w fun e w' => e = .returned (.float .f64 r) ∧ w = w' := by
  have h1 := run_float_arith (P := Try.prog) (w := w) .mul 49 .f64 s (floatOfInt .f64 d) p hm
  have h2 := run_float_arith (P := Try.prog) (w := w) .add 49 .f64 p b r ha
  clear hm ha
  go_enter Try.func60, Try.ntmps60
  go_wp2
  go_ret
  exact ⟨rfl, rfl⟩

theorem isnan_f (s : Nat) (w : World) :
    Calls Try.prog 72 #[.float .f64 s] w fun e w' => e = .returned (.bool (FloatKind.f64.format.order s s != some Ordering.eq)) ∧ w = w' := by
  go_enter Try.func72, Try.ntmps72
  go_wp2
  go_ret
  exact ⟨rfl, rfl⟩

/-- the bits of a float, as an integer: the model's own words stand for it -/
theorem run_bits (s : Nat) (w : World) : (callFunc 42 #[.float .f64 s]).run Try.prog w = .ok (.value (.int .u64 s)) w := by
  rw [run_callFunc_extern (e := Extern.MathFloatBits.float64bits) Try.func42 (by kernel_rfl) (by kernel_rfl) (by kernel_rfl) (by kernel_rfl)]
  rfl

theorem run_frombits (s : Nat) (w : World) : (callFunc 94 #[.int .u64 s]).run Try.prog w = .ok (.value (.float .f64 s)) w := by
  rw [run_callFunc_extern (e := Extern.MathFloatBits.float64frombits) Try.func94 (by kernel_rfl) (by kernel_rfl) (by kernel_rfl) (by kernel_rfl)]
  rfl

theorem signbit_f (s : Nat) (w : World) :
    Calls Try.prog 62 #[.float .f64 s] w fun e w' => e = .returned (.bool (decide (wrap64 (s : Int) < 0))) ∧ w = w' := by
  have h1 := run_bits s w
  go_enter Try.func62, Try.ntmps62
  go_wp2
  go_ret
  exact ⟨rfl, rfl⟩

theorem andNot_top (s : Nat) (h : s < 18446744073709551616) : bits .andNot .u64 (s : Int) 9223372036854775808 = ((s % 9223372036854775808 : Nat) : Int) := by
  have h1 := u64_andNot (s : Int) 9223372036854775808 (by omega) (by omega) (by omega) (by omega)
  rw [h1]
  have h2 := Nat.and_two_pow_sub_one_eq_mod s 63
  rw [show (18446744073709551615 - (9223372036854775808 : Int).toNat) = 2 ^ 63 - 1 from by decide]
  rw [Int.toNat_natCast, h2]

set_option maxRecDepth 100000 in
theorem abs_f (s : Nat) (h : s < 18446744073709551616) (w : World) : Calls Try.prog 88 #[.float .f64 s] w fun e w' => e = .returned (.float .f64 (s % 9223372036854775808)) ∧ w = w' := by
  have h1 := run_bits s w
  have h2 := run_frombits (s % 9223372036854775808) w
  have h3 := andNot_top s h
  generalize s % 9223372036854775808 = r at *
  go_enter Try.func88, Try.ntmps88
  go_wp2
  go_ret
  exact ⟨rfl, rfl⟩

set_option maxRecDepth 100000 in
theorem isinf_f (s : Nat) (h : s < 18446744073709551616) (w : World) : Calls Try.prog 74 #[.float .f64 s, .int .i64 0] w fun e w' =>
    e = .returned (.bool (FloatKind.f64.format.order (s % 9223372036854775808) 9218868437227405311 == some Ordering.gt)) ∧ w = w' := by
  have h1 := abs_f s h w
  generalize s % 9223372036854775808 = r at *
  go_enter Try.func74, Try.ntmps74
  go_wp2_with (go_at_call 88; refine (h1).mono ?_; rintro e w' ⟨rfl, rfl⟩)
  go_ret
  exact ⟨rfl, rfl⟩

set_option maxRecDepth 100000 in
theorem finite_f (s : Nat) (h : s < 18446744073709551616) (w : World) : Calls Try.prog 61 #[.float .f64 s] w fun e w' =>
    e = .returned (.bool (!(FloatKind.f64.format.order s s != some Ordering.eq) && !(FloatKind.f64.format.order (s % 9223372036854775808) 9218868437227405311 == some Ordering.gt))) ∧ w = w' := by
  have h1 := isinf_f s h w
  have h2 := isnan_f s w
  generalize (FloatKind.f64.format.order (s % 9223372036854775808) 9218868437227405311 == some Ordering.gt) = b at *
  generalize (FloatKind.f64.format.order s s != some Ordering.eq) = c at *
  cases c
  all_goals
    go_enter Try.func61, Try.ntmps61
    go_wp2_with (first
      | (go_at_call 72; refine (h2).mono ?_; rintro e w' ⟨rfl, rfl⟩)
      | (go_at_call 74; refine (h1).mono ?_; rintro e w' ⟨rfl, rfl⟩))
    go_ret
    exact ⟨by simp, rfl⟩
end Go.Proofs.Ytdfkgkidaffcgaa
namespace Inc
open Ieee

theorem compare_mul {a b c : Int} (hc : 0 < c) : compare (a * c) (b * c) = compare a b := by
  simp only [compare, compareOfLessAndEq]
  have h1 : (a * c < b * c) ↔ a < b := ⟨fun h => Int.lt_of_mul_lt_mul_right h (Int.le_of_lt hc), fun h => Int.mul_lt_mul_of_pos_right h hc⟩
  have h2 : (a * c = b * c) ↔ a = b := ⟨fun h => Int.eq_of_mul_eq_mul_right (Int.ne_of_gt hc) h, fun h => by rw [h]⟩
  simp only [h1, h2]

theorem signed_sval {x m : Nat} {p b : Int} (hb : -1074 ≤ b) (hbp : b ≤ p) (h : m * 2 ^ (p + 1074).toNat = mag (rungOfW x)) :
    signed (negW x) m (p - b).toNat * (2 ^ (b + 1074).toNat : Nat) = sval x := by
  have e : (p + 1074).toNat = (p - b).toNat + (b + 1074).toNat := by omega
  rw [e, Nat.pow_add, ← Nat.mul_assoc] at h
  unfold signed sval
  rw [← h]
  cases negW x <;> simp [Nat.shiftLeft_eq, Int.neg_mul]

theorem order_fin {x y : Nat} (hx : Fin x) (hy : Fin y) : double.order x y = some (compare (sval x) (sval y)) := by
  obtain ⟨m, p, h1, h2, h3⟩ := read_fin hx
  obtain ⟨n, q, k1, k2, k3⟩ := read_fin hy
  unfold Format.order
  rw [h1, k1]
  show some (compare (signed _ m (p - min p q).toNat) (signed _ n (q - min p q).toNat)) = _
  have hp : (0 : Int) < ((2 ^ (min p q + 1074).toNat : Nat) : Int) := by have := Nat.two_pow_pos (min p q + 1074).toNat; omega
  rw [← compare_mul hp, signed_sval (by omega) (by omega) h3, signed_sval (by omega) (by omega) k3]

theorem mag_top : mag 4890909195324358656 = 2 ^ 63 * U := by rw [U_eq]; decide +kernel

theorem top_fin : Fin 4890909195324358656 := by unfold Fin infR rungOfW; decide +kernel
theorem bot_fin : Fin 14114281232179134464 := by unfold Fin infR rungOfW; decide +kernel
theorem top_val : sval 4890909195324358656 = ((2 ^ 63 * U : Nat) : Int) := by
  unfold sval
  rw [show negW 4890909195324358656 = false from by decide +kernel, show rungOfW 4890909195324358656 = 4890909195324358656 from by decide +kernel, mag_top]
  rfl
theorem bot_val : sval 14114281232179134464 = -((2 ^ 63 * U : Nat) : Int) := by
  unfold sval
  rw [show negW 14114281232179134464 = true from by decide +kernel, show rungOfW 14114281232179134464 = 4890909195324358656 from by decide +kernel, mag_top]
  rfl

theorem order_self {x : Nat} (hx : Fin x) : double.order x x = some .eq := by
  rw [order_fin hx hx]
  simp [compare, compareOfLessAndEq]

theorem order_bot {x : Nat} (hx : Fin x) (h : mag (rungOfW x) ≤ 2 ^ 62 * U) : double.order x 14114281232179134464 = some .gt := by
  rw [order_fin hx bot_fin, bot_val]
  have hU := U_pos
  have h1 : -((2 ^ 63 * U : Nat) : Int) < sval x := by unfold sval; split <;> omega
  simp only [compare, compareOfLessAndEq]
  rw [if_neg (by omega), if_neg (by omega)]

theorem order_top {x : Nat} (hx : Fin x) (h : mag (rungOfW x) ≤ 2 ^ 62 * U) : double.order x 4890909195324358656 = some .lt := by
  rw [order_fin hx top_fin, top_val]
  have hU := U_pos
  have h1 : sval x < ((2 ^ 63 * U : Nat) : Int) := by unfold sval; split <;> omega
  simp only [compare, compareOfLessAndEq]
  rw [if_pos (by omega)]

theorem sval_plain {x : Nat} (h : x < 9223372036854775808) : sval x = (mag x : Int) := by
  unfold sval
  rw [show negW x = false from by unfold negW; simp; omega, show rungOfW x = x from by unfold rungOfW; omega]
  rfl

theorem order_le {x y : Nat} (hx : Fin x) (hy : Fin y) (h1 : y < 9223372036854775808) (h : x ≤ y) : (double.order x y == some Ordering.gt) = false := by
  rw [order_fin hx hy, sval_plain h1, sval_plain (by omega)]
  have := mag_mono h
  simp only [compare, compareOfLessAndEq]
  split
  · rfl
  · split
    · rfl
    · omega
end Inc
namespace Go.Proofs.Ytdfkgkidaffcgaa
open Go.RowKit

theorem run_floor (s : Nat) (h : Inc.Fin s) (w : World) : (callFunc 86 #[.float .f64 s]).run Try.prog w = .ok (.value (.float .f64 (Ieee.double.write ((Ieee.double.read s).integral .down)))) w := by
  rw [run_callFunc_extern (e := Extern.MathFloor.toIntegral "math.archFloor" .down) Try.func86 (by kernel_rfl) (by kernel_rfl) (by kernel_rfl) (by kernel_rfl)]
  obtain ⟨m, p, h1, _⟩ := Inc.read_fin h
  have h2 : FloatKind.f64.decode s = Ieee.Datum.number (Inc.negW s) m p := h1
  have e : Extern.MathFloor.toIntegral "math.archFloor" .down #[.float .f64 s] = pure (.float .f64 (FloatKind.f64.encode ((FloatKind.f64.decode s).integral .down))) := by
    show (match FloatKind.f64.decode s with
      | .nan sg t =>
        if FloatKind.f64.format.quiet t = t then pure (Value.float .f64 s) else do
        let kept ← choose (.extern "math.Floor,Ceil,Trunc,RoundToEven.signallingNaN kept" 2)
        pure (Value.float .f64 (if kept == 1 then s else FloatKind.f64.encode (.nan sg (FloatKind.f64.format.quiet t))))
      | d => pure (Value.float .f64 (FloatKind.f64.encode (d.integral .down)))) = _
    rw [h2]
  rw [e]
  rfl

set_option maxRecDepth 100000 in
theorem floor_f (s : Nat) (h : Inc.Fin s) (w : World) : Calls Try.prog 73 #[.float .f64 s] w fun e w' => e = .returned (.float .f64 (Ieee.double.write ((Ieee.double.read s).integral .down))) ∧ w = w' := by
  have h1 := run_floor s h w
  generalize Ieee.double.write ((Ieee.double.read s).integral .down) = r at *
  go_enter Try.func73, Try.ntmps73
  go_wp2
  go_ret
  exact ⟨rfl, rfl⟩

set_option maxRecDepth 100000 in
theorem clamp_f (f : Nat) (lo hi : Int) (hf : Inc.Fin f) (hb : Inc.mag (Inc.rungOfW f) ≤ 2 ^ 62 * Inc.U) (hlh : lo ≤ hi) (w : World) :
    Calls Try.prog 59 #[.float .f64 f, .int .i64 lo, .int .i64 hi] w fun e w' => e = .returned (.int .i64 (max lo (min hi (Inc.sval f / (Inc.U : Int))))) ∧ w = w' := by
  have h1 : FloatKind.f64.format.order f f = some .eq := Inc.order_self hf
  have h2 : FloatKind.f64.format.order f 14114281232179134464 = some .gt := Inc.order_bot hf hb
  have h3 : FloatKind.f64.format.order f 4890909195324358656 = some .lt := Inc.order_top hf hb
  have h4 := isnan_f f w
  rw [h1] at h4
  have h5 := floor_f f hf w
  have h6 := Inc.floor_ok hf (by have := Inc.U_pos; omega)
  have hd : decide (hi < lo) = false := by simp; omega
  have hr : -9223372036854775808 ≤ Inc.sval f / (Inc.U : Int) ∧ Inc.sval f / (Inc.U : Int) ≤ 9223372036854775807 := by
    have hU := Inc.U_pos
    have hs : -((2 ^ 62 * Inc.U : Nat) : Int) ≤ Inc.sval f ∧ Inc.sval f ≤ ((2 ^ 62 * Inc.U : Nat) : Int) := by unfold Inc.sval; split <;> omega
    constructor
    · rw [Int.le_ediv_iff_mul_le (by omega)]; omega
    · have := (Int.ediv_lt_iff_lt_mul (a := Inc.sval f) (b := 9223372036854775808) (c := (Inc.U : Int)) (by omega)).2 (by omega)
      omega
  generalize Ieee.double.write ((Ieee.double.read f).integral .down) = g at *
  generalize Inc.sval f / (Inc.U : Int) = n at *
  have h7 := run_convert_float_int (P := Try.prog) (w := w) 49 3 .f64 .i64 g n (by kernel_rfl) (by kernel_rfl) (by
    unfold floatToIntVal
    rw [show (FloatKind.f64.decode g).toInt .zero = some n from h6]
    simp only []
    rw [if_pos]
    exact ⟨by show (-9223372036854775808 : Int) ≤ n; omega, by show n ≤ (9223372036854775807 : Int); omega⟩)
  clear h6 hb hf
  go_enter Try.func59, Try.ntmps59
  go_wp2_with (first
    | (go_at_call 72; refine (h4).mono ?_; rintro e w' ⟨rfl, rfl⟩)
    | (go_at_call 73; refine (h5).mono ?_; rintro e w' ⟨rfl, rfl⟩))
  all_goals
    go_ret
    refine ⟨?_, rfl⟩
    simp
    omega
end Go.Proofs.Ytdfkgkidaffcgaa
