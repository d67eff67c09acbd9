/- Contracts of math/bits, laid by the shelf in plain words: LeadingZeros64, Len64, Mul64. Walks: products of 128 bits, and their order. -/
import Derived.Shelf.Small.Bits
import Derived.Shelf.Strconv.Itoa0
import Derived.Shelf.Bits.Mul64
import Derived.Test.YtdfkgkidaffcgaaProg
import Derived.Test.YtdfkgkidaffcgaaJ8
set_option linter.all false
namespace Go.Proofs
open Go.Shelf
def Try.lays134_ren : Go.Shelf.Ren := ⟨fun | 134 => 69 | 129 => 84 | n => n, fun | 53 => 23 | 3 => 3 | 4 => 4 | 46 => 133 | 5 => 5 | 9 => 9 | n => n, fun | n => n⟩
theorem Try.lays134 : Go.Proofs.Lays.n134 Try.prog Try.lays134_ren := {
  mixed := by kernel_rfl
  f129 := Try.func84.trans (congrArg some (by kernel_rfl))
  f134 := Try.func69.trans (congrArg some (by kernel_rfl))
  t3 := Try.underlying3
  a3 := Try.isAgg3
  z3 := Try.sizeOf3
  v3 := Try.zeroValue3
  t4 := Try.underlying4
  a4 := Try.isAgg4
  z4 := Try.sizeOf4
  v4 := Try.zeroValue4
  t5 := Try.underlying5
  a5 := Try.isAgg5
  z5 := Try.sizeOf5
  v5 := Try.zeroValue5
  t9 := Try.underlying9
  a9 := Try.isAgg9
  z9 := Try.sizeOf9
  v9 := Try.zeroValue9
  t46 := Try.underlying133
  a46 := Try.isAgg133
  z46 := Try.sizeOf133
  v46 := Try.zeroValue133
  t53 := Try.underlying23
  a53 := Try.isAgg23
  z53 := Try.sizeOf23
  v53 := Try.zeroValue23 }
theorem Try.bits_LeadingZeros64 (x : Int) (w : World) (h0 : 0 ≤ x) (h1 : x ≤ 18446744073709551615) :
    Calls Try.prog 69 #[.int .u64 x] w fun e w' => e = .returned (.int .i64 (64 - (Lib.bitLen x.toNat : Int))) ∧ w' = w := Any.bits_LeadingZeros64 Try.lays134 x w h0 h1
def Try.lays129_ren : Go.Shelf.Ren := ⟨fun | 129 => 84 | n => n, fun | 53 => 23 | 3 => 3 | 4 => 4 | 46 => 133 | 5 => 5 | 9 => 9 | n => n, fun | n => n⟩
theorem Try.lays129 : Go.Proofs.Lays.n129 Try.prog Try.lays129_ren := {
  mixed := by kernel_rfl
  f129 := Try.func84.trans (congrArg some (by kernel_rfl))
  t3 := Try.underlying3
  a3 := Try.isAgg3
  z3 := Try.sizeOf3
  v3 := Try.zeroValue3
  t4 := Try.underlying4
  a4 := Try.isAgg4
  z4 := Try.sizeOf4
  v4 := Try.zeroValue4
  t5 := Try.underlying5
  a5 := Try.isAgg5
  z5 := Try.sizeOf5
  v5 := Try.zeroValue5
  t9 := Try.underlying9
  a9 := Try.isAgg9
  z9 := Try.sizeOf9
  v9 := Try.zeroValue9
  t46 := Try.underlying133
  a46 := Try.isAgg133
  z46 := Try.sizeOf133
  v46 := Try.zeroValue133
  t53 := Try.underlying23
  a53 := Try.isAgg23
  z53 := Try.sizeOf23
  v53 := Try.zeroValue23 }
theorem Try.bits_Len64 (x : Int) (w : World) (h0 : 0 ≤ x) (h1 : x ≤ 18446744073709551615) :
    Calls Try.prog 84 #[.int .u64 x] w fun e w' => e = .returned (.int .i64 (Lib.bitLen x.toNat)) ∧ w' = w := Any.bits_Len64 Try.lays129 x w h0 h1
def Try.lays264_ren : Go.Shelf.Ren := ⟨fun | 264 => 83 | n => n, fun | 53 => 23 | 46 => 133 | n => n, fun | n => n⟩
theorem Try.lays264 : Go.Proofs.Lays.n264 Try.prog Try.lays264_ren := {
  mixed := by kernel_rfl
  f264 := Try.func83.trans (congrArg some (by kernel_rfl))
  t46 := Try.underlying133
  a46 := Try.isAgg133
  z46 := Try.sizeOf133
  v46 := Try.zeroValue133
  t53 := Try.underlying23
  a53 := Try.isAgg23
  z53 := Try.sizeOf23
  v53 := Try.zeroValue23 }
open Go.RowKit Go.Lib in
theorem Try.bits_Mul64 (x y : Nat) (hx : x < 18446744073709551616) (hy : y < 18446744073709551616) (w : World) :
    Calls Try.prog 83 #[.int .u64 x, .int .u64 y] w fun e w' => e = .returned (.tuple #[.int .u64 ((x * y / 18446744073709551616 : Nat) : Int), .int .u64 ((x * y % 18446744073709551616 : Nat) : Int)]) ∧ w' = w := Any.bits_Mul64 Try.lays264 x y hx hy w
end Go.Proofs
namespace Go.Proofs.Ytdfkgkidaffcgaa
open Go.RowKit

theorem mul64_any (x y : Int) (hx : 0 ≤ x) (hx' : x < 18446744073709551616) (hy : 0 ≤ y) (hy' : y < 18446744073709551616) (w : World) :
    Calls Try.prog 83 #[.int .u64 x, .int .u64 y] w fun e w' => e = .returned (.tuple #[.int .u64 (x * y / 18446744073709551616), .int .u64 (x * y % 18446744073709551616)]) ∧ w = w' := by
  obtain ⟨n, rfl⟩ := Int.eq_ofNat_of_zero_le hx
  obtain ⟨m, rfl⟩ := Int.eq_ofNat_of_zero_le hy
  refine (Try.bits_Mul64 n m (by omega) (by omega) w).mono ?_
  rintro e w' ⟨rfl, rfl⟩
  exact ⟨rfl, rfl⟩

theorem wrap_u64_neg {a : Int} (ha : a < 0) (ha' : -9223372036854775808 ≤ a) : IntKind.u64.wrap a = a + 18446744073709551616 := by
  rw [IntKind.wrap_u64]; omega

theorem hi_bounds {a b : Int} (ha : -9223372036854775808 ≤ a) (ha' : a < 9223372036854775808) (hb : 0 ≤ b) (hb' : b < 18446744073709551616) :
    -9223372036854775808 ≤ a * b / 18446744073709551616 ∧ a * b / 18446744073709551616 < 9223372036854775808 := by
  constructor
  · rw [Int.le_ediv_iff_mul_le (by omega)]
    have h1 := Int.mul_le_mul_of_nonneg_right ha hb
    have h2 : -9223372036854775808 * 18446744073709551616 ≤ -9223372036854775808 * b := by omega
    omega
  · rw [Int.ediv_lt_iff_lt_mul (by omega)]
    rcases Int.lt_or_le a 0 with h | h
    · have := Int.mul_nonneg (show 0 ≤ -a by omega) hb
      rw [Int.neg_mul] at this
      omega
    · have h1 := Int.mul_le_mul_of_nonneg_right (show a ≤ 9223372036854775807 by omega) hb
      omega

theorem times_hi_pos {a b : Int} (ha : 0 ≤ a) (ha' : a < 9223372036854775808) (hb : 0 ≤ b) (hb' : b < 18446744073709551616) : wrap64 (a * b / 18446744073709551616) = a * b / 18446744073709551616 := by
  have h := hi_bounds (a := a) (b := b) (by omega) ha' hb hb'
  unfold wrap64
  omega

theorem times_hi_neg {a b : Int} (ha : a < 0) (ha' : -9223372036854775808 ≤ a) (hb : 0 ≤ b) (hb' : b < 18446744073709551616) :
    wrap64 (IntKind.u64.wrap (IntKind.u64.wrap a * b / 18446744073709551616 - b)) = a * b / 18446744073709551616 ∧ IntKind.u64.wrap a * b % 18446744073709551616 = a * b % 18446744073709551616 := by
  have h := hi_bounds (a := a) (b := b) ha' (by omega) hb hb'
  rw [wrap_u64_neg ha ha']
  have e : (a + 18446744073709551616) * b = a * b + b * 18446744073709551616 := by rw [Int.add_mul, Int.mul_comm b]
  rw [e, Int.add_mul_ediv_right _ _ (by omega), Int.add_mul_emod_self_right]
  refine ⟨?_, rfl⟩
  rw [show a * b / 18446744073709551616 + b - b = a * b / 18446744073709551616 from by omega]
  generalize a * b / 18446744073709551616 = z at *
  rw [IntKind.wrap_u64]
  unfold wrap64
  omega

set_option maxHeartbeats 400000 in
theorem times_any (a b : Int) (ha : -9223372036854775808 ≤ a) (ha' : a < 9223372036854775808) (hb : 0 ≤ b) (hb' : b < 18446744073709551616) (w : World) :
    Calls Try.prog 81 #[.int .i64 a, .int .u64 b] w fun e w' => e = .returned (.agg #[.int .i64 (a * b / 18446744073709551616), .int .u64 (a * b % 18446744073709551616)]) ∧ Below w.heap.size w w' := by
  rcases Int.lt_or_le a 0 with h | h
  · go_enter Try.func81, Try.ntmps81
    go_wp2_with (go_at_call 83; refine (mul64_any _ _ (by rw [wrap_u64_neg h ha]; omega) (by rw [wrap_u64_neg h ha]; omega) (by omega) (by omega) _).mono ?_; rintro e w' ⟨rfl, rfl⟩)
    obtain ⟨h1, h2⟩ := times_hi_neg h ha hb hb'
    refine bodyPost_ret (by simp [results, Try.results81, go_sem]; rfl) rfl ⟨by rw [h1, h2], ?_⟩
    exact (Below.refl _ _).alloc (Nat.le_refl _) _
  · go_enter Try.func81, Try.ntmps81
    go_wp2_with (go_at_call 83; refine (mul64_any _ _ (by omega) (by omega) (by omega) (by omega) _).mono ?_; rintro e w' ⟨rfl, rfl⟩)
    have h1 := times_hi_pos h ha' hb hb'
    refine bodyPost_ret (by simp [results, Try.results81, go_sem]; rfl) rfl ⟨by rw [h1], ?_⟩
    exact (Below.refl _ _).alloc (Nat.le_refl _) _
end Go.Proofs.Ytdfkgkidaffcgaa
