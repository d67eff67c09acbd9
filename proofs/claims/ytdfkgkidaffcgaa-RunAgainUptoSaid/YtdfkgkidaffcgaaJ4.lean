/- Walk: model.Check of a segment that is right. Plain words on keys: rising lists, as a Bool. -/
import Derived.Deep.DeepCutAuto
import Derived.Test.YtdfkgkidaffcgaaJ3
set_option linter.all false
namespace Inc
open Ieee

/-- a segment's numbers, as Go holds them -/
structure Seg where
  first : Int
  slope : Nat
  icpt : Nat
  from_ : Int
  till : Int

structure SegOK (s : Seg) : Prop where
  f0 : 0 ≤ s.from_
  ft : s.from_ < s.till
  tm : s.till ≤ 4294967296
  sl : s.slope ≤ 4611686018427387904
  ic : Fin s.icpt
  iw : s.icpt < 18446744073709551616

theorem SegOK.fin {s : Seg} (h : SegOK s) : Fin s.slope := by
  have := h.sl
  unfold Fin rungOfW infR
  omega
end Inc
namespace Go.Proofs.Ytdfkgkidaffcgaa
open Go.RowKit

@[go_sem] theorem run_store_float {P : Program} {w : World} {a : Addr} {m : Mode} (k : FloatKind) (b : Nat) : (store a (.float k b) m).run P w = stored P w a (.float k b) m := run_store P w a _ m rfl

def segV (s : Inc.Seg) : Value := .agg #[.int .u64 s.first, .float .f64 s.slope, .float .f64 s.icpt, .int .i64 s.from_, .int .i64 s.till]

theorem finite_true (s : Nat) (h : s < 18446744073709551616) (hf : Inc.Fin s) (w : World) : Calls Try.prog 61 #[.float .f64 s] w fun e w' => e = .returned (.bool true) ∧ w = w' := by
  have h0 := finite_f s h w
  have h1 : FloatKind.f64.format.order s s = some Ordering.eq := Inc.order_self hf
  have hlt : s % 9223372036854775808 < 9218868437227405312 := by
    unfold Inc.Fin Inc.rungOfW Inc.infR at hf
    omega
  have h2 : (FloatKind.f64.format.order (s % 9223372036854775808) 9218868437227405311 == some Ordering.gt) = false :=
    Inc.order_le (by unfold Inc.Fin Inc.rungOfW Inc.infR; omega) (by unfold Inc.Fin Inc.rungOfW Inc.infR; decide +kernel) (by omega) (by omega)
  rw [h1, h2] at h0
  simpa using h0

set_option maxRecDepth 100000 in
set_option maxHeartbeats 400000 in
theorem segcheck_f (s : Inc.Seg) (h : Inc.SegOK s) (w : World) : Calls Try.prog 53 #[segV s] w fun e w' => e = .returned (.int .i64 0) ∧ Below w.heap.size w w' := by
  have hsl := h.sl
  have h1 := fun w => finite_true s.slope (by omega) h.fin w
  have h2 := fun w => finite_true s.icpt h.iw h.ic w
  have h3 := fun w => signbit_f s.slope w
  rw [show decide (wrap64 (s.slope : Int) < 0) = false from by unfold wrap64; simp; omega] at h3
  have h4 : (FloatKind.f64.format.order s.slope 4611686018427387904 == some Ordering.gt) = false :=
    Inc.order_le h.fin (by unfold Inc.Fin Inc.rungOfW Inc.infR; decide +kernel) (by omega) h.sl
  obtain ⟨a0, a1, a2, _, _, _⟩ := h
  obtain ⟨fi, sl, ic, fr, tt⟩ := s
  simp only at *
  have d1 : decide (fr < 0) = false := by simp; omega
  have d2 : decide (tt ≤ fr) = false := by simp; omega
  have d3 : decide (4294967296 < tt) = false := by simp; omega
  unfold segV
  go_enter Try.func53, Try.ntmps53
  go_upto_region 3 with fail
  go_wp2_with fail
  refine (h1 _).mono ?_
  rintro e w' ⟨rfl, rfl⟩
  go_wp2_with fail
  refine (h3 _).mono ?_
  rintro e w' ⟨rfl, rfl⟩
  generalize hC : FloatKind.f64.format.order sl 4611686018427387904 = o at *
  go_upto_region 5 with fail
  go_wp2_with fail
  refine (h2 _).mono ?_
  rintro e w' ⟨rfl, rfl⟩
  go_wp2_with fail
  go_ret
  exact ⟨rfl, by (repeat (first | exact Below.refl _ _ | refine bl_alloc ?_ _ | refine bl_drew ?_ | (refine bl_set ?_ (by simp <;> omega) _) | refine bl_then ?_ (by assumption) | refine bl_cls ?_ (by assumption)))⟩
end Go.Proofs.Ytdfkgkidaffcgaa
set_option autoImplicit false
namespace Inc

/-- the first k keys rise -/
def riseTo (ks : List Int) : Nat → Bool
  | 0 => true
  | 1 => true
  | k + 2 => riseTo ks (k + 1) && decide (ks.getD k 0 < ks.getD (k + 1) 0)
def riseB (ks : List Int) : Bool := riseTo ks ks.length

theorem riseTo_iff (ks : List Int) : ∀ k, riseTo ks k = true ↔ ∀ i, i + 1 < k → ks.getD i 0 < ks.getD (i + 1) 0 := by
  intro k
  fun_induction riseTo ks k with
  | case1 => simp
  | case2 => simp
  | case3 k ih =>
    simp only [Bool.and_eq_true, decide_eq_true_eq, ih]
    constructor
    · intro ⟨h1, h2⟩ i hi
      rcases Nat.lt_or_ge (i + 1) (k + 1) with h | h
      · exact h1 i h
      · obtain rfl : i = k := by omega
        exact h2
    · intro h
      exact ⟨fun i hi => h i (by omega), h k (by omega)⟩

theorem riseTo_mono (ks : List Int) {j k : Nat} (h : j ≤ k) (hk : riseTo ks k = true) : riseTo ks j = true := by
  rw [riseTo_iff] at hk ⊢
  exact fun i hi => hk i (by omega)

theorem rise_lt {ks : List Int} (h : riseB ks = true) : ∀ i j : Nat, i < j → j < ks.length → ks.getD i 0 < ks.getD j 0 := by
  have h' := (riseTo_iff ks ks.length).1 h
  intro i j hij hj
  induction j with
  | zero => omega
  | succ j ih =>
    rcases Nat.lt_or_ge i j with h1 | h1
    · exact Int.lt_trans (ih h1 (by omega)) (h' j hj)
    · obtain rfl : i = j := by omega
      exact h' i hj
theorem rise_of {ks : List Int} (h : ∀ i j : Nat, i < j → j < ks.length → ks.getD i 0 < ks.getD j 0) : riseB ks = true :=
  (riseTo_iff ks ks.length).2 fun i hi => h i (i + 1) (by omega) hi

end Inc
