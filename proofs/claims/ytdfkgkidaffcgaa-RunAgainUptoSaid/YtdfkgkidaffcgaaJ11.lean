/- Walks: fractions in lowest terms. Walks: which of two fractions is below. -/
import Derived.RegionTactic
import Derived.Lib.Hide
import Derived.StillTailTactics
import Derived.Test.YtdfkgkidaffcgaaJ10
set_option linter.all false
namespace Go.Proofs.Ytdfkgkidaffcgaa
open Go.RowKit

theorem gcd_round {a b n d : Int} (ha : 0 < a) (h : Int.gcd a b = Int.gcd n d) : Int.gcd (b % a) a = Int.gcd n d := by
  rw [← h, Int.gcd_comm a b]
  have := Int.gcd_add_mul_right_left a (b % a) (b / a)
  rw [← this, Int.emod_add_ediv_mul]

set_option maxHeartbeats 400000 in
theorem lowest_any (n d : Int) (hn : 0 ≤ n) (hn' : n < 18446744073709551616) (hd : 0 < d) (hd' : d < 18446744073709551616) (w : World) :
    Calls Try.prog 79 #[.int .u64 n, .int .u64 d] w fun e w' => e = .returned (.tuple #[.agg #[.int .u64 (Inc.low2 n d).1, .int .u64 (Inc.low2 n d).2], .int .i64 0]) ∧ Below w.heap.size w w' := by
  have hd0 : (d == 0) = false := by simp; omega
  go_enter Try.func79, Try.ntmps79
  go_wp2
  go_loop [6, 7] (fun x y => ∃ a b : Int, 0 ≤ a ∧ a < 18446744073709551616 ∧ 0 < b ∧ b < 18446744073709551616 ∧ Int.gcd a b = Int.gcd n d ∧ x = .int .u64 a ∧ y = .int .u64 b) (fun x _ => (intOf x).toNat)
  case atStart => exact ⟨n, d, hn, hn', hd, hd', rfl, rfl, rfl⟩
  case round =>
    obtain ⟨a, b, ha, ha', hb, hb', hg, rfl, rfl⟩ := hrel
    by_cases h0 : 0 < a
    · have hg' := Lib.hid (gcd_round h0 hg)
      have hm1 := Int.emod_nonneg b (show a ≠ 0 by omega)
      have hm2 := Int.emod_lt_of_pos b h0
      have Hg := Lib.hid hg
      clear hg
      go_wp2
      go_round
      case rel => exact ⟨b % a, a, hm1, by omega, h0, ha', hg'.out, rfl, rfl⟩
      case measure => simp [intOf]; omega
    · obtain rfl : a = 0 := by omega
      have Hg : b = (Int.gcd n d : Int) := by rw [← hg]; simp; omega
      have HG := Lib.hid Hg
      clear hg Hg
      have hb0 : ¬ b = 0 := by omega
      go_wp2
      go_region
      go_wp2
      have hr : Inc.low2 n d = (n / b, d / b) := by unfold Inc.low2; rw [HG.out]
      refine bodyPost_ret (by simp [results, Try.results79, go_sem]; rfl) rfl ⟨by rw [hr], ?_⟩
      exact ((Below.refl _ _).alloc (Nat.le_refl _) _).drew

set_option maxHeartbeats 400000 in
theorem between_any (p q : Inc.Pt) (hp : PtB p) (hq : PtB q) (hx : p.x < q.x) (hy : p.y ≤ q.y) (w : World) :
    Calls Try.prog 64 #[ptV p, ptV q] w fun e w' => e = .returned (.agg #[.int .u64 (Inc.between p q).1, .int .u64 (Inc.between p q).2]) ∧ Below w.heap.size w w' := by
  obtain ⟨px, py⟩ := p
  obtain ⟨qx, qy⟩ := q
  unfold PtB at hp hq
  simp only at hp hq hx hy
  unfold ptV Inc.between
  simp only
  have e1 : IntKind.i64.wrap (qy - py) = qy - py := wrap_i64_id (by omega) (by omega)
  have e2 : IntKind.u64.wrap (qy - py) = qy - py := wrap_u64_id (by omega) (by omega)
  have e3 : IntKind.u64.wrap (qx - px) = qx - px := wrap_u64_id (by omega) (by omega)
  go_enter Try.func64, Try.ntmps64
  go_wp2_with (go_at_call 79; refine (lowest_any _ _ (by omega) (by omega) (by omega) (by omega) _).mono ?_; rintro e w1 ⟨rfl, hb1⟩; have hc1 := below_cells hb1; have hf1 := below_frozen hb1; have hz1 := hb1.size; (try simp only [World.size_alloc, World.size_setCell, World.size_drew] at hz1); (try rw [Nat.add_one_le_iff] at hz1))
  exact bodyPost_ret (by simp only [results, Try.results64]; go_simp <;> rfl) rfl ⟨rfl, by (repeat (first | exact Below.refl _ _ | refine bl_alloc ?_ _ | refine bl_drew ?_ | (refine bl_set ?_ (by simp <;> omega) _) | refine bl_then ?_ (by assumption) | refine bl_cls ?_ (by assumption)))⟩

end Go.Proofs.Ytdfkgkidaffcgaa
namespace Go.Proofs.Ytdfkgkidaffcgaa
open Go.RowKit

theorem bne_dec (a : Int) : (a != 0) = decide (a ≠ 0) := by
  by_cases h : a = 0 <;> simp [h]
theorem icmp_lt (A B : Int) : decide (Inc.icmp A B < 0) = decide (A < B) := by
  unfold Inc.icmp
  split
  · rename_i h; simp [h]
  · rename_i h; split <;> simp [h]

set_option maxHeartbeats 800000 in
theorem below_any (a1 a2 b1 b2 : Int) (h1 : 0 ≤ a1) (h1' : a1 < 9223372036854775808) (h2 : 0 ≤ a2) (h2' : a2 < 18446744073709551616) (h3 : 0 ≤ b1) (h3' : b1 < 9223372036854775808) (h4 : 0 ≤ b2) (h4' : b2 < 18446744073709551616) (w : World) :
    Calls Try.prog 65 #[.agg #[.int .u64 a1, .int .u64 a2], .agg #[.int .u64 b1, .int .u64 b2]] w fun e w' => e = .returned (.bool (Inc.below (a1, a2) (b1, b2))) ∧ Below w.heap.size w w' := by
  have e1 : IntKind.i64.wrap a1 = a1 := wrap_i64_id (by omega) (by omega)
  have e2 : IntKind.i64.wrap b1 = b1 := wrap_i64_id (by omega) (by omega)
  by_cases hb : b2 = 0
  · have hb' : (b2 == 0) = true := by simp [hb]
    go_enter Try.func65, Try.ntmps65
    go_wp2_with fail
    go_ret
    refine ⟨?_, ((Below.refl _ _).alloc (Nat.le_refl _) _).alloc (by simp) _⟩
    rw [bne_dec]; simp [Inc.below, hb]
  · have hb' : (b2 == 0) = false := by simp [hb]
    by_cases ha : a2 = 0
    · have ha' : (a2 != 0) = false := by simp [ha]
      go_enter Try.func65, Try.ntmps65
      go_wp2_with fail
      refine wp_region_below (by kernel_rfl) (by kernel_rfl) ?_
      with_reducible refine q_want ?_ (fun K hK => ?_)
      · kernel_rfl
      apply Exists.intro
      constructor
      · (intro w1 hw1; have hc := hw1.cells; go_simp <;> rfl)
      go_simp; refine hK _ ?_; clear hK K
      with_reducible refine q_want ?_ (fun K hK => ?_)
      · kernel_rfl
      apply Exists.intro
      constructor
      · (intro w1 hw1; have hc := hw1.cells; go_simp <;> rfl)
      go_simp; refine hK _ ?_; clear hK K
      with_reducible refine q_want ?_ (fun K hK => ?_)
      · kernel_rfl
      apply Exists.intro
      constructor
      · (intro w1 hw1; have hc := hw1.cells; go_simp <;> rfl)
      go_simp; refine hK _ ?_; clear hK K
      with_reducible refine q_want ?_ (fun K hK => ?_)
      · kernel_rfl
      apply Exists.intro
      constructor
      · (intro w1 hw1; have hc := hw1.cells; go_simp <;> rfl)
      go_simp; refine hK _ ?_; clear hK K
      with_reducible refine q_skip ?_ (fun K hK => ?_)
      · kernel_rfl
      go_simp; refine hK _ ?_; clear hK K
      with_reducible refine q_skip ?_ (fun K hK => ?_)
      · kernel_rfl
      go_simp; refine hK _ ?_; clear hK K
      with_reducible refine q_skip ?_ (fun K hK => ?_)
      · kernel_rfl
      go_simp; refine hK _ ?_; clear hK K
      with_reducible refine q_skip ?_ (fun K hK => ?_)
      · kernel_rfl
      go_simp; refine hK _ ?_; clear hK K
      with_reducible refine q_skip ?_ (fun K hK => ?_)
      · kernel_rfl
      go_simp; refine hK _ ?_; clear hK K
      with_reducible refine q_skip ?_ (fun K hK => ?_)
      · kernel_rfl
      go_simp; refine hK _ ?_; clear hK K
      with_reducible refine q_skip ?_ (fun K hK => ?_)
      · kernel_rfl
      go_simp; refine hK _ ?_; clear hK K
      with_reducible refine q_skip ?_ (fun K hK => ?_)
      · kernel_rfl
      go_simp; refine hK _ ?_; clear hK K
      with_reducible refine q_skip ?_ (fun K hK => ?_)
      · kernel_rfl
      go_simp; refine hK _ ?_; clear hK K
      with_reducible refine q_skip ?_ (fun K hK => ?_)
      · kernel_rfl
      go_simp; refine hK _ ?_; clear hK K
      with_reducible refine q_skip ?_ (fun K hK => ?_)
      · kernel_rfl
      go_simp; refine hK _ ?_; clear hK K
      with_reducible refine q_skip ?_ (fun K hK => ?_)
      · kernel_rfl
      go_simp; refine hK _ ?_; clear hK K
      with_reducible refine q_skip ?_ (fun K hK => ?_)
      · kernel_rfl
      go_simp; refine hK _ ?_; clear hK K
      with_reducible refine q_skip ?_ (fun K hK => ?_)
      · kernel_rfl
      go_simp; refine hK _ ?_; clear hK K
      with_reducible refine q_want ?_ (fun K hK => ?_)
      · kernel_rfl
      apply Exists.intro
      constructor
      · (intro w1 hw1; have hc := hw1.cells; go_simp <;> rfl)
      go_simp; refine hK _ ?_; clear hK K
      with_reducible refine q_want ?_ (fun K hK => ?_)
      · kernel_rfl
      apply Exists.intro
      constructor
      · (intro w1 hw1; have hc := hw1.cells; go_simp <;> rfl)
      go_simp; refine hK _ ?_; clear hK K
      refine wpQuiet_nil ?_
      intro w1 hw1
      go_wp2_with fail
      go_ret
      refine ⟨?_, Below.trans ?_ (hw1.below.mono ?_)⟩
      · simp [Inc.below, hb, ha]
      · exact ((Below.refl _ _).alloc (Nat.le_refl _) _).alloc (by simp) _
      · simp; omega
    · have ha' : (a2 != 0) = true := by simp [ha]
      go_enter Try.func65, Try.ntmps65
      go_wp2_with fail
      refine wp_region_below (by kernel_rfl) (by kernel_rfl) ?_
      with_reducible refine q_want ?_ (fun K hK => ?_)
      · kernel_rfl
      apply Exists.intro
      constructor
      · (intro w1 hw1; have hc := hw1.cells; go_simp <;> rfl)
      go_simp; refine hK _ ?_; clear hK K
      with_reducible refine q_want ?_ (fun K hK => ?_)
      · kernel_rfl
      apply Exists.intro
      constructor
      · (intro w1 hw1; have hc := hw1.cells; go_simp <;> rfl)
      go_simp; refine hK _ ?_; clear hK K
      with_reducible refine q_want ?_ (fun K hK => ?_)
      · kernel_rfl
      apply Exists.intro
      constructor
      · (intro w1 hw1; have hc := hw1.cells; go_simp <;> rfl)
      go_simp; refine hK _ ?_; clear hK K
      with_reducible refine q_want ?_ (fun K hK => ?_)
      · kernel_rfl
      apply Exists.intro
      constructor
      · (intro w1 hw1; have hc := hw1.cells; go_simp <;> rfl)
      go_simp; refine hK _ ?_; clear hK K
      with_reducible refine q_want ?_ (fun K hK => ?_)
      · kernel_rfl
      apply Exists.intro
      constructor
      · (intro w1 hw1; have hc := hw1.cells; go_simp <;> rfl)
      go_simp; refine hK _ ?_; clear hK K
      with_reducible refine q_want ?_ (fun K hK => ?_)
      · kernel_rfl
      apply Exists.intro
      constructor
      · (intro w1 hw1; have hc := hw1.cells; go_simp <;> rfl)
      go_simp; refine hK _ ?_; clear hK K
      with_reducible refine q_want ?_ (fun K hK => ?_)
      · kernel_rfl
      apply Exists.intro
      constructor
      · (intro w1 hw1; have hc := hw1.cells; go_simp <;> rfl)
      go_simp; refine hK _ ?_; clear hK K
      with_reducible refine q_want ?_ (fun K hK => ?_)
      · kernel_rfl
      apply Exists.intro
      constructor
      · (intro w1 hw1; have hc := hw1.cells; go_simp <;> rfl)
      go_simp; refine hK _ ?_; clear hK K
      with_reducible refine q_want ?_ (fun K hK => ?_)
      · kernel_rfl
      apply Exists.intro
      constructor
      · (intro w1 hw1; have hc := hw1.cells; go_simp <;> rfl)
      go_simp; refine hK _ ?_; clear hK K
      with_reducible refine q_want ?_ (fun K hK => ?_)
      · kernel_rfl
      apply Exists.intro
      constructor
      · intro w1 hw1
        have hc := hw1.cells
        go_simp
        first
          | (go_at_call 81; exact quiet_call hw1 (times_any _ _ (by omega) (by omega) (by omega) (by omega) _))
          | (go_at_call 80; exact quiet_call hw1 (wcmp_any _ _ _ _ _))
      go_simp; refine hK _ ?_; clear hK K
      with_reducible refine q_want ?_ (fun K hK => ?_)
      · kernel_rfl
      apply Exists.intro
      constructor
      · (intro w1 hw1; have hc := hw1.cells; go_simp <;> rfl)
      go_simp; refine hK _ ?_; clear hK K
      with_reducible refine q_want ?_ (fun K hK => ?_)
      · kernel_rfl
      apply Exists.intro
      constructor
      · (intro w1 hw1; have hc := hw1.cells; go_simp <;> rfl)
      go_simp; refine hK _ ?_; clear hK K
      with_reducible refine q_want ?_ (fun K hK => ?_)
      · kernel_rfl
      apply Exists.intro
      constructor
      · (intro w1 hw1; have hc := hw1.cells; go_simp <;> rfl)
      go_simp; refine hK _ ?_; clear hK K
      with_reducible refine q_want ?_ (fun K hK => ?_)
      · kernel_rfl
      apply Exists.intro
      constructor
      · (intro w1 hw1; have hc := hw1.cells; go_simp <;> rfl)
      go_simp; refine hK _ ?_; clear hK K
      with_reducible refine q_want ?_ (fun K hK => ?_)
      · kernel_rfl
      apply Exists.intro
      constructor
      · (intro w1 hw1; have hc := hw1.cells; go_simp <;> rfl)
      go_simp; refine hK _ ?_; clear hK K
      with_reducible refine q_want ?_ (fun K hK => ?_)
      · kernel_rfl
      apply Exists.intro
      constructor
      · intro w1 hw1
        have hc := hw1.cells
        go_simp
        first
          | (go_at_call 81; exact quiet_call hw1 (times_any _ _ (by omega) (by omega) (by omega) (by omega) _))
          | (go_at_call 80; exact quiet_call hw1 (wcmp_any _ _ _ _ _))
      go_simp; refine hK _ ?_; clear hK K
      with_reducible refine q_want ?_ (fun K hK => ?_)
      · kernel_rfl
      apply Exists.intro
      constructor
      · intro w1 hw1
        have hc := hw1.cells
        go_simp
        first
          | (go_at_call 81; exact quiet_call hw1 (times_any _ _ (by omega) (by omega) (by omega) (by omega) _))
          | (go_at_call 80; exact quiet_call hw1 (wcmp_any _ _ _ _ _))
      go_simp; refine hK _ ?_; clear hK K
      with_reducible refine q_want ?_ (fun K hK => ?_)
      · kernel_rfl
      apply Exists.intro
      constructor
      · (intro w1 hw1; have hc := hw1.cells; go_simp <;> rfl)
      go_simp; refine hK _ ?_; clear hK K
      with_reducible refine q_want ?_ (fun K hK => ?_)
      · kernel_rfl
      apply Exists.intro
      constructor
      · (intro w1 hw1; have hc := hw1.cells; go_simp <;> rfl)
      go_simp; refine hK _ ?_; clear hK K
      with_reducible refine q_want ?_ (fun K hK => ?_)
      · kernel_rfl
      apply Exists.intro
      constructor
      · (intro w1 hw1; have hc := hw1.cells; go_simp <;> rfl)
      go_simp; refine hK _ ?_; clear hK K
      refine wpQuiet_nil ?_
      intro w1 hw1
      go_wp2_with fail
      go_ret
      refine ⟨?_, Below.trans ?_ (hw1.below.mono ?_)⟩
      · rw [wcmp_div, icmp_lt]; simp [Inc.below, hb, ha]
      · exact ((Below.refl _ _).alloc (Nat.le_refl _) _).alloc (by simp) _
      · simp; omega
end Go.Proofs.Ytdfkgkidaffcgaa
