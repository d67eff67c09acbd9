/- Walks: whether keys rise. -/
import Derived.LoopTactic
import Derived.Lib.Hide
import Derived.Test.YtdfkgkidaffcgaaJ4
set_option linter.all false
namespace Go.Proofs.Ytdfkgkidaffcgaa
open Go.RowKit

/-- a slice that reads as these keys -/
def URow (w : World) (v : Value) (ks : List Int) : Prop :=
  ∃ A cap, v = .slice A ks.length cap ∧ (0 < ks.length → ∃ b off, A = some ⟨b, off, none⟩ ∧ b < w.heap.size ∧ ∀ i, i < ks.length → w.cell? ⟨b, off + i, none⟩ = some (.int .u64 (ks.getD i 0)))

theorem key_any (k : Int) (w : World) : Calls Try.prog 44 #[.int .u64 k] w fun e w' => e = .returned (.int .u64 k) ∧ w = w' := by
  go_enter Try.func44, Try.ntmps44
  go_wp2
  go_ret
  exact ⟨rfl, rfl⟩

theorem ite_slot {A : Option Addr} {n cap : Nat} {v : Value} (h : v = .slice A n cap) : v = .slice A n cap := h

set_option maxHeartbeats 1600000 in
theorem rises_any (ks : List Int) (v : Value) (w : World) (hn : ks.length ≤ 4611686018427387904) (h : URow w v ks) :
    Calls Try.prog 43 #[v, .func (.func 44) #[] #[]] w fun e w' => e = .returned (.bool (Inc.riseB ks)) ∧ Below w.heap.size w w' := by
  obtain ⟨A, cap, rfl, hc⟩ := h
  have HC := Lib.hid hc
  clear hc
  go_enter Try.func43, Try.ntmps43
  go_wp2_with fail
  go_loopw [8] (fun x wr => ∃ k : Nat, k ≤ ks.length ∧ x = .int .i64 k ∧ Inc.riseTo ks k = true ∧ Cls w wr) (fun x _ => ks.length - (intOf x).toNat)
  case atStart => exact ⟨0, by omega, rfl, rfl, Cls.refl _⟩
  case round =>
    obtain ⟨k, hk, rfl, hr, hw⟩ := hrel
    have HR := Lib.hid hr
    clear hr
    by_cases hlt : k < ks.length
    · obtain ⟨b, off, rfl, hb, hcell⟩ := HC.out (by omega)
      have hcW := hw.cells
      have hz1 : b < wr.heap.size := by have := hw.below.size; omega
      have e0 : decide ((k : Int) < (ks.length : Int)) = true := by simpa using hlt
      rcases Nat.eq_zero_or_pos k with rfl | hpos
      · have hg : decide ((0 : Int) < 0) = false := by decide
        rw [show ((0 : Nat) : Int) = 0 from rfl] at *
        clear HC hcell
        go_wp2_with fail
        refine wp_region_below (by kernel_rfl) (by kernel_rfl) ?_
        with_reducible refine q_want ?_ (fun K hK => ?_)
        · kernel_rfl
        apply Exists.intro
        constructor
        · (intro w1 hw1; have hc := hw1.cells; go_simp <;> rfl)
        go_simp; refine hK _ ?_; clear hK K
        with_reducible refine q_want ?_ (fun K hK => ?_)
        · kernel_rfl
        apply Exists.intro
        constructor
        · (intro w1 hw1; have hc := hw1.cells; go_simp <;> rfl)
        go_simp; refine hK _ ?_; clear hK K
        with_reducible refine q_want ?_ (fun K hK => ?_)
        · kernel_rfl
        apply Exists.intro
        constructor
        · (intro w1 hw1; have hc := hw1.cells; go_simp <;> rfl)
        go_simp; refine hK _ ?_; clear hK K
        with_reducible refine q_skip ?_ (fun K hK => ?_)
        · kernel_rfl
        go_simp; refine hK _ ?_; clear hK K
        with_reducible refine q_skip ?_ (fun K hK => ?_)
        · kernel_rfl
        go_simp; refine hK _ ?_; clear hK K
        with_reducible refine q_skip ?_ (fun K hK => ?_)
        · kernel_rfl
        go_simp; refine hK _ ?_; clear hK K
        with_reducible refine q_skip ?_ (fun K hK => ?_)
        · kernel_rfl
        go_simp; refine hK _ ?_; clear hK K
        with_reducible refine q_skip ?_ (fun K hK => ?_)
        · kernel_rfl
        go_simp; refine hK _ ?_; clear hK K
        with_reducible refine q_skip ?_ (fun K hK => ?_)
        · kernel_rfl
        go_simp; refine hK _ ?_; clear hK K
        with_reducible refine q_skip ?_ (fun K hK => ?_)
        · kernel_rfl
        go_simp; refine hK _ ?_; clear hK K
        with_reducible refine q_skip ?_ (fun K hK => ?_)
        · kernel_rfl
        go_simp; refine hK _ ?_; clear hK K
        with_reducible refine q_skip ?_ (fun K hK => ?_)
        · kernel_rfl
        go_simp; refine hK _ ?_; clear hK K
        with_reducible refine q_skip ?_ (fun K hK => ?_)
        · kernel_rfl
        go_simp; refine hK _ ?_; clear hK K
        with_reducible refine q_skip ?_ (fun K hK => ?_)
        · kernel_rfl
        go_simp; refine hK _ ?_; clear hK K
        with_reducible refine q_skip ?_ (fun K hK => ?_)
        · kernel_rfl
        go_simp; refine hK _ ?_; clear hK K
        with_reducible refine q_skip ?_ (fun K hK => ?_)
        · kernel_rfl
        go_simp; refine hK _ ?_; clear hK K
        with_reducible refine q_skip ?_ (fun K hK => ?_)
        · kernel_rfl
        go_simp; refine hK _ ?_; clear hK K
        with_reducible refine q_want ?_ (fun K hK => ?_)
        · kernel_rfl
        apply Exists.intro
        constructor
        · (intro w1 hw1; have hc := hw1.cells; go_simp <;> rfl)
        go_simp; refine hK _ ?_; clear hK K
        refine wpQuiet_nil ?_
        intro w1 hw1
        go_wp2_with fail
        exact ⟨⟨1, by omega, rfl, rfl, Below.trans hw (hw1.below.mono hw.below.size)⟩, by simp [intOf]; omega⟩
      · obtain ⟨j, rfl⟩ : ∃ j, k = j + 1 := ⟨k - 1, by omega⟩
        have c1 := hcell (j + 1) hlt
        have c2 := hcell j (by omega)
        have hg : decide (0 < (j : Int) + 1) = true := by simp <;> omega
        have e1 : IntKind.i64.wrap (j : Int) = (j : Int) := wrap_i64_id' (by omega) (by omega)
        have e2 : 0 ≤ (j : Int) + 1 ∧ (j : Int) + 1 < (ks.length : Int) := by omega
        have e3 : 0 ≤ (j : Int) ∧ (j : Int) < (ks.length : Int) := by omega
        have e4 : ((j : Int) + 1).toNat = j + 1 := by omega
        have hst : Inc.riseTo ks (j + 1 + 1) = (Inc.riseTo ks (j + 1) && decide (ks.getD j 0 < ks.getD (j + 1) 0)) := rfl
        have HST := Lib.hid hst
        clear hst HC hcell
        generalize hX : ks.getD j 0 = X at *
        generalize hY : ks.getD (j + 1) 0 = Y at *
        clear hX hY
        by_cases hxy : X < Y
        · have hle : decide (Y ≤ X) = false := by simp; omega
          go_wp2_with fail
          refine wp_region_below (by kernel_rfl) (by kernel_rfl) ?_
          with_reducible refine q_want ?_ (fun K hK => ?_)
          · kernel_rfl
          apply Exists.intro
          constructor
          · (intro w1 hw1; have hc := hw1.cells; go_simp <;> rfl)
          go_simp; refine hK _ ?_; clear hK K
          with_reducible refine q_want ?_ (fun K hK => ?_)
          · kernel_rfl
          apply Exists.intro
          constructor
          · (intro w1 hw1; have hc := hw1.cells; go_simp <;> rfl)
          go_simp; refine hK _ ?_; clear hK K
          with_reducible refine q_want ?_ (fun K hK => ?_)
          · kernel_rfl
          apply Exists.intro
          constructor
          · (intro w1 hw1; have hc := hw1.cells; go_simp <;> rfl)
          go_simp; refine hK _ ?_; clear hK K
          with_reducible refine q_want ?_ (fun K hK => ?_)
          · kernel_rfl
          apply Exists.intro
          constructor
          · (intro w1 hw1; have hc := hw1.cells; go_simp <;> rfl)
          go_simp; refine hK _ ?_; clear hK K
          with_reducible refine q_want ?_ (fun K hK => ?_)
          · kernel_rfl
          apply Exists.intro
          constructor
          · (intro w1 hw1; have hc := hw1.cells; go_simp <;> rfl)
          go_simp; refine hK _ ?_; clear hK K
          with_reducible refine q_want ?_ (fun K hK => ?_)
          · kernel_rfl
          apply Exists.intro
          constructor
          · (intro w1 hw1; have hc := hw1.cells; go_simp <;> rfl)
          go_simp; refine hK _ ?_; clear hK K
          with_reducible refine q_want ?_ (fun K hK => ?_)
          · kernel_rfl
          apply Exists.intro
          constructor
          · (intro w1 hw1; have hc := hw1.cells; go_simp <;> rfl)
          go_simp; refine hK _ ?_; clear hK K
          with_reducible refine q_want ?_ (fun K hK => ?_)
          · kernel_rfl
          apply Exists.intro
          constructor
          · (intro w1 hw1; have hc := hw1.cells; go_simp <;> rfl)
          go_simp; refine hK _ ?_; clear hK K
          with_reducible refine q_want ?_ (fun K hK => ?_)
          · kernel_rfl
          apply Exists.intro
          constructor
          · intro w1 hw1
            have hc := hw1.cells
            go_simp
            first
              | (go_at_call 44; exact quiet_call_same hw1 (key_any _ _))
          go_simp; refine hK _ ?_; clear hK K
          with_reducible refine q_want ?_ (fun K hK => ?_)
          · kernel_rfl
          apply Exists.intro
          constructor
          · (intro w1 hw1; have hc := hw1.cells; go_simp <;> rfl)
          go_simp; refine hK _ ?_; clear hK K
          with_reducible refine q_want ?_ (fun K hK => ?_)
          · kernel_rfl
          apply Exists.intro
          constructor
          · (intro w1 hw1; have hc := hw1.cells; go_simp <;> rfl)
          go_simp; refine hK _ ?_; clear hK K
          with_reducible refine q_want ?_ (fun K hK => ?_)
          · kernel_rfl
          apply Exists.intro
          constructor
          · (intro w1 hw1; have hc := hw1.cells; go_simp <;> rfl)
          go_simp; refine hK _ ?_; clear hK K
          with_reducible refine q_want ?_ (fun K hK => ?_)
          · kernel_rfl
          apply Exists.intro
          constructor
          · (intro w1 hw1; have hc := hw1.cells; go_simp <;> rfl)
          go_simp; refine hK _ ?_; clear hK K
          with_reducible refine q_want ?_ (fun K hK => ?_)
          · kernel_rfl
          apply Exists.intro
          constructor
          · (intro w1 hw1; have hc := hw1.cells; go_simp <;> rfl)
          go_simp; refine hK _ ?_; clear hK K
          with_reducible refine q_want ?_ (fun K hK => ?_)
          · kernel_rfl
          apply Exists.intro
          constructor
          · (intro w1 hw1; have hc := hw1.cells; go_simp <;> rfl)
          go_simp; refine hK _ ?_; clear hK K
          with_reducible refine q_want ?_ (fun K hK => ?_)
          · kernel_rfl
          apply Exists.intro
          constructor
          · intro w1 hw1
            have hc := hw1.cells
            go_simp
            first
              | (go_at_call 44; exact quiet_call_same hw1 (key_any _ _))
          go_simp; refine hK _ ?_; clear hK K
          with_reducible refine q_want ?_ (fun K hK => ?_)
          · kernel_rfl
          apply Exists.intro
          constructor
          · (intro w1 hw1; have hc := hw1.cells; go_simp <;> rfl)
          go_simp; refine hK _ ?_; clear hK K
          with_reducible refine q_want ?_ (fun K hK => ?_)
          · kernel_rfl
          apply Exists.intro
          constructor
          · (intro w1 hw1; have hc := hw1.cells; go_simp <;> rfl)
          go_simp; refine hK _ ?_; clear hK K
          refine wpQuiet_nil ?_
          intro w1 hw1
          go_wp2_with fail
          exact ⟨⟨j + 1 + 1, by omega, by go_num, by rw [HST.out, HR.out]; simpa using hxy, Below.trans hw (hw1.below.mono hw.below.size)⟩, by simp [intOf]; omega⟩
        · have hle : decide (Y ≤ X) = true := by simp; omega
          go_wp2_with fail
          refine wp_region_below (by kernel_rfl) (by kernel_rfl) ?_
          with_reducible refine q_want ?_ (fun K hK => ?_)
          · kernel_rfl
          apply Exists.intro
          constructor
          · (intro w1 hw1; have hc := hw1.cells; go_simp <;> rfl)
          go_simp; refine hK _ ?_; clear hK K
          with_reducible refine q_want ?_ (fun K hK => ?_)
          · kernel_rfl
          apply Exists.intro
          constructor
          · (intro w1 hw1; have hc := hw1.cells; go_simp <;> rfl)
          go_simp; refine hK _ ?_; clear hK K
          with_reducible refine q_want ?_ (fun K hK => ?_)
          · kernel_rfl
          apply Exists.intro
          constructor
          · (intro w1 hw1; have hc := hw1.cells; go_simp <;> rfl)
          go_simp; refine hK _ ?_; clear hK K
          with_reducible refine q_want ?_ (fun K hK => ?_)
          · kernel_rfl
          apply Exists.intro
          constructor
          · (intro w1 hw1; have hc := hw1.cells; go_simp <;> rfl)
          go_simp; refine hK _ ?_; clear hK K
          with_reducible refine q_want ?_ (fun K hK => ?_)
          · kernel_rfl
          apply Exists.intro
          constructor
          · (intro w1 hw1; have hc := hw1.cells; go_simp <;> rfl)
          go_simp; refine hK _ ?_; clear hK K
          with_reducible refine q_want ?_ (fun K hK => ?_)
          · kernel_rfl
          apply Exists.intro
          constructor
          · (intro w1 hw1; have hc := hw1.cells; go_simp <;> rfl)
          go_simp; refine hK _ ?_; clear hK K
          with_reducible refine q_want ?_ (fun K hK => ?_)
          · kernel_rfl
          apply Exists.intro
          constructor
          · (intro w1 hw1; have hc := hw1.cells; go_simp <;> rfl)
          go_simp; refine hK _ ?_; clear hK K
          with_reducible refine q_want ?_ (fun K hK => ?_)
          · kernel_rfl
          apply Exists.intro
          constructor
          · (intro w1 hw1; have hc := hw1.cells; go_simp <;> rfl)
          go_simp; refine hK _ ?_; clear hK K
          with_reducible refine q_want ?_ (fun K hK => ?_)
          · kernel_rfl
          apply Exists.intro
          constructor
          · intro w1 hw1
            have hc := hw1.cells
            go_simp
            first
              | (go_at_call 44; exact quiet_call_same hw1 (key_any _ _))
          go_simp; refine hK _ ?_; clear hK K
          with_reducible refine q_want ?_ (fun K hK => ?_)
          · kernel_rfl
          apply Exists.intro
          constructor
          · (intro w1 hw1; have hc := hw1.cells; go_simp <;> rfl)
          go_simp; refine hK _ ?_; clear hK K
          with_reducible refine q_want ?_ (fun K hK => ?_)
          · kernel_rfl
          apply Exists.intro
          constructor
          · (intro w1 hw1; have hc := hw1.cells; go_simp <;> rfl)
          go_simp; refine hK _ ?_; clear hK K
          with_reducible refine q_want ?_ (fun K hK => ?_)
          · kernel_rfl
          apply Exists.intro
          constructor
          · (intro w1 hw1; have hc := hw1.cells; go_simp <;> rfl)
          go_simp; refine hK _ ?_; clear hK K
          with_reducible refine q_want ?_ (fun K hK => ?_)
          · kernel_rfl
          apply Exists.intro
          constructor
          · (intro w1 hw1; have hc := hw1.cells; go_simp <;> rfl)
          go_simp; refine hK _ ?_; clear hK K
          with_reducible refine q_want ?_ (fun K hK => ?_)
          · kernel_rfl
          apply Exists.intro
          constructor
          · (intro w1 hw1; have hc := hw1.cells; go_simp <;> rfl)
          go_simp; refine hK _ ?_; clear hK K
          with_reducible refine q_want ?_ (fun K hK => ?_)
          · kernel_rfl
          apply Exists.intro
          constructor
          · (intro w1 hw1; have hc := hw1.cells; go_simp <;> rfl)
          go_simp; refine hK _ ?_; clear hK K
          with_reducible refine q_want ?_ (fun K hK => ?_)
          · kernel_rfl
          apply Exists.intro
          constructor
          · intro w1 hw1
            have hc := hw1.cells
            go_simp
            first
              | (go_at_call 44; exact quiet_call_same hw1 (key_any _ _))
          go_simp; refine hK _ ?_; clear hK K
          with_reducible refine q_want ?_ (fun K hK => ?_)
          · kernel_rfl
          apply Exists.intro
          constructor
          · (intro w1 hw1; have hc := hw1.cells; go_simp <;> rfl)
          go_simp; refine hK _ ?_; clear hK K
          with_reducible refine q_want ?_ (fun K hK => ?_)
          · kernel_rfl
          apply Exists.intro
          constructor
          · (intro w1 hw1; have hc := hw1.cells; go_simp <;> rfl)
          go_simp; refine hK _ ?_; clear hK K
          refine wpQuiet_nil ?_
          intro w1 hw1
          go_wp2_with fail
          go_ret
          refine ⟨?_, Below.trans hw (hw1.below.mono hw.below.size)⟩
          have hf : Inc.riseB ks = false := by
            cases hB : Inc.riseB ks with
            | false => rfl
            | true =>
              exfalso
              have := Inc.riseTo_mono ks (show j + 1 + 1 ≤ ks.length by omega) hB
              rw [HST.out] at this
              simp at this
              omega
          rw [hf]; rfl
    · obtain rfl : k = ks.length := by omega
      have e0 : decide ((ks.length : Int) < (ks.length : Int)) = false := by simp
      go_wp2_with fail
      go_ret
      exact ⟨by have := HR.out; unfold Inc.riseB; rw [this]; rfl, hw⟩

theorem rising_any (ks : List Int) (v : Value) (w : World) (hn : ks.length ≤ 4611686018427387904) (h : URow w v ks) :
    Calls Try.prog 35 #[v] w fun e w' => e = .returned (.bool (Inc.riseB ks)) ∧ Below w.heap.size w w' := by
  go_enter Try.func35, Try.ntmps35
  go_wp2_with (go_at_call 43; refine (rises_any ks v _ hn h).mono ?_; rintro e w1 ⟨rfl, hb1⟩; have hc1 := below_cells hb1; have hf1 := below_frozen hb1; have hz1 := hb1.size; (try simp only [World.size_alloc, World.size_setCell, World.size_drew] at hz1); (try rw [Nat.add_one_le_iff] at hz1))
  go_ret
  exact ⟨rfl, hb1⟩
end Go.Proofs.Ytdfkgkidaffcgaa
