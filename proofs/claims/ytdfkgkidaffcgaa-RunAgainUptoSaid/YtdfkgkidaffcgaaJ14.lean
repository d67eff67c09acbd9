/- Walk: line.Of. Walk: model.Of of keys that fit. Walk: cut.Ends. What its loops keep. -/
import Derived.Deep.DeepCutAuto
import Derived.Deep.CutBlock
import Derived.Test.YtdfkgkidaffcgaaJ13
set_option linter.all false
namespace Go.Proofs.Ytdfkgkidaffcgaa
open Go.RowKit

set_option maxRecDepth 100000 in
set_option maxHeartbeats 3200000 in
theorem lineOf_any (eps : Int) (he : 2 ≤ eps) (he' : eps ≤ 64) (ks : List Int) (F : Inc.Fit) (hin : Inc.KeysIn ks) (hn : 0 < ks.length) (hr : Inc.riseB ks = true) (hF : Inc.fitTo (eps - 1) ks ks.length = some F) (v : Value) (w : World) (h : URow w v ks) :
    Calls Try.prog 57 #[v, .int .i64 eps] w fun e w' => e = .returned (.tuple #[.agg #[.int .u64 F.least.1, .int .u64 F.least.2, .int .i64 (Inc.baseTo (eps - 1) ks F.least ks.length)], .int .i64 0]) ∧ Below w.heap.size w w' := by
  have hris := fun w' (hb : Below w.heap.size w w') => rising_any ks _ w' (by have := hin.len; omega) (h.below hb)
  rw [hr] at hris
  obtain ⟨A, cap, rfl, hc⟩ := h
  have HC := Lib.hid hc
  clear hc
  have e1 : decide ((ks.length : Int) = 0) = false := by simp; intro hk; simp [hk] at hn
  have e1b : ((ks.length : Int) == 0) = false := by simp; intro hk; simp [hk] at hn
  have HF := Lib.hid hF
  have HR := Lib.hid hr
  clear hF hr
  go_enter Try.func57, Try.ntmps57
  go_wp2_with (first
    | (go_at_call 55; refine (hnew_any eps he he' _).mono ?_; rintro e w' ⟨rfl, rfl⟩)
    | (go_at_call 35; refine (hris _ (by (repeat (first | exact Below.refl _ _ | refine bl_alloc ?_ _ | refine bl_drew ?_ | (refine bl_set ?_ (by simp <;> omega) _) | refine bl_then ?_ (by assumption) | refine bl_cls ?_ (by assumption))))).mono ?_; rintro e w1 ⟨rfl, hb1⟩))
  have hst := LoSt.start w (eps - 1) ks w1 hb1
  clear hb1 hris
  have HST := Lib.hid hst
  clear hst
  go_loopw [39] (fun x wr => ∃ k : Nat, k ≤ ks.length ∧ x = .int .i64 k ∧ LoSt w (eps - 1) ks k wr) (fun x _ => ks.length - (intOf x).toNat)
  case atStart => exact ⟨0, by omega, rfl, HST.out⟩
  case round =>
    clear HST
    obtain ⟨k, hk, rfl, hst⟩ := hrel
    have hw := hst.res
    by_cases hlt : k < ks.length
    · obtain ⟨b, off, rfl, hb, hcell⟩ := HC.out (by omega)
      have hadd := hst.step (by omega) (by omega) hin (Inc.rise_lt HR.out) hlt F HF.out
      have c1 := (below_cells hw.1 b (off + k) hb).trans (hcell k hlt)
      have hz1 : b < wr.heap.size := by have := hw.1.size; omega
      have e0 : decide ((k : Int) < (ks.length : Int)) = true := by simpa using hlt
      have e2 : 0 ≤ (k : Int) ∧ (k : Int) < (ks.length : Int) := by omega
      have e3 : IntKind.i64.wrap ((k : Int) + 1) = ((k + 1 : Nat) : Int) := by have := hin.len; rw [IntKind.wrap_i64]; omega
      clear hcell hst hw
      generalize ks.getD k 0 = key at *
      go_wp2_with (first
        | (go_at_call 56; refine hadd.mono ?_; rintro ed w2 ⟨rfl, hst2, hz2⟩))
      exact ⟨⟨k + 1, by omega, by go_num, hst2⟩, by simp [intOf]; omega⟩
    · obtain rfl : k = ks.length := by omega
      have e0 : decide ((ks.length : Int) < (ks.length : Int)) = false := by simp
      obtain ⟨u0, u1, hat⟩ := hst.done F HF.out
      have hlst := least_any wr _ _ _ F u0 u1 hat
      clear hat hst
      obtain ⟨hw1, hw2, hw3⟩ := hw
      have HW1 := Lib.hid hw1
      have HW2 := Lib.hid hw2
      clear hw1 hw2
      go_wp2_with (first
        | (go_at_call 67; refine hlst.mono ?_; rintro ed w2 ⟨rfl, hb2⟩))
      have hs2 := hb2.size
      have hX : (w2.alloc (.cells #[.int .u64 F.least.1, .int .u64 F.least.2] 116)).heap.size = w2.heap.size + 1 := World.size_alloc ..
      have hlo := Lo2.start (w2.alloc (.cells #[.int .u64 F.least.1, .int .u64 F.least.2] 116)) (w2.heap.size + 1) hX F.least.1 F.least.2 (1 - eps) 107
      have HLO := Lib.hid hlo
      clear hlo
      have hbX := Lib.hid (Below.trans hb2 (((Below.refl _ _).alloc (Nat.le_refl _) (.cells #[.int .u64 F.least.1, .int .u64 F.least.2] 116)).mono hs2))
      have HXS := Lib.hid hX
      have d0 : (w2.alloc (.cells #[.int .u64 F.least.1, .int .u64 F.least.2] 116)).cell? ⟨w2.heap.size, 0, none⟩ = some (.int .u64 F.least.1) := by rw [World.cell?_alloc_new]; rfl
      have d1 : (w2.alloc (.cells #[.int .u64 F.least.1, .int .u64 F.least.2] 116)).cell? ⟨w2.heap.size, 1, none⟩ = some (.int .u64 F.least.2) := by rw [World.cell?_alloc_new]; rfl
      clear hX
      have D0 := Lib.hid d0
      have D1 := Lib.hid d1
      clear d0 d1
      generalize w2.alloc (.cells #[.int .u64 F.least.1, .int .u64 F.least.2] 116) = X at *
      have hok := (Inc.fitTo_ok (e := eps - 1) (by omega) (Inc.rise_lt HR.out) (Nat.le_refl _) HF.out).ok
      rw [List.take_length] at hok
      go_loopw [64] (fun x wr => ∃ k : Nat, k ≤ ks.length ∧ x = .int .i64 k ∧ Lo2 X (w2.heap.size + 1) F.least.1 F.least.2 (Inc.baseTo (eps - 1) ks F.least k) wr) (fun x _ => ks.length - (intOf x).toNat)
      case atStart => exact ⟨0, by omega, rfl, by
        have e : Inc.baseTo (eps - 1) ks F.least 0 = 1 - eps := by unfold Inc.baseTo; omega
        rw [e]; exact HLO.out⟩
      case round =>
        clear HLO
        obtain ⟨k, hk, rfl, hlo⟩ := hrel
        by_cases hlt : k < ks.length
        · obtain ⟨b, off, rfl, hb, hcell⟩ := HC.out (by omega)
          obtain ⟨⟨fl0, fl1⟩, hwr, hal⟩ := along_key (e := eps - 1) (by omega) (by omega) hin hok hlt
          have hblo := Inc.baseTo_lo (eps - 1) ks F.least k
          have hbhi := Inc.baseTo_hi (e := eps - 1) (by omega) hok k hk
          have hnx : Inc.baseTo (eps - 1) ks F.least (k + 1) = max (Inc.baseTo (eps - 1) ks F.least k) ((k : Int) - (eps - 1) - Inc.flo F.least (ks.getD k 0 - ks.getD 0 0)) := rfl
          have HNX := Lib.hid hnx
          clear hnx
          have hl := hin.len
          have e0 : decide ((k : Int) < (ks.length : Int)) = true := by simpa using hlt
          have e2 : 0 ≤ (k : Int) ∧ (k : Int) < (ks.length : Int) := by omega
          have e2b : 0 ≤ (0 : Int) ∧ (0 : Int) < (ks.length : Int) := by omega
          have e3 : IntKind.i64.wrap ((k : Int) + 1) = ((k + 1 : Nat) : Int) := by rw [IntKind.wrap_i64]; omega
          have e4 : IntKind.i64.wrap (eps - 1) = eps - 1 := wrap_i64_id' (by omega) (by omega)
          have hz0 : X.heap.size = w2.heap.size + 1 := HXS.out
          have hbw : b < w2.heap.size := by omega
          have c1 := (below_cells (hbX.out.trans (hlo.bel.mono (by omega))) b (off + k) (by omega)).trans ((below_cells HW1.out b (off + k) hb).trans (hcell k hlt))
          have c2 := (below_cells (hbX.out.trans (hlo.bel.mono (by omega))) b off (by omega)).trans ((below_cells HW1.out b off hb).trans (hcell 0 (by omega)))
          have c3 := (below_cells hlo.bel w2.heap.size 0 (by omega)).trans D0.out
          have c4 := (below_cells hlo.bel w2.heap.size 1 (by omega)).trans D1.out
          have c5 := hlo.c2
          have c6 := hlo.fz
          have hz1 := hlo.lt
          have hz2 : b < wr.heap.size := by omega
          have hz3 : w2.heap.size < wr.heap.size := by omega
          have HLO := Lib.hid hlo
          clear hlo hcell hbX HW1 HW2 D0 D1 HXS hok
          generalize hbn : Inc.baseTo (eps - 1) ks F.least (k + 1) = bn at *
          have HBN := Lib.hid hbn
          clear hbn
          generalize Inc.baseTo (eps - 1) ks F.least k = bk at *
          generalize Inc.flo F.least (ks.getD k 0 - ks.getD 0 0) = fl at *
          generalize ks.getD k 0 = key at *
          generalize ks.getD 0 0 = key0 at *
          have e5 : IntKind.i64.wrap fl = fl := wrap_i64_id' (by omega) (by omega)
          have e6 : IntKind.i64.wrap ((k : Int) - (eps - 1)) = (k : Int) - (eps - 1) := wrap_i64_id' (by omega) (by omega)
          have e7 : IntKind.i64.wrap ((k : Int) - (eps - 1) - fl) = (k : Int) - (eps - 1) - fl := wrap_i64_id' (by omega) (by omega)
          clear hblo hbhi fl0 fl1
          go_wp2_with fail
          refine wp_region_below (by kernel_rfl) (by kernel_rfl) ?_
          with_reducible refine q_want ?_ (fun K hK => ?_)
          · kernel_rfl
          apply Exists.intro
          constructor
          · (intro w1 hw1; have hc := hw1.cells; go_simp <;> rfl)
          go_simp; refine hK _ ?_; clear hK K
          with_reducible refine q_want ?_ (fun K hK => ?_)
          · kernel_rfl
          apply Exists.intro
          constructor
          · (intro w1 hw1; have hc := hw1.cells; go_simp <;> rfl)
          go_simp; refine hK _ ?_; clear hK K
          with_reducible refine q_want ?_ (fun K hK => ?_)
          · kernel_rfl
          apply Exists.intro
          constructor
          · (intro w1 hw1; have hc := hw1.cells; go_simp <;> rfl)
          go_simp; refine hK _ ?_; clear hK K
          with_reducible refine q_want ?_ (fun K hK => ?_)
          · kernel_rfl
          apply Exists.intro
          constructor
          · (intro w1 hw1; have hc := hw1.cells; go_simp <;> rfl)
          go_simp; refine hK _ ?_; clear hK K
          with_reducible refine q_want ?_ (fun K hK => ?_)
          · kernel_rfl
          apply Exists.intro
          constructor
          · (intro w1 hw1; have hc := hw1.cells; go_simp <;> rfl)
          go_simp; refine hK _ ?_; clear hK K
          with_reducible refine q_want ?_ (fun K hK => ?_)
          · kernel_rfl
          apply Exists.intro
          constructor
          · (intro w1 hw1; have hc := hw1.cells; go_simp <;> rfl)
          go_simp; refine hK _ ?_; clear hK K
          with_reducible refine q_want ?_ (fun K hK => ?_)
          · kernel_rfl
          apply Exists.intro
          constructor
          · (intro w1 hw1; have hc := hw1.cells; go_simp <;> rfl)
          go_simp; refine hK _ ?_; clear hK K
          with_reducible refine q_want ?_ (fun K hK => ?_)
          · kernel_rfl
          apply Exists.intro
          constructor
          · (intro w1 hw1; have hc := hw1.cells; go_simp <;> rfl)
          go_simp; refine hK _ ?_; clear hK K
          with_reducible refine q_want ?_ (fun K hK => ?_)
          · kernel_rfl
          apply Exists.intro
          constructor
          · (intro w1 hw1; have hc := hw1.cells; go_simp <;> rfl)
          go_simp; refine hK _ ?_; clear hK K
          with_reducible refine q_want ?_ (fun K hK => ?_)
          · kernel_rfl
          apply Exists.intro
          constructor
          · intro w1 hw1
            have hc := hw1.cells
            go_simp
            first
              | (go_at_call 68; exact quiet_call hw1 (hal _))
          go_simp; refine hK _ ?_; clear hK K
          with_reducible refine q_want ?_ (fun K hK => ?_)
          · kernel_rfl
          apply Exists.intro
          constructor
          · (intro w1 hw1; have hc := hw1.cells; go_simp <;> rfl)
          go_simp; refine hK _ ?_; clear hK K
          with_reducible refine q_want ?_ (fun K hK => ?_)
          · kernel_rfl
          apply Exists.intro
          constructor
          · (intro w1 hw1; have hc := hw1.cells; go_simp <;> rfl)
          go_simp; refine hK _ ?_; clear hK K
          with_reducible refine q_want ?_ (fun K hK => ?_)
          · kernel_rfl
          apply Exists.intro
          constructor
          · (intro w1 hw1; have hc := hw1.cells; go_simp <;> rfl)
          go_simp; refine hK _ ?_; clear hK K
          with_reducible refine q_want ?_ (fun K hK => ?_)
          · kernel_rfl
          apply Exists.intro
          constructor
          · (intro w1 hw1; have hc := hw1.cells; go_simp <;> rfl)
          go_simp; refine hK _ ?_; clear hK K
          with_reducible refine q_want ?_ (fun K hK => ?_)
          · kernel_rfl
          apply Exists.intro
          constructor
          · (intro w1 hw1; have hc := hw1.cells; go_simp <;> rfl)
          go_simp; refine hK _ ?_; clear hK K
          refine wpQuiet_nil ?_
          intro w9 hw9
          have HL9 := Lib.hid (HLO.out.cls hw9)
          have c5' := HL9.out.c2
          have c6' := HL9.out.fz
          have hz4 := HL9.out.lt
          clear c1 c2 c3 c4 c5 c6 hw9
          go_wp2_with fail
          exact ⟨⟨k + 1, by omega, by go_num, by rw [HBN.out, HNX.out]; exact HL9.out.set _⟩, by simp [intOf]; omega⟩
        · obtain rfl : k = ks.length := by omega
          have e0 : decide ((ks.length : Int) < (ks.length : Int)) = false := by simp
          have hz0 : X.heap.size = w2.heap.size + 1 := HXS.out
          have hbel := hbX.out.trans (hlo.bel.mono (by omega))
          have hres := (hbel.block w.heap.size (by omega)).trans HW2.out
          have r0 : wr.cell? ⟨w.heap.size, 0, none⟩ = some (.int .u64 0) := by rw [cell_of_row _ _ _ _ _ _ hres]; rfl
          have r1 : wr.cell? ⟨w.heap.size, 1, none⟩ = some (.int .u64 0) := by rw [cell_of_row _ _ _ _ _ _ hres]; rfl
          have r2 : wr.cell? ⟨w.heap.size, 2, none⟩ = some (.int .i64 0) := by rw [cell_of_row _ _ _ _ _ _ hres]; rfl
          have rf : ∀ i, wr.frozen? ⟨w.heap.size, i, none⟩ = false := by intro i; simp [World.frozen?, hres]
          have c5 := hlo.c0
          have c6 := hlo.c1
          have c7 := hlo.c2
          have hz1 := hlo.lt
          have hz2 : w.heap.size < wr.heap.size := by omega
          have hne : w.heap.size ≠ w2.heap.size + 1 := by omega
          have HBEL := Lib.hid (HW1.out.trans (hbel.mono (by omega)))
          clear hlo hbel hres HW1 HW2 hbX D0 D1 HXS hok
          go_wp2_with fail
          exact bodyPost_ret (by simp only [results, Try.results57]; go_simp <;> rfl) rfl ⟨rfl, bl_set (bl_set (bl_set HBEL.out (Nat.le_refl _) _) (Nat.le_refl _) _) (Nat.le_refl _) _⟩
end Go.Proofs.Ytdfkgkidaffcgaa
namespace Inc
/-- the segment of keys that fit, which begins at a place -/
def segOf (e : Int) (ks : List Int) (F : Fit) (a : Int) : Seg :=
  ⟨ks.getD 0 0, quoW F.least.1.toNat F.least.2.toNat, ofI (a + baseTo e ks F.least ks.length), a, a + ks.length⟩
end Inc
namespace Go.Proofs.Ytdfkgkidaffcgaa
open Go.RowKit

theorem near_zero (den : Nat) (hd : 0 < den) (hd' : den < 18446744073709551616) (w : World) :
    Calls Try.prog 58 #[.int .u64 0, .int .u64 den] w fun e w' => e = .returned (.tuple #[.float .f64 0, .int .i64 0]) ∧ Below w.heap.size w w' := by
  have c2 : decide ((den : Int) = 0) = false := by simp; omega
  go_enter Try.func58, Try.ntmps58
  go_wp2_with fail
  go_ret2
  exact ⟨rfl, by (repeat (first | exact Below.refl _ _ | refine bl_alloc ?_ _ | refine bl_drew ?_ | (refine bl_set ?_ (by simp <;> omega) _) | refine bl_then ?_ (by assumption) | refine bl_cls ?_ (by assumption)))⟩

theorem near_any (s : Int × Int) (h0 : 0 ≤ s.1) (h1 : s.1 < 18446744073709551616) (h2 : 0 < s.2) (h3 : s.2 < 18446744073709551616) (w : World) :
    Calls Try.prog 58 #[.int .u64 s.1, .int .u64 s.2] w fun e w' => e = .returned (.tuple #[.float .f64 (Inc.quoW s.1.toNat s.2.toNat), .int .i64 0]) ∧ Below w.heap.size w w' := by
  obtain ⟨a, b⟩ := s
  simp only at *
  obtain ⟨n, rfl⟩ := Int.eq_ofNat_of_zero_le h0
  obtain ⟨d, rfl⟩ := Int.eq_ofNat_of_zero_le (Int.le_of_lt h2)
  rcases Nat.eq_zero_or_pos n with rfl | hn
  · have := near_zero d (by omega) (by omega) w
    exact this
  · exact near_f n d hn (by omega) (by omega) (by omega) w

set_option maxRecDepth 100000 in
set_option maxHeartbeats 1600000 in
theorem modelOf_any (eps : Int) (he : 2 ≤ eps) (he' : eps ≤ 64) (ks : List Int) (F : Inc.Fit) (hin : Inc.KeysIn ks) (hn : 0 < ks.length) (hr : Inc.riseB ks = true) (hF : Inc.fitTo (eps - 1) ks ks.length = some F)
    (a : Int) (ha : 0 ≤ a) (ha' : a + ks.length ≤ 4294967296) (v : Value) (w : World) (h : URow w v ks) :
    Calls Try.prog 46 #[v, .int .i64 eps, .int .i64 a] w fun e w' => e = .returned (.tuple #[segV (Inc.segOf (eps - 1) ks F a), .int .i64 0]) ∧ Below w.heap.size w w' := by
  have hline := fun w' (hb : Below w.heap.size w w') => lineOf_any eps he he' ks F hin hn hr hF _ w' (h.below hb)
  have hok := (Inc.fitTo_ok (e := eps - 1) (by omega) (Inc.rise_lt hr) (Nat.le_refl _) hF).ok
  rw [List.take_length] at hok
  obtain ⟨⟨s1, s2, s3, s4⟩, _⟩ := hok.slopes (by omega) (by omega) hin
  have s5 := hok.low.den
  have hnear := near_any F.least s1 (by omega) s5 s4
  have hblo := Inc.baseTo_lo (eps - 1) ks F.least ks.length
  have hbhi := Inc.baseTo_hi (e := eps - 1) (by omega) hok ks.length (Nat.le_refl _)
  obtain ⟨A, cap, rfl, hc⟩ := h
  obtain ⟨b, off, rfl, hb, hcell⟩ := hc hn
  have c0 := hcell 0 hn
  rw [Nat.add_zero] at c0
  have hl := hin.len
  have e1 : decide (a < 0) = false := by simp; omega
  have e2 : decide (4294967296 - (ks.length : Int) < a) = false := by simp; omega
  have e3 : (0 : Int) < (ks.length : Int) := by omega
  unfold Inc.segOf segV
  generalize Inc.quoW F.least.1.toNat F.least.2.toNat = q at *
  generalize Inc.baseTo (eps - 1) ks F.least ks.length = bn at *
  generalize ks.getD 0 0 = k0 at *
  have e4 : IntKind.i64.wrap (a + bn) = a + bn := wrap_i64_id' (by omega) (by omega)
  have e5 : floatOfInt .f64 (a + bn) = Inc.ofI (a + bn) := rfl
  generalize Inc.ofI (a + bn) = ic at *
  have e6 : -64 ≤ a + bn ∧ a + bn ≤ 4294967296 := by omega
  generalize hA : a + bn = ab at *
  clear hc hcell hin hF hr hok s1 s2 s3 s4 s5 hblo hbhi
  go_enter Try.func46, Try.ntmps46
  go_wp2_with (first
    | (go_at_call 57; refine (hline _ (by (repeat (first | exact Below.refl _ _ | refine bl_alloc ?_ _ | refine bl_drew ?_ | (refine bl_set ?_ (by simp <;> omega) _) | refine bl_then ?_ (by assumption) | refine bl_cls ?_ (by assumption))))).mono ?_; rintro e w1 ⟨rfl, hb1⟩))
  have hc1 := below_cells hb1
  have hf1 := below_frozen hb1
  have hz1 := hb1.size
  simp only [World.size_alloc] at hz1
  go_wp2_with fail
  refine (hnear _).mono ?_
  rintro e w2 ⟨rfl, hb2⟩
  have hc2 := below_cells hb2
  have hf2 := below_frozen hb2
  have hz2 := hb2.size
  simp only [World.size_alloc] at hz2
  go_wp2_with fail
  have q0 : w2.cell? ⟨b, off, none⟩ = some (.int .u64 k0) := by
    rw [hc2 _ _ (by rw [World.size_alloc]; omega), World.cell?_alloc_past _ _ _ (by omega), hc1 _ _ (by rw [World.size_alloc]; omega), World.cell?_alloc_past _ _ _ hb]
    exact c0
  have q1 : w2.cell? ⟨w1.heap.size, 2, none⟩ = some (.int .i64 bn) := by
    rw [hc2 _ _ (by rw [World.size_alloc]; omega), World.cell?_alloc_new]; rfl
  have q2 : ∀ i, w2.frozen? ⟨w.heap.size, i, none⟩ = false := by
    intro i
    rw [hf2 _ _ (by rw [World.size_alloc]; omega), World.frozen?_alloc_past _ _ _ (by omega), hf1 _ _ (by rw [World.size_alloc]; omega)]
    simp
  have HB := Lib.hid (show Below w.heap.size w w2 by (repeat (first | exact Below.refl _ _ | refine bl_alloc ?_ _ | refine bl_drew ?_ | (refine bl_set ?_ (by simp <;> omega) _) | refine bl_then ?_ (by assumption) | refine bl_cls ?_ (by assumption))))
  have e8 : IntKind.i64.wrap (a + (ks.length : Int)) = a + (ks.length : Int) := wrap_i64_id' (by omega) (by omega)
  have q30 : w2.cell? ⟨w.heap.size, 0, none⟩ = some (.int .u64 0) := by
    rw [hc2 _ _ (by rw [World.size_alloc]; omega), World.cell?_alloc_past _ _ _ (by omega), hc1 _ _ (by rw [World.size_alloc]; omega), World.cell?_alloc_new]
    rfl
  have q31 : w2.cell? ⟨w.heap.size, 1, none⟩ = some (.float .f64 0) := by
    rw [hc2 _ _ (by rw [World.size_alloc]; omega), World.cell?_alloc_past _ _ _ (by omega), hc1 _ _ (by rw [World.size_alloc]; omega), World.cell?_alloc_new]
    rfl
  have q32 : w2.cell? ⟨w.heap.size, 2, none⟩ = some (.float .f64 0) := by
    rw [hc2 _ _ (by rw [World.size_alloc]; omega), World.cell?_alloc_past _ _ _ (by omega), hc1 _ _ (by rw [World.size_alloc]; omega), World.cell?_alloc_new]
    rfl
  have q33 : w2.cell? ⟨w.heap.size, 3, none⟩ = some (.int .i64 0) := by
    rw [hc2 _ _ (by rw [World.size_alloc]; omega), World.cell?_alloc_past _ _ _ (by omega), hc1 _ _ (by rw [World.size_alloc]; omega), World.cell?_alloc_new]
    rfl
  have q34 : w2.cell? ⟨w.heap.size, 4, none⟩ = some (.int .i64 0) := by
    rw [hc2 _ _ (by rw [World.size_alloc]; omega), World.cell?_alloc_past _ _ _ (by omega), hc1 _ _ (by rw [World.size_alloc]; omega), World.cell?_alloc_new]
    rfl
  clear hc1 hf1 hc2 hf2 hb1 hb2 hline hnear c0
  go_region
  all_goals
    go_wp2_with fail
    exact bodyPost_ret (by simp only [results, Try.results46]; go_simp <;> rfl) rfl ⟨rfl, by (repeat (first | exact Below.refl _ _ | refine bl_alloc ?_ _ | refine bl_drew ?_ | (refine bl_set ?_ (by simp <;> omega) _) | refine bl_then ?_ (by assumption) | refine bl_cls ?_ (by assumption)))⟩
end Go.Proofs.Ytdfkgkidaffcgaa
namespace Inc

/-- from .. to is cut into these stretches, each as long as it fits -/
def Greedy (e : Int) (ks : List Int) : Nat → List Nat → Nat → Prop
  | a, [], b => a = b
  | a, n :: t, b => a < n ∧ n ≤ ks.length ∧ (∃ F, fitTo e (ks.drop a) (n - a) = some F) ∧ (n < ks.length → fitTo e (ks.drop a) (n - a + 1) = none) ∧ Greedy e ks n t b

theorem Greedy.snoc {e : Int} {ks : List Int} {n : Nat} : ∀ {t : List Nat} {a b : Nat}, Greedy e ks a t b → b < n → n ≤ ks.length → (∃ F, fitTo e (ks.drop b) (n - b) = some F) → (n < ks.length → fitTo e (ks.drop b) (n - b + 1) = none) → Greedy e ks a (t ++ [n]) n := by
  intro t
  induction t with
  | nil => intro a b h h1 h2 h3 h4; cases h; exact ⟨h1, h2, h3, h4, rfl⟩
  | cons x t ih => intro a b h h1 h2 h3 h4; exact ⟨h.1, h.2.1, h.2.2.1, h.2.2.2.1, ih h.2.2.2.2 h1 h2 h3 h4⟩

theorem Greedy.len {e : Int} {ks : List Int} : ∀ {t : List Nat} {a b : Nat}, Greedy e ks a t b → a + t.length ≤ b := by
  intro t
  induction t with
  | nil => intro a b h; cases h; simp
  | cons x t ih => intro a b h; have := ih h.2.2.2.2; have := h.1; simp; omega

theorem fitTo_one (e : Int) (ks : List Int) : ∃ F, fitTo e ks 1 = some F := ⟨_, rfl⟩

theorem K_drop (ks : List Int) (a i : Nat) : K (ks.drop a) i = K ks (a + i) := by
  simp [K, List.getD_eq_getElem?_getD, List.getElem?_drop]

theorem KeysIn.drop {ks : List Int} (h : KeysIn ks) (a : Nat) : KeysIn (ks.drop a) := by
  have hl := h.len
  refine ⟨by simp; omega, fun i hi => ?_⟩
  simp only [List.length_drop] at hi
  rw [K_drop]
  exact h.rng _ (by omega)

theorem Rise.drop {ks : List Int} (h : Rise ks) (a : Nat) : Rise (ks.drop a) := by
  intro i j hij hj
  simp only [List.length_drop] at hj
  rw [K_drop, K_drop]
  exact h _ _ (by omega) (by omega)
end Inc
namespace Go.Proofs.Ytdfkgkidaffcgaa
open Go.RowKit

theorem owns_frp {b fb n size T : Nat} {w w' : World} {v : Value} {xs : List Value} (h : w.ownsRow b T size v n xs) (hT : T ≠ 122) (hf : FrP b w w' fb) (hfb : ∀ c fz, w.heap[fb]? ≠ some (.cells c T fz)) : w'.ownsRow b T size v n xs := by
  refine ⟨h.1, ?_⟩
  rcases h.2 with h' | ⟨g, cap, cur, rfl, hb, hg, r⟩
  · exact .inl h'
  · refine .inr ⟨g, cap, cur, rfl, hb, ?_, r⟩
    rw [hf.block g (Array.getElem?_eq_some_iff.1 hg).1 (fun e => hfb _ _ (e ▸ hg)) (.inr (fun c fz he => by rw [hg] at he; injection he with he; injection he with _ he _; exact hT he))]
    exact hg

theorem fit_grown {base fb n size T : Nat} {e : Int} {F : Inc.Fit} {v v0 v1 : Value} {xs : List Value} {w w' : World} (h : FitAt w base fb e F v0 v1) (ho : w.ownsRow base T size v n xs) (hT : T ≠ 122) (hT' : T ≠ 120)
    (hg : w.grownBy w' v.ownBlock) : FitAt w' base fb e F v0 v1 := by
  have hrow : ∀ {u : Value} {m : Nat} {ys : List Value}, w.ownsRow base 122 2 u m ys → u.ownBlock = none ∨ u.ownBlock ≠ v.ownBlock := by
    intro u m ys hu
    rcases hu.2 with ⟨rfl, _⟩ | ⟨g, cap, cur, rfl, _, hgg, _⟩
    · exact .inl rfl
    · exact .inr (Ne.symm (owns_type ho hgg (Ne.symm hT)))
  refine ⟨?_, h.lo.kept hg (hrow h.lo), h.up.kept hg (hrow h.up), h.ne⟩
  rw [hg.block fb h.cells.2.2 (Ne.symm (owns_type ho h.blk (Ne.symm hT')))]
  exact h.blk

/-- the ends so far, as whole numbers in a row -/
def natRow (es : List Nat) : List Value := es.map (fun n : Nat => Value.int .i64 (n : Int))

/-- what Ends keeps between two of its steps: the ends so far, the fit of the stretch that began at a, which holds the keys up to i -/
structure EndSt (W : World) (e : Int) (ks : List Int) (es : List Nat) (a i fb : Nat) (v : Value) (w : World) : Prop where
  gr : Inc.Greedy e ks 0 es a
  fit : a < ks.length → ∃ G u0 u1, Inc.fitTo e (ks.drop a) (i - a) = some G ∧ FitAt w W.heap.size fb e G u0 u1
  fb : W.heap.size ≤ fb
  row : w.ownsRow W.heap.size 3 1 v es.length (natRow es)
  bel : Below W.heap.size W w

/-- one key more: it is laid, or none fits -/
theorem EndSt.add {W : World} {e : Int} {ks : List Int} {es : List Nat} {a i fb : Nat} {v : Value} {w : World} (h : EndSt W e ks es a i fb v w) (he : 1 ≤ e) (he' : e ≤ 63) (hin : Inc.KeysIn ks) (hr : Inc.Rise ks) (ha : a ≤ i) (hi : i < ks.length) :
    Calls Try.prog 56 #[.pointer (some ⟨fb, 0, none⟩), .int .u64 (ks.getD i 0)] w fun ed w' =>
      (Inc.fitTo e (ks.drop a) (i - a + 1) = none ∧ ed = .returned (.tuple #[.bool false, .int .i64 0]) ∧ w.heap.size ≤ w'.heap.size ∧ EndSt W e ks es a i fb v w') ∨
      (ed = .returned (.tuple #[.bool true, .int .i64 0]) ∧ w.heap.size ≤ w'.heap.size ∧ EndSt W e ks es a (i + 1) fb v w') := by
  obtain ⟨G, u0, u1, hG, hat⟩ := h.fit (by omega)
  have hk := add_step e he he' (ks.drop a) (i - a) W.heap.size fb G u0 u1 w (hin.drop a) (hr.drop a) (by simp; omega) h.bel.size h.fb hG hat
  rw [show (ks.drop a).getD (i - a) 0 = ks.getD i 0 by have := Inc.K_drop ks a (i - a); rw [show a + (i - a) = i by omega] at this; exact this] at hk
  refine hk.mono ?_
  rintro ed w' (⟨hnone, rfl, hb⟩ | ⟨G', t0, t1, hsome, rfl, hat', hfr⟩)
  · refine .inl ⟨hnone, rfl, hb.size, h.gr, fun _ => ⟨G, u0, u1, hG, ?_⟩, h.fb, owns_below h.row hb, bl_then h.bel hb⟩
    exact ⟨(hb.block _ hat.cells.2.2).trans hat.blk, owns_below hat.lo hb, owns_below hat.up hb, hat.ne⟩
  · refine .inr ⟨rfl, hfr.size, h.gr, fun _ => ⟨G', t0, t1, by rw [show i + 1 - a = i - a + 1 by omega]; exact hsome, hat'⟩, h.fb, owns_frp h.row (by decide) hfr ?_, below_frp h.bel hfr h.fb h.bel.size⟩
    intro c fz hc
    rw [hat.blk] at hc
    injection hc with hc
    injection hc with _ hc _
    exact absurd hc (by decide)

theorem one_new (w : World) (x : Value) (T : TypeId) : ∀ j u, [x][j]? = some u → (w.alloc (.cells #[x] T)).cell? ((⟨w.heap.size, 0, none⟩ : Addr).add j) = some u := by
  intro j u hu
  have hadd : (⟨w.heap.size, 0, none⟩ : Addr).add j = ⟨w.heap.size, j, none⟩ := by unfold Addr.add; split <;> simp_all
  rw [hadd, cell_of_row _ w.heap.size j #[x] T (0, 0) (heap_new w _)]
  simpa using hu

theorem one_new2 (w : World) (o : Obj) (x : Value) (T : TypeId) : ∀ j u, [x][j]? = some u → ((w.alloc o).alloc (.cells #[x] T)).cell? ((⟨w.heap.size + 1, 0, none⟩ : Addr).add j) = some u := by
  have := one_new (w.alloc o) x T
  rw [World.size_alloc] at this
  exact this

theorem natRow_snoc (es : List Nat) (i : Nat) : natRow es ++ [Value.int .i64 (i : Int)] = natRow (es ++ [i]) := by simp [natRow]

theorem below_own {b T size n : Nat} {W w w' : World} {v : Value} {xs : List Value} (h : Below b W w) (ho : w.ownsRow b T size v n xs) (hg : w.grownBy w' v.ownBlock) (hs : b ≤ w.heap.size) : Below b W w' := by
  refine ⟨hg.os.trans h.os, hg.tape.trans h.tape, hg.output.trans h.output, Nat.le_trans h.size hg.size, fun j hj => (hg.block j (by omega) ?_).trans (h.block j hj)⟩
  intro e
  have := (ho.lt j e.symm).1
  omega

theorem lt_of_none {e : Int} {ks : List Int} {a i : Nat} (ha : a ≤ i) (h : Inc.fitTo e (ks.drop a) (i - a + 1) = none) : a < i := by
  rcases Nat.eq_or_lt_of_le ha with rfl | hlt
  · obtain ⟨F, hF⟩ := Inc.fitTo_one e (ks.drop a)
    rw [Nat.sub_self, hF] at h
    cases h
  · exact hlt

/-- a stretch ends at i, and a new fit was made -/
theorem EndSt.next {W : World} {e : Int} {ks : List Int} {es : List Nat} {a i fb : Nat} {v v' : Value} {w w3 : World} (h : EndSt W e ks es a i fb v w) (ha : a ≤ i) (hi : i < ks.length) (hnone : Inc.fitTo e (ks.drop a) (i - a + 1) = none)
    (hrow : w3.ownsRow W.heap.size 3 1 v' (es.length + 1) (natRow es ++ [Value.int .i64 (i : Int)]))
    (hg : ((w.alloc (.cells (fitCells e Inc.Fit.new (.slice none 0 0) (.slice none 0 0)) 120)).alloc (.cells #[.int .i64 (i : Int)] 3)).grownBy w3 v.ownBlock) : EndSt W e ks (es ++ [i]) i i w.heap.size v' w3 := by
  have hsz := h.bel.size
  have hlt : a < i := by
    rcases Nat.eq_or_lt_of_le ha with rfl | hlt
    · obtain ⟨F, hF⟩ := Inc.fitTo_one e (ks.drop a)
      rw [Nat.sub_self, hF] at hnone
      cases hnone
    · exact hlt
  obtain ⟨G, u0, u1, hG, _⟩ := h.fit (by omega)
  have ho := (h.row.alloc (.cells (fitCells e Inc.Fit.new (.slice none 0 0) (.slice none 0 0)) 120)).alloc (.cells #[.int .i64 (i : Int)] 3)
  have hb2 := ((Below.refl (w.heap.size + 1) (w.alloc (.cells (fitCells e Inc.Fit.new (.slice none 0 0) (.slice none 0 0)) 120))).alloc (by rw [World.size_alloc]; omega) (.cells #[.int .i64 (i : Int)] 3))
  have hat := FitAt.new w e W.heap.size _ hb2
  refine ⟨h.gr.snoc hlt (by omega) ⟨G, hG⟩ (fun _ => hnone), fun _ => ⟨Inc.Fit.new, .slice none 0 0, .slice none 0 0, by rw [Nat.sub_self]; rfl, fit_grown hat ho (by decide) (by decide) hg⟩, hsz, by rw [← natRow_snoc]; simpa using hrow, ?_⟩
  refine below_own ?_ ho hg (by rw [World.size_alloc, World.size_alloc]; omega)
  exact (h.bel.alloc hsz _).alloc (by rw [World.size_alloc]; omega) _

/-- the last stretch ends where the keys end -/
theorem EndSt.last {W : World} {e : Int} {ks : List Int} {es : List Nat} {a fb : Nat} {v v' : Value} {w w3 : World} (h : EndSt W e ks es a ks.length fb v w) (ha : a < ks.length)
    (hrow : w3.ownsRow W.heap.size 3 1 v' (es.length + 1) (natRow es ++ [Value.int .i64 (ks.length : Int)]))
    (hg : (w.alloc (.cells #[.int .i64 (ks.length : Int)] 3)).grownBy w3 v.ownBlock) : EndSt W e ks (es ++ [ks.length]) ks.length ks.length fb v' w3 := by
  have hsz := h.bel.size
  obtain ⟨G, u0, u1, hG, _⟩ := h.fit ha
  have ho := h.row.alloc (.cells #[.int .i64 (ks.length : Int)] 3)
  refine ⟨h.gr.snoc ha (Nat.le_refl _) ⟨G, hG⟩ (fun h' => absurd h' (Nat.lt_irrefl _)), fun h' => absurd h' (Nat.lt_irrefl _), h.fb, by rw [← natRow_snoc]; simpa using hrow, ?_⟩
  exact below_own (h.bel.alloc hsz _) ho hg (by rw [World.size_alloc]; omega)
end Go.Proofs.Ytdfkgkidaffcgaa
