/- Walk: levels.Check: the deferred closure. Walk: levels.Check. -/
import Derived.Defers
import Derived.Recover
import Derived.Laws.Pointers
import Derived.Deep.CutBlock
import Derived.StillTailTactics
import Derived.Test.YtdfkgkidaffcgaaJ16
set_option linter.all false
namespace Go.Proofs.Ytdfkgkidaffcgaa
open Go.RowKit

theorem assert_wrong (c : Int) (w : World) : (Instr.typeAssert (.iface 93 (.agg #[.int .i64 c])) 20 93 true).run Try.prog w = .ok (.tuple #[.agg #[.int .i64 c], .bool true]) w := by kernel_rfl

set_option maxRecDepth 100000 in
theorem catch_panicking (b : Nat) (x c : Int) (w : World) (hc : w.cell? ⟨b, 0, none⟩ = some (.int .i64 x)) (hz : w.frozen? ⟨b, 0, none⟩ = false) (hb : b < w.heap.size) :
    CallsD Try.prog 49 #[.pointer (some ⟨b, 0, none⟩)] (.panicking (gaveUp c)) w fun e u' w' =>
      e = .returned (.tuple #[]) ∧ settle u' = .returning ∧ w' = (w.setCell ⟨b, 0, none⟩ (.int .i64 c)).alloc (.cells #[.int .i64 c] 93) := by
  have hta := assert_wrong c
  refine callsD_of_wpS Try.func49 rfl fun c₀ cs hu => ?_
  apply wpS_seq
  apply wpS_region
  simp [wpOpsS, go_sem, recoverD, hu, Try.ntmps49, Exit.thenS, gaveUp]
  refine wpS_of_wp ?_
  simp only [Array.replicate, Array.setIfInBounds]
  simp
  generalize hQ : (bodyPostS Try.prog _ c₀ cs _) = Q
  have HQ := Lib.hid hQ
  clear hQ
  go_wp2_with fail
  rw [← HQ.out]
  simp [bodyPostS, results, Try.results49, settle]

set_option maxRecDepth 100000 in
theorem catch_idle (b : Nat) (w : World) :
    CallsD Try.prog 49 #[.pointer (some ⟨b, 0, none⟩)] .returning w fun e u' w' => e = .returned (.tuple #[]) ∧ u' = .returning ∧ w' = w := by
  refine callsD_of_wpS Try.func49 rfl fun c₀ cs hu => ?_
  apply wpS_seq
  apply wpS_region
  simp [wpOpsS, go_sem, recoverD, hu, Try.ntmps49, Exit.thenS]
  refine wpS_of_wp ?_
  simp only [Array.replicate, Array.setIfInBounds]
  simp
  generalize hQ : (bodyPostS Try.prog _ c₀ cs _) = Q
  have HQ := Lib.hid hQ
  clear hQ
  go_wp2_with fail
  rw [← HQ.out]
  cases c₀
  simp_all [bodyPostS, results, Try.results49]
end Go.Proofs.Ytdfkgkidaffcgaa
namespace Inc
theorem tile_seg : ∀ (l : List Seg) (a n : Int) (j : Nat) (s : Seg), tileB a l n = true → l[j]? = some s → a ≤ s.from_ ∧ s.from_ < s.till ∧ s.till ≤ n := by
  intro l
  induction l with
  | nil => intro a n j s _ h; simp at h
  | cons x t ih =>
    intro a n j s h hs
    simp only [tileB, Bool.and_eq_true, decide_eq_true_eq] at h
    obtain ⟨⟨⟨h1, h2⟩, h3⟩, h4⟩ := h
    cases j with
    | zero => simp only [List.getElem?_cons_zero, Option.some.injEq] at hs; subst hs; omega
    | succ j =>
      have := ih x.till n j s h4 (by simpa using hs)
      omega

theorem tile_ge : ∀ (l : List Seg) (a n : Int) (j : Nat) (s : Seg), tileB a l n = true → l[j]? = some s → a ≤ s.from_ := fun l a n j s h hs => (tile_seg l a n j s h hs).1

theorem tile_lt : ∀ (l : List Seg) (a n : Int) (i j : Nat) (s t : Seg), tileB a l n = true → l[i]? = some s → l[j]? = some t → i < j → s.till ≤ t.from_ := by
  intro l
  induction l with
  | nil => intro a n i j s t _ h; simp at h
  | cons x r ih =>
    intro a n i j s t h hs ht hij
    have h' := h
    simp only [tileB, Bool.and_eq_true, decide_eq_true_eq] at h
    obtain ⟨⟨⟨h1, h2⟩, h3⟩, h4⟩ := h
    cases j with
    | zero => omega
    | succ j =>
      cases i with
      | zero =>
        simp only [List.getElem?_cons_zero, Option.some.injEq] at hs
        subst hs
        exact tile_ge r _ n j t h4 (by simpa using ht)
      | succ i => exact ih _ n i j s t h4 (by simpa using hs) (by simpa using ht) (by omega)

theorem seg_first {eps : Int} {below : List Int} {s : Seg} (h : segBad eps below s = 0) : chk s = 0 ∧ s.first = below.getD s.from_.toNat 0 ∧ offTo s (stretch below s.from_.toNat s.till.toNat) (s.till.toNat - s.from_.toNat) ≤ eps := by
  unfold segBad at h
  split at h
  · omega
  · split at h
    · omega
    · split at h
      · omega
      · rename_i h1 h2 h3
        exact ⟨by omega, by simpa using h2, by omega⟩

theorem firsts_rise {eps : Int} {below : List Int} {l : List Seg} (ht : tileB 0 l below.length = true) (hr : rowBad eps below l = 0) (hb : Rise below) : Rise (l.map (·.first)) := by
  rw [rowBad_zero] at hr
  intro i j hij hj
  rw [List.length_map] at hj
  obtain ⟨s, hs⟩ : ∃ s, l[i]? = some s := ⟨_, List.getElem?_eq_getElem (by omega)⟩
  obtain ⟨t, ht'⟩ : ∃ t, l[j]? = some t := ⟨_, List.getElem?_eq_getElem hj⟩
  have h1 := tile_lt l 0 _ i j s t ht hs ht' hij
  obtain ⟨a1, a2, a3⟩ := tile_seg l 0 _ i s ht hs
  obtain ⟨b1, b2, b3⟩ := tile_seg l 0 _ j t ht ht'
  have f1 := (seg_first (hr s (List.mem_of_getElem? hs))).2.1
  have f2 := (seg_first (hr t (List.mem_of_getElem? ht'))).2.1
  have e1 : K (l.map (·.first)) i = s.first := by simp [K, List.getD_eq_getElem?_getD, hs]
  have e2 : K (l.map (·.first)) j = t.first := by simp [K, List.getD_eq_getElem?_getD, ht']
  rw [e1, e2, f1, f2]
  exact hb _ _ (by omega) (by omega)

theorem row_step {eps : Int} {below : List Int} {l : List Seg} {j : Nat} {s : Seg} (h : l[j]? = some s) : rowBad eps below (l.drop j) = if segBad eps below s ≠ 0 then segBad eps below s else rowBad eps below (l.drop (j + 1)) := by
  have hk : j < l.length := (List.getElem?_eq_some_iff.1 h).1
  rw [List.drop_eq_getElem_cons hk, (List.getElem?_eq_some_iff.1 h).2]
  rfl

theorem go_step {eps : Int} {below : List Int} {ls : List (List Seg)} {k : Nat} {l : List Seg} (h : ls[k]? = some l) : goBad eps below (ls.drop k) = if tileB 0 l below.length = false then 82 else if rowBad eps below l ≠ 0 then rowBad eps below l else goBad eps (l.map (·.first)) (ls.drop (k + 1)) := by
  have hk : k < ls.length := (List.getElem?_eq_some_iff.1 h).1
  rw [List.drop_eq_getElem_cons hk, (List.getElem?_eq_some_iff.1 h).2]
  rfl
end Inc
namespace Go.Proofs.Ytdfkgkidaffcgaa
open Go.RowKit

/-- Check's answer -/
def Told (c : Int) (W : World) (e : Ending) (w' : World) : Prop := e = .returned (.int .i64 c) ∧ Below W.heap.size W w'

/-- the answer's cell is there, untouched -/
def CheckW (W w1 : World) : Prop := Below (W.heap.size + 1) (W.alloc (.cells #[.int .i64 0] 26)) w1

theorem CheckW.cell {W w1 : World} (h : CheckW W w1) : w1.cell? ⟨W.heap.size, 0, none⟩ = some (.int .i64 0) := by
  rw [Below.cell (show Below _ _ _ from h) (p := ⟨W.heap.size, 0, none⟩) (by show W.heap.size < _; omega), World.cell?_alloc_new]; rfl
theorem CheckW.free {W w1 : World} (h : CheckW W w1) : w1.frozen? ⟨W.heap.size, 0, none⟩ = false := by
  rw [Below.frozen (show Below _ _ _ from h) (p := ⟨W.heap.size, 0, none⟩) (by show W.heap.size < _; omega)]; simp
theorem CheckW.lt {W w1 : World} (h : CheckW W w1) : W.heap.size < w1.heap.size := by
  have := Below.size (show Below _ _ _ from h); rw [World.size_alloc] at this; omega
theorem CheckW.bel {W w1 : World} (h : CheckW W w1) : Below W.heap.size W w1 := Below.trans ((Below.refl _ _).alloc (Nat.le_refl _) _) (Below.mono (show Below _ _ _ from h) (by omega))
theorem CheckW.start (W : World) : CheckW W (W.alloc (.cells #[.int .i64 0] 26)) := Below.refl _ _
theorem CheckW.more {W w1 w2 : World} (h : CheckW W w1) (hb : Below w1.heap.size w1 w2) : CheckW W w2 := Below.trans h (hb.mono h.lt)

theorem SRow.below' {W w : World} {v : Value} {ss : List Inc.Seg} (h : SRow W v ss) (hb : Below W.heap.size W w) : SRow w v ss := Row.below h hb

/-- where it gives up -/
theorem door_bad (W : World) (c : Int) (tmps : Array Value) (w1 : World) (h : CheckW W w1) (ht : tmps[6]? = some (.pointer (some ⟨W.heap.size, 0, none⟩))) :
    bodyPostD Try.prog Try.f40 (Told c W) (Exit.panic (gaveUp c)) { tmps := tmps, defers := [{ target := Target.fn (Fn.func 49) #[Value.pointer (some ⟨W.heap.size, 0, none⟩)], args := #[] }] } w1 := by
  have hc := h.cell
  have hz := h.free
  have hlt := h.lt
  refine leaves_cons (f := 49) (args := #[.pointer (some ⟨W.heap.size, 0, none⟩)]) (by simp) (by simp [go_sem]) ?_
  refine (catch_panicking W.heap.size 0 c w1 hc hz hlt).mono ?_
  rintro e u' w'' ⟨rfl, hu, rfl⟩
  simp only [hu]
  have hres : (results Try.f40 tmps).run Try.prog ((w1.setCell ⟨W.heap.size, 0, none⟩ (.int .i64 c)).alloc (.cells #[.int .i64 c] 93)) = .ok (.int .i64 c) ((w1.setCell ⟨W.heap.size, 0, none⟩ (.int .i64 c)).alloc (.cells #[.int .i64 c] 93)) := by
    have q : ((w1.setCell ⟨W.heap.size, 0, none⟩ (.int .i64 c)).alloc (.cells #[.int .i64 c] 93)).cell? ⟨W.heap.size, 0, none⟩ = some (.int .i64 c) := by
      rw [World.cell?_alloc_past _ _ _ (by simpa using hlt)]
      exact World.cell?_setCell_same _ _ _ hc
    generalize (w1.setCell ⟨W.heap.size, 0, none⟩ (.int .i64 c)).alloc (.cells #[.int .i64 c] 93) = w2 at *
    simp [results, Try.results40, go_sem, ht, q]
  exact ⟨_, hres, rfl, bl_alloc (bl_set h.bel (Nat.le_refl _) _) _⟩

/-- where it ends well -/
theorem door_ok (W : World) (tmps : Array Value) (w1 : World) (h : CheckW W w1) (ht : tmps[6]? = some (.pointer (some ⟨W.heap.size, 0, none⟩))) :
    bodyPostD Try.prog Try.f40 (Told 0 W) Exit.ret { tmps := tmps, defers := [{ target := Target.fn (Fn.func 49) #[Value.pointer (some ⟨W.heap.size, 0, none⟩)], args := #[] }] } (w1.setCell ⟨W.heap.size, 0, none⟩ (.int .i64 0)) := by
  have hc := h.cell
  refine leaves_cons (f := 49) (args := #[.pointer (some ⟨W.heap.size, 0, none⟩)]) (by simp) (by simp [go_sem]) ?_
  refine (catch_idle W.heap.size _).mono ?_
  rintro e u' w'' ⟨rfl, rfl, rfl⟩
  have hres : (results Try.f40 tmps).run Try.prog (w1.setCell ⟨W.heap.size, 0, none⟩ (.int .i64 0)) = .ok (.int .i64 0) (w1.setCell ⟨W.heap.size, 0, none⟩ (.int .i64 0)) := by
    have q : (w1.setCell ⟨W.heap.size, 0, none⟩ (.int .i64 0)).cell? ⟨W.heap.size, 0, none⟩ = some (.int .i64 0) := World.cell?_setCell_same _ _ _ hc
    generalize w1.setCell ⟨W.heap.size, 0, none⟩ (.int .i64 0) = w2 at *
    simp [results, Try.results40, go_sem, ht, q]
  exact ⟨_, hres, rfl, bl_set h.bel (Nat.le_refl _) _⟩

/-- what Check keeps from level to level: the keys below, and what is still to be told -/
def CheckSt (eps : Int) (ks : List Int) (ls : List (List Inc.Seg)) (W : World) (CC : Int) (bv : Value) (k : Nat) (w : World) : Prop :=
  ∃ below : List Int, KRow w bv below ∧ below.length ≤ 4294967296 ∧ (∀ i, i < below.length → 0 ≤ below.getD i 0 ∧ below.getD i 0 < 18446744073709551616) ∧ Inc.Rise below ∧ CheckW W w ∧ (ls.length = 0 → CC = 0) ∧ (0 < ls.length → CC = Inc.goBad eps below (ls.drop k))

set_option maxRecDepth 100000 in
set_option maxHeartbeats 3200000 in
theorem check_any (eps : Int) (ks : List Int) (hkl : ks.length ≤ 4294967296) (hk : ∀ i, i < ks.length → 0 ≤ ks.getD i 0 ∧ ks.getD i 0 < 18446744073709551616)
    (ls : List (List Inc.Seg)) (hll : ls.length ≤ 4294967296) (hls : ∀ l ∈ ls, l.length ≤ 4294967296 ∧ ∀ s ∈ l, Inc.SegWf s) (v lv : Value) (w : World) (h : KRow w v ks) (hl : LRow w lv ls) :
    Calls Try.prog 40 #[v, .int .i64 eps, lv] w (Told (Inc.checkCode eps ks ls) w) := by
  have hmf : ∀ (fn : Fn) (first cap : Array Value) (w : World), (Instr.makeFunc fn first cap).run Try.prog w = .ok (.func fn first cap) w := fun _ _ _ _ => rfl
  have mt := must_true
  have mf := must_false
  generalize hCC : Inc.checkCode eps ks ls = CC
  have HCC := Lib.hid hCC
  clear hCC
  by_cases d1 : eps < 2
  · have d1' : decide (2 ≤ eps) = false := by simp; omega
    obtain rfl : CC = 1 := by rw [← HCC.out]; unfold Inc.checkCode; rw [if_pos (.inl d1)]
    clear mt d1
    go_enter_defers Try.func40, Try.ntmps40
    go_wp2_with fail
    refine (mf _ _).mono ?_
    rintro e w' ⟨rfl, rfl⟩
    go_wp2_with fail
    exact door_bad w _ _ _ (CheckW.start w) rfl
  · by_cases d2 : 64 < eps
    · have d1' : decide (2 ≤ eps) = true := by simp; omega
      have d2' : decide (eps ≤ 64) = false := by simp; omega
      obtain rfl : CC = 1 := by rw [← HCC.out]; unfold Inc.checkCode; rw [if_pos (.inr d2)]
      clear mt d1 d2
      go_enter_defers Try.func40, Try.ntmps40
      go_wp2_with fail
      refine (mf _ _).mono ?_
      rintro e w' ⟨rfl, rfl⟩
      go_wp2_with fail
      exact door_bad w _ _ _ (CheckW.start w) rfl
    · have d1' : decide (2 ≤ eps) = true := by simp; omega
      have d2' : decide (eps ≤ 64) = true := by simp; omega
      have hris := fun w' (hb : Below w.heap.size w w') => rising_any ks _ w' (by omega) (h.below hb).keys
      by_cases d3 : Inc.riseB ks = false
      · obtain rfl : CC = 80 := by rw [← HCC.out]; unfold Inc.checkCode; rw [if_neg (by omega), if_pos d3]
        rw [d3] at hris
        clear d3
        go_enter_defers Try.func40, Try.ntmps40
        go_wp2_with fail
        refine (mt _ _).mono ?_
        rintro e w' ⟨rfl, rfl⟩
        go_wp2_with fail
        refine (hris _ (CheckW.start w).bel).mono ?_
        rintro e w1 ⟨rfl, hb1⟩
        go_wp2_with fail
        refine (mf _ _).mono ?_
        rintro e w' ⟨rfl, rfl⟩
        go_wp2_with fail
        exact door_bad w _ _ _ ((CheckW.start w).more hb1) rfl
      · have d3' : Inc.riseB ks = true := by simpa using d3
        rw [d3'] at hris
        have hmh := maxHeight_any eps (by omega) (by omega) 4294967296 4294967296
        have hMb := Inc.maxH_bound (eps := eps) (by omega) 4294967296 4294967296 (by omega) (by omega)
        have hcc := HCC.out
        unfold Inc.checkCode at hcc
        rw [if_neg (by omega), if_neg d3] at hcc
        have HC2 := Lib.hid hcc
        obtain ⟨vs, hv1, hv2, hv3⟩ := hl
        have HV1 := Lib.hid hv1
        have HV2 := Lib.hid hv2
        have HV3 := Lib.hid hv3
        have HR := Lib.hid h
        have HD3 := Lib.hid d3'
        obtain ⟨_, A, cap, rfl, _, _, _⟩ := h
        obtain ⟨_, A2, cap2, rfl, _, _, _⟩ := hv2
        clear HCC hcc d3 hv3 hv1 d3'
        generalize Inc.maxH eps 4294967296 = M at *
        by_cases d4 : M < ls.length
        · have d4' : (ls.length ≤ M) = False := by simp; omega
          obtain rfl : CC = 81 := by rw [← HC2.out, if_pos (.inl d4)]
          go_enter_defers Try.func40, Try.ntmps40
          go_wp2_with fail
          refine (mt _ _).mono ?_
          rintro e w' ⟨rfl, rfl⟩
          go_wp2_with fail
          refine (hris _ (CheckW.start w).bel).mono ?_
          rintro e w1 ⟨rfl, hb1⟩
          go_wp2_with fail
          refine (mt _ _).mono ?_
          rintro e w' ⟨rfl, rfl⟩
          go_wp2_with fail
          refine (hmh _ (by omega) (by omega) (by omega)).mono ?_
          rintro e w' ⟨rfl, rfl⟩
          go_wp2_with fail
          refine (mf _ _).mono ?_
          rintro e w' ⟨rfl, rfl⟩
          go_wp2_with fail
          exact door_bad w _ _ _ ((CheckW.start w).more hb1) rfl
        · have d4' : (ls.length ≤ M) = True := by simp; omega
          by_cases d5 : (ls.length = 0 ↔ ks.length = 0)
          · have e5 : (((ls.length : Int) == 0) == ((ks.length : Int) == 0)) = true := by
              rw [beq_iff_eq]
              by_cases x : ls.length = 0
              · have y := d5.1 x
                simp [x, y]
              · have y : ¬ ks.length = 0 := fun y => x (d5.2 y)
                rw [show ((ls.length : Int) == 0) = false by simpa using x, show ((ks.length : Int) == 0) = false by simpa using y]
            have hcc := HC2.out
            rw [if_neg (by omega)] at hcc
            have HC3 := Lib.hid hcc
            have HD5 := Lib.hid d5
            clear hcc HC2 d5
            go_enter_defers Try.func40, Try.ntmps40
            go_wp2_with fail
            refine (mt _ _).mono ?_
            rintro e w' ⟨rfl, rfl⟩
            go_wp2_with fail
            refine (hris _ (CheckW.start w).bel).mono ?_
            rintro e w1 ⟨rfl, hb1⟩
            go_wp2_with fail
            refine (mt _ _).mono ?_
            rintro e w' ⟨rfl, rfl⟩
            go_wp2_with fail
            refine (hmh _ (by omega) (by omega) (by omega)).mono ?_
            rintro e w' ⟨rfl, rfl⟩
            go_wp2_with fail
            with_reducible refine (mt _ _).mono ?_
            rintro e w' ⟨rfl, rfl⟩
            go_wp2_with fail
            have hst : CheckSt eps ks ls w CC (.slice A ks.length cap) 0 w1 := by
              refine ⟨ks, HR.out.below (CheckW.start w |>.more hb1).bel, hkl, hk, Inc.riseB_iff.1 HD3.out, (CheckW.start w).more hb1, ?_, ?_⟩
              · intro h0; rw [← HC3.out, if_pos h0]
              · intro h0; rw [← HC3.out, if_neg (by omega)]; rfl
            have HST := Lib.hid hst
            clear hst hb1 hris hmh
            go_loopw [7, 44] (fun x y wr => ∃ k : Nat, k ≤ ls.length ∧ y = .int .i64 k ∧ Aside (CheckSt eps ks ls w CC x k wr)) (fun _ y _ => ls.length - (intOf y).toNat)
            case atStart => exact ⟨0, by omega, rfl, HST.out⟩
            case round =>
              clear HST
              obtain ⟨k, hkk, rfl, HS⟩ := hrel
              obtain ⟨below, hB0, hB1, hB2, hB3, hB4, hB5, hB6⟩ := HS.out
              have HB0 := Lib.hid hB0
              have HB2 := Lib.hid hB2
              have HB3 := Lib.hid hB3
              have HB4 := Lib.hid hB4
              have HB5 := Lib.hid hB5
              have HB6 := Lib.hid hB6
              obtain ⟨_, A3, cap3, rfl, hcb, hcm, _⟩ := hB0
              clear hB2 hB3 hB5 hB6 HS
              by_cases hlt : k < ls.length
              · obtain ⟨l, hle⟩ : ∃ l, ls[k]? = some l := ⟨_, List.getElem?_eq_getElem hlt⟩
                obtain ⟨hl1, hl2⟩ := hls l (List.mem_of_getElem? hle)
                have hgs := Inc.go_step (eps := eps) (below := below) hle
                have hcc := HB6.out (by omega)
                rw [hgs] at hcc
                have HCC := Lib.hid hcc
                have HLE := Lib.hid hle
                have hw0 := HB4.out.bel
                have hsl := SRow.below' (HV3.out k l hle) hw0
                have hve : ∃ x, vs.getD k undef = x := ⟨_, rfl⟩
                obtain ⟨x, hx⟩ := hve
                rw [hx] at hsl
                obtain ⟨_, A4, cap4, hA4, h41, h42, h43⟩ := Row.below HV2.out hw0
                injection hA4 with hA4 _ hA5
                subst hA4 hA5
                obtain ⟨bb, oo, rfl, hbb, hcell⟩ := h43 (by omega)
                have c0 := hcell k (by have := HV1.out; omega)
                rw [hx] at c0
                have e0n : (k < ls.length) = True := by simp; omega
                have e4 : 0 ≤ (k : Int) ∧ (k : Int) < (ls.length : Int) := by omega
                have e5k : IntKind.i64.wrap ((k : Int) + 1) = ((k + 1 : Nat) : Int) := by rw [IntKind.wrap_i64]; omega
                have hti := tiles_any l hl1 hl2 below.length x wr hsl
                have HSL := Lib.hid hsl
                obtain ⟨_, A6, cap6, rfl, _, _, _⟩ := hsl
                clear hcell h43 hgs hcc hle hx HB5 HB6
                go_wp2_with fail
                refine hti.mono ?_
                rintro ed w2 ⟨m1, m2, hb2⟩
                cases hT : Inc.tileB 0 l below.length with
                | false =>
                  obtain rfl := m2 hT
                  have hcc := HCC.out
                  rw [if_pos hT] at hcc
                  subst hcc
                  clear m1 m2 hT
                  go_wp2_with fail
                  exact door_bad w _ _ _ (HB4.out.more hb2) rfl
                | true =>
                  obtain rfl := m1 hT
                  have hcc := HCC.out
                  rw [if_neg (by simp [hT])] at hcc
                  have HC7 := Lib.hid hcc
                  have HT := Lib.hid hT
                  have HW2 := Lib.hid (HB4.out.more hb2)
                  have HB2' := Lib.hid hb2
                  clear m1 m2 hT hcc hti HCC hB4 hw0
                  go_wp2_with fail
                  obtain ⟨wo, rfl⟩ : ∃ wo : World, wo = wr := ⟨_, rfl⟩
                  go_loopw [54] (fun y wx => ∃ j : Nat, j ≤ l.length ∧ y = .int .i64 j ∧ CheckW w wx ∧ Below w2.heap.size w2 wx ∧ Inc.rowBad eps below l = Inc.rowBad eps below (l.drop j)) (fun y _ => l.length - (intOf y).toNat)
                  case atStart => exact ⟨0, by omega, rfl, HW2.out, Below.refl _ _, rfl⟩
                  case round =>
                    obtain ⟨j, hj, rfl, hW, hbx, hrow⟩ := hrel
                    by_cases hjl : j < l.length
                    · obtain ⟨sg, hsg⟩ : ∃ sg, l[j]? = some sg := ⟨_, List.getElem?_eq_getElem hjl⟩
                      obtain ⟨t1, t2, t3⟩ := Inc.tile_seg l 0 below.length j sg HT.out hsg
                      have hwf := hl2 sg (List.mem_of_getElem? hsg)
                      have hrx : Below wo.heap.size wo wr := HB2'.out.trans (hbx.mono HB2'.out.size)
                      obtain ⟨bs, os, caps, hes, hbs, s0, s1, s2, s3, s4⟩ := SRow.at_ (SRow.below' HSL.out hrx) hsg
                      injection hes with hes _ hes2
                      subst hes hes2
                      have hst := Inc.row_step (eps := eps) (below := below) hsg
                      rw [hst] at hrow
                      have hkr := Row.below HB0.out hrx
                      have HROW := Lib.hid hrow
                      obtain ⟨fi, sl, ic, fr, tt⟩ := sg
                      simp only at t1 t2 t3 s0 s1 s2 s3 s4
                      obtain ⟨a, rfl⟩ := Int.eq_ofNat_of_zero_le t1
                      obtain ⟨b, rfl⟩ := Int.eq_ofNat_of_zero_le (Int.le_trans t1 (Int.le_of_lt t2))
                      have ht2 : a < b := by omega
                      have ht3 : b ≤ below.length := by omega
                      have hck := segcheck_any _ hwf
                      have HX := Lib.hid hW
                      have HKR := Lib.hid hkr
                      have e0j : (j < l.length) = True := by simp; omega
                      have e4j : 0 ≤ (j : Int) ∧ (j : Int) < (l.length : Int) := by omega
                      have e5j : IntKind.i64.wrap ((j : Int) + 1) = ((j + 1 : Nat) : Int) := by rw [IntKind.wrap_i64]; omega
                      unfold segV at hck
                      simp only at hck
                      obtain ⟨C, hC⟩ : ∃ C, Inc.chk ⟨fi, sl, ic, (a : Int), (b : Int)⟩ = C := ⟨_, rfl⟩
                      rw [hC] at hck
                      have HBX := Lib.hid hbx
                      have HC := Lib.hid hC
                      have HWF := Lib.hid hwf
                      clear hst hrow hrx hkr t1 t2 t3 hsg hC hbx hW hwf
                      go_wp2_with fail
                      refine (hck _).mono ?_
                      rintro ed w3 ⟨rfl, hb3⟩
                      have hz3 : wr.heap.size < w3.heap.size := by have := hb3.size; rw [World.size_alloc] at this; omega
                      have k0 : w3.cell? ⟨wr.heap.size, 0, none⟩ = some (.int .u64 fi) := by rw [below_cells hb3 _ _ (by rw [World.size_alloc]; omega), World.cell?_alloc_new]; rfl
                      have k1 : w3.cell? ⟨wr.heap.size, 1, none⟩ = some (.float .f64 sl) := by rw [below_cells hb3 _ _ (by rw [World.size_alloc]; omega), World.cell?_alloc_new]; rfl
                      have k2 : w3.cell? ⟨wr.heap.size, 2, none⟩ = some (.float .f64 ic) := by rw [below_cells hb3 _ _ (by rw [World.size_alloc]; omega), World.cell?_alloc_new]; rfl
                      have k3 : w3.cell? ⟨wr.heap.size, 3, none⟩ = some (.int .i64 (a : Int)) := by rw [below_cells hb3 _ _ (by rw [World.size_alloc]; omega), World.cell?_alloc_new]; rfl
                      have k4 : w3.cell? ⟨wr.heap.size, 4, none⟩ = some (.int .i64 (b : Int)) := by rw [below_cells hb3 _ _ (by rw [World.size_alloc]; omega), World.cell?_alloc_new]; rfl
                      have hx3 : Below wr.heap.size wr w3 := bl_then (bl_alloc (Below.refl _ _) _) hb3
                      have HX3 := Lib.hid hx3
                      have HW3 := Lib.hid (HX.out.more hx3)
                      clear hb3 hck s0 s1 s2 s3 s4
                      by_cases hc0 : C = 0
                      · subst hc0
                        obtain ⟨_, A7, cap7, hA7, h71, h72, h73⟩ := Row.below HKR.out hx3
                        injection hA7 with hA7 _ hA8
                        subst hA7 hA8
                        obtain ⟨b7, o7, rfl, hb7, hcell7⟩ := h73 (by omega)
                        have q7 := hcell7 a (by rw [List.length_map]; omega)
                        have q7v : (below.map (Value.int .u64)).getD a undef = .int .u64 (below.getD a 0) := by
                          simp [List.getD_eq_getElem?_getD, show a < below.length by omega]
                        rw [q7v] at q7
                        have e4a : 0 ≤ (a : Int) ∧ (a : Int) < (below.length : Int) := by omega
                        have e4an : a < below.length := by omega
                        have hsb : Inc.segBad eps below ⟨fi, sl, ic, (a : Int), (b : Int)⟩ = if fi ≠ below.getD a 0 then 83 else if eps < Inc.offTo ⟨fi, sl, ic, (a : Int), (b : Int)⟩ (Inc.stretch below a b) (b - a) then 85 else 0 := by
                          unfold Inc.segBad
                          rw [if_neg (by simp [HC.out])]
                          rfl
                        have HSB := Lib.hid hsb
                        obtain ⟨kb, hkb⟩ : ∃ kb, below.getD a 0 = kb := ⟨_, rfl⟩
                        rw [hkb] at q7 hsb
                        have HKB := Lib.hid hkb
                        have HCELL := Lib.hid hcell7
                        clear hcell7 h73 q7v hsb hkb hx3
                        go_wp2_with fail
                        with_reducible refine (mt _ _).mono ?_
                        rintro e w' ⟨rfl, rfl⟩
                        by_cases h83 : fi = kb
                        · subst h83
                          go_wp2_with fail
                          go_still_tail 8, (by kernel_rfl)
                          change wpList _ _ _ _ _ w3.drew
                          go_wp2_with fail
                          with_reducible refine (mt _ _).mono ?_
                          rintro e w' ⟨rfl, rfl⟩
                          obtain ⟨w4, hw4⟩ : ∃ w4, w3.drew = w4 := ⟨_, rfl⟩
                          have hk4 : ∀ b o, w4.cell? ⟨b, o, none⟩ = w3.cell? ⟨b, o, none⟩ := fun b o => by rw [← hw4]; rfl
                          have hs4 : w4.heap.size = w3.heap.size := by rw [← hw4]; rfl
                          have j0 := (hk4 _ 0).trans k0
                          have j1 := (hk4 _ 1).trans k1
                          have j2 := (hk4 _ 2).trans k2
                          have j3 := (hk4 _ 3).trans k3
                          have j4 := (hk4 _ 4).trans k4
                          have HW4 : Aside (CheckW w w4) := by rw [← hw4]; exact HW3.out.more (Below.drew (Below.refl _ _))
                          have HX4 : Aside (Below wr.heap.size wr w4) := by rw [← hw4]; exact bl_drew HX3.out
                          rw [hw4]
                          have hz4 : wr.heap.size < w4.heap.size := by omega
                          have hu4 : URow w4 (.slice (some ⟨b7, o7 + a, none⟩) (b - a) (cap3 - a)) (Inc.stretch below a b) := by
                            have hln := Inc.stretch_len (Nat.le_of_lt ht2) ht3
                            refine ⟨_, _, by rw [hln], fun _ => ⟨b7, o7 + a, rfl, by omega, fun i hi => ?_⟩⟩
                            rw [hln] at hi
                            rw [Nat.add_assoc, hk4, HCELL.out (a + i) (by rw [List.length_map]; omega)]
                            have e1 : (Inc.stretch below a b).getD i 0 = below.getD (a + i) 0 := by
                              unfold Inc.stretch
                              exact (Inc.K_take (ks := below.drop a) (k := b - a) (i := i) (by omega)).trans (Inc.K_drop below a i)
                            rw [e1]
                            simp [List.getD_eq_getElem?_getD, show a + i < below.length by omega]
                          have hlen4 := Inc.stretch_len (Nat.le_of_lt ht2) ht3
                          have hoff := fun w' (hb : Below w4.heap.size w4 w') => off_any ⟨fi, sl, ic, (a : Int), (b : Int)⟩ HWF.out HC.out (Inc.stretch below a b) (by rw [hlen4]; show ((b - a : Nat) : Int) = (b : Int) - (a : Int); omega)
                            (by
                              show _ = fi
                              rw [← HKB.out]
                              unfold Inc.stretch
                              exact (Inc.K_take (ks := below.drop a) (k := b - a) (i := 0) (by omega)).trans (Inc.K_drop below a 0))
                            (Inc.riseB_iff.2 (HB3.out.stretch a b))
                            (by
                              intro i hi
                              rw [hlen4] at hi
                              have e1 : (Inc.stretch below a b).getD i 0 = below.getD (a + i) 0 := by
                                unfold Inc.stretch
                                exact (Inc.K_take (ks := below.drop a) (k := b - a) (i := i) (by omega)).trans (Inc.K_drop below a i)
                              rw [e1]
                              exact HB2.out _ (by omega)) _ w' (hu4.below hb)
                          rw [hlen4] at hoff
                          unfold segV at hoff
                          simp only at hoff
                          have hsb2 := HSB.out
                          rw [if_neg (by simp only [ne_eq, Decidable.not_not]; rw [HKB.out])] at hsb2
                          obtain ⟨of, hof⟩ : ∃ of, Inc.offTo ⟨fi, sl, ic, (a : Int), (b : Int)⟩ (Inc.stretch below a b) (b - a) = of := ⟨_, rfl⟩
                          rw [hof] at hoff hsb2
                          have HSB2 := Lib.hid hsb2
                          have e6a : (a : Int) ≤ (b : Int) := by omega
                          have e6n : a ≤ b := by omega
                          have e7a : (b : Int) ≤ (cap3 : Int) := by omega
                          have e7n : b ≤ cap3 := by omega
                          have e8n : a ≤ cap3 := by omega
                          have e9n : (cap3 = a) = False := by simp; omega
                          clear hw4 hk4 hu4 hsb2 hof k0 k1 k2 k3 k4 q7
                          go_wp2_with fail
                          refine wp_region_below (by kernel_rfl) (by kernel_rfl) ?_
                          with_reducible refine q_want ?_ (fun K hK => ?_)
                          · kernel_rfl
                          apply Exists.intro
                          constructor
                          · (intro w1 hw1; have hc := hw1.cells; go_simp <;> rfl)
                          go_simp; refine hK _ ?_; clear hK K
                          with_reducible refine q_want ?_ (fun K hK => ?_)
                          · kernel_rfl
                          apply Exists.intro
                          constructor
                          · (intro w1 hw1; have hc := hw1.cells; go_simp <;> rfl)
                          go_simp; refine hK _ ?_; clear hK K
                          with_reducible refine q_want ?_ (fun K hK => ?_)
                          · kernel_rfl
                          apply Exists.intro
                          constructor
                          · (intro w1 hw1; have hc := hw1.cells; go_simp <;> rfl)
                          go_simp; refine hK _ ?_; clear hK K
                          with_reducible refine q_want ?_ (fun K hK => ?_)
                          · kernel_rfl
                          apply Exists.intro
                          constructor
                          · (intro w1 hw1; have hc := hw1.cells; go_simp <;> rfl)
                          go_simp; refine hK _ ?_; clear hK K
                          with_reducible refine q_want ?_ (fun K hK => ?_)
                          · kernel_rfl
                          apply Exists.intro
                          constructor
                          · (intro w1 hw1; have hc := hw1.cells; go_simp <;> rfl)
                          go_simp; refine hK _ ?_; clear hK K
                          with_reducible refine q_want ?_ (fun K hK => ?_)
                          · kernel_rfl
                          apply Exists.intro
                          constructor
                          · (intro w1 hw1; have hc := hw1.cells; go_simp <;> rfl)
                          go_simp; refine hK _ ?_; clear hK K
                          with_reducible refine q_want ?_ (fun K hK => ?_)
                          · kernel_rfl
                          apply Exists.intro
                          constructor
                          · (intro w1 hw1; have hc := hw1.cells; go_simp <;> rfl)
                          go_simp; refine hK _ ?_; clear hK K
                          with_reducible refine q_want ?_ (fun K hK => ?_)
                          · kernel_rfl
                          apply Exists.intro
                          constructor
                          · intro w1 hw1
                            have hc := hw1.cells
                            go_simp
                            first
                              | (go_at_call 54; exact quiet_call hw1 (hoff _ hw1))
                          go_simp; refine hK _ ?_; clear hK K
                          with_reducible refine q_want ?_ (fun K hK => ?_)
                          · kernel_rfl
                          apply Exists.intro
                          constructor
                          · (intro w1 hw1; have hc := hw1.cells; go_simp <;> rfl)
                          go_simp; refine hK _ ?_; clear hK K
                          with_reducible refine q_want ?_ (fun K hK => ?_)
                          · kernel_rfl
                          apply Exists.intro
                          constructor
                          · (intro w1 hw1; have hc := hw1.cells; go_simp <;> rfl)
                          go_simp; refine hK _ ?_; clear hK K
                          with_reducible refine q_want ?_ (fun K hK => ?_)
                          · kernel_rfl
                          apply Exists.intro
                          constructor
                          · (intro w1 hw1; have hc := hw1.cells; go_simp <;> rfl)
                          go_simp; refine hK _ ?_; clear hK K
                          with_reducible refine q_want ?_ (fun K hK => ?_)
                          · kernel_rfl
                          apply Exists.intro
                          constructor
                          · (intro w1 hw1; have hc := hw1.cells; go_simp <;> rfl)
                          go_simp; refine hK _ ?_; clear hK K
                          with_reducible refine q_want ?_ (fun K hK => ?_)
                          · kernel_rfl
                          apply Exists.intro
                          constructor
                          · (intro w1 hw1; have hc := hw1.cells; go_simp <;> rfl)
                          go_simp; refine hK _ ?_; clear hK K
                          refine wpQuiet_nil ?_
                          intro w9 hw9
                          have HW9 := Lib.hid (HW4.out.more hw9.below)
                          have HX9 := Lib.hid (HX4.out.trans (hw9.below.mono HX4.out.size))
                          clear hoff j0 j1 j2 j3 j4 hw9
                          by_cases h85 : of ≤ eps
                          · have e85 : decide (of ≤ eps) = true := by simpa using h85
                            have hseg : Inc.segBad eps below ⟨fi, sl, ic, (a : Int), (b : Int)⟩ = 0 := by rw [HSB2.out, if_neg (by omega)]
                            have hrow2 : Inc.rowBad eps below l = Inc.rowBad eps below (l.drop (j + 1)) := by
                              have h1 := HROW.out
                              rw [if_neg (by simp [hseg])] at h1
                              exact h1
                            have HROW2 := Lib.hid hrow2
                            clear hrow2 hseg h85 mf
                            go_wp2_with fail
                            with_reducible refine (mt _ _).mono ?_
                            rintro e w' ⟨rfl, rfl⟩
                            go_wp2_with fail
                            exact ⟨⟨j + 1, by omega, by go_num, HW9.out, HBX.out.trans (HX9.out.mono HBX.out.size), HROW2.out⟩, by simp [intOf]; omega⟩
                          · have e85 : decide (of ≤ eps) = false := by simpa using h85
                            have hseg : Inc.segBad eps below ⟨fi, sl, ic, (a : Int), (b : Int)⟩ = 85 := by rw [HSB2.out, if_pos (by omega)]
                            have hCC : CC = 85 := by
                              have h1 := HROW.out
                              rw [hseg, if_pos (by omega)] at h1
                              have h2 := HC7.out
                              rw [h1, if_pos (by omega)] at h2
                              exact h2
                            subst hCC
                            clear hseg h85 mt
                            go_wp2_with fail
                            with_reducible refine (mf _ _).mono ?_
                            rintro e w' ⟨rfl, rfl⟩
                            go_wp2_with fail
                            exact door_bad w _ _ _ HW9.out rfl
                        · have e83 : decide (fi = kb) = false := by simpa using h83
                          have e83b : (fi == kb) = false := by simpa using h83
                          have hseg : Inc.segBad eps below ⟨fi, sl, ic, (a : Int), (b : Int)⟩ = 83 := by rw [HSB.out, if_pos (by rw [HKB.out]; exact h83)]
                          have hCC : CC = 83 := by
                            have h1 := HROW.out
                            rw [hseg, if_pos (by omega)] at h1
                            have h2 := HC7.out
                            rw [h1, if_pos (by omega)] at h2
                            exact h2
                          subst hCC
                          clear hseg h83 mt
                          go_wp2_with fail
                          go_still_tail 8, (by kernel_rfl)
                          change wpList _ _ _ _ _ w3.drew
                          go_wp2_with fail
                          with_reducible refine (mf _ _).mono ?_
                          rintro e w' ⟨rfl, rfl⟩
                          go_wp2_with fail
                          exact door_bad w _ _ _ (HW3.out.more (Below.drew (Below.refl _ _))) rfl
                      · have hseg : Inc.segBad eps below ⟨fi, sl, ic, (a : Int), (b : Int)⟩ = C := by unfold Inc.segBad; rw [HC.out, if_pos hc0]
                        have hCC : CC = C := by
                          have h1 := HROW.out
                          rw [hseg, if_pos hc0] at h1
                          have h2 := HC7.out
                          rw [h1, if_pos hc0] at h2
                          exact h2
                        subst hCC
                        have e6 : decide (CC = 0) = false := by simpa using hc0
                        have e6b : (CC == 0) = false := by simpa using hc0
                        clear hseg hc0 mt hx3
                        go_wp2_with fail
                        with_reducible refine (mf _ _).mono ?_
                        rintro e w' ⟨rfl, rfl⟩
                        go_wp2_with fail
                        exact door_bad w _ _ _ HW3.out rfl
                    · obtain rfl : j = l.length := by omega
                      have e0j : (l.length < l.length) = False := by simp
                      rw [List.drop_length] at hrow
                      have hrow0 : Inc.rowBad eps below l = 0 := hrow
                      have hcc := HC7.out
                      rw [if_neg (by simp [hrow0])] at hcc
                      have hrx : Below wo.heap.size wo wr := HB2'.out.trans (hbx.mono HB2'.out.size)
                      have hfi := firsts_any l hl1 _ wr (SRow.below' HSL.out hrx)
                      have hri := Inc.firsts_rise HT.out hrow0 HB3.out
                      have HRI := Lib.hid hri
                      have HC8 := Lib.hid hcc
                      have HX := Lib.hid hW
                      clear hrow hrow0 hcc hrx hri hW hbx
                      go_wp2_with fail
                      refine hfi.mono ?_
                      rintro ed w5 ⟨kv, rfl, hkv, hb5⟩
                      have HKV := Lib.hid hkv
                      have HB5 := Lib.hid hb5
                      clear hkv hb5 hfi
                      go_wp2_with fail
                      refine ⟨⟨k + 1, by omega, by go_num, ?_⟩, by simp [intOf]; omega⟩
                      refine ⟨l.map (fun x : Inc.Seg => x.first), HKV.out, by rw [List.length_map]; exact hl1, ?_, HRI.out, HX.out.more HB5.out, (fun h0 => absurd h0 (by omega)), (fun _ => by rw [← HC8.out])⟩
                      intro i hi
                      rw [List.length_map] at hi
                      have hm := hl2 l[i] (List.getElem_mem hi)
                      have e1 : (l.map (·.first)).getD i 0 = l[i].first := by simp [List.getD_eq_getElem?_getD, hi]
                      rw [e1]
                      exact ⟨hm.f0, hm.f1⟩
              · obtain rfl : k = ls.length := by omega
                have e0n : (ls.length < ls.length) = False := by simp
                by_cases z : ls.length = 0
                · have z' : ((ls.length : Int) == 0) = true := by simp [z]
                  obtain rfl : CC = 0 := HB5.out z
                  have g1 := hB4.cell
                  have g2 := hB4.free
                  have Z := Lib.hid z
                  clear hB4 z mf
                  go_wp2_with fail
                  with_reducible refine (mt _ _).mono ?_
                  rintro e w' ⟨rfl, rfl⟩
                  go_wp2_with fail
                  exact door_ok w _ _ HB4.out rfl
                · have z' : ((ls.length : Int) == 0) = false := by simpa using z
                  have hc := HB6.out (by omega)
                  rw [List.drop_length] at hc
                  have hc2 : CC = if below.length = 1 then 0 else 84 := hc
                  have g1 := hB4.cell
                  have g2 := hB4.free
                  have Z := Lib.hid z
                  clear hB4 z hc
                  by_cases y : below.length = 1
                  · have y' : ((below.length : Int) == 1) = true := by simp; omega
                    obtain rfl : CC = 0 := by rw [hc2, if_pos y]
                    clear hc2 y mf
                    go_wp2_with fail
                    with_reducible refine (mt _ _).mono ?_
                    rintro e w' ⟨rfl, rfl⟩
                    go_wp2_with fail
                    exact door_ok w _ _ HB4.out rfl
                  · have y' : ((below.length : Int) == 1) = false := by simp; omega
                    obtain rfl : CC = 84 := by rw [hc2, if_neg y]
                    clear hc2 y mt
                    go_wp2_with fail
                    with_reducible refine (mf _ _).mono ?_
                    rintro e w' ⟨rfl, rfl⟩
                    go_wp2_with fail
                    exact door_bad w _ _ _ HB4.out rfl
          · have e5 : (((ls.length : Int) == 0) == ((ks.length : Int) == 0)) = false := by
              rw [beq_eq_false_iff_ne]
              intro hh
              apply d5
              by_cases x : ls.length = 0
              · rw [show ((ls.length : Int) == 0) = true by simp [x]] at hh
                have := eq_of_beq hh.symm
                constructor
                · intro _; omega
                · intro _; exact x
              · rw [show ((ls.length : Int) == 0) = false by simpa using x] at hh
                have := ne_of_beq_false hh.symm
                constructor
                · intro h'; exact absurd h' x
                · intro h'; omega
            obtain rfl : CC = 81 := by rw [← HC2.out, if_pos (.inr d5)]
            go_enter_defers Try.func40, Try.ntmps40
            go_wp2_with fail
            refine (mt _ _).mono ?_
            rintro e w' ⟨rfl, rfl⟩
            go_wp2_with fail
            refine (hris _ (CheckW.start w).bel).mono ?_
            rintro e w1 ⟨rfl, hb1⟩
            go_wp2_with fail
            refine (mt _ _).mono ?_
            rintro e w' ⟨rfl, rfl⟩
            go_wp2_with fail
            refine (hmh _ (by omega) (by omega) (by omega)).mono ?_
            rintro e w' ⟨rfl, rfl⟩
            go_wp2_with fail
            with_reducible refine (mf _ _).mono ?_
            rintro e w' ⟨rfl, rfl⟩
            go_wp2_with fail
            exact door_bad w _ _ _ ((CheckW.start w).more hb1) rfl
end Go.Proofs.Ytdfkgkidaffcgaa
