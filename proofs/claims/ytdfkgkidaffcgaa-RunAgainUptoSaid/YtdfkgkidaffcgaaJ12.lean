/- Walks: a chain with one point more. Walks: the search by halves, with the question that a tangent asks. Walks: the tangent. Walks: a chain that was empty; a new fit. -/
import Derived.Deep.AppendLies
import Derived.WalkSmall
import Derived.LoopTactic
import Derived.Test.YtdfkgkidaffcgaaJ11
set_option linter.all false
namespace Go.Proofs.Ytdfkgkidaffcgaa
open Go.RowKit

def pts (l : List Inc.Pt) : List Value := l.flatMap fun p => [.int .u64 p.x, .int .i64 p.y]
theorem pts_length (l : List Inc.Pt) : (pts l).length = l.length * 2 := by
  induction l with
  | nil => rfl
  | cons p t ih => simp [pts] at ih ⊢; omega
theorem pts_cons (p : Inc.Pt) (t : List Inc.Pt) : pts (p :: t) = .int .u64 p.x :: .int .i64 p.y :: pts t := rfl
theorem pts_append (l t : List Inc.Pt) : pts (l ++ t) = pts l ++ pts t := by simp [pts]
theorem pts_get (l : List Inc.Pt) : ∀ i, i < l.length → (pts l)[2 * i]? = some (.int .u64 (l.getD i default).x) ∧ (pts l)[2 * i + 1]? = some (.int .i64 (l.getD i default).y) := by
  induction l with
  | nil => intro i h; simp at h
  | cons p t ih =>
    intro i h
    rw [pts_cons]
    cases i with
    | zero => exact ⟨rfl, rfl⟩
    | succ i =>
      have := ih i (by simpa using h)
      rw [show 2 * (i + 1) = 2 * i + 2 from by omega]
      simpa using this
theorem pts_take (l : List Inc.Pt) (k : Nat) : (pts l).take (k * 2) = pts (l.take k) := by
  induction l generalizing k with
  | nil => simp [pts]
  | cons p t ih =>
    cases k with
    | zero => simp [pts]
    | succ k => rw [pts_cons, List.take_succ_cons, pts_cons, ← ih k, show (k + 1) * 2 = k * 2 + 1 + 1 from by omega, List.take_succ_cons, List.take_succ_cons]

/-- a chain's points: keys rise, all ahead of p -/
def ChB (c : List Inc.Pt) (p : Inc.Pt) : Prop := (∀ d ∈ c, PtB d) ∧ (∀ i j : Nat, i ≤ j → j < c.length → (c.getD i default).x ≤ (c.getD j default).x) ∧ (∀ d ∈ c, d.x ≤ p.x)

theorem info_pt : (Try.prog.info? 122).map (fun i => (i.zero, i.size, i.bytes)) = some (some (.agg #[.int .u64 0, .int .i64 0]), 2, 16) := by kernel_rfl

/-- a row that is shortened -/
theorem owns_short {w : World} {base e size n m g cap : Nat} {xs : List Value} (h : w.ownsRow base e size (.slice (some ⟨g, 0, none⟩) n cap) n xs) (hm : m ≤ n) :
    w.ownsRow base e size (.slice (some ⟨g, 0, none⟩) m cap) m (xs.take (m * size)) := by
  obtain ⟨hl, h2⟩ := h
  have hle : m * size ≤ n * size := Nat.mul_le_mul_right _ hm
  rcases h2 with ⟨h0, _⟩ | ⟨g', cap', cur, hv, hg, hh, hn, hcap, hsz, htake⟩
  · cases h0
  · cases hv
    refine ⟨by rw [List.length_take]; omega, .inr ⟨g, cap, cur, rfl, hg, hh, by omega, hcap, hsz, ?_⟩⟩
    rw [← htake, List.take_take, Nat.min_eq_left hle]

theorem owns_below {w w1 : World} {base e size n : Nat} {v : Value} {xs : List Value} (h : w.ownsRow base e size v n xs) (hb : Below w.heap.size w w1) : w1.ownsRow base e size v n xs :=
  h.kept (row := none) ⟨hb.os, hb.tape, hb.output, hb.size, fun k hk _ => hb.block k hk⟩ (by cases v.ownBlock <;> simp)

/-- what 'laid' comes to -/
def LaidPost (base : Nat) (v : Value) (xs : List Inc.Pt) (w : World) (e : Ending) (w' : World) : Prop :=
  ∃ g cap, e = .returned (.slice (some ⟨g, 0, none⟩) xs.length cap) ∧ w'.ownsRow base 122 2 (.slice (some ⟨g, 0, none⟩) xs.length cap) xs.length (pts xs) ∧ w.grownBy w' v.ownBlock ∧ (v.ownBlock = some g ∨ w.heap.size ≤ g)

theorem grown_trans_below {w w1 w2 : World} {row : Option Nat} (h : Below w.heap.size w w1) (k : w1.grownBy w2 row) : w.grownBy w2 row :=
  ⟨k.os.trans h.os, k.tape.trans h.tape, k.output.trans h.output, Nat.le_trans h.size k.size, fun i hi hr => (k.block i (Nat.lt_of_lt_of_le hi h.size) hr).trans (h.block i hi)⟩

theorem keep_small (s : Int) (c : List Inc.Pt) (p : Inc.Pt) {m : Nat} (h : m < 2) : Inc.keep s c p m = m := by
  match m, h with
  | 0, _ => rfl
  | 1, _ => rfl

theorem two_new (w : World) (x y : Value) (T : TypeId) : ∀ j u, [x, y][j]? = some u → (w.alloc (.cells #[x, y] T)).cell? ((⟨w.heap.size, 0, none⟩ : Addr).add j) = some u := by
  intro j u hu
  have hadd : (⟨w.heap.size, 0, none⟩ : Addr).add j = ⟨w.heap.size, j, none⟩ := by unfold Addr.add; split <;> simp_all
  rw [hadd, cell_of_row _ w.heap.size j #[x, y] T (0, 0) (heap_alloc_new w _)]
  simpa using hu

theorem laid_end {base g cap m g' cap' : Nat} {c : List Inc.Pt} {px py s : Int} {w w1 w2 : World} {e : Ending} (hlt : g < w.heap.size) (hm : m ≤ c.length) (hk : Inc.keep s c ⟨px, py⟩ c.length = m)
    (he : e = .returned (.slice (some ⟨g', 0, none⟩) (m + 1) cap'))
    (hown : w2.ownsRow base 122 2 (.slice (some ⟨g', 0, none⟩) (m + 1) cap') (m + 1) (pts (c.take m) ++ [.int .u64 px, .int .i64 py]))
    (hg : w1.grownBy w2 (Value.slice (some ⟨g, 0, none⟩) m cap).ownBlock) (hw : (Value.slice (some ⟨g, 0, none⟩) m cap).ownBlock = some g' ∨ g' = w1.heap.size) (hb : Below w.heap.size w w1) :
    LaidPost base (.slice (some ⟨g, 0, none⟩) c.length cap) (Inc.laid s c ⟨px, py⟩) w e w2 := by
  have hl : (Inc.laid s c ⟨px, py⟩).length = m + 1 := by unfold Inc.laid; rw [hk]; simp; omega
  refine ⟨g', cap', by rw [he, hl], ?_, grown_trans_below hb hg, hw.imp id (fun h => by have := hb.size; omega)⟩
  rw [hl]
  unfold Inc.laid
  rw [hk, pts_append]
  exact hown

set_option maxHeartbeats 1600000 in
theorem laid_some (c : List Inc.Pt) (p : Inc.Pt) (side : Int) (hc : ChB c p) (hp : PtB p) (hs : side = 0 ∨ side = 1) (hlen : c.length ≤ 1099511627776)
    (base g cap : Nat) (w : World) (hbase : base ≤ w.heap.size) (hown : w.ownsRow base 122 2 (.slice (some ⟨g, 0, none⟩) c.length cap) c.length (pts c)) :
    Calls Try.prog 66 #[.slice (some ⟨g, 0, none⟩) c.length cap, ptV p, .int .i64 side] w (LaidPost base (.slice (some ⟨g, 0, none⟩) c.length cap) (Inc.laid (bendV side) c p) w) := by
  obtain ⟨hcap, hcap'⟩ : c.length ≤ cap ∧ cap ≤ 9223372036854775807 := by
    rcases hown.2 with ⟨h0, _⟩ | ⟨g', cap', cur, hv, _, _, hn, hc', _⟩
    · cases h0
    · cases hv; exact ⟨hn, by unfold maxLen at hc'; omega⟩
  obtain ⟨i0, hi, hq0, hq1, hq2⟩ := info_parts info_pt
  have hlt : g < w.heap.size := (hown.lt g rfl).2
  have hcells : ∀ i, i < c.length → w.cell? ⟨g, 2 * i, none⟩ = some (.int .u64 (c.getD i default).x) ∧ w.cell? ⟨g, 2 * i + 1, none⟩ = some (.int .i64 (c.getD i default).y) := by
    intro i hi
    have h1 := hown.cellAt (2 * i) (by omega)
    have h2 := hown.cellAt (2 * i + 1) (by omega)
    obtain ⟨p1, p2⟩ := pts_get c i hi
    exact ⟨h1.trans p1, h2.trans p2⟩
  have HC := Lib.hid hcells
  have HO := Lib.hid hown
  clear hcells hown
  obtain ⟨px, py⟩ := p
  unfold ptV
  go_enter Try.func66, Try.ntmps66
  go_wp2_with fail
  go_loopw [0] (fun v wr => ∃ m : Nat, m ≤ c.length ∧ Inc.keep (bendV side) c ⟨px, py⟩ c.length = Inc.keep (bendV side) c ⟨px, py⟩ m ∧ v = .slice (some ⟨g, 0, none⟩) m cap ∧ Cls (w.alloc (.cells #[.int .u64 px, .int .i64 py] 122)) wr) (fun v _ => match v with | .slice _ n _ => n | _ => 0)
  case atStart => exact ⟨c.length, Nat.le_refl _, rfl, rfl, Cls.refl _⟩
  case round =>
    obtain ⟨m, hm, hk, rfl, hw⟩ := hrel
    have hcW := hw.cells
    have hfW := hw.frozen
    rcases Nat.lt_or_ge m 2 with hm2 | hm2
    · have hz1 : g < wr.heap.size := by have := hw.below.size; simp at this; omega
      have hz2 : w.heap.size < wr.heap.size := by have := hw.below.size; simp at this; omega
      have hownm := Lib.hid (owns_below (by have := owns_short HO.out hm; rwa [pts_take] at this) (bl_cls (bl_alloc (Below.refl _ _) _) hw))
      have hg : decide (1 < (m : Int)) = false := by simp; omega
      go_wp2_with fail
      refine wp_region_below (by kernel_rfl) (by kernel_rfl) ?_
      with_reducible refine q_want ?_ (fun K hK => ?_)
      · kernel_rfl
      apply Exists.intro
      constructor
      · (intro w1 hw1; have hc := hw1.cells; go_simp <;> rfl)
      go_simp; refine hK _ ?_; clear hK K
      with_reducible refine q_want ?_ (fun K hK => ?_)
      · kernel_rfl
      apply Exists.intro
      constructor
      · (intro w1 hw1; have hc := hw1.cells; go_simp <;> rfl)
      go_simp; refine hK _ ?_; clear hK K
      with_reducible refine q_want ?_ (fun K hK => ?_)
      · kernel_rfl
      apply Exists.intro
      constructor
      · (intro w1 hw1; have hc := hw1.cells; go_simp <;> rfl)
      go_simp; refine hK _ ?_; clear hK K
      with_reducible refine q_want ?_ (fun K hK => ?_)
      · kernel_rfl
      apply Exists.intro
      constructor
      · (intro w1 hw1; have hc := hw1.cells; go_simp <;> rfl)
      go_simp; refine hK _ ?_; clear hK K
      with_reducible refine q_skip ?_ (fun K hK => ?_)
      · kernel_rfl
      go_simp; refine hK _ ?_; clear hK K
      with_reducible refine q_skip ?_ (fun K hK => ?_)
      · kernel_rfl
      go_simp; refine hK _ ?_; clear hK K
      with_reducible refine q_skip ?_ (fun K hK => ?_)
      · kernel_rfl
      go_simp; refine hK _ ?_; clear hK K
      with_reducible refine q_skip ?_ (fun K hK => ?_)
      · kernel_rfl
      go_simp; refine hK _ ?_; clear hK K
      with_reducible refine q_skip ?_ (fun K hK => ?_)
      · kernel_rfl
      go_simp; refine hK _ ?_; clear hK K
      with_reducible refine q_skip ?_ (fun K hK => ?_)
      · kernel_rfl
      go_simp; refine hK _ ?_; clear hK K
      with_reducible refine q_skip ?_ (fun K hK => ?_)
      · kernel_rfl
      go_simp; refine hK _ ?_; clear hK K
      with_reducible refine q_skip ?_ (fun K hK => ?_)
      · kernel_rfl
      go_simp; refine hK _ ?_; clear hK K
      with_reducible refine q_skip ?_ (fun K hK => ?_)
      · kernel_rfl
      go_simp; refine hK _ ?_; clear hK K
      with_reducible refine q_skip ?_ (fun K hK => ?_)
      · kernel_rfl
      go_simp; refine hK _ ?_; clear hK K
      with_reducible refine q_skip ?_ (fun K hK => ?_)
      · kernel_rfl
      go_simp; refine hK _ ?_; clear hK K
      with_reducible refine q_skip ?_ (fun K hK => ?_)
      · kernel_rfl
      go_simp; refine hK _ ?_; clear hK K
      with_reducible refine q_skip ?_ (fun K hK => ?_)
      · kernel_rfl
      go_simp; refine hK _ ?_; clear hK K
      with_reducible refine q_skip ?_ (fun K hK => ?_)
      · kernel_rfl
      go_simp; refine hK _ ?_; clear hK K
      with_reducible refine q_skip ?_ (fun K hK => ?_)
      · kernel_rfl
      go_simp; refine hK _ ?_; clear hK K
      with_reducible refine q_skip ?_ (fun K hK => ?_)
      · kernel_rfl
      go_simp; refine hK _ ?_; clear hK K
      with_reducible refine q_skip ?_ (fun K hK => ?_)
      · kernel_rfl
      go_simp; refine hK _ ?_; clear hK K
      with_reducible refine q_skip ?_ (fun K hK => ?_)
      · kernel_rfl
      go_simp; refine hK _ ?_; clear hK K
      with_reducible refine q_want ?_ (fun K hK => ?_)
      · kernel_rfl
      apply Exists.intro
      constructor
      · (intro w1 hw1; have hc := hw1.cells; go_simp <;> rfl)
      go_simp; refine hK _ ?_; clear hK K
      refine wpQuiet_nil ?_
      intro w1 hw1
      have hc1 := hw1.cells
      have hownm := Lib.hid (owns_below hownm.out hw1.below)
      have hcl : m ≤ c.length := hm
      have hz3 : base ≤ w1.heap.size := by have h1 := hw1.below.size; have h2 := hw.below.size; simp at h2; omega
      have HKK := Lib.hid (show Inc.keep (bendV side) c ⟨px, py⟩ c.length = m by rw [hk]; exact keep_small _ _ _ hm2)
      clear hk
      go_wp2_with (at_builtin; go_must (refine wpList_append_lies _ rfl _ _ 117 rfl base 122 i0 (.agg #[.int .u64 0, .int .i64 0]) 2 16 Try.underlying117 hi hq0 hq1 hq2 rfl (by decide) _ m (pts (c.take m)) rfl (hownm.out.alloc _) ⟨w1.heap.size, 0, none⟩ 1 1 [.int .u64 px, .int .i64 py] rfl rfl (two_new _ _ _ _) (by simp [Value.oneCell']) (by decide) (by unfold maxLen; omega) (by omega) (by simp; omega) _ rfl ?_))
      intro g' cap' w2 hown2 hgrow hwhere hlt2
      have HO2 := Lib.hid hown2
      have HG2 := Lib.hid hgrow
      have HW2 := Lib.hid hwhere
      clear hown2 hgrow hwhere hlt2
      go_wp2_with fail
      go_ret
      exact laid_end hlt hcl HKK.out rfl HO2.out HG2.out (HW2.out.imp id (fun h => by simpa using h)) (by (repeat (first | exact Below.refl _ _ | refine bl_alloc ?_ _ | refine bl_drew ?_ | (refine bl_set ?_ (by simp <;> omega) _) | refine bl_then ?_ (by assumption) | refine bl_cls ?_ (by assumption))))
    · obtain ⟨k, rfl⟩ : ∃ k, m = k + 2 := ⟨m - 2, by omega⟩
      have hg : decide (1 < (k : Int) + 2) = true := by simp; omega
      have hz1 : g < wr.heap.size := by have := hw.below.size; simp at this; omega
      have hz2 : w.heap.size < wr.heap.size := by have := hw.below.size; simp at this; omega
      have e1 : IntKind.i64.wrap (k : Int) = k := wrap_i64_id (by omega) (by omega)
      have e2 : IntKind.i64.wrap ((k : Int) + 2 - 1) = (k : Int) + 1 := by rw [wrap_i64_id (by omega) (by omega)]; omega
      have e7 : ¬ (cap : Int) < (k : Int) + 1 := by omega
      have e8 : ¬ cap = 0 := by omega
      have e3 : 0 ≤ (k : Int) ∧ (k : Int) < (k : Int) + 2 := by omega
      have e4 : 0 ≤ (k : Int) + 1 ∧ (k : Int) + 1 < (k : Int) + 2 := by omega
      have e5 : ((k : Int) + 1).toNat = k + 1 := by omega
      obtain ⟨c1, c2⟩ := HC.out k (by omega)
      obtain ⟨c3, c4⟩ := HC.out (k + 1) (by omega)
      rw [show 2 * k = k * 2 from by omega] at c1 c2
      rw [show 2 * (k + 1) = (k + 1) * 2 from by omega] at c3 c4
      have hda : PtB (c.getD k default) := hc.1 _ (by rw [Inc.getD_get _ _ (by omega)]; exact List.getElem_mem _)
      have hdb : PtB (c.getD (k + 1) default) := hc.1 _ (by rw [Inc.getD_get _ _ (by omega)]; exact List.getElem_mem _)
      have hxa : (c.getD k default).x ≤ px := hc.2.2 _ (by rw [Inc.getD_get _ _ (by omega)]; exact List.getElem_mem _)
      have hab : (c.getD k default).x ≤ (c.getD (k + 1) default).x := hc.2.1 k (k + 1) (by omega) (by omega)
      have hkeep : Inc.keep (bendV side) c ⟨px, py⟩ (k + 2) = if 0 ≤ Inc.turnS (c.getD k default) (c.getD (k + 1) default) ⟨px, py⟩ * bendV side then Inc.keep (bendV side) c ⟨px, py⟩ (k + 1) else k + 2 := by rw [Inc.keep]
      have HK := Lib.hid hk
      clear hk
      generalize hA : c.getD k default = A at *
      generalize hB : c.getD (k + 1) default = B at *
      have e6 : IntKind.i64.wrap (Inc.turnS A B ⟨px, py⟩ * bendV side) = Inc.turnS A B ⟨px, py⟩ * bendV side := by
        have h1 : -1 ≤ Inc.turnS A B ⟨px, py⟩ ∧ Inc.turnS A B ⟨px, py⟩ ≤ 1 := by unfold Inc.turnS Inc.icmp; split <;> (try split) <;> omega
        have h2 : bendV side = -1 ∨ bendV side = 1 := by unfold bendV; split <;> simp
        rcases h2 with h2 | h2 <;> (rw [h2]; exact wrap_i64_id (by omega) (by omega))
      have HA := Lib.hid hA
      have HB := Lib.hid hB
      clear hA hB
      have HKEEP := Lib.hid hkeep
      clear hkeep
      by_cases hT : 0 ≤ Inc.turnS A B ⟨px, py⟩ * bendV side
      · have hT' : decide (0 ≤ Inc.turnS A B ⟨px, py⟩ * bendV side) = true := by simpa using hT
        go_wp2_with fail
        refine wp_region_below (by kernel_rfl) (by kernel_rfl) ?_
        with_reducible refine q_want ?_ (fun K hK => ?_)
        · kernel_rfl
        apply Exists.intro
        constructor
        · (intro w1 hw1; have hc := hw1.cells; go_simp <;> rfl)
        go_simp; refine hK _ ?_; clear hK K
        with_reducible refine q_want ?_ (fun K hK => ?_)
        · kernel_rfl
        apply Exists.intro
        constructor
        · (intro w1 hw1; have hc := hw1.cells; go_simp <;> rfl)
        go_simp; refine hK _ ?_; clear hK K
        with_reducible refine q_want ?_ (fun K hK => ?_)
        · kernel_rfl
        apply Exists.intro
        constructor
        · (intro w1 hw1; have hc := hw1.cells; go_simp <;> rfl)
        go_simp; refine hK _ ?_; clear hK K
        with_reducible refine q_want ?_ (fun K hK => ?_)
        · kernel_rfl
        apply Exists.intro
        constructor
        · (intro w1 hw1; have hc := hw1.cells; go_simp <;> rfl)
        go_simp; refine hK _ ?_; clear hK K
        with_reducible refine q_want ?_ (fun K hK => ?_)
        · kernel_rfl
        apply Exists.intro
        constructor
        · (intro w1 hw1; have hc := hw1.cells; go_simp <;> rfl)
        go_simp; refine hK _ ?_; clear hK K
        with_reducible refine q_want ?_ (fun K hK => ?_)
        · kernel_rfl
        apply Exists.intro
        constructor
        · (intro w1 hw1; have hc := hw1.cells; go_simp <;> rfl)
        go_simp; refine hK _ ?_; clear hK K
        with_reducible refine q_want ?_ (fun K hK => ?_)
        · kernel_rfl
        apply Exists.intro
        constructor
        · (intro w1 hw1; have hc := hw1.cells; go_simp <;> rfl)
        go_simp; refine hK _ ?_; clear hK K
        with_reducible refine q_want ?_ (fun K hK => ?_)
        · kernel_rfl
        apply Exists.intro
        constructor
        · (intro w1 hw1; have hc := hw1.cells; go_simp <;> rfl)
        go_simp; refine hK _ ?_; clear hK K
        with_reducible refine q_want ?_ (fun K hK => ?_)
        · kernel_rfl
        apply Exists.intro
        constructor
        · (intro w1 hw1; have hc := hw1.cells; go_simp <;> rfl)
        go_simp; refine hK _ ?_; clear hK K
        with_reducible refine q_want ?_ (fun K hK => ?_)
        · kernel_rfl
        apply Exists.intro
        constructor
        · (intro w1 hw1; have hc := hw1.cells; go_simp <;> rfl)
        go_simp; refine hK _ ?_; clear hK K
        with_reducible refine q_want ?_ (fun K hK => ?_)
        · kernel_rfl
        apply Exists.intro
        constructor
        · (intro w1 hw1; have hc := hw1.cells; go_simp <;> rfl)
        go_simp; refine hK _ ?_; clear hK K
        with_reducible refine q_want ?_ (fun K hK => ?_)
        · kernel_rfl
        apply Exists.intro
        constructor
        · (intro w1 hw1; have hc := hw1.cells; go_simp <;> rfl)
        go_simp; refine hK _ ?_; clear hK K
        with_reducible refine q_want ?_ (fun K hK => ?_)
        · kernel_rfl
        apply Exists.intro
        constructor
        · (intro w1 hw1; have hc := hw1.cells; go_simp <;> rfl)
        go_simp; refine hK _ ?_; clear hK K
        with_reducible refine q_want ?_ (fun K hK => ?_)
        · kernel_rfl
        apply Exists.intro
        constructor
        · (intro w1 hw1; have hc := hw1.cells; go_simp <;> rfl)
        go_simp; refine hK _ ?_; clear hK K
        with_reducible refine q_want ?_ (fun K hK => ?_)
        · kernel_rfl
        apply Exists.intro
        constructor
        · (intro w1 hw1; have hc := hw1.cells; go_simp <;> rfl)
        go_simp; refine hK _ ?_; clear hK K
        with_reducible refine q_want ?_ (fun K hK => ?_)
        · kernel_rfl
        apply Exists.intro
        constructor
        · (intro w1 hw1; have hc := hw1.cells; go_simp <;> rfl)
        go_simp; refine hK _ ?_; clear hK K
        with_reducible refine q_want ?_ (fun K hK => ?_)
        · kernel_rfl
        apply Exists.intro
        constructor
        · (intro w1 hw1; have hc := hw1.cells; go_simp <;> rfl)
        go_simp; refine hK _ ?_; clear hK K
        with_reducible refine q_want ?_ (fun K hK => ?_)
        · kernel_rfl
        apply Exists.intro
        constructor
        · intro w1 hw1
          have hc := hw1.cells
          go_simp
          first
            | (go_at_call 82; exact quiet_call hw1 (turn_any A B ⟨px, py⟩ hda hdb hp hab hxa _))
            | (go_at_call 78; exact quiet_call_same hw1 (bend_any _ _))
        go_simp; refine hK _ ?_; clear hK K
        with_reducible refine q_want ?_ (fun K hK => ?_)
        · kernel_rfl
        apply Exists.intro
        constructor
        · (intro w1 hw1; have hc := hw1.cells; go_simp <;> rfl)
        go_simp; refine hK _ ?_; clear hK K
        with_reducible refine q_want ?_ (fun K hK => ?_)
        · kernel_rfl
        apply Exists.intro
        constructor
        · intro w1 hw1
          have hc := hw1.cells
          go_simp
          first
            | (go_at_call 82; exact quiet_call hw1 (turn_any A B ⟨px, py⟩ hda hdb hp hab hxa _))
            | (go_at_call 78; exact quiet_call_same hw1 (bend_any _ _))
        go_simp; refine hK _ ?_; clear hK K
        with_reducible refine q_want ?_ (fun K hK => ?_)
        · kernel_rfl
        apply Exists.intro
        constructor
        · (intro w1 hw1; have hc := hw1.cells; go_simp <;> rfl)
        go_simp; refine hK _ ?_; clear hK K
        with_reducible refine q_want ?_ (fun K hK => ?_)
        · kernel_rfl
        apply Exists.intro
        constructor
        · (intro w1 hw1; have hc := hw1.cells; go_simp <;> rfl)
        go_simp; refine hK _ ?_; clear hK K
        with_reducible refine q_want ?_ (fun K hK => ?_)
        · kernel_rfl
        apply Exists.intro
        constructor
        · (intro w1 hw1; have hc := hw1.cells; go_simp <;> rfl)
        go_simp; refine hK _ ?_; clear hK K
        refine wpQuiet_nil ?_
        intro w1 hw1
        go_wp2_with fail
        exact ⟨⟨k + 1, by omega, by rw [HK.out, HKEEP.out, if_pos hT], rfl, Below.trans hw (hw1.below.mono hw.below.size)⟩, by simp⟩
      · have hT' : decide (0 ≤ Inc.turnS A B ⟨px, py⟩ * bendV side) = false := by simpa using hT
        go_wp2_with fail
        refine wp_region_below (by kernel_rfl) (by kernel_rfl) ?_
        with_reducible refine q_want ?_ (fun K hK => ?_)
        · kernel_rfl
        apply Exists.intro
        constructor
        · (intro w1 hw1; have hc := hw1.cells; go_simp <;> rfl)
        go_simp; refine hK _ ?_; clear hK K
        with_reducible refine q_want ?_ (fun K hK => ?_)
        · kernel_rfl
        apply Exists.intro
        constructor
        · (intro w1 hw1; have hc := hw1.cells; go_simp <;> rfl)
        go_simp; refine hK _ ?_; clear hK K
        with_reducible refine q_want ?_ (fun K hK => ?_)
        · kernel_rfl
        apply Exists.intro
        constructor
        · (intro w1 hw1; have hc := hw1.cells; go_simp <;> rfl)
        go_simp; refine hK _ ?_; clear hK K
        with_reducible refine q_want ?_ (fun K hK => ?_)
        · kernel_rfl
        apply Exists.intro
        constructor
        · (intro w1 hw1; have hc := hw1.cells; go_simp <;> rfl)
        go_simp; refine hK _ ?_; clear hK K
        with_reducible refine q_want ?_ (fun K hK => ?_)
        · kernel_rfl
        apply Exists.intro
        constructor
        · (intro w1 hw1; have hc := hw1.cells; go_simp <;> rfl)
        go_simp; refine hK _ ?_; clear hK K
        with_reducible refine q_want ?_ (fun K hK => ?_)
        · kernel_rfl
        apply Exists.intro
        constructor
        · (intro w1 hw1; have hc := hw1.cells; go_simp <;> rfl)
        go_simp; refine hK _ ?_; clear hK K
        with_reducible refine q_want ?_ (fun K hK => ?_)
        · kernel_rfl
        apply Exists.intro
        constructor
        · (intro w1 hw1; have hc := hw1.cells; go_simp <;> rfl)
        go_simp; refine hK _ ?_; clear hK K
        with_reducible refine q_want ?_ (fun K hK => ?_)
        · kernel_rfl
        apply Exists.intro
        constructor
        · (intro w1 hw1; have hc := hw1.cells; go_simp <;> rfl)
        go_simp; refine hK _ ?_; clear hK K
        with_reducible refine q_want ?_ (fun K hK => ?_)
        · kernel_rfl
        apply Exists.intro
        constructor
        · (intro w1 hw1; have hc := hw1.cells; go_simp <;> rfl)
        go_simp; refine hK _ ?_; clear hK K
        with_reducible refine q_want ?_ (fun K hK => ?_)
        · kernel_rfl
        apply Exists.intro
        constructor
        · (intro w1 hw1; have hc := hw1.cells; go_simp <;> rfl)
        go_simp; refine hK _ ?_; clear hK K
        with_reducible refine q_want ?_ (fun K hK => ?_)
        · kernel_rfl
        apply Exists.intro
        constructor
        · (intro w1 hw1; have hc := hw1.cells; go_simp <;> rfl)
        go_simp; refine hK _ ?_; clear hK K
        with_reducible refine q_want ?_ (fun K hK => ?_)
        · kernel_rfl
        apply Exists.intro
        constructor
        · (intro w1 hw1; have hc := hw1.cells; go_simp <;> rfl)
        go_simp; refine hK _ ?_; clear hK K
        with_reducible refine q_want ?_ (fun K hK => ?_)
        · kernel_rfl
        apply Exists.intro
        constructor
        · (intro w1 hw1; have hc := hw1.cells; go_simp <;> rfl)
        go_simp; refine hK _ ?_; clear hK K
        with_reducible refine q_want ?_ (fun K hK => ?_)
        · kernel_rfl
        apply Exists.intro
        constructor
        · (intro w1 hw1; have hc := hw1.cells; go_simp <;> rfl)
        go_simp; refine hK _ ?_; clear hK K
        with_reducible refine q_want ?_ (fun K hK => ?_)
        · kernel_rfl
        apply Exists.intro
        constructor
        · (intro w1 hw1; have hc := hw1.cells; go_simp <;> rfl)
        go_simp; refine hK _ ?_; clear hK K
        with_reducible refine q_want ?_ (fun K hK => ?_)
        · kernel_rfl
        apply Exists.intro
        constructor
        · (intro w1 hw1; have hc := hw1.cells; go_simp <;> rfl)
        go_simp; refine hK _ ?_; clear hK K
        with_reducible refine q_want ?_ (fun K hK => ?_)
        · kernel_rfl
        apply Exists.intro
        constructor
        · (intro w1 hw1; have hc := hw1.cells; go_simp <;> rfl)
        go_simp; refine hK _ ?_; clear hK K
        with_reducible refine q_want ?_ (fun K hK => ?_)
        · kernel_rfl
        apply Exists.intro
        constructor
        · intro w1 hw1
          have hc := hw1.cells
          go_simp
          first
            | (go_at_call 82; exact quiet_call hw1 (turn_any A B ⟨px, py⟩ hda hdb hp hab hxa _))
            | (go_at_call 78; exact quiet_call_same hw1 (bend_any _ _))
        go_simp; refine hK _ ?_; clear hK K
        with_reducible refine q_want ?_ (fun K hK => ?_)
        · kernel_rfl
        apply Exists.intro
        constructor
        · (intro w1 hw1; have hc := hw1.cells; go_simp <;> rfl)
        go_simp; refine hK _ ?_; clear hK K
        with_reducible refine q_want ?_ (fun K hK => ?_)
        · kernel_rfl
        apply Exists.intro
        constructor
        · intro w1 hw1
          have hc := hw1.cells
          go_simp
          first
            | (go_at_call 82; exact quiet_call hw1 (turn_any A B ⟨px, py⟩ hda hdb hp hab hxa _))
            | (go_at_call 78; exact quiet_call_same hw1 (bend_any _ _))
        go_simp; refine hK _ ?_; clear hK K
        with_reducible refine q_want ?_ (fun K hK => ?_)
        · kernel_rfl
        apply Exists.intro
        constructor
        · (intro w1 hw1; have hc := hw1.cells; go_simp <;> rfl)
        go_simp; refine hK _ ?_; clear hK K
        with_reducible refine q_want ?_ (fun K hK => ?_)
        · kernel_rfl
        apply Exists.intro
        constructor
        · (intro w1 hw1; have hc := hw1.cells; go_simp <;> rfl)
        go_simp; refine hK _ ?_; clear hK K
        with_reducible refine q_want ?_ (fun K hK => ?_)
        · kernel_rfl
        apply Exists.intro
        constructor
        · (intro w1 hw1; have hc := hw1.cells; go_simp <;> rfl)
        go_simp; refine hK _ ?_; clear hK K
        refine wpQuiet_nil ?_
        intro w1 hw1
        have hownm := Lib.hid (owns_below (owns_below (by have := owns_short HO.out hm; rwa [pts_take] at this) (bl_cls (bl_alloc (Below.refl _ _) _) hw)) hw1.below)
        have hc1 := hw1.cells
        have hcl : k + 2 ≤ c.length := hm
        have hz3 : base ≤ w1.heap.size := by have h1 := hw1.below.size; have h2 := hw.below.size; simp at h2; omega
        have HKK := Lib.hid (show Inc.keep (bendV side) c ⟨px, py⟩ c.length = k + 2 by rw [HK.out, HKEEP.out, if_neg (by omega)])
        clear e1 e2 e3 e4 e5 e6 e7 e8 c1 c2 c3 c4 hg hT hT' hfW
        go_wp2_with (at_builtin; go_must (refine wpList_append_lies _ rfl _ _ 117 rfl base 122 i0 (.agg #[.int .u64 0, .int .i64 0]) 2 16 Try.underlying117 hi hq0 hq1 hq2 rfl (by decide) _ (k + 2) (pts (c.take (k + 2))) rfl (hownm.out.alloc _) ⟨w1.heap.size, 0, none⟩ 1 1 [.int .u64 px, .int .i64 py] rfl rfl (two_new _ _ _ _) (by simp [Value.oneCell']) (by decide) (by unfold maxLen; omega) (by omega) (by simp; omega) _ rfl ?_))
        intro g' cap' w2 hown2 hgrow hwhere hlt2
        have HO2 := Lib.hid hown2
        have HG2 := Lib.hid hgrow
        have HW2 := Lib.hid hwhere
        clear hown2 hgrow hwhere hlt2
        go_wp2_with fail
        go_ret
        exact laid_end hlt hcl HKK.out rfl HO2.out HG2.out (HW2.out.imp id (fun h => by simpa using h)) (by (repeat (first | exact Below.refl _ _ | refine bl_alloc ?_ _ | refine bl_drew ?_ | (refine bl_set ?_ (by simp <;> omega) _) | refine bl_then ?_ (by assumption) | refine bl_cls ?_ (by assumption))))
end Go.Proofs.Ytdfkgkidaffcgaa
namespace Go.Proofs.Ytdfkgkidaffcgaa
open Go.RowKit

theorem bs_step {f : Nat → Bool} {k i j : Nat} (h : i < j) : Inc.bsearch f (k + 1) i j = if f ((i + j) / 2) then Inc.bsearch f k i ((i + j) / 2) else Inc.bsearch f k ((i + j) / 2 + 1) j := by
  rw [Inc.bsearch, if_pos h]
theorem bs_end {f : Nat → Bool} {k i j : Nat} (h : ¬ i < j) : Inc.bsearch f (k + 1) i j = i := by
  rw [Inc.bsearch, if_neg h]

set_option maxHeartbeats 800000 in
theorem search_any (n : Nat) (f : Nat → Bool) (p1 p2 p3 : Value) (hn : n < 4611686018427387904) (w : World)
    (hf : ∀ i : Nat, i < n → ∀ w1, Cls w w1 → Calls Try.prog 76 #[.int .i64 i, p1, p2, p3] w1 fun e w' => e = .returned (.bool (f i)) ∧ Below w1.heap.size w1 w') :
    Calls Try.prog 75 #[.int .i64 n, .func (.func 76) #[] #[p1, p2, p3]] w fun e w' => e = .returned (.int .i64 (Inc.bsearch f (n + 1) 0 n)) ∧ Below w.heap.size w w' := by
  have HF := Lib.hid hf
  clear hf
  go_enter Try.func75, Try.ntmps75
  go_wp2_with fail
  go_loopw [5, 6] (fun x y wr => ∃ i j k : Nat, i ≤ j ∧ j ≤ n ∧ j - i < k ∧ Inc.bsearch f (n + 1) 0 n = Inc.bsearch f k i j ∧ x = .int .i64 i ∧ y = .int .i64 j ∧ Cls w wr) (fun x y _ => (intOf y - intOf x).toNat)
  case atStart => exact ⟨0, n, n + 1, by omega, by omega, by omega, rfl, rfl, rfl, Cls.refl _⟩
  case round =>
    obtain ⟨i, j, k, hij, hjn, hk, he, rfl, rfl, hw⟩ := hrel
    obtain ⟨k, rfl⟩ : ∃ m, k = m + 1 := ⟨k - 1, by omega⟩
    have HE := Lib.hid he
    clear he
    by_cases hlt : i < j
    · have hlt' : decide ((i : Int) < (j : Int)) = true := by simpa using hlt
      have hw' := hw
      have HS := Lib.hid (bs_step (f := f) (k := k) hlt)
      generalize hm : (i + j) / 2 = m at *
      have e1 : ((i : Int) + j) / 2 = m := by omega
      have hmn : m < n := by omega
      have HF' := Lib.hid (HF.out m hmn)
      have hnot : ∀ (x : Bool) (w : World), (Op.unary .not (.bool x)).run Try.prog w = .ok (.bool (!x)) w := fun _ _ => rfl
      clear hm
      cases hfm : f m with
      | true =>
        go_wp2_with fail
        refine (HF'.out wr hw).mono ?_
        rintro e w1 ⟨rfl, hb1⟩
        rw [hfm]
        have HFM := Lib.hid hfm
        clear hfm
        go_wp2_with fail
        exact ⟨⟨i, m, k, by omega, by omega, by omega, by rw [HE.out, HS.out, HFM.out]; rfl, rfl, rfl, Below.trans hw (hb1.mono hw.below.size)⟩, by simp [intOf]; omega⟩
      | false =>
        go_wp2_with fail
        refine (HF'.out wr hw).mono ?_
        rintro e w1 ⟨rfl, hb1⟩
        rw [hfm]
        have HFM := Lib.hid hfm
        clear hfm
        go_wp2_with fail
        exact ⟨⟨m + 1, j, k, by omega, by omega, by omega, by rw [HE.out, HS.out, HFM.out]; rfl, by go_num, rfl, Below.trans hw (hb1.mono hw.below.size)⟩, by simp [intOf]; omega⟩
    · have hlt' : decide ((i : Int) < (j : Int)) = false := by simpa using hlt
      have HN := Lib.hid (bs_end (f := f) (k := k) hlt)
      go_wp2_with fail
      go_ret
      exact ⟨by rw [HE.out, HN.out]; rfl, hw⟩

/-- the question: does the slope no longer rise (fall)? -/
def askT (s : Int) (c : List Inc.Pt) (p : Inc.Pt) (i : Nat) : Bool := decide (0 ≤ Inc.steepS (c.getD i default) (c.getD (i + 1) default) p * s)

set_option maxHeartbeats 800000 in
/-- the closure: what it captured are the chain, the point and the side, each in a variable -/
theorem ask_any (c : List Inc.Pt) (p : Inc.Pt) (side : Int) (hc : ChB c p) (hp : PtB p) (g cap b1 b2 b3 i : Nat) (hi : i + 1 < c.length) (hlen : c.length ≤ 1099511627776) (w : World)
    (h1 : w.cell? ⟨b1, 0, none⟩ = some (.slice (some ⟨g, 0, none⟩) c.length cap))
    (h2 : w.cell? ⟨b2, 0, none⟩ = some (.int .u64 p.x)) (h2' : w.cell? ⟨b2, 1, none⟩ = some (.int .i64 p.y)) (h3 : w.cell? ⟨b3, 0, none⟩ = some (.int .i64 side))
    (hg : g < w.heap.size) (hb1 : b1 < w.heap.size) (hb2 : b2 < w.heap.size) (hb3 : b3 < w.heap.size)
    (hcells : ∀ i, i < c.length → w.cell? ⟨g, 2 * i, none⟩ = some (.int .u64 (c.getD i default).x) ∧ w.cell? ⟨g, 2 * i + 1, none⟩ = some (.int .i64 (c.getD i default).y)) :
    Calls Try.prog 76 #[.int .i64 i, .pointer (some ⟨b1, 0, none⟩), .pointer (some ⟨b2, 0, none⟩), .pointer (some ⟨b3, 0, none⟩)] w fun e w' => e = .returned (.bool (askT (bendV side) c p i)) ∧ Below w.heap.size w w' := by
  obtain ⟨px, py⟩ := p
  obtain ⟨c1, c2⟩ := hcells i (by omega)
  obtain ⟨c3, c4⟩ := hcells (i + 1) (by omega)
  rw [show 2 * i = i * 2 from by omega] at c1 c2
  rw [show 2 * (i + 1) = (i + 1) * 2 from by omega] at c3 c4
  have hda : PtB (c.getD i default) := hc.1 _ (by rw [Inc.getD_get _ _ (by omega)]; exact List.getElem_mem _)
  have hdb : PtB (c.getD (i + 1) default) := hc.1 _ (by rw [Inc.getD_get _ _ (by omega)]; exact List.getElem_mem _)
  have hxa : (c.getD i default).x ≤ px := hc.2.2 _ (by rw [Inc.getD_get _ _ (by omega)]; exact List.getElem_mem _)
  have hxb : (c.getD (i + 1) default).x ≤ px := hc.2.2 _ (by rw [Inc.getD_get _ _ (by omega)]; exact List.getElem_mem _)
  clear hcells
  unfold askT
  generalize c.getD i default = A at *
  generalize c.getD (i + 1) default = B at *
  have e6 : IntKind.i64.wrap (Inc.steepS A B ⟨px, py⟩ * bendV side) = Inc.steepS A B ⟨px, py⟩ * bendV side := by
    have h1 : -1 ≤ Inc.steepS A B ⟨px, py⟩ ∧ Inc.steepS A B ⟨px, py⟩ ≤ 1 := by unfold Inc.steepS Inc.icmp; split <;> (try split) <;> omega
    have h2 : bendV side = -1 ∨ bendV side = 1 := by unfold bendV; split <;> simp
    rcases h2 with h2 | h2 <;> (rw [h2]; exact wrap_i64_id (by omega) (by omega))
  have e1 : IntKind.i64.wrap ((i : Int) + 1) = (i : Int) + 1 := wrap_i64_id (by omega) (by omega)
  have e3 : 0 ≤ (i : Int) ∧ (i : Int) < (c.length : Int) := by omega
  have e4 : 0 ≤ (i : Int) + 1 ∧ (i : Int) + 1 < (c.length : Int) := by omega
  have e5 : ((i : Int) + 1).toNat = i + 1 := by omega
  go_enter Try.func76, Try.ntmps76
  go_wp2_with fail
  refine wp_region_below (by kernel_rfl) (by kernel_rfl) ?_
  with_reducible refine q_want ?_ (fun K hK => ?_)
  · kernel_rfl
  apply Exists.intro
  constructor
  · (intro w1 hw1; have hc := hw1.cells; go_simp <;> rfl)
  go_simp; refine hK _ ?_; clear hK K
  with_reducible refine q_want ?_ (fun K hK => ?_)
  · kernel_rfl
  apply Exists.intro
  constructor
  · (intro w1 hw1; have hc := hw1.cells; go_simp <;> rfl)
  go_simp; refine hK _ ?_; clear hK K
  with_reducible refine q_want ?_ (fun K hK => ?_)
  · kernel_rfl
  apply Exists.intro
  constructor
  · (intro w1 hw1; have hc := hw1.cells; go_simp <;> rfl)
  go_simp; refine hK _ ?_; clear hK K
  with_reducible refine q_want ?_ (fun K hK => ?_)
  · kernel_rfl
  apply Exists.intro
  constructor
  · (intro w1 hw1; have hc := hw1.cells; go_simp <;> rfl)
  go_simp; refine hK _ ?_; clear hK K
  with_reducible refine q_want ?_ (fun K hK => ?_)
  · kernel_rfl
  apply Exists.intro
  constructor
  · (intro w1 hw1; have hc := hw1.cells; go_simp <;> rfl)
  go_simp; refine hK _ ?_; clear hK K
  with_reducible refine q_want ?_ (fun K hK => ?_)
  · kernel_rfl
  apply Exists.intro
  constructor
  · (intro w1 hw1; have hc := hw1.cells; go_simp <;> rfl)
  go_simp; refine hK _ ?_; clear hK K
  with_reducible refine q_want ?_ (fun K hK => ?_)
  · kernel_rfl
  apply Exists.intro
  constructor
  · (intro w1 hw1; have hc := hw1.cells; go_simp <;> rfl)
  go_simp; refine hK _ ?_; clear hK K
  with_reducible refine q_want ?_ (fun K hK => ?_)
  · kernel_rfl
  apply Exists.intro
  constructor
  · (intro w1 hw1; have hc := hw1.cells; go_simp <;> rfl)
  go_simp; refine hK _ ?_; clear hK K
  with_reducible refine q_want ?_ (fun K hK => ?_)
  · kernel_rfl
  apply Exists.intro
  constructor
  · (intro w1 hw1; have hc := hw1.cells; go_simp <;> rfl)
  go_simp; refine hK _ ?_; clear hK K
  with_reducible refine q_want ?_ (fun K hK => ?_)
  · kernel_rfl
  apply Exists.intro
  constructor
  · (intro w1 hw1; have hc := hw1.cells; go_simp <;> rfl)
  go_simp; refine hK _ ?_; clear hK K
  with_reducible refine q_want ?_ (fun K hK => ?_)
  · kernel_rfl
  apply Exists.intro
  constructor
  · intro w1 hw1
    have hc := hw1.cells
    go_simp
    first
      | (go_at_call 77; exact quiet_call hw1 (steeper_any A B ⟨px, py⟩ hda hdb hp hxb hxa _))
      | (go_at_call 78; exact quiet_call_same hw1 (bend_any _ _))
  go_simp; refine hK _ ?_; clear hK K
  with_reducible refine q_want ?_ (fun K hK => ?_)
  · kernel_rfl
  apply Exists.intro
  constructor
  · (intro w1 hw1; have hc := hw1.cells; go_simp <;> rfl)
  go_simp; refine hK _ ?_; clear hK K
  with_reducible refine q_want ?_ (fun K hK => ?_)
  · kernel_rfl
  apply Exists.intro
  constructor
  · intro w1 hw1
    have hc := hw1.cells
    go_simp
    first
      | (go_at_call 77; exact quiet_call hw1 (steeper_any A B ⟨px, py⟩ hda hdb hp hxb hxa _))
      | (go_at_call 78; exact quiet_call_same hw1 (bend_any _ _))
  go_simp; refine hK _ ?_; clear hK K
  with_reducible refine q_want ?_ (fun K hK => ?_)
  · kernel_rfl
  apply Exists.intro
  constructor
  · (intro w1 hw1; have hc := hw1.cells; go_simp <;> rfl)
  go_simp; refine hK _ ?_; clear hK K
  with_reducible refine q_want ?_ (fun K hK => ?_)
  · kernel_rfl
  apply Exists.intro
  constructor
  · (intro w1 hw1; have hc := hw1.cells; go_simp <;> rfl)
  go_simp; refine hK _ ?_; clear hK K
  with_reducible refine q_want ?_ (fun K hK => ?_)
  · kernel_rfl
  apply Exists.intro
  constructor
  · (intro w1 hw1; have hc := hw1.cells; go_simp <;> rfl)
  go_simp; refine hK _ ?_; clear hK K
  refine wpQuiet_nil ?_
  intro w1 hw1
  go_wp2_with fail
  go_ret
  exact ⟨rfl, hw1.below⟩

end Go.Proofs.Ytdfkgkidaffcgaa
namespace Go.Proofs.Ytdfkgkidaffcgaa
open Go.RowKit

theorem askT_touch (s : Int) (c : List Inc.Pt) (p : Inc.Pt) (h : 0 < c.length) : Inc.touch s c p = c.getD (Inc.bsearch (askT s c p) (c.length - 1 + 1) 0 (c.length - 1)) default := by
  unfold Inc.touch askT
  rw [Nat.sub_add_cancel h]

theorem bsearch_le (f : Nat → Bool) : ∀ k i j, i ≤ j → Inc.bsearch f k i j ≤ j := by
  intro k
  induction k with
  | zero => intro i j h; exact h
  | succ k ih =>
    intro i j h
    unfold Inc.bsearch
    split
    · split
      · have := ih i ((i + j) / 2) (by omega); omega
      · exact ih _ _ (by omega)
    · exact h

theorem ask_class (c : List Inc.Pt) (p : Inc.Pt) (side : Int) (hc : ChB c p) (hp : PtB p) (g cap b1 b2 b3 : Nat) (hlen : c.length ≤ 1099511627776) (w : World)
    (h1 : w.cell? ⟨b1, 0, none⟩ = some (.slice (some ⟨g, 0, none⟩) c.length cap))
    (h2 : w.cell? ⟨b2, 0, none⟩ = some (.int .u64 p.x)) (h2' : w.cell? ⟨b2, 1, none⟩ = some (.int .i64 p.y)) (h3 : w.cell? ⟨b3, 0, none⟩ = some (.int .i64 side))
    (hg : g < w.heap.size) (hb1 : b1 < w.heap.size) (hb2 : b2 < w.heap.size) (hb3 : b3 < w.heap.size)
    (hcells : ∀ i, i < c.length → w.cell? ⟨g, 2 * i, none⟩ = some (.int .u64 (c.getD i default).x) ∧ w.cell? ⟨g, 2 * i + 1, none⟩ = some (.int .i64 (c.getD i default).y)) :
    ∀ i : Nat, i < c.length - 1 → ∀ w1, Cls w w1 → Calls Try.prog 76 #[.int .i64 i, .pointer (some ⟨b1, 0, none⟩), .pointer (some ⟨b2, 0, none⟩), .pointer (some ⟨b3, 0, none⟩)] w1 fun e w' => e = .returned (.bool (askT (bendV side) c p i)) ∧ Below w1.heap.size w1 w' := by
  intro i hi w1 hw1
  have hs := hw1.below.size
  exact ask_any c p side hc hp g cap b1 b2 b3 i (by omega) hlen w1 ((hw1.cells _ _ hb1).trans h1) ((hw1.cells _ _ hb2).trans h2) ((hw1.cells _ _ hb2).trans h2') ((hw1.cells _ _ hb3).trans h3)
    (by omega) (by omega) (by omega) (by omega) (fun j hj => ⟨(hw1.cells _ _ hg).trans (hcells j hj).1, (hw1.cells _ _ hg).trans (hcells j hj).2⟩)

theorem tan_mem {s : Int} {c : List Inc.Pt} {p : Inc.Pt} (h : 0 < c.length) : Inc.bsearch (askT s c p) (c.length - 1 + 1) 0 (c.length - 1) < c.length := by
  have := bsearch_le (askT s c p) (c.length - 1 + 1) 0 (c.length - 1) (by omega)
  omega

set_option maxHeartbeats 1600000 in
theorem touching_up (c : List Inc.Pt) (p : Inc.Pt) (hc : ChB c p) (hp : PtB p) (fb g cap : Nat) (hne : 0 < c.length) (hlen : c.length ≤ 1099511627776) (w : World)
    (hv : w.cell? ⟨fb, 8, none⟩ = some (.slice (some ⟨g, 0, none⟩) c.length cap))
    (hg : g < w.heap.size) (hfb : fb < w.heap.size)
    (hcells : ∀ i, i < c.length → w.cell? ⟨g, 2 * i, none⟩ = some (.int .u64 (c.getD i default).x) ∧ w.cell? ⟨g, 2 * i + 1, none⟩ = some (.int .i64 (c.getD i default).y)) :
    Calls Try.prog 63 #[.pointer (some ⟨fb, 0, none⟩), .int .i64 1, ptV p] w fun e w' => e = .returned (ptV (Inc.touch 1 c p)) ∧ Below w.heap.size w w' := by
  rw [askT_touch 1 c p hne]
  obtain ⟨px, py⟩ := p
  generalize hR : c.getD (Inc.bsearch (askT 1 c ⟨px, py⟩) (c.length - 1 + 1) 0 (c.length - 1)) default = R
  have HR := Lib.hid hR
  clear hR
  have HC := Lib.hid hcells
  clear hcells
  have e1 : IntKind.i64.wrap ((c.length : Int) - 1) = ((c.length - 1 : Nat) : Int) := by rw [wrap_i64_id (by omega) (by omega)]; omega
  have hmf : ∀ (fn : Fn) (first cap : Array Value) (w : World), (Instr.makeFunc fn first cap).run Try.prog w = .ok (.func fn first cap) w := fun _ _ _ _ => rfl
  have f1 : fb < w.heap.size + 1 := by omega
  have f2 : fb < w.heap.size + 1 + 1 := by omega
  have f4 : g < w.heap.size + 1 := by omega
  have f5 : g < w.heap.size + 1 + 1 := by omega
  have f6 : g < w.heap.size + 1 + 1 + 1 := by omega
  have f3 : fb < w.heap.size + 1 + 1 + 1 := by omega
  unfold ptV
  go_enter Try.func63, Try.ntmps63
  go_wp2_with fail
  go_region
  go_wp2_with fail
  refine (search_any (c.length - 1) (askT (bendV 1) c ⟨px, py⟩) _ _ _ (by omega) _ (ask_class c ⟨px, py⟩ 1 hc hp g cap _ _ _ hlen _ (by go_simp) (by go_simp) (by go_simp) (by go_simp) (by simp <;> omega) (by simp) (by simp <;> omega) (by simp <;> omega)
    (fun j hj => ⟨by have := (HC.out j hj).1; go_simp, by have := (HC.out j hj).2; go_simp⟩))).mono ?_
  rintro e w1 ⟨rfl, hb1⟩
  have ht := tan_mem (s := bendV 1) (c := c) (p := ⟨px, py⟩) hne
  obtain ⟨c1, c2⟩ := HC.out _ ht
  rw [show (bendV 1 : Int) = 1 from rfl] at *
  generalize Inc.bsearch (askT 1 c ⟨px, py⟩) (c.length - 1 + 1) 0 (c.length - 1) = k at *
  rw [show 2 * k = k * 2 from by omega] at c1 c2
  rw [HR.out] at c1 c2
  clear HR
  have hc1 := below_cells hb1
  have hf1 := below_frozen hb1
  have hz1 := hb1.size
  simp only [World.size_alloc, World.size_drew] at hz1
  have hz2 : w.heap.size + 1 + 1 < w1.heap.size := by omega
  have hz3 : w.heap.size + 1 + 1 + 1 < w1.heap.size := by omega
  have hz4 : g < w1.heap.size := by omega
  have e3 : 0 ≤ (k : Int) ∧ (k : Int) < (c.length : Int) := by omega
  go_wp2_with fail
  exact bodyPost_ret (by simp only [results, Try.results63]; go_simp <;> rfl) rfl ⟨rfl, by (repeat (first | exact Below.refl _ _ | refine bl_alloc ?_ _ | refine bl_drew ?_ | (refine bl_set ?_ (by simp <;> omega) _) | refine bl_then ?_ (by assumption) | refine bl_cls ?_ (by assumption)))⟩
set_option maxHeartbeats 1600000 in
theorem touching_lo (c : List Inc.Pt) (p : Inc.Pt) (hc : ChB c p) (hp : PtB p) (fb g cap : Nat) (hne : 0 < c.length) (hlen : c.length ≤ 1099511627776) (w : World)
    (hv : w.cell? ⟨fb, 7, none⟩ = some (.slice (some ⟨g, 0, none⟩) c.length cap))
    (hg : g < w.heap.size) (hfb : fb < w.heap.size)
    (hcells : ∀ i, i < c.length → w.cell? ⟨g, 2 * i, none⟩ = some (.int .u64 (c.getD i default).x) ∧ w.cell? ⟨g, 2 * i + 1, none⟩ = some (.int .i64 (c.getD i default).y)) :
    Calls Try.prog 63 #[.pointer (some ⟨fb, 0, none⟩), .int .i64 0, ptV p] w fun e w' => e = .returned (ptV (Inc.touch (-1) c p)) ∧ Below w.heap.size w w' := by
  rw [askT_touch (-1) c p hne]
  obtain ⟨px, py⟩ := p
  generalize hR : c.getD (Inc.bsearch (askT (-1) c ⟨px, py⟩) (c.length - 1 + 1) 0 (c.length - 1)) default = R
  have HR := Lib.hid hR
  clear hR
  have HC := Lib.hid hcells
  clear hcells
  have e1 : IntKind.i64.wrap ((c.length : Int) - 1) = ((c.length - 1 : Nat) : Int) := by rw [wrap_i64_id (by omega) (by omega)]; omega
  have hmf : ∀ (fn : Fn) (first cap : Array Value) (w : World), (Instr.makeFunc fn first cap).run Try.prog w = .ok (.func fn first cap) w := fun _ _ _ _ => rfl
  have f1 : fb < w.heap.size + 1 := by omega
  have f2 : fb < w.heap.size + 1 + 1 := by omega
  have f4 : g < w.heap.size + 1 := by omega
  have f5 : g < w.heap.size + 1 + 1 := by omega
  have f6 : g < w.heap.size + 1 + 1 + 1 := by omega
  have f3 : fb < w.heap.size + 1 + 1 + 1 := by omega
  unfold ptV
  go_enter Try.func63, Try.ntmps63
  go_wp2_with fail
  go_region
  go_wp2_with fail
  refine (search_any (c.length - 1) (askT (bendV 0) c ⟨px, py⟩) _ _ _ (by omega) _ (ask_class c ⟨px, py⟩ 0 hc hp g cap _ _ _ hlen _ (by go_simp) (by go_simp) (by go_simp) (by go_simp) (by simp <;> omega) (by simp) (by simp <;> omega) (by simp <;> omega)
    (fun j hj => ⟨by have := (HC.out j hj).1; go_simp, by have := (HC.out j hj).2; go_simp⟩))).mono ?_
  rintro e w1 ⟨rfl, hb1⟩
  have ht := tan_mem (s := bendV 0) (c := c) (p := ⟨px, py⟩) hne
  obtain ⟨c1, c2⟩ := HC.out _ ht
  rw [show (bendV 0 : Int) = (-1) from rfl] at *
  generalize Inc.bsearch (askT (-1) c ⟨px, py⟩) (c.length - 1 + 1) 0 (c.length - 1) = k at *
  rw [show 2 * k = k * 2 from by omega] at c1 c2
  rw [HR.out] at c1 c2
  clear HR
  have hc1 := below_cells hb1
  have hf1 := below_frozen hb1
  have hz1 := hb1.size
  simp only [World.size_alloc, World.size_drew] at hz1
  have hz2 : w.heap.size + 1 + 1 < w1.heap.size := by omega
  have hz3 : w.heap.size + 1 + 1 + 1 < w1.heap.size := by omega
  have hz4 : g < w1.heap.size := by omega
  have e3 : 0 ≤ (k : Int) ∧ (k : Int) < (c.length : Int) := by omega
  go_wp2_with fail
  exact bodyPost_ret (by simp only [results, Try.results63]; go_simp <;> rfl) rfl ⟨rfl, by (repeat (first | exact Below.refl _ _ | refine bl_alloc ?_ _ | refine bl_drew ?_ | (refine bl_set ?_ (by simp <;> omega) _) | refine bl_then ?_ (by assumption) | refine bl_cls ?_ (by assumption)))⟩
end Go.Proofs.Ytdfkgkidaffcgaa
namespace Go.Proofs.Ytdfkgkidaffcgaa
open Go.RowKit

set_option maxHeartbeats 800000 in
theorem laid_none (p : Inc.Pt) (side : Int) (base : Nat) (w : World) (hbase : base ≤ w.heap.size) :
    Calls Try.prog 66 #[.slice none 0 0, ptV p, .int .i64 side] w (LaidPost base (.slice none 0 0) (Inc.laid (bendV side) [] p) w) := by
  obtain ⟨i0, hi, hq0, hq1, hq2⟩ := info_parts info_pt
  obtain ⟨px, py⟩ := p
  have hl : Inc.laid (bendV side) [] ⟨px, py⟩ = [⟨px, py⟩] := rfl
  rw [hl]
  clear hl
  unfold ptV
  go_enter Try.func66, Try.ntmps66
  go_wp2_with fail
  go_loopw [0] (fun v wr => v = .slice none 0 0 ∧ wr = w.alloc (.cells #[.int .u64 px, .int .i64 py] 122)) (fun _ _ => 0)
  case atStart => exact ⟨rfl, rfl⟩
  case round =>
    obtain ⟨rfl, rfl⟩ := hrel
    have hg : decide (1 < (0 : Int)) = false := by decide
    go_wp2_with fail
    refine wp_region_below (by kernel_rfl) (by kernel_rfl) ?_
    with_reducible refine q_want ?_ (fun K hK => ?_)
    · kernel_rfl
    apply Exists.intro
    constructor
    · (intro w1 hw1; have hc := hw1.cells; go_simp <;> rfl)
    go_simp; refine hK _ ?_; clear hK K
    with_reducible refine q_want ?_ (fun K hK => ?_)
    · kernel_rfl
    apply Exists.intro
    constructor
    · (intro w1 hw1; have hc := hw1.cells; go_simp <;> rfl)
    go_simp; refine hK _ ?_; clear hK K
    with_reducible refine q_want ?_ (fun K hK => ?_)
    · kernel_rfl
    apply Exists.intro
    constructor
    · (intro w1 hw1; have hc := hw1.cells; go_simp <;> rfl)
    go_simp; refine hK _ ?_; clear hK K
    with_reducible refine q_want ?_ (fun K hK => ?_)
    · kernel_rfl
    apply Exists.intro
    constructor
    · (intro w1 hw1; have hc := hw1.cells; go_simp <;> rfl)
    go_simp; refine hK _ ?_; clear hK K
    with_reducible refine q_skip ?_ (fun K hK => ?_)
    · kernel_rfl
    go_simp; refine hK _ ?_; clear hK K
    with_reducible refine q_skip ?_ (fun K hK => ?_)
    · kernel_rfl
    go_simp; refine hK _ ?_; clear hK K
    with_reducible refine q_skip ?_ (fun K hK => ?_)
    · kernel_rfl
    go_simp; refine hK _ ?_; clear hK K
    with_reducible refine q_skip ?_ (fun K hK => ?_)
    · kernel_rfl
    go_simp; refine hK _ ?_; clear hK K
    with_reducible refine q_skip ?_ (fun K hK => ?_)
    · kernel_rfl
    go_simp; refine hK _ ?_; clear hK K
    with_reducible refine q_skip ?_ (fun K hK => ?_)
    · kernel_rfl
    go_simp; refine hK _ ?_; clear hK K
    with_reducible refine q_skip ?_ (fun K hK => ?_)
    · kernel_rfl
    go_simp; refine hK _ ?_; clear hK K
    with_reducible refine q_skip ?_ (fun K hK => ?_)
    · kernel_rfl
    go_simp; refine hK _ ?_; clear hK K
    with_reducible refine q_skip ?_ (fun K hK => ?_)
    · kernel_rfl
    go_simp; refine hK _ ?_; clear hK K
    with_reducible refine q_skip ?_ (fun K hK => ?_)
    · kernel_rfl
    go_simp; refine hK _ ?_; clear hK K
    with_reducible refine q_skip ?_ (fun K hK => ?_)
    · kernel_rfl
    go_simp; refine hK _ ?_; clear hK K
    with_reducible refine q_skip ?_ (fun K hK => ?_)
    · kernel_rfl
    go_simp; refine hK _ ?_; clear hK K
    with_reducible refine q_skip ?_ (fun K hK => ?_)
    · kernel_rfl
    go_simp; refine hK _ ?_; clear hK K
    with_reducible refine q_skip ?_ (fun K hK => ?_)
    · kernel_rfl
    go_simp; refine hK _ ?_; clear hK K
    with_reducible refine q_skip ?_ (fun K hK => ?_)
    · kernel_rfl
    go_simp; refine hK _ ?_; clear hK K
    with_reducible refine q_skip ?_ (fun K hK => ?_)
    · kernel_rfl
    go_simp; refine hK _ ?_; clear hK K
    with_reducible refine q_skip ?_ (fun K hK => ?_)
    · kernel_rfl
    go_simp; refine hK _ ?_; clear hK K
    with_reducible refine q_skip ?_ (fun K hK => ?_)
    · kernel_rfl
    go_simp; refine hK _ ?_; clear hK K
    with_reducible refine q_want ?_ (fun K hK => ?_)
    · kernel_rfl
    apply Exists.intro
    constructor
    · (intro w1 hw1; have hc := hw1.cells; go_simp <;> rfl)
    go_simp; refine hK _ ?_; clear hK K
    refine wpQuiet_nil ?_
    intro w1 hw1
    have hc1 := hw1.cells
    have hs1 := hw1.below.size
    have hs2 : (w.alloc (.cells #[.int .u64 px, .int .i64 py] 122)).heap.size = w.heap.size + 1 := World.size_alloc ..
    have hz1 : w.heap.size < w1.heap.size := by omega
    clear hs2
    go_wp2_with (at_builtin; go_must (refine wpList_append_lies _ rfl _ _ 117 rfl base 122 i0 (.agg #[.int .u64 0, .int .i64 0]) 2 16 Try.underlying117 hi hq0 hq1 hq2 rfl (by decide) _ 0 [] rfl (World.ownsRow_nil _ _ _ _) ⟨w1.heap.size, 0, none⟩ 1 1 [.int .u64 px, .int .i64 py] rfl rfl (two_new _ _ _ _) (by simp [Value.oneCell']) (by decide) (by unfold maxLen; omega) (by omega) (by simp; omega) _ rfl ?_))
    intro g' cap' w2 hown2 hgrow hwhere hlt2
    have HO2 := Lib.hid hown2
    have HG2 := Lib.hid hgrow
    have HW2 := Lib.hid hwhere
    clear hown2 hgrow hwhere hlt2
    go_wp2_with fail
    go_ret
    refine ⟨g', cap', rfl, HO2.out, grown_trans_below (w1 := w1.alloc (.cells #[.int .u64 px, .int .i64 py] 122)) (by (repeat (first | exact Below.refl _ _ | refine bl_alloc ?_ _ | refine bl_drew ?_ | (refine bl_set ?_ (by simp <;> omega) _) | refine bl_then ?_ (by assumption) | refine bl_cls ?_ (by assumption)))) HG2.out, ?_⟩
    rcases HW2.out with h | h
    · cases h
    · exact .inr (by have := h; omega)

/-- a fit's block -/
def fitCells (e : Int) (F : Inc.Fit) (v0 v1 : Value) : Array Value :=
  #[.int .i64 e, .int .i64 F.cnt, .int .u64 F.last, .int .u64 F.least.1, .int .u64 F.least.2, .int .u64 F.most.1, .int .u64 F.most.2, v0, v1]

structure FitAt (w : World) (base fb : Nat) (e : Int) (F : Inc.Fit) (v0 v1 : Value) : Prop where
  blk : w.heap[fb]? = some (.cells (fitCells e F v0 v1) 120 (0, 0))
  lo : w.ownsRow base 122 2 v0 F.lo.length (pts F.lo)
  up : w.ownsRow base 122 2 v1 F.up.length (pts F.up)
  ne : v0.ownBlock = none ∨ v0.ownBlock ≠ v1.ownBlock

set_option maxHeartbeats 800000 in
theorem hnew_any (eps : Int) (h1 : 2 ≤ eps) (h2 : eps ≤ 64) (w : World) :
    Calls Try.prog 55 #[.int .i64 eps] w fun e w' => e = .returned (.tuple #[.pointer (some ⟨w.heap.size, 0, none⟩), .int .i64 0]) ∧
      w' = w.alloc (.cells (fitCells (eps - 1) Inc.Fit.new (.slice none 0 0) (.slice none 0 0)) 120) := by
  go_enter Try.func55, Try.ntmps55
  go_wp2_with fail
  go_ret2
  exact ⟨rfl, rfl⟩

/-- the cells of a fit, for a walk -/
theorem FitAt.cells {w : World} {base fb : Nat} {e : Int} {F : Inc.Fit} {v0 v1 : Value} (h : FitAt w base fb e F v0 v1) :
    (w.cell? ⟨fb, 0, none⟩ = some (.int .i64 e) ∧ w.cell? ⟨fb, 1, none⟩ = some (.int .i64 F.cnt) ∧ w.cell? ⟨fb, 2, none⟩ = some (.int .u64 F.last) ∧
    w.cell? ⟨fb, 3, none⟩ = some (.int .u64 F.least.1) ∧ w.cell? ⟨fb, 4, none⟩ = some (.int .u64 F.least.2) ∧ w.cell? ⟨fb, 5, none⟩ = some (.int .u64 F.most.1) ∧
    w.cell? ⟨fb, 6, none⟩ = some (.int .u64 F.most.2) ∧ w.cell? ⟨fb, 7, none⟩ = some v0 ∧ w.cell? ⟨fb, 8, none⟩ = some v1) ∧ (∀ i, w.frozen? ⟨fb, i, none⟩ = false) ∧ fb < w.heap.size := by
  have hb := h.blk
  refine ⟨?_, ?_, (Array.getElem?_eq_some_iff.1 hb).1⟩
  · refine ⟨?_, ?_, ?_, ?_, ?_, ?_, ?_, ?_, ?_⟩ <;> (rw [cell_of_row w fb _ _ _ _ hb]; rfl)
  · intro i; simp [World.frozen?, hb]

/-- a chain with one point more, the chain as its owner holds it -/
theorem laid_any (c : List Inc.Pt) (p : Inc.Pt) (side : Int) (hc : ChB c p) (hp : PtB p) (hs : side = 0 ∨ side = 1) (hlen : c.length ≤ 1099511627776)
    (base : Nat) (v : Value) (w : World) (hbase : base ≤ w.heap.size) (hown : w.ownsRow base 122 2 v c.length (pts c)) :
    Calls Try.prog 66 #[v, ptV p, .int .i64 side] w (LaidPost base v (Inc.laid (bendV side) c p) w) := by
  rcases hown.2 with ⟨rfl, h0⟩ | ⟨g, cap, cur, rfl, _⟩
  · obtain rfl : c = [] := List.length_eq_zero_iff.1 h0
    exact laid_none p side base w hbase
  · exact laid_some c p side hc hp hs hlen base g cap w hbase hown

end Go.Proofs.Ytdfkgkidaffcgaa
