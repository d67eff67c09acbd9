/- Walks: slices.Clone of entries and of segments, run.copied. Walk: run.copied. What levels must be: a segment's check, its guesses, how far they are off. Levels that are built are right. Plain mathematics. Walk: model.Check of any segment. Walks: ratio.Clamp of any finite float, model.Guess. Walk: model.Off. Walks: levels.MaxHeight, must, tiles. -/
import Derived.OwnWalk
import Derived.Deep.DeepCutAuto
import Derived.WalkLawsBesides
import Derived.Deep.LoopGhost
import Derived.Test.YtdfkgkidaffcgaaJ15
set_option linter.all false
namespace Go.Proofs.Ytdfkgkidaffcgaa
open Go.RowKit

theorem info_ent : (Try.prog.info? 31).map (fun i => (i.zero, i.size, i.bytes)) = some (some (.agg #[.int .u64 0, .int .u64 0, .bool false]), 3, 24) := by kernel_rfl

theorem entVals_one (es : List Inc.Ent) : ∀ u ∈ entVals es, u.oneCell' = true := by
  intro u hu
  unfold entVals at hu
  obtain ⟨e, _, he⟩ := List.mem_flatMap.1 hu
  simp [entCells] at he
  rcases he with rfl | rfl | rfl <;> rfl
theorem segVals_one (ss : List Inc.Seg) : ∀ u ∈ segVals ss, u.oneCell' = true := by
  intro u hu
  unfold segVals at hu
  obtain ⟨e, _, he⟩ := List.mem_flatMap.1 hu
  simp [segCells] at he
  rcases he with rfl | rfl | rfl | rfl | rfl <;> rfl

set_option maxRecDepth 100000 in
set_option maxHeartbeats 1600000 in
theorem cloneE_any (es : List Inc.Ent) (hn : es.length ≤ 4294967296) (v : Value) (w : World) (h : ERow w v es) :
    Calls Try.prog 28 #[v] w fun e w' => ∃ u, e = .returned u ∧ w'.ownsRow w.heap.size 31 3 u es.length (entVals es) ∧ Below w.heap.size w w' := by
  obtain ⟨i0, hi, hq0, hq1, hq2⟩ := info_parts info_ent
  have heq := fun (w : World) (A : Option Addr) (l c : Nat) => Lib.run_eql_slice_nil (P := Try.prog) w 22 31 A l c 0 0 Try.underlying22
  have HR := Lib.hid h
  obtain ⟨_, A, cap, rfl, _, _, hc⟩ := h
  cases A with
  | none =>
    have hz : es.length = 0 := by
      rcases Nat.eq_zero_or_pos es.length with h | h
      · exact h
      · obtain ⟨b, off, hb, _⟩ := hc h; cases hb
    have hz2 : es = [] := List.eq_nil_of_length_eq_zero hz
    subst hz2
    clear hc HR
    go_enter Try.func28, Try.ntmps28
    go_wp2_with fail
    go_ret
    exact ⟨_, rfl, World.ownsRow_nil _ _ _ _, Below.refl _ _⟩
  | some a =>
    clear hc
    have ho := World.ownsRow_made (base := w.heap.size) (e := 31) (size := 3) w #[] 0 (Nat.le_refl _) (by unfold maxLen; omega) rfl
    go_enter Try.func28, Try.ntmps28
    go_wp2_with (first
      | (at_builtin; go_must (refine wpList_append_row _ rfl _ _ 22 rfl w.heap.size 31 i0 (.agg #[.int .u64 0, .int .u64 0, .bool false]) 3 24 Try.underlying22 hi hq0 hq1 hq2 rfl (by decide) _ 0 [] rfl ho _ es.length (entVals es) rfl (Row.alloc HR.out _) (entVals_one es) (by unfold maxLen; omega) (by omega) (by simp) ?_)))
    intro v' w1 hown hg hat
    have hb1 := below_own (bl_alloc (Below.refl _ _) _) ho hg (by simp)
    go_wp2_with fail
    go_ret
    exact ⟨_, rfl, by simpa using hown, hb1⟩

set_option maxRecDepth 100000 in
set_option maxHeartbeats 1600000 in
theorem cloneS_any (es : List Inc.Seg) (hn : es.length ≤ 4294967296) (v : Value) (w : World) (h : SRow w v es) :
    Calls Try.prog 41 #[v] w fun e w' => ∃ u, e = .returned u ∧ w'.ownsRow w.heap.size 51 5 u es.length (segVals es) ∧ Below w.heap.size w w' := by
  obtain ⟨i0, hi, hq0, hq1, hq2⟩ := info_parts info_seg
  have heq := fun (w : World) (A : Option Addr) (l c : Nat) => Lib.run_eql_slice_nil (P := Try.prog) w 67 51 A l c 0 0 Try.underlying67
  have HR := Lib.hid h
  obtain ⟨_, A, cap, rfl, _, _, hc⟩ := h
  cases A with
  | none =>
    have hz : es.length = 0 := by
      rcases Nat.eq_zero_or_pos es.length with h | h
      · exact h
      · obtain ⟨b, off, hb, _⟩ := hc h; cases hb
    have hz2 : es = [] := List.eq_nil_of_length_eq_zero hz
    subst hz2
    clear hc HR
    go_enter Try.func41, Try.ntmps41
    go_wp2_with fail
    go_ret
    exact ⟨_, rfl, World.ownsRow_nil _ _ _ _, Below.refl _ _⟩
  | some a =>
    clear hc
    have ho := World.ownsRow_made (base := w.heap.size) (e := 51) (size := 5) w #[] 0 (Nat.le_refl _) (by unfold maxLen; omega) rfl
    go_enter Try.func41, Try.ntmps41
    go_wp2_with (first
      | (at_builtin; go_must (refine wpList_append_row _ rfl _ _ 67 rfl w.heap.size 51 i0 (.agg #[.int .u64 0, .float .f64 0, .float .f64 0, .int .i64 0, .int .i64 0]) 5 40 Try.underlying67 hi hq0 hq1 hq2 rfl (by decide) _ 0 [] rfl ho _ es.length (segVals es) rfl (Row.alloc HR.out _) (segVals_one es) (by unfold maxLen; omega) (by omega) (by simp) ?_)))
    intro v' w1 hown hg hat
    have hb1 := below_own (bl_alloc (Below.refl _ _) _) ho hg (by simp)
    go_wp2_with fail
    go_ret
    exact ⟨_, rfl, by simpa using hown, hb1⟩
end Go.Proofs.Ytdfkgkidaffcgaa
namespace Go.Proofs.Ytdfkgkidaffcgaa
open Go.RowKit

theorem make_rows (n : Nat) (hn : n ≤ 4294967296) (w : World) : (Instr.makeSlice 42 (.int .i64 (n : Int)) (.int .i64 (n : Int))).run Try.prog w = .ok (.slice (some ⟨w.heap.size, 0, none⟩) n n) (w.alloc (.cells (List.replicate n (Value.slice none 0 0)).toArray 67)) := by
  obtain ⟨i0, hi, hz, h1, h2⟩ := info_parts info_row
  have := make_eq (P := Try.prog) 42 67 i0 (.slice none 0 0) 1 24 Try.underlying42 hi hz h1 h2 n (by omega) (by omega) w
  rw [Nat.mul_one, show (Value.slice none 0 0).cells = #[Value.slice none 0 0] from rfl, madeCells_list] at this
  exact this

theorem owns_blk {w : World} {b T T' size n g : Nat} {v : Value} {xs ys : List Value} (h : w.ownsRow b T size v n xs) (hb : Blk w g T' ys) (hT : T ≠ T') : v.ownBlock ≠ some g := by
  rcases h.2 with ⟨rfl, _⟩ | ⟨g', cap, cur, rfl, _, hg, _⟩
  · simp [Value.ownBlock]
  · intro he
    simp [Value.ownBlock] at he
    subst he
    unfold Blk at hb
    rw [hg] at hb
    injection hb with hb
    injection hb with _ hb _
    exact hT hb

/-- the levels copied so far -/
def CopySt (W : World) (ls : List (List Inc.Seg)) (k : Nat) (w : World) : Prop :=
  ∃ vs : List Value, vs.length = k ∧ Blk w W.heap.size 67 (vs ++ List.replicate (ls.length - k) (Value.slice none 0 0)) ∧
    (∀ (i : Nat) (s : List Inc.Seg), i < k → ls[i]? = some s → w.ownsRow W.heap.size 51 5 (vs.getD i undef) s.length (segVals s)) ∧ Below W.heap.size W w

theorem CopySt.blk {W w : World} {ls : List (List Inc.Seg)} {k : Nat} (h : CopySt W ls k w) (hk : k < ls.length) : w.cell? ⟨W.heap.size, k, none⟩ = some (.slice none 0 0) ∧ (∀ i, w.frozen? ⟨W.heap.size, i, none⟩ = false) ∧ W.heap.size < w.heap.size ∧ Below W.heap.size W w := by
  obtain ⟨vs, h1, h2, h3, h4⟩ := h
  refine ⟨?_, h2.free, h2.lt, h4⟩
  rw [h2.cell (i := k) (by simp; omega)]
  rw [List.getD_eq_getElem?_getD, List.getElem?_append_right (by omega), h1, Nat.sub_self, List.getElem?_replicate, if_pos (by omega)]
  rfl

theorem CopySt.step {W w w2 : World} {ls : List (List Inc.Seg)} {k : Nat} (h : CopySt W ls k w) {l : List Inc.Seg} (hl : ls[k]? = some l) (hb : Below w.heap.size w w2) {u : Value} (hu : w2.ownsRow w.heap.size 51 5 u l.length (segVals l)) :
    CopySt W ls (k + 1) (w2.setCell ⟨W.heap.size, k, none⟩ u) := by
  obtain ⟨vs, h1, h2, h3, h4⟩ := h
  have hk : k < ls.length := (List.getElem?_eq_some_iff.1 hl).1
  have hB2 := h2.below hb h2.lt
  refine ⟨vs ++ [u], by simp [h1], ?_, fun i s hi hs => ?_, bl_set (bl_then h4 hb) (Nat.le_refl _) _⟩
  · have hp := hB2.put k u
    have e : (vs ++ List.replicate (ls.length - k) (Value.slice none 0 0)).set k u = vs ++ [u] ++ List.replicate (ls.length - (k + 1)) (Value.slice none 0 0) := by
      rw [List.set_append_right k u (by omega), h1, Nat.sub_self, show ls.length - k = (ls.length - (k + 1)) + 1 by omega, List.replicate_succ, List.set_cons_zero, List.append_assoc]
      rfl
    rw [e] at hp
    exact hp
  · rcases Nat.eq_or_lt_of_le (show i ≤ k by omega) with rfl | hlt
    · rw [hl] at hs
      injection hs with hs
      subst hs
      rw [List.getD_eq_getElem?_getD, List.getElem?_append_right (by omega), h1, Nat.sub_self]
      exact ownsRow_setCell_other (owns_mono hu h4.size) (owns_blk hu hB2 (by decide)) u
    · have := owns_below (h3 i s hlt hs) hb
      rw [List.getD_eq_getElem?_getD, List.getElem?_append_left (by omega), ← List.getD_eq_getElem?_getD]
      exact ownsRow_setCell_other this (owns_blk this hB2 (by decide)) u

theorem CopySt.done {W w : World} {ls : List (List Inc.Seg)} (h : CopySt W ls ls.length w) (hn : ls.length ≤ 4294967296) : LOwn w W.heap.size (.slice (some ⟨W.heap.size, 0, none⟩) ls.length ls.length) ls := by
  obtain ⟨vs, h1, h2, h3, h4⟩ := h
  rw [Nat.sub_self, List.replicate_zero, List.append_nil] at h2
  exact ⟨vs, h1, h2.owns (Nat.le_refl _) (by omega) (by unfold maxLen; omega), fun i s hs => h3 i s (List.getElem?_eq_some_iff.1 hs).1 hs⟩

set_option maxRecDepth 100000 in
set_option maxHeartbeats 1600000 in
theorem copied_any (ls : List (List Inc.Seg)) (hn : ls.length ≤ 4294967296) (hls : ∀ l ∈ ls, l.length ≤ 4294967296) (v : Value) (w : World) (h : LRow w v ls) :
    Calls Try.prog 29 #[v] w fun e w' => ∃ u, e = .returned u ∧ LOwn w' w.heap.size u ls ∧ Below w.heap.size w w' := by
  have hmk := make_rows ls.length hn
  obtain ⟨vs, hv1, hv2, hv3⟩ := h
  have HV1 := Lib.hid hv1
  have HV2 := Lib.hid hv2
  have HV3 := Lib.hid hv3
  obtain ⟨_, A, cap, rfl, _, _, _⟩ := hv2
  clear hv1 hv3
  go_enter Try.func29, Try.ntmps29
  go_wp2_with fail
  have hst : CopySt w ls 0 (w.alloc (.cells (List.replicate ls.length (Value.slice none 0 0)).toArray 67)) :=
    ⟨[], rfl, by simpa using Blk.new w _ (List.replicate ls.length (Value.slice none 0 0)), fun i s hi => by omega, by (repeat (first | exact Below.refl _ _ | refine bl_alloc ?_ _ | refine bl_drew ?_ | (refine bl_set ?_ (by simp <;> omega) _) | refine bl_then ?_ (by assumption) | refine bl_cls ?_ (by assumption)))⟩
  have HST := Lib.hid hst
  clear hst
  go_loopw [11] (fun x wr => ∃ k : Nat, k ≤ ls.length ∧ x = .int .i64 k ∧ CopySt w ls k wr) (fun x _ => ls.length - (intOf x).toNat)
  case atStart => exact ⟨0, by omega, rfl, HST.out⟩
  case round =>
    clear HST
    obtain ⟨k, hk, rfl, hst⟩ := hrel
    have HST := Lib.hid hst
    by_cases hlt : k < ls.length
    · obtain ⟨l, hl⟩ : ∃ l, ls[k]? = some l := ⟨_, List.getElem?_eq_getElem hlt⟩
      obtain ⟨q0, q1, hz, hbel⟩ := hst.blk hlt
      have hll := hls l (List.mem_of_getElem? hl)
      obtain ⟨_, A2, cap2, hA, _, _, hc⟩ := Row.below HV2.out hbel
      injection hA with hA _ hA2
      subst hA hA2
      obtain ⟨b, off, rfl, hb, hcell⟩ := hc (by omega)
      have c0 := hcell k (by have := HV1.out; omega)
      have hsr : SRow wr (vs.getD k undef) l := Row.below (HV3.out k l hl) hbel
      obtain ⟨x, hx⟩ : ∃ x, vs.getD k undef = x := ⟨_, rfl⟩
      rw [hx] at c0 hsr
      have hcl := cloneS_any l hll x wr hsr
      obtain ⟨_, A3, cap3, rfl, _, _, _⟩ := hsr
      have HL := Lib.hid hl
      have e0n : (k < ls.length) = True := by simp; omega
      have e4 : 0 ≤ (k : Int) ∧ (k : Int) < (ls.length : Int) := by omega
      have e5 : IntKind.i64.wrap ((k : Int) + 1) = ((k + 1 : Nat) : Int) := by rw [IntKind.wrap_i64]; omega
      clear hst hc hcell hx hl hbel
      go_wp2_with fail
      refine hcl.mono ?_
      rintro ed w2 ⟨u, rfl, hu, hb2⟩
      have hnx := HST.out.step HL.out hb2 hu
      have r0 := (below_cells hb2 w.heap.size k hz).trans q0
      have r1 := fun i => (below_frozen hb2 w.heap.size i hz).trans (q1 i)
      have hz2 : w.heap.size < w2.heap.size := by have := hb2.size; omega
      obtain ⟨_, A4, cap4, rfl, _, _, _⟩ := Row.own hu
      have HNX := Lib.hid hnx
      clear hnx hu hb2 q0 q1 hcl
      go_wp2_with fail
      exact ⟨⟨k + 1, by omega, by go_num, HNX.out⟩, by simp [intOf]; omega⟩
    · obtain rfl : k = ls.length := by omega
      have e0n : (ls.length < ls.length) = False := by simp
      clear hst
      go_wp2_with fail
      go_ret
      obtain ⟨_, _, _, _, hbl⟩ := HST.out
      exact ⟨_, rfl, HST.out.done hn, hbl⟩
end Go.Proofs.Ytdfkgkidaffcgaa
namespace Inc
/-- what is wrong with a segment -/
def chk (s : Seg) : Int :=
  if s.from_ < 0 ∨ s.till ≤ s.from_ ∨ 4294967296 < s.till then 70
  else if 4611686018427387904 < s.slope then 71
  else if infR ≤ rungOfW s.icpt then 72 else 0

/-- the place that a segment predicts -/
def gs (s : Seg) (q : Int) : Int := max s.from_ (min s.till (whole s.slope (max q s.first - s.first) s.icpt))

/-- how far the first k predictions are off -/
def offTo (s : Seg) (l : List Int) : Nat → Int
  | 0 => 0
  | k + 1 => max (max (offTo s l k) (gs s (l.getD k 0) - s.from_ - k)) (-(gs s (l.getD k 0) - s.from_ - k))

theorem offTo_le (s : Seg) (l : List Int) (eps : Int) (h0 : 0 ≤ eps) : ∀ k, offTo s l k ≤ eps ↔ ∀ i, i < k → gs s (l.getD i 0) - s.from_ - i ≤ eps ∧ -(gs s (l.getD i 0) - s.from_ - i) ≤ eps := by
  intro k
  induction k with
  | zero => simp [offTo, h0]
  | succ k ih =>
    unfold offTo
    constructor
    · intro h i hi
      rcases Nat.eq_or_lt_of_le (show i ≤ k by omega) with rfl | hlt
      · omega
      · exact ih.1 (by omega) i hlt
    · intro h
      have h1 := ih.2 (fun i hi => h i (by omega))
      have h2 := h k (by omega)
      omega

/-- do segments tile so many slots -/
def tileB : Int → List Seg → Int → Bool
  | a, [], n => decide (a = n)
  | a, s :: t, n => decide (s.from_ = a) && decide (a < s.till) && decide (s.till ≤ n) && tileB s.till t n

/-- what is wrong with a segment over these keys -/
def segBad (eps : Int) (below : List Int) (s : Seg) : Int :=
  if chk s ≠ 0 then chk s
  else if s.first ≠ below.getD s.from_.toNat 0 then 83
  else if eps < offTo s (stretch below s.from_.toNat s.till.toNat) (s.till.toNat - s.from_.toNat) then 85 else 0

def rowBad (eps : Int) (below : List Int) : List Seg → Int
  | [] => 0
  | s :: t => if segBad eps below s ≠ 0 then segBad eps below s else rowBad eps below t

def goBad (eps : Int) : List Int → List (List Seg) → Int
  | below, [] => if below.length = 1 then 0 else 84
  | below, l :: t => if tileB 0 l below.length = false then 82 else if rowBad eps below l ≠ 0 then rowBad eps below l else goBad eps (l.map (·.first)) t

/-- levels.Check -/
def checkCode (eps : Int) (ks : List Int) (ls : List (List Seg)) : Int :=
  if eps < 2 ∨ 64 < eps then 1
  else if riseB ks = false then 80
  else if maxH eps 4294967296 < ls.length ∨ ¬(ls.length = 0 ↔ ks.length = 0) then 81
  else if ls.length = 0 then 0 else goBad eps ks ls

theorem rowBad_zero {eps : Int} {below : List Int} {l : List Seg} : rowBad eps below l = 0 ↔ ∀ s ∈ l, segBad eps below s = 0 := by
  induction l with
  | nil => simp [rowBad]
  | cons a t ih =>
    unfold rowBad
    by_cases h : segBad eps below a = 0
    · rw [if_neg (by omega), ih]; simp [h]
    · rw [if_pos h]; simp [h]

/-! What is built is right. -/
theorem tile_level (e : Int) (ks : List Int) : ∀ (es : List Nat) (a b : Nat), Greedy e ks a es b → b ≤ ks.length → tileB a (levelOf e ks a es) b = true := by
  intro es
  induction es with
  | nil => intro a b h _; have : a = b := h; simp [levelOf, tileB, this]
  | cons n t ih =>
    intro a b h hb
    obtain ⟨h1, h2, h3, h4, h5⟩ := h
    have hle : n ≤ b := by have := h5.len; omega
    have hlen := stretch_len (Nat.le_of_lt h1) h2
    have e1 : (segOf e (stretch ks a n) (fitD e (stretch ks a n)) (a : Int)).till = n := by
      show (a : Int) + (stretch ks a n).length = n
      rw [hlen]; omega
    simp only [levelOf, tileB, e1, Bool.and_eq_true, decide_eq_true_eq]
    exact ⟨⟨⟨rfl, by omega⟩, by omega⟩, ih n b h5 hb⟩

theorem seg_good {eps : Int} (he : 2 ≤ eps) (he' : eps ≤ 64) {ks : List Int} {F : Fit} (hin : KeysIn ks) (hn : 0 < ks.length) (hr : Rise ks) (hF : fitTo (eps - 1) ks ks.length = some F) {a : Int} (ha : 0 ≤ a) (ha' : a + ks.length ≤ 4294967296) :
    chk (segOf (eps - 1) ks F a) = 0 ∧ offTo (segOf (eps - 1) ks F a) ks ks.length ≤ eps := by
  have hok := (fitTo_ok (e := eps - 1) (by omega) hr (Nat.le_refl _) hF).ok
  rw [List.take_length] at hok
  obtain ⟨⟨s1, s2, s3, s4⟩, _⟩ := hok.slopes (by omega) (by omega) hin
  have s5 := hok.low.den
  have hle : F.least.1 ≤ F.least.2 := by
    rcases hok.low.att with h | ⟨i, j, hij, hj, hpos, h⟩
    · rw [h]; decide
    · have hc := low2_cross (a := (j : Int) - i - 2 * (eps - 1)) (b := K ks j - K ks i) (by omega) (by have := hr i j hij hj; omega)
      rw [← h] at hc
      have hgap : ∀ d : Nat, i + d < ks.length → (d : Int) ≤ K ks (i + d) - K ks i := by
        intro d
        induction d with
        | zero => intro _; simp
        | succ d ih => intro hd; have := ih (by omega); have := hr (i + d) (i + (d + 1)) (by omega) hd; omega
      have h2 := hgap (j - i) (by omega)
      rw [show i + (j - i) = j by omega] at h2
      have hx : 0 < K ks j - K ks i := by have := hr i j hij hj; omega
      have h3 : ((j : Int) - i - 2 * (eps - 1)) * F.least.2 ≤ (K ks j - K ks i) * F.least.2 := Int.mul_le_mul_of_nonneg_right (by omega) (by omega)
      rw [← hc] at h3
      rw [Int.mul_comm (K ks j - K ks i)] at h3
      exact Int.le_of_mul_le_mul_right h3 hx
  have hblo := baseTo_lo (eps - 1) ks F.least ks.length
  have hbhi := baseTo_hi (e := eps - 1) (by omega) hok ks.length (Nat.le_refl _)
  have hsl := quoW_ok (num := F.least.1.toNat) (den := F.least.2.toNat) (by omega) (by omega) (by omega)
  have hic := ofI_small (c := a + baseTo (eps - 1) ks F.least ks.length) (by omega)
  constructor
  · unfold chk segOf
    simp only
    rw [if_neg (by omega), if_neg (by unfold SlOK at hsl; omega), if_neg (by have := hic.2; unfold Fin at this; omega)]
  · rw [offTo_le _ _ _ (by omega)]
    intro i hi
    have hnear := line_near (e := eps - 1) (by omega) hok hi
    have hfb := flo_bound (e := eps - 1) (by omega) hok hi
    have hki := hin.rng i hi
    have hk0 := hin.rng 0 hn
    have hmono : K ks 0 ≤ K ks i := by
      rcases Nat.eq_zero_or_pos i with rfl | hp
      · exact Int.le_refl _
      · have := hr 0 i hp hi; omega
    have hflo : flo F.least (K ks i - K ks 0) = ((F.least.1.toNat : Nat) : Int) * (K ks i - K ks 0) / ((F.least.2.toNat : Nat) : Int) := by
      unfold flo
      rw [Int.toNat_of_nonneg s1, Int.toNat_of_nonneg s3]
    have hX : F.least.1.toNat * (K ks i - K ks 0).toNat ≤ 2 ^ 34 * F.least.2.toNat := by
      have h1 : F.least.1 * (K ks i - K ks 0) < (flo F.least (K ks i - K ks 0) + 1) * F.least.2 := by unfold flo; exact Int.lt_ediv_add_one_mul_self _ s5
      have h2 : (flo F.least (K ks i - K ks 0) + 1) * F.least.2 ≤ 2 ^ 34 * F.least.2 := Int.mul_le_mul_of_nonneg_right (by omega) (by omega)
      have h3 : ((F.least.1.toNat * (K ks i - K ks 0).toNat : Nat) : Int) ≤ ((2 ^ 34 * F.least.2.toNat : Nat) : Int) := by
        rw [Int.natCast_mul, Int.natCast_mul, Int.toNat_of_nonneg s1, Int.toNat_of_nonneg (by omega), Int.toNat_of_nonneg s3]
        have e34 : ((2 ^ 34 : Nat) : Int) = 2 ^ 34 := by decide
        rw [e34]
        omega
      exact Int.ofNat_le.1 h3
    obtain ⟨w1, w2⟩ := whole_near (num := F.least.1.toNat) (den := F.least.2.toNat) (d := K ks i - K ks 0) (c := a + baseTo (eps - 1) ks F.least ks.length) (f := flo F.least (K ks i - K ks 0)) (by omega) (by omega) (by omega) (by omega) (by omega) hX (by omega) hflo
    have e1 : max (ks.getD i 0) (ks.getD 0 0) - ks.getD 0 0 = K ks i - K ks 0 := by
      show max (K ks i) (K ks 0) - K ks 0 = _
      omega
    unfold gs segOf
    simp only
    rw [e1]
    have hil : (i : Int) < ks.length := by omega
    omega

theorem row_good {eps : Int} (he : 2 ≤ eps) (he' : eps ≤ 64) {ks : List Int} {es : List Nat} (hin : KeysIn ks) (hl : ks.length ≤ 4294967296) (hr : Rise ks) (hg : Greedy (eps - 1) ks 0 es ks.length) : rowBad eps ks (levelOf (eps - 1) ks 0 es) = 0 := by
  rw [rowBad_zero]
  intro s hs
  obtain ⟨k, hk⟩ := List.getElem?_of_mem hs
  have hkl : k < es.length := by have := (List.getElem?_eq_some_iff.1 hk).1; rw [levelOf_len] at this; exact this
  have hget := levelOf_get (eps - 1) ks es 0 k hkl
  rw [hk] at hget
  injection hget with hget
  obtain ⟨g1, g2, _, _⟩ := hg.at_ hkl
  have hfit := hg.fit hkl
  have hlen := stretch_len (Nat.le_of_lt g1) g2
  obtain ⟨c1, c2⟩ := seg_good he he' (hin.stretch (beg 0 es k) (es.getD k 0)) (by omega) (hr.stretch _ _) hfit (a := (beg 0 es k : Nat)) (by omega) (by rw [hlen]; omega)
  have ef : s.from_ = (beg 0 es k : Nat) := by rw [hget]; rfl
  have et : s.till = (es.getD k 0 : Nat) := by
    rw [hget]
    show ((beg 0 es k : Nat) : Int) + (stretch ks (beg 0 es k) (es.getD k 0)).length = _
    rw [hlen]; omega
  have e0 : s.first = ks.getD (beg 0 es k) 0 := by
    rw [hget]
    show (stretch ks (beg 0 es k) (es.getD k 0)).getD 0 0 = _
    unfold stretch
    exact (K_take (ks := ks.drop (beg 0 es k)) (k := es.getD k 0 - beg 0 es k) (i := 0) (by omega)).trans (K_drop ks _ 0)
  have d1 : s.from_.toNat = beg 0 es k := by omega
  have d2 : s.till.toNat = es.getD k 0 := by omega
  rw [← hget] at c1 c2
  rw [hlen] at c2
  unfold segBad
  rw [if_neg (by omega), d1, d2, if_neg (by simp only [ne_eq, Decidable.not_not]; exact e0), if_neg (by omega)]

theorem built_right {eps : Int} (he : 2 ≤ eps) (he' : eps ≤ 64) : ∀ (ls : List (List Seg)) (ks : List Int), KeysIn ks → ks.length ≤ 4294967296 → Rise ks → Built (eps - 1) ks ls → ls ≠ [] → goBad eps ks ls = 0 := by
  intro ls
  induction ls with
  | nil => intro ks _ _ _ _ h; exact absurd rfl h
  | cons l t ih =>
    intro ks hin hl hr hb _
    obtain ⟨hp, ⟨es, hg, rfl⟩, ht⟩ := hb
    have h1 := tile_level (eps - 1) ks es 0 ks.length hg (Nat.le_refl _)
    have h2 := row_good he he' hin hl hr hg
    obtain ⟨k1, k2, k3, k4⟩ := level_keys hg hin hr
    unfold goBad
    rw [show ((0 : Nat) : Int) = 0 from rfl] at h1
    rw [if_neg (by simp [h1]), if_neg (by omega)]
    split at ht
    · rename_i h3
      subst ht
      unfold goBad
      rw [if_pos (by rw [List.length_map]; exact h3)]
    · cases t with
      | nil =>
        exfalso
        have : (levelOf (eps - 1) ks 0 es).map (·.first) = [] := ht
        have hz : es.length = 0 := by rw [← k3, this]; rfl
        have := (hg.few (by omega) hr hp).1
        omega
      | cons l2 t2 => exact ih _ k1 (by omega) k2 ht (by simp)

/-- levels that are built pass -/
theorem built_code {eps : Int} (he : 2 ≤ eps) (he' : eps ≤ 64) {ls : List (List Seg)} {ks : List Int} (hin : KeysIn ks) (hl : ks.length ≤ 4294967296) (hr : riseB ks = true) (hb : Built (eps - 1) ks ls) : checkCode eps ks ls = 0 := by
  have hh := built_high he ls ks hin (rise_lt hr) hb
  have hm := maxH_mono he _ ks.length 4294967296 (Nat.le_refl _) (by omega)
  unfold checkCode
  rw [if_neg (by omega), if_neg (by simp [hr])]
  cases ls with
  | nil =>
    have : ks = [] := hb
    subst this
    rw [if_neg (by simp)]
    simp
  | cons l t =>
    have hp : 0 < ks.length := hb.1
    rw [if_neg (by simp only [List.length_cons]; simp only [List.length_cons] at hh; omega), if_neg (by simp)]
    exact built_right he he' _ ks hin hl (rise_lt hr) hb (by simp)
end Inc
namespace Inc
open Ieee
/-- what a segment in memory is -/
structure SegWf (s : Seg) : Prop where
  f0 : 0 ≤ s.first
  f1 : s.first < 18446744073709551616
  sl : s.slope < 18446744073709551616
  ic : s.icpt < 18446744073709551616
  a0 : -9223372036854775808 ≤ s.from_
  a1 : s.from_ ≤ 9223372036854775807
  b0 : -9223372036854775808 ≤ s.till
  b1 : s.till ≤ 9223372036854775807

def finB (x : Nat) : Bool := decide (rungOfW x < infR)

theorem order_nan {x : Nat} (h : infR < rungOfW x) : double.order x x = none := by
  unfold Format.order
  rw [read_nan h]
  rfl

theorem order_inf {x : Nat} (h : rungOfW x = infR) (hn : negW x = false) {y : Nat} (hy : Fin y) : double.order x y = some .gt := by
  obtain ⟨m, p, h1, _⟩ := read_fin hy
  unfold Format.order
  rw [read_inf h, h1, hn]
  rfl

theorem chk_fin {s : Seg} (h : chk s = 0) : 0 ≤ s.from_ ∧ s.from_ < s.till ∧ s.till ≤ 4294967296 ∧ SlOK s.slope ∧ Fin s.icpt := by
  unfold chk at h
  split at h
  · omega
  · split at h
    · omega
    · split at h
      · omega
      · refine ⟨by omega, by omega, by omega, by unfold SlOK; omega, by unfold Fin; omega⟩
end Inc
namespace Go.Proofs.Ytdfkgkidaffcgaa
open Go.RowKit

theorem finite_any (s : Nat) (h : s < 18446744073709551616) (w : World) : Calls Try.prog 61 #[.float .f64 s] w fun e w' => e = .returned (.bool (Inc.finB s)) ∧ w = w' := by
  rcases Nat.lt_trichotomy (Inc.rungOfW s) Inc.infR with hr | hr | hr
  · have := finite_true s h hr w
    rw [show Inc.finB s = true by unfold Inc.finB; simpa using hr]
    exact this
  · have h0 := finite_f s h w
    have h2 : (FloatKind.f64.format.order (s % 9223372036854775808) 9218868437227405311 == some Ordering.gt) = true := by
      rw [show FloatKind.f64.format.order (s % 9223372036854775808) 9218868437227405311 = some Ordering.gt from
        Inc.order_inf (by unfold Inc.rungOfW at hr ⊢; omega) (by unfold Inc.negW; rw [Nat.div_eq_of_lt (by omega)]; rfl) (by unfold Inc.Fin Inc.rungOfW Inc.infR; decide +kernel)]
      rfl
    rw [h2] at h0
    rw [show Inc.finB s = false from decide_eq_false (by omega)]
    simpa using h0
  · have h0 := finite_f s h w
    have h1 : FloatKind.f64.format.order s s = none := Inc.order_nan hr
    rw [h1, show ((none : Option Ordering) != some Ordering.eq) = true from rfl] at h0
    rw [show Inc.finB s = false from decide_eq_false (by omega)]
    simpa using h0

set_option maxRecDepth 100000 in
set_option maxHeartbeats 1600000 in
theorem segcheck_any (s : Inc.Seg) (h : Inc.SegWf s) (w : World) : Calls Try.prog 53 #[segV s] w fun e w' => e = .returned (.int .i64 (Inc.chk s)) ∧ Below w.heap.size w w' := by
  obtain ⟨fi, sl, ic, fr, tt⟩ := s
  obtain ⟨_, _, hsl, hic, _, _, _, _⟩ := h
  simp only at *
  have h3 := fun w => signbit_f sl w
  have hchk : Inc.chk ⟨fi, sl, ic, fr, tt⟩ = if fr < 0 ∨ tt ≤ fr ∨ 4294967296 < tt then 70 else if 4611686018427387904 < sl then 71 else if Inc.infR ≤ Inc.rungOfW ic then 72 else 0 := rfl
  have HC := Lib.hid hchk
  clear hchk
  unfold segV
  rcases Int.lt_or_le fr 0 with h1 | h1
  · have d1 : decide (fr < 0) = true := by simpa using h1
    rw [HC.out, if_pos (.inl h1)]
    clear HC
    go_enter Try.func53, Try.ntmps53
    go_wp2_with fail
    go_ret
    exact ⟨rfl, by (repeat (first | exact Below.refl _ _ | refine bl_alloc ?_ _ | refine bl_drew ?_ | (refine bl_set ?_ (by simp <;> omega) _) | refine bl_then ?_ (by assumption) | refine bl_cls ?_ (by assumption)))⟩
  · have d1 : decide (fr < 0) = false := by simp; omega
    rcases Int.lt_or_le fr tt with h2 | h2
    · have d2 : decide (tt ≤ fr) = false := by simp; omega
      rcases Int.lt_or_le 4294967296 tt with h4 | h4
      · have d3 : decide (4294967296 < tt) = true := by simpa using h4
        rw [HC.out, if_pos (by omega)]
        clear HC
        go_enter Try.func53, Try.ntmps53
        go_wp2_with fail
        go_ret
        exact ⟨rfl, by (repeat (first | exact Below.refl _ _ | refine bl_alloc ?_ _ | refine bl_drew ?_ | (refine bl_set ?_ (by simp <;> omega) _) | refine bl_then ?_ (by assumption) | refine bl_cls ?_ (by assumption)))⟩
      · have d3 : decide (4294967296 < tt) = false := by simp; omega
        have hch := HC.out
        rw [if_neg (by omega)] at hch
        rcases Nat.lt_or_ge 4611686018427387904 sl with h5 | h5
        · rw [hch, if_pos h5]
          clear HC hch
          cases hfin : Inc.finB sl with
          | false =>
            go_enter Try.func53, Try.ntmps53
            go_wp2_with (first | (go_at_call 61; refine (finite_any _ (by assumption) _).mono ?_; rintro e w' ⟨rfl, rfl⟩))
            go_ret
            exact ⟨rfl, by (repeat (first | exact Below.refl _ _ | refine bl_alloc ?_ _ | refine bl_drew ?_ | (refine bl_set ?_ (by simp <;> omega) _) | refine bl_then ?_ (by assumption) | refine bl_cls ?_ (by assumption)))⟩
          | true =>
            have hf : Inc.rungOfW sl < Inc.infR := of_decide_eq_true hfin
            change Inc.Fin sl at hf
            rcases Nat.lt_or_ge sl 9223372036854775808 with h6 | h6
            · rw [show decide (wrap64 (sl : Int) < 0) = false from by unfold wrap64; simp; omega] at h3
              have h7 : FloatKind.f64.format.order sl 4611686018427387904 = some Ordering.gt := by
                show Ieee.double.order sl _ = _
                rw [Inc.order_fin hf (by unfold Inc.Fin Inc.rungOfW Inc.infR; decide +kernel), Inc.sval_plain h6, Inc.sval_plain (by omega)]
                have := Inc.mag_strict h5
                simp only [compare, compareOfLessAndEq]
                rw [if_neg (by omega), if_neg (by omega)]
              clear hf
              go_enter Try.func53, Try.ntmps53
              go_wp2_with (first
                | (go_at_call 61; refine (finite_any _ (by assumption) _).mono ?_; rintro e w' ⟨rfl, rfl⟩)
                | (go_at_call 62; refine (h3 _).mono ?_; rintro e w' ⟨rfl, rfl⟩))
              go_ret
              exact ⟨rfl, by (repeat (first | exact Below.refl _ _ | refine bl_alloc ?_ _ | refine bl_drew ?_ | (refine bl_set ?_ (by simp <;> omega) _) | refine bl_then ?_ (by assumption) | refine bl_cls ?_ (by assumption)))⟩
            · rw [show decide (wrap64 (sl : Int) < 0) = true from by unfold wrap64; simp; omega] at h3
              clear hf
              go_enter Try.func53, Try.ntmps53
              go_wp2_with (first
                | (go_at_call 61; refine (finite_any _ (by assumption) _).mono ?_; rintro e w' ⟨rfl, rfl⟩)
                | (go_at_call 62; refine (h3 _).mono ?_; rintro e w' ⟨rfl, rfl⟩))
              go_ret
              exact ⟨rfl, by (repeat (first | exact Below.refl _ _ | refine bl_alloc ?_ _ | refine bl_drew ?_ | (refine bl_set ?_ (by simp <;> omega) _) | refine bl_then ?_ (by assumption) | refine bl_cls ?_ (by assumption)))⟩
        · have hf : Inc.Fin sl := by unfold Inc.Fin Inc.rungOfW Inc.infR; omega
          have hfin : Inc.finB sl = true := decide_eq_true hf
          rw [show decide (wrap64 (sl : Int) < 0) = false from by unfold wrap64; simp; omega] at h3
          have h7 : (FloatKind.f64.format.order sl 4611686018427387904 == some Ordering.gt) = false :=
            Inc.order_le hf (by unfold Inc.Fin Inc.rungOfW Inc.infR; decide +kernel) (by omega) h5
          obtain ⟨od, hod⟩ : ∃ od, FloatKind.f64.format.order sl 4611686018427387904 = od := ⟨_, rfl⟩
          rw [hod] at h7
          rw [if_neg (by omega)] at hch
          clear HC hf
          cases hfi : Inc.finB ic with
          | false =>
            rw [hch, if_pos (by unfold Inc.finB at hfi; simp at hfi; omega)]
            clear hch
            go_enter Try.func53, Try.ntmps53
            go_wp2_with (first
              | (go_at_call 61; refine (finite_any _ (by assumption) _).mono ?_; rintro e w' ⟨rfl, rfl⟩)
              | (go_at_call 62; refine (h3 _).mono ?_; rintro e w' ⟨rfl, rfl⟩))
            go_ret
            exact ⟨rfl, by (repeat (first | exact Below.refl _ _ | refine bl_alloc ?_ _ | refine bl_drew ?_ | (refine bl_set ?_ (by simp <;> omega) _) | refine bl_then ?_ (by assumption) | refine bl_cls ?_ (by assumption)))⟩
          | true =>
            rw [hch, if_neg (by unfold Inc.finB at hfi; simp at hfi; omega)]
            clear hch
            go_enter Try.func53, Try.ntmps53
            go_wp2_with (first
              | (go_at_call 61; refine (finite_any _ (by assumption) _).mono ?_; rintro e w' ⟨rfl, rfl⟩)
              | (go_at_call 62; refine (h3 _).mono ?_; rintro e w' ⟨rfl, rfl⟩))
            go_ret
            exact ⟨rfl, by (repeat (first | exact Below.refl _ _ | refine bl_alloc ?_ _ | refine bl_drew ?_ | (refine bl_set ?_ (by simp <;> omega) _) | refine bl_then ?_ (by assumption) | refine bl_cls ?_ (by assumption)))⟩
    · have d2 : decide (tt ≤ fr) = true := by simpa using h2
      rw [HC.out, if_pos (by omega)]
      clear HC
      go_enter Try.func53, Try.ntmps53
      go_wp2_with fail
      go_ret
      exact ⟨rfl, by (repeat (first | exact Below.refl _ _ | refine bl_alloc ?_ _ | refine bl_drew ?_ | (refine bl_set ?_ (by simp <;> omega) _) | refine bl_then ?_ (by assumption) | refine bl_cls ?_ (by assumption)))⟩
end Go.Proofs.Ytdfkgkidaffcgaa
namespace Go.Proofs.Ytdfkgkidaffcgaa
open Go.RowKit

theorem whole_small {f : Nat} (h1 : -((2 ^ 63 * Inc.U : Nat) : Int) ≤ Inc.sval f) (h2 : Inc.sval f < ((2 ^ 63 * Inc.U : Nat) : Int)) : Inc.mag (Inc.rungOfW f) ≤ 2 ^ 64 * Inc.U ∧ -9223372036854775808 ≤ Inc.sval f / (Inc.U : Int) ∧ Inc.sval f / (Inc.U : Int) ≤ 9223372036854775807 := by
  have hU := Inc.U_pos
  have h3 := Inc.sval_abs f
  generalize Inc.U = U at *
  generalize Inc.sval f = v at *
  generalize Inc.mag (Inc.rungOfW f) = m at *
  refine ⟨by omega, ?_, ?_⟩
  · rw [Int.le_ediv_iff_mul_le (by omega)]; omega
  · have := (Int.ediv_lt_iff_lt_mul (a := v) (b := 9223372036854775808) (c := (U : Int)) (by omega)).2 (by omega)
    omega

theorem whole_low {f : Nat} (h1 : Inc.sval f < -((2 ^ 63 * Inc.U : Nat) : Int)) : Inc.sval f / (Inc.U : Int) < 0 := by
  have hU := Inc.U_pos
  rw [Int.ediv_lt_iff_lt_mul (by omega)]
  omega
theorem whole_high {f : Nat} (h1 : ((2 ^ 63 * Inc.U : Nat) : Int) ≤ Inc.sval f) : 9223372036854775808 ≤ Inc.sval f / (Inc.U : Int) := by
  have hU := Inc.U_pos
  rw [Int.le_ediv_iff_mul_le (by omega)]
  omega

set_option maxRecDepth 100000 in
theorem clamp_any (f : Nat) (lo hi : Int) (hf : Inc.Fin f) (h0 : 0 ≤ lo) (hlh : lo ≤ hi) (h1 : hi ≤ 4294967296) (w : World) :
    Calls Try.prog 59 #[.float .f64 f, .int .i64 lo, .int .i64 hi] w fun e w' => e = .returned (.int .i64 (max lo (min hi (Inc.sval f / (Inc.U : Int))))) ∧ w = w' := by
  have ho : FloatKind.f64.format.order f f = some .eq := Inc.order_self hf
  have h2 : FloatKind.f64.format.order f 14114281232179134464 = some (compare (Inc.sval f) (-((2 ^ 63 * Inc.U : Nat) : Int))) := by
    rw [← Inc.bot_val]; exact Inc.order_fin hf Inc.bot_fin
  have h3 : FloatKind.f64.format.order f 4890909195324358656 = some (compare (Inc.sval f) ((2 ^ 63 * Inc.U : Nat) : Int)) := by
    rw [← Inc.top_val]; exact Inc.order_fin hf Inc.top_fin
  have h4 := isnan_f f w
  rw [ho] at h4
  have h5 := floor_f f hf w
  have hd : decide (hi < lo) = false := by simp; omega
  simp only [compare, compareOfLessAndEq] at h2 h3
  have hU := Inc.U_pos
  rcases Int.lt_or_le (Inc.sval f) (-((2 ^ 63 * Inc.U : Nat) : Int)) with hlow | hlow
  · rw [if_pos hlow] at h2
    have hw := whole_low hlow
    rw [show max lo (min hi (Inc.sval f / (Inc.U : Int))) = lo by omega]
    clear h3 hlow hw hU hf h5
    go_enter Try.func59, Try.ntmps59
    go_wp2_with (first
      | (go_at_call 72; refine (h4).mono ?_; rintro e w' ⟨rfl, rfl⟩))
    go_ret
    exact ⟨rfl, rfl⟩
  · have h2' : FloatKind.f64.format.order f 14114281232179134464 = some .gt ∨ FloatKind.f64.format.order f 14114281232179134464 = some .eq := by
      rw [if_neg (by omega)] at h2
      rw [h2]
      split <;> simp
    clear h2
    rcases Int.lt_or_le (Inc.sval f) ((2 ^ 63 * Inc.U : Nat) : Int) with hhi | hhi
    · rw [if_pos hhi] at h3
      obtain ⟨hm, hr1, hr2⟩ := whole_small hlow hhi
      have h6 := Inc.floor_ok hf hm
      generalize Ieee.double.write ((Ieee.double.read f).integral .down) = g at *
      generalize Inc.sval f / (Inc.U : Int) = n at *
      have h7 := run_convert_float_int (P := Try.prog) (w := w) 49 3 .f64 .i64 g n (by kernel_rfl) (by kernel_rfl) (by
        unfold floatToIntVal
        rw [show (FloatKind.f64.decode g).toInt .zero = some n from h6]
        simp only []
        rw [if_pos]
        exact ⟨by show (-9223372036854775808 : Int) ≤ n; omega, by show n ≤ (9223372036854775807 : Int); omega⟩)
      clear h6 hm hlow hhi hU hf
      rcases h2' with h2' | h2'
      all_goals
        go_enter Try.func59, Try.ntmps59
        go_wp2_with (first
          | (go_at_call 72; refine (h4).mono ?_; rintro e w' ⟨rfl, rfl⟩)
          | (go_at_call 73; refine (h5).mono ?_; rintro e w' ⟨rfl, rfl⟩))
        all_goals
          go_ret
          refine ⟨?_, rfl⟩
          simp
          try omega
    · have h3' : FloatKind.f64.format.order f 4890909195324358656 = some .gt ∨ FloatKind.f64.format.order f 4890909195324358656 = some .eq := by
        rw [if_neg (by omega)] at h3
        rw [h3]
        split <;> simp
      have hw := whole_high hhi
      rw [show max lo (min hi (Inc.sval f / (Inc.U : Int))) = hi by omega]
      clear h3 hlow hhi hw hU hf h5
      rcases h2' with h2' | h2' <;> rcases h3' with h3' | h3'
      all_goals
        go_enter Try.func59, Try.ntmps59
        go_wp2_with (first
          | (go_at_call 72; refine (h4).mono ?_; rintro e w' ⟨rfl, rfl⟩))
        go_ret
        exact ⟨rfl, rfl⟩

set_option maxRecDepth 100000 in
set_option maxHeartbeats 1600000 in
theorem guess_any (s : Inc.Seg) (h : Inc.SegWf s) (hc : Inc.chk s = 0) (q : Int) (hq : 0 ≤ q) (hq' : q < 18446744073709551616) (w : World) :
    Calls Try.prog 47 #[segV s, .int .u64 q] w fun e w' => e = .returned (.int .i64 (Inc.gs s q)) ∧ Below w.heap.size w w' := by
  have hck := segcheck_any s h
  rw [hc] at hck
  obtain ⟨c1, c2, c3, c4, c5⟩ := Inc.chk_fin hc
  have hf0 := h.f0
  have hf1 := h.f1
  obtain ⟨p1, p2⟩ := Inc.along_bits (s := s.slope) (b := s.icpt) (d := max q s.first - s.first) c4 (by omega) (by omega) c5
  have hfin := Inc.along_fin (s := s.slope) (b := s.icpt) (d := max q s.first - s.first) c4 (by omega) (by omega) c5
  have hal := fun w => along_f s.slope s.icpt _ _ (max q s.first - s.first) w p1 p2
  have hcl := clamp_any _ s.from_ s.till hfin c1 (by omega) c3
  rw [show max s.from_ (min s.till (Inc.sval (Inc.alongW s.slope (max q s.first - s.first) s.icpt) / (Inc.U : Int))) = Inc.gs s q from rfl] at hcl
  have e1 : IntKind.u64.wrap (max q s.first - s.first) = max q s.first - s.first := wrap_u64_id' (by omega) (by omega)
  have b1 : 0 ≤ max q s.first - s.first := by omega
  generalize Inc.gs s q = G at *
  generalize Inc.alongW s.slope (max q s.first - s.first) s.icpt = AW at *
  obtain ⟨fi, sl, ic, fr, tt⟩ := s
  simp only at *
  unfold segV at *
  simp only at *
  clear hc h p1 p2 hfin c4 c5
  go_enter Try.func47, Try.ntmps47
  go_wp2_with fail
  refine (hck _).mono ?_
  rintro e w1 ⟨rfl, hb1⟩
  have hc1 := below_cells hb1
  have k0 : w1.cell? ⟨w.heap.size, 0, none⟩ = some (.int .u64 fi) := by rw [hc1 _ _ (by rw [World.size_alloc]; omega), World.cell?_alloc_new]; rfl
  have k1 : w1.cell? ⟨w.heap.size, 1, none⟩ = some (.float .f64 sl) := by rw [hc1 _ _ (by rw [World.size_alloc]; omega), World.cell?_alloc_new]; rfl
  have k2 : w1.cell? ⟨w.heap.size, 2, none⟩ = some (.float .f64 ic) := by rw [hc1 _ _ (by rw [World.size_alloc]; omega), World.cell?_alloc_new]; rfl
  have k3 : w1.cell? ⟨w.heap.size, 3, none⟩ = some (.int .i64 fr) := by rw [hc1 _ _ (by rw [World.size_alloc]; omega), World.cell?_alloc_new]; rfl
  have k4 : w1.cell? ⟨w.heap.size, 4, none⟩ = some (.int .i64 tt) := by rw [hc1 _ _ (by rw [World.size_alloc]; omega), World.cell?_alloc_new]; rfl
  have hz1 : w.heap.size < w1.heap.size := by have := hb1.size; rw [World.size_alloc] at this; omega
  have HB1 := Lib.hid (show Below w.heap.size w w1 by (repeat (first | exact Below.refl _ _ | refine bl_alloc ?_ _ | refine bl_drew ?_ | (refine bl_set ?_ (by simp <;> omega) _) | refine bl_then ?_ (by assumption) | refine bl_cls ?_ (by assumption))))
  clear hc1 hb1 hck
  go_wp2_with fail
  refine wp_region_below (by kernel_rfl) (by kernel_rfl) ?_
  with_reducible refine q_want ?_ (fun K hK => ?_)
  · kernel_rfl
  apply Exists.intro
  constructor
  · (intro w1 hw1; have hc := hw1.cells; go_simp <;> rfl)
  go_simp; refine hK _ ?_; clear hK K
  with_reducible refine q_want ?_ (fun K hK => ?_)
  · kernel_rfl
  apply Exists.intro
  constructor
  · (intro w1 hw1; have hc := hw1.cells; go_simp <;> rfl)
  go_simp; refine hK _ ?_; clear hK K
  with_reducible refine q_want ?_ (fun K hK => ?_)
  · kernel_rfl
  apply Exists.intro
  constructor
  · (intro w1 hw1; have hc := hw1.cells; go_simp <;> rfl)
  go_simp; refine hK _ ?_; clear hK K
  with_reducible refine q_want ?_ (fun K hK => ?_)
  · kernel_rfl
  apply Exists.intro
  constructor
  · (intro w1 hw1; have hc := hw1.cells; go_simp <;> rfl)
  go_simp; refine hK _ ?_; clear hK K
  with_reducible refine q_want ?_ (fun K hK => ?_)
  · kernel_rfl
  apply Exists.intro
  constructor
  · (intro w1 hw1; have hc := hw1.cells; go_simp <;> rfl)
  go_simp; refine hK _ ?_; clear hK K
  with_reducible refine q_want ?_ (fun K hK => ?_)
  · kernel_rfl
  apply Exists.intro
  constructor
  · (intro w1 hw1; have hc := hw1.cells; go_simp <;> rfl)
  go_simp; refine hK _ ?_; clear hK K
  with_reducible refine q_want ?_ (fun K hK => ?_)
  · kernel_rfl
  apply Exists.intro
  constructor
  · (intro w1 hw1; have hc := hw1.cells; go_simp <;> rfl)
  go_simp; refine hK _ ?_; clear hK K
  with_reducible refine q_want ?_ (fun K hK => ?_)
  · kernel_rfl
  apply Exists.intro
  constructor
  · (intro w1 hw1; have hc := hw1.cells; go_simp <;> rfl)
  go_simp; refine hK _ ?_; clear hK K
  with_reducible refine q_want ?_ (fun K hK => ?_)
  · kernel_rfl
  apply Exists.intro
  constructor
  · (intro w1 hw1; have hc := hw1.cells; go_simp <;> rfl)
  go_simp; refine hK _ ?_; clear hK K
  with_reducible refine q_want ?_ (fun K hK => ?_)
  · kernel_rfl
  apply Exists.intro
  constructor
  · (intro w1 hw1; have hc := hw1.cells; go_simp <;> rfl)
  go_simp; refine hK _ ?_; clear hK K
  with_reducible refine q_want ?_ (fun K hK => ?_)
  · kernel_rfl
  apply Exists.intro
  constructor
  · (intro w1 hw1; have hc := hw1.cells; go_simp <;> rfl)
  go_simp; refine hK _ ?_; clear hK K
  with_reducible refine q_want ?_ (fun K hK => ?_)
  · kernel_rfl
  apply Exists.intro
  constructor
  · intro w1 hw1
    have hc := hw1.cells
    go_simp
    first
      | (go_at_call 60; exact quiet_call_same hw1 (hal _))
      | (go_at_call 59; exact quiet_call_same hw1 (hcl _))
  go_simp; refine hK _ ?_; clear hK K
  with_reducible refine q_want ?_ (fun K hK => ?_)
  · kernel_rfl
  apply Exists.intro
  constructor
  · (intro w1 hw1; have hc := hw1.cells; go_simp <;> rfl)
  go_simp; refine hK _ ?_; clear hK K
  with_reducible refine q_want ?_ (fun K hK => ?_)
  · kernel_rfl
  apply Exists.intro
  constructor
  · (intro w1 hw1; have hc := hw1.cells; go_simp <;> rfl)
  go_simp; refine hK _ ?_; clear hK K
  with_reducible refine q_want ?_ (fun K hK => ?_)
  · kernel_rfl
  apply Exists.intro
  constructor
  · (intro w1 hw1; have hc := hw1.cells; go_simp <;> rfl)
  go_simp; refine hK _ ?_; clear hK K
  with_reducible refine q_want ?_ (fun K hK => ?_)
  · kernel_rfl
  apply Exists.intro
  constructor
  · (intro w1 hw1; have hc := hw1.cells; go_simp <;> rfl)
  go_simp; refine hK _ ?_; clear hK K
  with_reducible refine q_want ?_ (fun K hK => ?_)
  · kernel_rfl
  apply Exists.intro
  constructor
  · intro w1 hw1
    have hc := hw1.cells
    go_simp
    first
      | (go_at_call 60; exact quiet_call_same hw1 (hal _))
      | (go_at_call 59; exact quiet_call_same hw1 (hcl _))
  go_simp; refine hK _ ?_; clear hK K
  with_reducible refine q_want ?_ (fun K hK => ?_)
  · kernel_rfl
  apply Exists.intro
  constructor
  · (intro w1 hw1; have hc := hw1.cells; go_simp <;> rfl)
  go_simp; refine hK _ ?_; clear hK K
  refine wpQuiet_nil ?_
  intro w9 hw9
  go_wp2_with fail
  go_ret
  exact ⟨rfl, bl_cls HB1.out hw9⟩
end Go.Proofs.Ytdfkgkidaffcgaa
namespace Inc
theorem gs_bound {s : Seg} (h : chk s = 0) (q : Int) : s.from_ ≤ gs s q ∧ gs s q ≤ s.till := by
  obtain ⟨c1, c2, c3, _, _⟩ := chk_fin h
  unfold gs
  omega
theorem offTo_bound {s : Seg} (h : chk s = 0) (l : List Int) : ∀ k : Nat, (k : Int) ≤ s.till - s.from_ → 0 ≤ offTo s l k ∧ offTo s l k ≤ 4294967296 := by
  obtain ⟨c1, c2, c3, _, _⟩ := chk_fin h
  intro k
  induction k with
  | zero => intro _; simp [offTo]
  | succ k ih =>
    intro hk
    have := ih (by omega)
    have := gs_bound h (l.getD k 0)
    unfold offTo
    omega
end Inc
namespace Go.Proofs.Ytdfkgkidaffcgaa
open Go.RowKit

set_option maxRecDepth 100000 in
set_option maxHeartbeats 3200000 in
theorem off_any (s : Inc.Seg) (h : Inc.SegWf s) (hc : Inc.chk s = 0) (l : List Int) (hl : (l.length : Int) = s.till - s.from_) (h0 : l.getD 0 0 = s.first) (hr : Inc.riseB l = true) (hin : ∀ i, i < l.length → 0 ≤ l.getD i 0 ∧ l.getD i 0 < 18446744073709551616) (v : Value) (w : World) (hv : URow w v l) :
    Calls Try.prog 54 #[segV s, v] w fun e w' => e = .returned (.tuple #[.int .i64 (Inc.offTo s l l.length), .int .i64 0]) ∧ Below w.heap.size w w' := by
  have hck := segcheck_any s h
  rw [hc] at hck
  obtain ⟨c1, c2, c3, c4, c5⟩ := Inc.chk_fin hc
  have hgu := fun q h1 h2 w => guess_any s h hc q h1 h2 w
  have hgb := Inc.gs_bound hc
  have hob := Inc.offTo_bound hc l
  have hoS : ∀ k, Inc.offTo s l (k + 1) = max (max (Inc.offTo s l k) (Inc.gs s (l.getD k 0) - s.from_ - k)) (-(Inc.gs s (l.getD k 0) - s.from_ - k)) := fun k => rfl
  have hris := fun w' (hb : Below w.heap.size w w') => rising_any l _ w' (by omega) (hv.below hb)
  rw [hr] at hris
  have hOz : Inc.offTo s l 0 = 0 := rfl
  generalize Inc.offTo s l = O at *
  generalize Inc.gs s = G at *
  obtain ⟨A, cap, rfl, hcell⟩ := hv
  obtain ⟨fi, sl, ic, fr, tt⟩ := s
  simp only at *
  unfold segV at *
  simp only at *
  have HC := Lib.hid hcell
  have HGB := Lib.hid hgb
  have HOB := Lib.hid hob
  have HOS := Lib.hid hoS
  have HIN := Lib.hid hin
  have HOZ := Lib.hid hOz
  obtain ⟨b, off, rfl, hb, hcl⟩ := hcell (by omega)
  have q0 := hcl 0 (by omega)
  rw [h0, Nat.add_zero] at q0
  have HH0 := Lib.hid h0
  have HL := Lib.hid hl
  have e1 : IntKind.i64.wrap (tt - fr) = tt - fr := wrap_i64_id' (by omega) (by omega)
  have e2 : decide ((l.length : Int) = tt - fr) = true := by simpa using hl
  have e2b : ((l.length : Int) != tt - fr) = false := by simpa using hl
  have e3 : 0 ≤ (0 : Int) ∧ (0 : Int) < (l.length : Int) := by omega
  have e3n : 0 < l.length := by omega
  clear hcl hcell hgb hob hoS hin hOz h0 h hc c4 c5 hl hr
  go_enter Try.func54, Try.ntmps54
  go_wp2_with fail
  refine (hck _).mono ?_
  rintro e w1 ⟨rfl, hb1⟩
  have hc1 := below_cells hb1
  have hs1 := hb1.size
  rw [World.size_alloc] at hs1
  have hz1 : w.heap.size < w1.heap.size := by omega
  have k0 : w1.cell? ⟨w.heap.size, 0, none⟩ = some (.int .u64 fi) := by rw [hc1 _ _ (by rw [World.size_alloc]; omega), World.cell?_alloc_new]; rfl
  have k3 : w1.cell? ⟨w.heap.size, 3, none⟩ = some (.int .i64 fr) := by rw [hc1 _ _ (by rw [World.size_alloc]; omega), World.cell?_alloc_new]; rfl
  have k4 : w1.cell? ⟨w.heap.size, 4, none⟩ = some (.int .i64 tt) := by rw [hc1 _ _ (by rw [World.size_alloc]; omega), World.cell?_alloc_new]; rfl
  have kq : w1.cell? ⟨b, off, none⟩ = some (.int .u64 fi) := by rw [hc1 _ _ (by rw [World.size_alloc]; omega), World.cell?_alloc_past _ _ _ hb]; exact q0
  have hb' : b < w1.heap.size := by omega
  have hbW : Below w.heap.size w w1 := by (repeat (first | exact Below.refl _ _ | refine bl_alloc ?_ _ | refine bl_drew ?_ | (refine bl_set ?_ (by simp <;> omega) _) | refine bl_then ?_ (by assumption) | refine bl_cls ?_ (by assumption)))
  have HB1 := Lib.hid hb1
  have HBW := Lib.hid hbW
  clear hc1 hb1 hck q0 hbW
  go_wp2_with fail
  refine wp_region_below (by kernel_rfl) (by kernel_rfl) ?_
  with_reducible refine q_want ?_ (fun K hK => ?_)
  · kernel_rfl
  apply Exists.intro
  constructor
  · (intro w1 hw1; have hc := hw1.cells; go_simp <;> rfl)
  go_simp; refine hK _ ?_; clear hK K
  with_reducible refine q_want ?_ (fun K hK => ?_)
  · kernel_rfl
  apply Exists.intro
  constructor
  · (intro w1 hw1; have hc := hw1.cells; go_simp <;> rfl)
  go_simp; refine hK _ ?_; clear hK K
  with_reducible refine q_want ?_ (fun K hK => ?_)
  · kernel_rfl
  apply Exists.intro
  constructor
  · (intro w1 hw1; have hc := hw1.cells; go_simp <;> rfl)
  go_simp; refine hK _ ?_; clear hK K
  with_reducible refine q_want ?_ (fun K hK => ?_)
  · kernel_rfl
  apply Exists.intro
  constructor
  · (intro w1 hw1; have hc := hw1.cells; go_simp <;> rfl)
  go_simp; refine hK _ ?_; clear hK K
  with_reducible refine q_want ?_ (fun K hK => ?_)
  · kernel_rfl
  apply Exists.intro
  constructor
  · (intro w1 hw1; have hc := hw1.cells; go_simp <;> rfl)
  go_simp; refine hK _ ?_; clear hK K
  with_reducible refine q_want ?_ (fun K hK => ?_)
  · kernel_rfl
  apply Exists.intro
  constructor
  · (intro w1 hw1; have hc := hw1.cells; go_simp <;> rfl)
  go_simp; refine hK _ ?_; clear hK K
  with_reducible refine q_want ?_ (fun K hK => ?_)
  · kernel_rfl
  apply Exists.intro
  constructor
  · (intro w1 hw1; have hc := hw1.cells; go_simp <;> rfl)
  go_simp; refine hK _ ?_; clear hK K
  with_reducible refine q_want ?_ (fun K hK => ?_)
  · kernel_rfl
  apply Exists.intro
  constructor
  · (intro w1 hw1; have hc := hw1.cells; go_simp <;> rfl)
  go_simp; refine hK _ ?_; clear hK K
  with_reducible refine q_want ?_ (fun K hK => ?_)
  · kernel_rfl
  apply Exists.intro
  constructor
  · (intro w1 hw1; have hc := hw1.cells; go_simp <;> rfl)
  go_simp; refine hK _ ?_; clear hK K
  with_reducible refine q_want ?_ (fun K hK => ?_)
  · kernel_rfl
  apply Exists.intro
  constructor
  · (intro w1 hw1; have hc := hw1.cells; go_simp <;> rfl)
  go_simp; refine hK _ ?_; clear hK K
  with_reducible refine q_want ?_ (fun K hK => ?_)
  · kernel_rfl
  apply Exists.intro
  constructor
  · (intro w1 hw1; have hc := hw1.cells; go_simp <;> rfl)
  go_simp; refine hK _ ?_; clear hK K
  with_reducible refine q_want ?_ (fun K hK => ?_)
  · kernel_rfl
  apply Exists.intro
  constructor
  · (intro w1 hw1; have hc := hw1.cells; go_simp <;> rfl)
  go_simp; refine hK _ ?_; clear hK K
  with_reducible refine q_want ?_ (fun K hK => ?_)
  · kernel_rfl
  apply Exists.intro
  constructor
  · (intro w1 hw1; have hc := hw1.cells; go_simp <;> rfl)
  go_simp; refine hK _ ?_; clear hK K
  with_reducible refine q_want ?_ (fun K hK => ?_)
  · kernel_rfl
  apply Exists.intro
  constructor
  · (intro w1 hw1; have hc := hw1.cells; go_simp <;> rfl)
  go_simp; refine hK _ ?_; clear hK K
  with_reducible refine q_want ?_ (fun K hK => ?_)
  · kernel_rfl
  apply Exists.intro
  constructor
  · (intro w1 hw1; have hc := hw1.cells; go_simp <;> rfl)
  go_simp; refine hK _ ?_; clear hK K
  with_reducible refine q_want ?_ (fun K hK => ?_)
  · kernel_rfl
  apply Exists.intro
  constructor
  · (intro w1 hw1; have hc := hw1.cells; go_simp <;> rfl)
  go_simp; refine hK _ ?_; clear hK K
  with_reducible refine q_want ?_ (fun K hK => ?_)
  · kernel_rfl
  apply Exists.intro
  constructor
  · (intro w1 hw1; have hc := hw1.cells; go_simp <;> rfl)
  go_simp; refine hK _ ?_; clear hK K
  with_reducible refine q_want ?_ (fun K hK => ?_)
  · kernel_rfl
  apply Exists.intro
  constructor
  · (intro w1 hw1; have hc := hw1.cells; go_simp <;> rfl)
  go_simp; refine hK _ ?_; clear hK K
  with_reducible refine q_want ?_ (fun K hK => ?_)
  · kernel_rfl
  apply Exists.intro
  constructor
  · intro w1 hw1
    have hc := hw1.cells
    go_simp
    first
      | (go_at_call 35; exact quiet_call hw1 (hris _ (bl_cls HBW.out hw1)))
  go_simp; refine hK _ ?_; clear hK K
  with_reducible refine q_want ?_ (fun K hK => ?_)
  · kernel_rfl
  apply Exists.intro
  constructor
  · (intro w1 hw1; have hc := hw1.cells; go_simp <;> rfl)
  go_simp; refine hK _ ?_; clear hK K
  with_reducible refine q_want ?_ (fun K hK => ?_)
  · kernel_rfl
  apply Exists.intro
  constructor
  · (intro w1 hw1; have hc := hw1.cells; go_simp <;> rfl)
  go_simp; refine hK _ ?_; clear hK K
  refine wpQuiet_nil ?_
  intro w8 hw8
  have HB8 : Aside (Below w1.heap.size w1 w8) := hw8
  have HW8 := Lib.hid (bl_cls HBW.out hw8)
  have hs8 := hw8.below.size
  have j0 := (hw8.cells w.heap.size 0 hz1).trans k0
  have j1 : w8.cell? ⟨w.heap.size, 1, none⟩ = some (.float .f64 sl) := by
    rw [hw8.cells _ _ hz1, HB1.out.cell (p := ⟨w.heap.size, 1, none⟩) (by rw [World.size_alloc]; show w.heap.size < _; omega), World.cell?_alloc_new]; rfl
  have j2 : w8.cell? ⟨w.heap.size, 2, none⟩ = some (.float .f64 ic) := by
    rw [hw8.cells _ _ hz1, HB1.out.cell (p := ⟨w.heap.size, 2, none⟩) (by rw [World.size_alloc]; show w.heap.size < _; omega), World.cell?_alloc_new]; rfl
  have j3 := (hw8.cells w.heap.size 3 hz1).trans k3
  have j4 := (hw8.cells w.heap.size 4 hz1).trans k4
  have J : Aside ((w8.cell? ⟨w.heap.size, 0, none⟩ = some (.int .u64 fi) ∧ w8.cell? ⟨w.heap.size, 1, none⟩ = some (.float .f64 sl) ∧ w8.cell? ⟨w.heap.size, 2, none⟩ = some (.float .f64 ic) ∧ w8.cell? ⟨w.heap.size, 3, none⟩ = some (.int .i64 fr) ∧ w8.cell? ⟨w.heap.size, 4, none⟩ = some (.int .i64 tt)) ∧ w.heap.size < w8.heap.size) := ⟨⟨j0, j1, j2, j3, j4⟩, by omega⟩
  clear j0 j1 j2 j3 j4 k0 k3 k4 kq hw8 hs1 hs8 hris HB1 HBW HB8 hz1 hb'
  go_wp2_with fail
  go_loopw [7, 39] (fun x y wr => ∃ k : Nat, k ≤ l.length ∧ y = .int .i64 k ∧ x = .int .i64 (O k) ∧ Below w8.heap.size w8 wr) (fun _ y _ => l.length - (intOf y).toNat)
  case atStart => exact ⟨0, by omega, rfl, by rw [HOZ.out], Below.refl _ _⟩
  case round =>
    obtain ⟨k, hk, rfl, rfl, hbel⟩ := hrel
    by_cases hlt : k < l.length
    · obtain ⟨b', off', hA, hb', hcl⟩ := HC.out (by omega)
      injection hA with hA
      injection hA with hA1 hA2 _
      subst hA1 hA2
      have hW := HW8.out
      have hWs := hW.size
      have q1 : wr.cell? ⟨b, off + k, none⟩ = some (.int .u64 (l.getD k 0)) := by
        rw [below_cells hbel _ _ (by omega), below_cells hW _ _ hb']
        exact hcl k hlt
      obtain ⟨hz8, ⟨i0, i1, i2, i3, i4⟩⟩ := And.intro J.out.2 J.out.1
      have k0 := (below_cells hbel _ 0 hz8).trans i0
      have k1 := (below_cells hbel _ 1 hz8).trans i1
      have k2 := (below_cells hbel _ 2 hz8).trans i2
      have k3 := (below_cells hbel _ 3 hz8).trans i3
      have k4 := (below_cells hbel _ 4 hz8).trans i4
      obtain ⟨n1, n2⟩ := HIN.out k hlt
      have hg := hgu (l.getD k 0) n1 n2
      obtain ⟨g1, g2⟩ := HGB.out (l.getD k 0)
      have hkl : (k : Int) < tt - fr := by have := HL.out; omega
      obtain ⟨o1, o2⟩ := HOB.out k (by omega)
      have hst := HOS.out k
      have HST := Lib.hid hst
      have hzr : w.heap.size < wr.heap.size := by have := hbel.size; omega
      have hbr : b < wr.heap.size := by have := hbel.size; omega
      have HBEL := Lib.hid hbel
      have e0 : decide ((k : Int) < (l.length : Int)) = true := by simpa using hlt
      have e0n : (k < l.length) = True := by simp; omega
      have e4 : 0 ≤ (k : Int) ∧ (k : Int) < (l.length : Int) := by omega
      have e5 : IntKind.i64.wrap ((k : Int) + 1) = ((k + 1 : Nat) : Int) := by rw [IntKind.wrap_i64]; omega
      have kb : (k : Int) ≤ 4294967296 := by omega
      clear hst hbel hcl i0 i1 i2 i3 i4 hz8 hW hWs
      generalize l.getD k 0 = key at *
      generalize G key = g at *
      generalize O k = o at *
      have e6 : IntKind.i64.wrap (g - fr) = g - fr := wrap_i64_id' (by omega) (by omega)
      have e7 : IntKind.i64.wrap (g - fr - (k : Int)) = g - fr - k := wrap_i64_id' (by omega) (by omega)
      have e8 : IntKind.i64.wrap (-(g - fr - (k : Int))) = -(g - fr - k) := wrap_i64_id' (by omega) (by omega)
      go_wp2_with fail
      refine wp_region_below (by kernel_rfl) (by kernel_rfl) ?_
      with_reducible refine q_want ?_ (fun K hK => ?_)
      · kernel_rfl
      apply Exists.intro
      constructor
      · (intro w1 hw1; have hc := hw1.cells; go_simp <;> rfl)
      go_simp; refine hK _ ?_; clear hK K
      with_reducible refine q_want ?_ (fun K hK => ?_)
      · kernel_rfl
      apply Exists.intro
      constructor
      · (intro w1 hw1; have hc := hw1.cells; go_simp <;> rfl)
      go_simp; refine hK _ ?_; clear hK K
      with_reducible refine q_want ?_ (fun K hK => ?_)
      · kernel_rfl
      apply Exists.intro
      constructor
      · intro w1 hw1
        have hc := hw1.cells
        go_simp
        first
          | (go_at_call 47; exact quiet_call hw1 (hg _))
      go_simp; refine hK _ ?_; clear hK K
      with_reducible refine q_want ?_ (fun K hK => ?_)
      · kernel_rfl
      apply Exists.intro
      constructor
      · (intro w1 hw1; have hc := hw1.cells; go_simp <;> rfl)
      go_simp; refine hK _ ?_; clear hK K
      with_reducible refine q_want ?_ (fun K hK => ?_)
      · kernel_rfl
      apply Exists.intro
      constructor
      · (intro w1 hw1; have hc := hw1.cells; go_simp <;> rfl)
      go_simp; refine hK _ ?_; clear hK K
      with_reducible refine q_want ?_ (fun K hK => ?_)
      · kernel_rfl
      apply Exists.intro
      constructor
      · (intro w1 hw1; have hc := hw1.cells; go_simp <;> rfl)
      go_simp; refine hK _ ?_; clear hK K
      with_reducible refine q_want ?_ (fun K hK => ?_)
      · kernel_rfl
      apply Exists.intro
      constructor
      · (intro w1 hw1; have hc := hw1.cells; go_simp <;> rfl)
      go_simp; refine hK _ ?_; clear hK K
      with_reducible refine q_want ?_ (fun K hK => ?_)
      · kernel_rfl
      apply Exists.intro
      constructor
      · (intro w1 hw1; have hc := hw1.cells; go_simp <;> rfl)
      go_simp; refine hK _ ?_; clear hK K
      with_reducible refine q_want ?_ (fun K hK => ?_)
      · kernel_rfl
      apply Exists.intro
      constructor
      · (intro w1 hw1; have hc := hw1.cells; go_simp <;> rfl)
      go_simp; refine hK _ ?_; clear hK K
      refine wpQuiet_nil ?_
      intro w9 hw9
      have HW9 := Lib.hid (show Below w8.heap.size w8 w9 from HBEL.out.trans (hw9.below.mono HBEL.out.size))
      clear k0 k1 k2 k3 k4 q1 hw9
      go_wp2_with fail
      refine ⟨⟨k + 1, by omega, by go_num, ?_, HW9.out⟩, by simp [intOf]; omega⟩
      rw [HST.out]
      congr 1
      (repeat' split) <;> omega
    · obtain rfl : k = l.length := by omega
      have e0n : (l.length < l.length) = False := by simp
      go_wp2_with fail
      go_ret2
      exact ⟨rfl, bl_then HW8.out hbel⟩
end Go.Proofs.Ytdfkgkidaffcgaa
namespace Inc
theorem maxH_bound {eps : Int} (h : 2 ≤ eps) : ∀ (k : Nat) (n : Int), n ≤ k → 0 ≤ n → (maxH eps n : Int) ≤ n := by
  intro k
  induction k with
  | zero =>
    intro n hn h0
    have : maxH eps n = 0 := by unfold maxH; rw [if_pos (by left; omega)]
    omega
  | succ k ih =>
    intro n hn h0
    unfold maxH
    split
    · omega
    · split
      · omega
      · have h1 : n / eps * 2 ≤ n := div_half h h0
        have h2 : 0 ≤ n / eps := Int.ediv_nonneg h0 (by omega)
        have := ih (n / eps + 1) (by omega) (by omega)
        omega
end Inc
namespace Go.Proofs.Ytdfkgkidaffcgaa
open Go.RowKit

set_option maxRecDepth 100000 in
theorem maxHeight_any (eps : Int) (he : 2 ≤ eps) (he' : eps ≤ 64) (k : Nat) : ∀ (n : Int) (w : World), n ≤ k → 1 ≤ n → n ≤ 4294967296 →
    Calls Try.prog 51 #[.int .i64 n, .int .i64 eps] w fun e w' => e = .returned (.int .i64 (Inc.maxH eps n)) ∧ w = w' := by
  induction k with
  | zero => intro n w h1 h2 _; omega
  | succ k ih =>
    intro n w hk h1 h2
    have d1 : decide (n < 1) = false := by simp; omega
    have d2 : decide (eps < 2) = false := by simp; omega
    have d3 : decide (64 < eps) = false := by simp; omega
    have e1 : IntKind.i64.wrap (2 * eps) = 2 * eps := wrap_i64_id' (by omega) (by omega)
    have e2 : IntKind.i64.wrap (2 * eps - 1) = 2 * eps - 1 := wrap_i64_id' (by omega) (by omega)
    by_cases hn : n ≤ 2 * eps - 1
    · have d4 : decide (n ≤ 2 * eps - 1) = true := by simpa using hn
      rw [show Inc.maxH eps n = 1 by unfold Inc.maxH; rw [if_neg (by omega), if_pos hn]]
      go_enter Try.func51, Try.ntmps51
      go_wp2_with fail
      go_ret
      exact ⟨rfl, rfl⟩
    · have d4 : decide (n ≤ 2 * eps - 1) = false := by simpa using hn
      have hdiv := Inc.div_half he (show 0 ≤ n by omega)
      have hd0 : 0 ≤ n / eps := Int.ediv_nonneg (by omega) (by omega)
      have hih := ih (n / eps + 1) w (by omega) (by omega) (by omega)
      have hm : Inc.maxH eps n = 1 + Inc.maxH eps (n / eps + 1) := by rw [Inc.maxH]; rw [if_neg (by omega), if_neg hn]
      have hM : Inc.maxH eps (n / eps + 1) ≤ 4294967296 := by have := Inc.maxH_bound he _ (n / eps + 1) (Int.self_le_toNat _) (by omega); omega
      rw [hm]
      generalize Inc.maxH eps (n / eps + 1) = M at *
      go_enter Try.func51, Try.ntmps51
      go_wp2_with fail
      refine hih.mono ?_
      rintro e w' ⟨rfl, rfl⟩
      go_wp2_with fail
      go_ret
      exact ⟨by simp, rfl⟩

/-- what must gives up with -/
def gaveUp (c : Int) : List PanicEntry := [{ v := .iface 93 (.agg #[.int .i64 c]), recovered := false }]

theorem must_true (c : Int) (w : World) : Calls Try.prog 50 #[.bool true, .int .i64 c] w fun e w' => e = .returned (.tuple #[]) ∧ w = w' := by
  go_enter Try.func50, Try.ntmps50
  go_wp2_with fail
  go_end0
  exact ⟨rfl, rfl⟩

theorem must_false (c : Int) (w : World) : Calls Try.prog 50 #[.bool false, .int .i64 c] w fun e w' => e = .panicked (gaveUp c) ∧ w = w' := by
  go_enter Try.func50, Try.ntmps50
  go_wp2_with fail
  exact ⟨rfl, rfl, rfl⟩

/-- it goes on, or gives up with that code -/
def Musts (b : Bool) (c : Int) (W : World) (e : Ending) (w' : World) : Prop :=
  (b = true → e = .returned (.tuple #[])) ∧ (b = false → e = .panicked (gaveUp c)) ∧ Below W.heap.size W w'

theorem Musts.yes {b : Bool} {c : Int} {W w' : World} (h : b = true) (hb : Below W.heap.size W w') : Musts b c W (.returned (.tuple #[])) w' :=
  ⟨fun _ => rfl, (fun h' => by rw [h] at h'; cases h'), hb⟩
theorem Musts.no {b : Bool} {c : Int} {W w' : World} (h : b = false) (hb : Below W.heap.size W w') : Musts b c W (.panicked (gaveUp c)) w' :=
  ⟨(fun h' => by rw [h] at h'; cases h'), fun _ => rfl, hb⟩

theorem tile_step (a : Int) (ss : List Inc.Seg) (n : Int) {k : Nat} {s : Inc.Seg} (h : ss[k]? = some s) : Inc.tileB a (ss.drop k) n = (decide (s.from_ = a) && decide (a < s.till) && decide (s.till ≤ n) && Inc.tileB s.till (ss.drop (k + 1)) n) := by
  have hk : k < ss.length := (List.getElem?_eq_some_iff.1 h).1
  rw [List.drop_eq_getElem_cons hk, (List.getElem?_eq_some_iff.1 h).2]
  rfl

set_option maxRecDepth 100000 in
set_option maxHeartbeats 3200000 in
theorem tiles_any (ss : List Inc.Seg) (hl : ss.length ≤ 4294967296) (hw : ∀ s ∈ ss, Inc.SegWf s) (n : Int) (v : Value) (w : World) (h : SRow w v ss) :
    Calls Try.prog 52 #[v, .int .i64 n] w (Musts (Inc.tileB 0 ss n) 82 w) := by
  have HR := Lib.hid h
  obtain ⟨_, A, cap, rfl, _, _, _⟩ := h
  go_enter Try.func52, Try.ntmps52
  go_wp2_with fail
  go_loopw [4, 9] (fun x y wr => ∃ (k : Nat) (a : Int), k ≤ ss.length ∧ y = .int .i64 k ∧ x = .int .i64 a ∧ -9223372036854775808 ≤ a ∧ a ≤ 9223372036854775807 ∧ Inc.tileB 0 ss n = Inc.tileB a (ss.drop k) n ∧ Below w.heap.size w wr) (fun _ y _ => ss.length - (intOf y).toNat)
  case atStart => exact ⟨0, 0, by omega, rfl, rfl, by omega, by omega, rfl, Below.refl _ _⟩
  case round =>
    obtain ⟨k, a, hk, rfl, rfl, ha, ha', htile, hbel⟩ := hrel
    by_cases hlt : k < ss.length
    · obtain ⟨s, hs⟩ : ∃ s, ss[k]? = some s := ⟨_, List.getElem?_eq_getElem hlt⟩
      have hst := tile_step a ss n hs
      have hwf := hw s (List.mem_of_getElem? hs)
      obtain ⟨b, off, cap', he, hb, c0, c1, c2, c3, c4⟩ := SRow.at_ (Row.below HR.out hbel) hs
      injection he with he _ hec
      subst he hec
      have e0n : (k < ss.length) = True := by simp; omega
      have e4 : 0 ≤ (k : Int) ∧ (k : Int) < (ss.length : Int) := by omega
      have e5 : IntKind.i64.wrap ((k : Int) + 1) = ((k + 1 : Nat) : Int) := by rw [IntKind.wrap_i64]; omega
      have HT := Lib.hid (htile.trans hst)
      have HBEL := Lib.hid hbel
      obtain ⟨_, _, _, _, a0, a1, b0, b1⟩ := hwf
      obtain ⟨fi, sl, ic, fr, tt⟩ := s
      simp only at *
      clear hst htile hs hbel
      have mt := must_true 82
      have mf := must_false 82
      generalize Inc.tileB 0 ss n = TB at *
      by_cases t1 : fr = a
      · by_cases t2 : a < tt
        · by_cases t3 : tt ≤ n
          · have d1 : decide (fr = a) = true := by simpa using t1
            have d1b : (fr == a) = true := by simpa using t1
            have d2 : decide (a < tt) = true := by simpa using t2
            have d3 : decide (tt ≤ n) = true := by simpa using t3
            have ht2 : TB = Inc.tileB tt (ss.drop (k + 1)) n := by have := HT.out; rw [d1, d2, d3] at this; simpa using this
            have HT2 := Lib.hid ht2
            clear HT t1 mf ht2
            go_wp2_with fail
            refine (mt _).mono ?_
            rintro e w' ⟨rfl, rfl⟩
            go_wp2_with fail
            exact ⟨⟨k + 1, tt, by omega, by go_num, rfl, b0, b1, HT2.out, bl_alloc HBEL.out _⟩, by simp [intOf]; omega⟩
          · have d1 : decide (fr = a) = true := by simpa using t1
            have d1b : (fr == a) = true := by simpa using t1
            have d2 : decide (a < tt) = true := by simpa using t2
            have d3 : decide (tt ≤ n) = false := by simpa using t3
            have ht2 : TB = false := by have := HT.out; rw [d1, d2, d3] at this; simpa using this
            have HT2 := Lib.hid ht2
            clear HT t1 mt ht2
            go_wp2_with fail
            refine (mf _).mono ?_
            rintro e w' ⟨rfl, rfl⟩
            go_wp2_with fail
            exact ⟨rfl, Musts.no HT2.out (bl_alloc HBEL.out _)⟩
        · have d1 : decide (fr = a) = true := by simpa using t1
          have d1b : (fr == a) = true := by simpa using t1
          have d2 : decide (a < tt) = false := by simpa using t2
          have ht2 : TB = false := by have := HT.out; rw [d1, d2] at this; simpa using this
          have HT2 := Lib.hid ht2
          clear HT t1 mt ht2
          go_wp2_with fail
          refine (mf _).mono ?_
          rintro e w' ⟨rfl, rfl⟩
          go_wp2_with fail
          exact ⟨rfl, Musts.no HT2.out (bl_alloc HBEL.out _)⟩
      · have d1 : decide (fr = a) = false := by simpa using t1
        have d1b : (fr == a) = false := by simpa using t1
        have ht2 : TB = false := by have := HT.out; rw [d1] at this; simpa using this
        have HT2 := Lib.hid ht2
        clear HT mt ht2
        go_wp2_with fail
        refine (mf _).mono ?_
        rintro e w' ⟨rfl, rfl⟩
        go_wp2_with fail
        exact ⟨rfl, Musts.no HT2.out (bl_alloc HBEL.out _)⟩
    · obtain rfl : k = ss.length := by omega
      have e0n : (ss.length < ss.length) = False := by simp
      have mt := must_true 82
      have mf := must_false 82
      rw [List.drop_length] at htile
      have ht0 : Inc.tileB a [] n = decide (a = n) := rfl
      rw [ht0] at htile
      generalize Inc.tileB 0 ss n = TB at *
      by_cases t1 : a = n
      · have d1 : decide (a = n) = true := by simpa using t1
        have d1b : (a == n) = true := by simpa using t1
        have ht2 : TB = true := by rw [htile, d1]
        have HT2 := Lib.hid ht2
        have HBEL := Lib.hid hbel
        clear htile t1 ht2 mf hbel
        go_wp2_with fail
        refine (mt _).mono ?_
        rintro e w' ⟨rfl, rfl⟩
        go_wp2_with fail
        go_end0
        exact Musts.yes HT2.out HBEL.out
      · have d1 : decide (a = n) = false := by simpa using t1
        have d1b : (a == n) = false := by simpa using t1
        have ht2 : TB = false := by rw [htile, d1]
        have HT2 := Lib.hid ht2
        have HBEL := Lib.hid hbel
        clear htile t1 ht2 mt hbel
        go_wp2_with fail
        refine (mf _).mono ?_
        rintro e w' ⟨rfl, rfl⟩
        go_wp2_with fail
        exact ⟨rfl, Musts.no HT2.out HBEL.out⟩
end Go.Proofs.Ytdfkgkidaffcgaa
