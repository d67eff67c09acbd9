/- Walk: cut.Ends. A level over keys: the segments of their stretches. Memory: segments filled in one by one. Walk: levels.over. Levels over keys: how they are built; how many there are. Plain mathematics. Walk: levels.Build. Walks: keys.Check of entries. Walk: keys.Check. -/
import Derived.Deep.DeepCutAuto
import Derived.Deep.CutBlock
import Derived.Deep.AppendLies
import Derived.Deep.LoopGhost
import Derived.LoopTactic
import Derived.Test.YtdfkgkidaffcgaaJ14
set_option linter.all false
namespace Go.Proofs.Ytdfkgkidaffcgaa
open Go.RowKit

theorem info_int : (Try.prog.info? 3).map (fun i => (i.zero, i.size, i.bytes)) = some (some (.int .i64 0), 1, 8) := by kernel_rfl

set_option maxRecDepth 100000 in
set_option maxHeartbeats 3200000 in
theorem ends_any (eps : Int) (he : 2 ≤ eps) (he' : eps ≤ 64) (ks : List Int) (hin : Inc.KeysIn ks) (hr : Inc.riseB ks = true) (v : Value) (w : World) (h : URow w v ks) :
    Calls Try.prog 45 #[v, .int .i64 eps] w fun ed w' => ∃ es u, Inc.Greedy (eps - 1) ks 0 es ks.length ∧ ed = .returned (.tuple #[u, .int .i64 0]) ∧ w'.ownsRow w.heap.size 3 1 u es.length (natRow es) ∧ Below w.heap.size w w' := by
  obtain ⟨i0, hi, hq0, hq1, hq2⟩ := info_parts info_int
  have hris := fun w' (hb : Below w.heap.size w w') => rising_any ks _ w' (by have := hin.len; omega) (h.below hb)
  rw [hr] at hris
  obtain ⟨A, cap, rfl, hc⟩ := h
  have HC := Lib.hid hc
  clear hc
  have HR := Lib.hid hr
  clear hr
  go_enter Try.func45, Try.ntmps45
  go_wp2
  go_step3
  go_wp2_with (first
    | (go_at_call 55; refine (hnew_any eps he he' _).mono ?_; rintro e w' ⟨rfl, rfl⟩)
    | (go_at_call 35; refine (hris _ (by (repeat (first | exact Below.refl _ _ | refine bl_alloc ?_ _ | refine bl_drew ?_ | (refine bl_set ?_ (by simp <;> omega) _) | refine bl_then ?_ (by assumption) | refine bl_cls ?_ (by assumption))))).mono ?_; rintro e w1 ⟨rfl, hb1⟩))
  go_step3
  go_wp2_with fail
  have hst : EndSt w (eps - 1) ks [] 0 0 w.heap.size (.slice none 0 0) w1 := by
    have hs := hb1.size
    rw [World.size_alloc] at hs
    refine ⟨rfl, fun _ => ⟨Inc.Fit.new, .slice none 0 0, .slice none 0 0, rfl, FitAt.new w (eps - 1) w.heap.size w1 (by rw [← World.size_alloc]; exact hb1)⟩, Nat.le_refl _, World.ownsRow_nil _ _ _ _, ?_⟩
    exact Below.trans ((Below.refl _ _).alloc (Nat.le_refl _) _) (hb1.mono (by rw [World.size_alloc]; omega))
  clear hb1 hris
  have HST := Lib.hid hst
  clear hst
  go_loopg [6, 8, 9] (ks.length) (fun g s6 s8 s9 wx => ∃ (es : List Nat) (a fb : Nat), a + g = ks.length ∧ s6 = .pointer (some ⟨fb, 0, none⟩) ∧ s9 = .int .i64 a ∧ Aside (EndSt w (eps - 1) ks es a a fb s8 wx))
  case atStart => exact ⟨[], 0, w.heap.size, by omega, rfl, rfl, HST.out⟩
  case round =>
    clear HST
    obtain ⟨es, a, fb, hag, rfl, rfl, HI⟩ := hrel
    cases gk with
    | zero =>
      obtain rfl : a = ks.length := by omega
      have e0 : decide ((ks.length : Int) < (ks.length : Int)) = false := by simp
      have HI' := HI.out
      go_wp2_with fail
      rw [Exit.noGoto_ret]
      go_ret2
      exact ⟨es, u8, HI'.gr, rfl, HI'.row, HI'.bel⟩
    | succ g =>
      have e0 : decide ((a : Int) < (ks.length : Int)) = true := by simp; omega
      have e0n : (a < ks.length) = True := by simp; omega
      go_wp2_with fail
      go_loopg [6, 8, 9, 10] (ks.length - a) (fun g' s6 s8 s9 s10 wx => ∃ (i : Nat), i + g' = ks.length ∧ a ≤ i ∧ s6 = .pointer (some ⟨fb, 0, none⟩) ∧ s8 = u8 ∧ s9 = .int .i64 a ∧ s10 = .int .i64 i ∧ Aside (EndSt w (eps - 1) ks es a i fb u8 wx))
      case atStart => exact ⟨a, by omega, Nat.le_refl _, rfl, rfl, rfl, rfl, HI⟩
      case round =>
        clear HI
        obtain ⟨i, hig, hai, rfl, rfl, rfl, rfl, HI⟩ := hrel
        cases gk with
        | zero =>
          obtain rfl : i = ks.length := by omega
          have hl := hin.len
          have hlen := HI.out.gr.len
          have hsz := HI.out.bel.size
          have e1 : decide ((ks.length : Int) < (ks.length : Int)) = false := by simp
          go_wp2_with (first
            | (at_builtin; go_must (refine wpList_append_lies _ rfl _ _ 85 rfl w.heap.size 3 i0 (.int .i64 0) 1 8 Try.underlying85 hi hq0 hq1 hq2 rfl (by decide) u8 es.length (natRow es) rfl (HI.out.row.alloc _) ⟨_, 0, none⟩ 1 1 [.int .i64 (ks.length : Int)] rfl rfl (one_new _ _ _) (by simp [Value.oneCell']) (by decide) (by unfold maxLen; omega) (by omega) (by simp; omega) _ rfl ?_)))
          intro g2 cap2 w3 hown3 hgrow3 hwhere3 hlt3
          have hnx := HI.out.last (by omega) hown3 hgrow3
          have HNX : Aside (EndSt w (eps - 1) ks (es ++ [ks.length]) ks.length ks.length fb (.slice (some ⟨g2, 0, none⟩) (es.length + 1) cap2) w3) := hnx
          clear hnx hown3 hgrow3 hwhere3 hlt3 HI
          go_wp2_with fail
          go_roundg 0
          case measure => omega
          case rel => exact ⟨es ++ [ks.length], ks.length, fb, by omega, rfl, rfl, HNX⟩
        | succ g' =>
          have hl := hin.len
          obtain ⟨b, off, rfl, hb, hcell⟩ := HC.out (by omega)
          have hadd := HI.out.add (by omega) (by omega) hin (Inc.rise_lt HR.out) hai (by omega)
          have c1 := (below_cells HI.out.bel b (off + i) hb).trans (hcell i (by omega))
          have hz1 : b < wr.heap.size := by have := HI.out.bel.size; omega
          have e1 : decide ((i : Int) < (ks.length : Int)) = true := by simp; omega
          have e2 : 0 ≤ (i : Int) ∧ (i : Int) < (ks.length : Int) := by omega
          have e3 : IntKind.i64.wrap ((i : Int) + 1) = ((i + 1 : Nat) : Int) := by rw [IntKind.wrap_i64]; omega
          clear hcell HI
          generalize ks.getD i 0 = key at *
          go_wp2_with fail
          refine hadd.mono ?_
          rintro ed w2 (⟨hnone, rfl, hz2, hst2⟩ | ⟨rfl, hz2, hst2⟩)
          · have HI2 := Lib.hid hst2
            have hlti := lt_of_none hai hnone
            have HN := Lib.hid hnone
            clear hst2 hnone
            have hlen := HI2.out.gr.len
            have hsz := HI2.out.bel.size
            go_wp2_with (first
              | (go_at_call 55; refine (hnew_any eps he he' _).mono ?_; rintro e w' ⟨rfl, rfl⟩)
              | (at_builtin; go_must (refine wpList_append_lies _ rfl _ _ 85 rfl w.heap.size 3 i0 (.int .i64 0) 1 8 Try.underlying85 hi hq0 hq1 hq2 rfl (by decide) u8 es.length (natRow es) rfl ((HI2.out.row.alloc _).alloc _) ⟨_, 0, none⟩ 1 1 [.int .i64 (i : Int)] rfl rfl (one_new2 _ _ _ _) (by simp [Value.oneCell']) (by decide) (by unfold maxLen; omega) (by omega) (by simp; omega) _ rfl ?_)))
            intro g2 cap2 w3 hown3 hgrow3 hwhere3 hlt3
            have hnx := HI2.out.next hai (by omega) HN.out hown3 hgrow3
            have HNX : Aside (EndSt w (eps - 1) ks (es ++ [i]) i i w2.heap.size (.slice (some ⟨g2, 0, none⟩) (es.length + 1) cap2) w3) := hnx
            clear hnx hown3 hgrow3 hwhere3 hlt3 HI2
            go_wp2_with fail
            go_roundg (ks.length - i)
            case measure => omega
            case rel => exact ⟨es ++ [i], i, w2.heap.size, by omega, rfl, rfl, HNX⟩
          · have HI2 : Aside (EndSt w (eps - 1) ks es a (i + 1) fb u8 w2) := hst2
            clear hst2
            go_wp2_with fail
            go_roundg g'
            case measure => omega
            case rel => exact ⟨i + 1, by omega, by omega, rfl, rfl, rfl, by go_num, HI2⟩
end Go.Proofs.Ytdfkgkidaffcgaa
namespace Inc
/-- the keys of a stretch -/
def stretch (ks : List Int) (a n : Nat) : List Int := (ks.drop a).take (n - a)
/-- the fit of all keys -/
def fitD (e : Int) (ks : List Int) : Fit := (fitTo e ks ks.length).getD Fit.new
/-- the segments of stretches that end there -/
def levelOf (e : Int) (ks : List Int) : Nat → List Nat → List Seg
  | _, [] => []
  | a, n :: t => segOf e (stretch ks a n) (fitD e (stretch ks a n)) a :: levelOf e ks n t

/-- where the k-th stretch begins -/
def beg (a : Nat) (es : List Nat) : Nat → Nat
  | 0 => a
  | k + 1 => es.getD k 0

theorem levelOf_len (e : Int) (ks : List Int) : ∀ (es : List Nat) (a : Nat), (levelOf e ks a es).length = es.length := by
  intro es
  induction es with
  | nil => intro a; rfl
  | cons n t ih => intro a; simp [levelOf, ih]

theorem levelOf_get (e : Int) (ks : List Int) : ∀ (es : List Nat) (a k : Nat), k < es.length → (levelOf e ks a es)[k]? = some (segOf e (stretch ks (beg a es k) (es.getD k 0)) (fitD e (stretch ks (beg a es k) (es.getD k 0))) (beg a es k : Nat)) := by
  intro es
  induction es with
  | nil => intro a k h; simp at h
  | cons n t ih =>
    intro a k h
    cases k with
    | zero => rfl
    | succ k =>
      simp only [levelOf, List.getElem?_cons_succ]
      rw [ih n k (by simpa using h)]
      have : beg n t k = beg a (n :: t) (k + 1) := by cases k <;> rfl
      rw [this]
      rfl

theorem fitTo_take (e : Int) (ks : List Int) (m : Nat) : ∀ k, k ≤ m → fitTo e (ks.take m) k = fitTo e ks k := by
  intro k
  induction k with
  | zero => intro _; rfl
  | succ k ih =>
    intro h
    unfold fitTo
    rw [ih (by omega), K_take (by omega)]

theorem Greedy.at_ {e : Int} {ks : List Int} : ∀ {es : List Nat} {a b k : Nat}, Greedy e ks a es b → k < es.length →
    beg a es k < es.getD k 0 ∧ es.getD k 0 ≤ ks.length ∧ (∃ F, fitTo e (ks.drop (beg a es k)) (es.getD k 0 - beg a es k) = some F) ∧ (es.getD k 0 < ks.length → fitTo e (ks.drop (beg a es k)) (es.getD k 0 - beg a es k + 1) = none) := by
  intro es
  induction es with
  | nil => intro a b k _ h; simp at h
  | cons n t ih =>
    intro a b k h hk
    cases k with
    | zero => exact ⟨h.1, h.2.1, h.2.2.1, h.2.2.2.1⟩
    | succ k =>
      have := ih h.2.2.2.2 (by simpa using hk : k < t.length)
      have e1 : beg n t k = beg a (n :: t) (k + 1) := by cases k <;> rfl
      rw [e1] at this
      exact this

theorem stretch_len {ks : List Int} {a n : Nat} (h : a ≤ n) (h' : n ≤ ks.length) : (stretch ks a n).length = n - a := by
  unfold stretch; simp; omega

theorem Greedy.fit {e : Int} {ks : List Int} {es : List Nat} {a b k : Nat} (h : Greedy e ks a es b) (hk : k < es.length) :
    fitTo e (stretch ks (beg a es k) (es.getD k 0)) (stretch ks (beg a es k) (es.getD k 0)).length = some (fitD e (stretch ks (beg a es k) (es.getD k 0))) := by
  obtain ⟨h1, h2, ⟨F, hF⟩, _⟩ := h.at_ hk
  have hl := stretch_len (Nat.le_of_lt h1) h2
  have : fitTo e (stretch ks (beg a es k) (es.getD k 0)) (stretch ks (beg a es k) (es.getD k 0)).length = some F := by
    rw [hl]
    unfold stretch
    rw [fitTo_take _ _ _ _ (Nat.le_refl _), hF]
  unfold fitD
  rw [this]
  rfl
end Inc
namespace Go.Proofs.Ytdfkgkidaffcgaa
open Go.RowKit

theorem info_seg : (Try.prog.info? 51).map (fun i => (i.zero, i.size, i.bytes)) = some (some (.agg #[.int .u64 0, .float .f64 0, .float .f64 0, .int .i64 0, .int .i64 0]), 5, 40) := by kernel_rfl

def zeroSeg : Inc.Seg := ⟨0, 0, 0, 0, 0⟩
theorem madeCells_seg (n : Nat) : madeCells #[.int .u64 0, .float .f64 0, .float .f64 0, .int .i64 0, .int .i64 0] (n * 5) = (segVals (List.replicate n zeroSeg)).toArray := by
  apply Array.ext'
  apply List.ext_getElem?
  intro j
  have hl := segVals_len (List.replicate n zeroSeg)
  rw [List.length_replicate] at hl
  rcases Nat.lt_or_ge j (n * 5) with hj | hj
  · have h1 := segVals_get (ss := List.replicate n zeroSeg) (i := j / 5) (s := zeroSeg) (by rw [List.getElem?_replicate, if_pos (by omega)]) (j := j % 5) (Nat.mod_lt _ (by omega))
    rw [show j / 5 * 5 + j % 5 = j by omega] at h1
    have h2 : (segVals (List.replicate n zeroSeg))[j]? = some ((segVals (List.replicate n zeroSeg)).getD j undef) := by
      rw [List.getElem?_eq_getElem (by omega), List.getD_eq_getElem?_getD, List.getElem?_eq_getElem (by omega)]; rfl
    show _ = (segVals (List.replicate n zeroSeg))[j]?
    rw [h2, h1]
    simp only [madeCells, Array.getElem?_toList, Array.getElem?_map, Array.getElem?_range, hj, if_true, Option.map_some]
    have h3 := Nat.mod_lt j (show 0 < 5 by omega)
    show some (#[Value.int .u64 0, .float .f64 0, .float .f64 0, .int .i64 0, .int .i64 0][j % 5]!) = _
    generalize j % 5 = r at *
    have : r = 0 ∨ r = 1 ∨ r = 2 ∨ r = 3 ∨ r = 4 := by omega
    rcases this with rfl | rfl | rfl | rfl | rfl <;> rfl
  · rw [List.getElem?_eq_none (by simp [madeCells]; omega)]
    show none = (segVals (List.replicate n zeroSeg))[j]?
    rw [List.getElem?_eq_none (by omega)]

theorem make_seg (n : Nat) (hn : n ≤ 4294967296) (w : World) : (Instr.makeSlice 67 (.int .i64 (n : Int)) (.int .i64 (n : Int))).run Try.prog w = .ok (.slice (some ⟨w.heap.size, 0, none⟩) n n) (w.alloc (.cells (segVals (List.replicate n zeroSeg)).toArray 51)) := by
  obtain ⟨i0, hi, hz, h1, h2⟩ := info_parts info_seg
  have := make_eq (P := Try.prog) 67 51 i0 (.agg #[.int .u64 0, .float .f64 0, .float .f64 0, .int .i64 0, .int .i64 0]) 5 40 Try.underlying67 hi hz h1 h2 n (by omega) (by omega) w
  rw [show (Value.agg #[.int .u64 0, .float .f64 0, .float .f64 0, .int .i64 0, .int .i64 0]).cells = #[.int .u64 0, .float .f64 0, .float .f64 0, .int .i64 0, .int .i64 0] from rfl, madeCells_seg] at this
  exact this

/-- the segments laid so far, empty ones behind them -/
def laidSegs (ss : List Inc.Seg) (k : Nat) : List Inc.Seg := ss.take k ++ List.replicate (ss.length - k) zeroSeg
theorem laidSegs_len (ss : List Inc.Seg) {k : Nat} (h : k ≤ ss.length) : (laidSegs ss k).length = ss.length := by simp [laidSegs]; omega
theorem laidSegs_none (ss : List Inc.Seg) : laidSegs ss 0 = List.replicate ss.length zeroSeg := by simp [laidSegs]
theorem laidSegs_all (ss : List Inc.Seg) : laidSegs ss ss.length = ss := by simp [laidSegs]
theorem laidSegs_step (ss : List Inc.Seg) {k : Nat} {s : Inc.Seg} (h : ss[k]? = some s) : (laidSegs ss k).set k s = laidSegs ss (k + 1) := by
  have hk : k < ss.length := (List.getElem?_eq_some_iff.1 h).1
  apply List.ext_getElem?
  intro j
  rw [List.getElem?_set, laidSegs_len _ (by omega)]
  unfold laidSegs
  have hl : (ss.take k).length = k := by simp; omega
  have hl2 : (ss.take (k + 1)).length = k + 1 := by simp; omega
  rcases Nat.lt_trichotomy j k with hj | rfl | hj
  · rw [if_neg (by omega), List.getElem?_append_left (by omega), List.getElem?_append_left (by omega)]
    simp [hj, Nat.lt_succ_of_lt hj]
  · rw [if_pos rfl, if_pos hk, List.getElem?_append_left (by omega), List.getElem?_take, if_pos (by omega), h]
  · rw [if_neg (by omega), List.getElem?_append_right (by omega), List.getElem?_append_right (by omega), hl, hl2]
    simp only [List.getElem?_replicate]
    rcases Nat.lt_or_ge j ss.length with hj2 | hj2
    · rw [if_pos (by omega), if_pos (by omega)]
    · rw [if_neg (by omega), if_neg (by omega)]

/-- five stores lay a segment -/
theorem segVals_set (l : List Inc.Seg) (k : Nat) (s : Inc.Seg) (hk : k < l.length) :
    (((((segVals l).set (k * 5) (.int .u64 s.first)).set (k * 5 + 1) (.float .f64 s.slope)).set (k * 5 + 2) (.float .f64 s.icpt)).set (k * 5 + 3) (.int .i64 s.from_)).set (k * 5 + 4) (.int .i64 s.till) = segVals (l.set k s) := by
  induction l generalizing k with
  | nil => simp at hk
  | cons a t ih =>
    cases k with
    | zero => simp [segVals, segCells]
    | succ k =>
      have := ih k (by simpa using hk)
      have e : ∀ j, (k + 1) * 5 + j = (k * 5 + j) + 5 := fun j => by omega
      rw [show (k + 1) * 5 = k * 5 + 5 by omega]
      rw [show k * 5 + 5 + 1 = (k * 5 + 1) + 5 by omega, show k * 5 + 5 + 2 = (k * 5 + 2) + 5 by omega, show k * 5 + 5 + 3 = (k * 5 + 3) + 5 by omega, show k * 5 + 5 + 4 = (k * 5 + 4) + 5 by omega]
      simp only [List.set_cons_succ]
      show (((((segCells a ++ segVals t).set (k * 5 + 5) _).set (k * 5 + 1 + 5) _).set (k * 5 + 2 + 5) _).set (k * 5 + 3 + 5) _).set (k * 5 + 4 + 5) _ = segCells a ++ segVals (t.set k s)
      rw [← this]
      simp [segCells]

end Go.Proofs.Ytdfkgkidaffcgaa
namespace Inc
theorem KeysIn.stretch {ks : List Int} (h : KeysIn ks) (a n : Nat) : KeysIn (stretch ks a n) := (h.drop a).take _
theorem riseB_iff {ks : List Int} : riseB ks = true ↔ Rise ks := ⟨fun h => rise_lt h, fun h => rise_of h⟩
theorem Rise.stretch {ks : List Int} (h : Rise ks) (a n : Nat) : Rise (stretch ks a n) := by
  intro i j hij hj
  unfold Inc.stretch at hj ⊢
  have hl : j < n - a := by simp at hj; omega
  rw [K_take (by omega), K_take (by omega)]
  have := (h.drop a) i j hij (by simp at hj; simp; omega)
  exact this
end Inc
namespace Go.Proofs.Ytdfkgkidaffcgaa
open Go.RowKit

set_option maxRecDepth 100000 in
set_option maxHeartbeats 3200000 in
theorem over_any (eps : Int) (he : 2 ≤ eps) (he' : eps ≤ 64) (ks : List Int) (hin : Inc.KeysIn ks) (hl : ks.length ≤ 4294967296) (hr : Inc.riseB ks = true) (v : Value) (w : World) (h : KRow w v ks) :
    Calls Try.prog 36 #[v, .int .i64 eps] w fun ed w' => ∃ es u, Inc.Greedy (eps - 1) ks 0 es ks.length ∧ ed = .returned u ∧ w'.ownsRow w.heap.size 51 5 u es.length (segVals (Inc.levelOf (eps - 1) ks 0 es)) ∧ Below w.heap.size w w' := by
  have hends := ends_any eps he he' ks hin hr v w h.keys
  have HR := Lib.hid h
  obtain ⟨hxl, A, cap, rfl, hca, hcm, _⟩ := h
  clear hxl
  go_enter Try.func36, Try.ntmps36
  go_wp2_with fail
  refine hends.mono ?_
  rintro ed w1 ⟨es, u, hgr, rfl, hown, hb1⟩
  have HG := Lib.hid hgr
  have hgl := hgr.len
  have HO := Lib.hid (Row.own hown)
  have HB := Lib.hid hb1
  have hes : es.length ≤ 4294967296 := by omega
  have hmk := make_seg es.length hes
  obtain ⟨hol, A2, cap2, rfl, _⟩ := Row.own hown
  clear hol hown hb1 hgr
  go_wp2_with fail
  have hl2 : (Inc.levelOf (eps - 1) ks 0 es).length = es.length := Inc.levelOf_len _ _ _ _
  have hb0 : Blk (w1.alloc (.cells (segVals (List.replicate es.length zeroSeg)).toArray 51)) w1.heap.size 51 (segVals (laidSegs (Inc.levelOf (eps - 1) ks 0 es) 0)) := by
    rw [laidSegs_none, hl2]; exact Blk.new _ _ _
  have HB0 := Lib.hid hb0
  clear hb0
  go_loopw [8, 22] (fun y x wr => ∃ k : Nat, k ≤ es.length ∧ x = .int .i64 k ∧ y = .int .i64 (Inc.beg 0 es k) ∧ Blk wr w1.heap.size 51 (segVals (laidSegs (Inc.levelOf (eps - 1) ks 0 es) k)) ∧ Below w1.heap.size w1 wr) (fun _ x _ => es.length - (intOf x).toNat)
  case atStart => exact ⟨0, by omega, rfl, rfl, HB0.out, by (repeat (first | exact Below.refl _ _ | refine bl_alloc ?_ _ | refine bl_drew ?_ | (refine bl_set ?_ (by simp <;> omega) _) | refine bl_then ?_ (by assumption) | refine bl_cls ?_ (by assumption)))⟩
  case round =>
    clear HB0
    obtain ⟨k, hk, rfl, rfl, hblk, hbel⟩ := hrel
    by_cases hlt : k < es.length
    · obtain ⟨g1, g2, _, _⟩ := HG.out.at_ hlt
      have hfit := HG.out.fit hlt
      have hlen := Inc.stretch_len (Nat.le_of_lt g1) g2
      have hget := Inc.levelOf_get (eps - 1) ks es 0 k hlt
      have hbw : Below w.heap.size w wr := HB.out.trans (hbel.mono HB.out.size)
      have hpart := Row.part (Row.below HR.out hbw) (by omega) (Nat.le_of_lt g1) g2
      obtain ⟨_, A3, cap3, he3, _, _, hc3⟩ := Row.below HO.out hbel
      injection he3 with he3 _ he3c
      subst he3 he3c
      obtain ⟨b3, off3, rfl, hb3, hcell3⟩ := hc3 (by omega)
      have c3 := hcell3 k (by simpa [natRow] using hlt)
      have c3' : (natRow es).getD k undef = .int .i64 ((es.getD k 0 : Nat) : Int) := by simp [natRow, List.getD_eq_getElem?_getD, hlt]
      rw [c3'] at c3
      clear hcell3 hc3 c3'
      generalize hn : es.getD k 0 = n at *
      have HN := Lib.hid hn
      clear hn
      generalize Inc.beg 0 es k = a at *
      rw [if_neg (by omega), Nat.mul_one] at hpart
      have hstr : KRow wr (.slice (A.map (·.add a)) (n - a) (cap - a)) (Inc.stretch ks a n) := by
        unfold KRow
        rw [hlen]
        have e : ((ks.map (Value.int .u64)).drop a).take (n - a) = (Inc.stretch ks a n).map (Value.int .u64) := by
          unfold Inc.stretch; rw [List.map_take, List.map_drop]
        rw [Nat.mul_one, e] at hpart
        exact hpart
      have hmo := modelOf_any eps he he' (Inc.stretch ks a n) (Inc.fitD (eps - 1) (Inc.stretch ks a n)) (hin.stretch a n) (by omega) (Inc.riseB_iff.2 ((Inc.riseB_iff.1 hr).stretch a n)) hfit a (by omega) (by rw [hlen]; omega) _ wr hstr.keys
      have e3 : IntKind.i64.wrap ((k : Int) + 1) = ((k + 1 : Nat) : Int) := by rw [IntKind.wrap_i64]; omega
      generalize hsg : Inc.segOf (eps - 1) (Inc.stretch ks a n) (Inc.fitD (eps - 1) (Inc.stretch ks a n)) a = sg at *
      have HGET := Lib.hid hget
      have HBLK := Lib.hid hblk
      have HBEL := Lib.hid hbel
      have hzr := hblk.lt
      clear hget hblk hbel hpart hstr hfit hbw hsg hlen
      go_wp2_with fail
      refine hmo.mono ?_
      rintro ed w2 ⟨rfl, hb2⟩
      have hz2 := hb2.size
      have hlaid := laidSegs_len (Inc.levelOf (eps - 1) ks 0 es) (k := k) (by omega)
      have hB2 := HBLK.out.below hb2 hzr
      have hvl := segVals_len (laidSegs (Inc.levelOf (eps - 1) ks 0 es) k)
      have q0 := hB2.cell (i := k * 5) (by omega)
      have q1 := hB2.cell (i := k * 5 + 1) (by omega)
      have q2 := hB2.cell (i := k * 5 + 2) (by omega)
      have q3 := hB2.cell (i := k * 5 + 3) (by omega)
      have q4 := hB2.cell (i := k * 5 + 4) (by omega)
      have qf := hB2.free
      have hset := segVals_set (laidSegs (Inc.levelOf (eps - 1) ks 0 es) k) k sg (by omega)
      rw [laidSegs_step _ HGET.out] at hset
      have HSET := Lib.hid hset
      have HB2 := Lib.hid hB2
      have HBB := Lib.hid hb2
      clear hset hB2 hb2 hlaid hvl
      generalize (segVals (laidSegs (Inc.levelOf (eps - 1) ks 0 es) k)).getD (k * 5) undef = o0 at *
      generalize (segVals (laidSegs (Inc.levelOf (eps - 1) ks 0 es) k)).getD (k * 5 + 1) undef = o1 at *
      generalize (segVals (laidSegs (Inc.levelOf (eps - 1) ks 0 es) k)).getD (k * 5 + 2) undef = o2 at *
      generalize (segVals (laidSegs (Inc.levelOf (eps - 1) ks 0 es) k)).getD (k * 5 + 3) undef = o3 at *
      generalize (segVals (laidSegs (Inc.levelOf (eps - 1) ks 0 es) k)).getD (k * 5 + 4) undef = o4 at *
      unfold segV
      go_wp2_with fail
      refine ⟨⟨k + 1, by omega, by go_num, ?_, ?_, ?_⟩, by simp [intOf]; omega⟩
      · rw [← HN.out]; rfl
      · rw [← HSET.out]; exact ((((HB2.out.put _ _).put _ _).put _ _).put _ _).put _ _
      · exact bl_set (bl_set (bl_set (bl_set (bl_set (bl_then HBEL.out HBB.out) (Nat.le_refl _) _) (Nat.le_refl _) _) (Nat.le_refl _) _) (Nat.le_refl _) _) (Nat.le_refl _) _
    · obtain rfl : k = es.length := by omega
      go_wp2_with fail
      go_ret
      rw [← hl2, laidSegs_all] at hblk
      refine ⟨es, _, HG.out, rfl, ?_, HB.out.trans (hbel.mono HB.out.size)⟩
      exact hblk.owns HB.out.size (by rw [segVals_len, hl2]) (by unfold maxLen; omega)
end Go.Proofs.Ytdfkgkidaffcgaa
namespace Inc
/-- few keys always fit -/
theorem fitTo_short {e : Int} (h0 : 0 ≤ e) {ks : List Int} (hr : Rise ks) : ∀ k : Nat, k ≤ ks.length → (k : Int) ≤ 2 * e + 1 → ∃ F, fitTo e ks k = some F := by
  intro k
  induction k with
  | zero => intro _ _; exact ⟨_, rfl⟩
  | succ k ih =>
    intro hk hk2
    obtain ⟨F, hF⟩ := ih (by omega) (by omega)
    have hs := fitTo_ok h0 hr (by omega) hF
    have hlen : (ks.take k).length = k := by simp; omega
    have hup : ∀ i, i < (ks.take k).length → K (ks.take k) i < K ks k := by
      intro i hi
      rw [hlen] at hi
      rw [K_take hi]
      exact hr i k hi (by omega)
    rcases hs.add h0 hup with ⟨F', h1, _⟩ | ⟨hp, _, l, m, hl, hm, hb⟩
    · exact ⟨F', by unfold fitTo; rw [hF]; exact h1⟩
    · exfalso
      have hl2 : (ks.take k ++ [K ks k]).length = k + 1 := by simp; omega
      have hl01 : l = (0, 1) := by
        rcases hl.att with h | ⟨i, j, hij, hj, hpos, _⟩
        · exact h
        · rw [hl2] at hj; omega
      obtain ⟨m2, m1, _⟩ := hm.some (by rw [hl2]; rw [hlen] at hp; omega)
      rw [hl01] at hb
      unfold below at hb
      simp at hb
      omega

theorem beg_le {e : Int} {ks : List Int} {es : List Nat} {b : Nat} (h : Greedy e ks 0 es b) (h0 : 0 ≤ e) (hr : Rise ks) : ∀ k, k < es.length → (k : Int) * (2 * e + 1) ≤ beg 0 es k := by
  intro k
  induction k with
  | zero => intro _; simp [beg]
  | succ k ih =>
    intro hk
    have h1 := ih (by omega)
    obtain ⟨g1, g2, _, g4⟩ := h.at_ (show k < es.length by omega)
    obtain ⟨p1, p2, _, _⟩ := h.at_ hk
    have e1 : beg 0 es (k + 1) = es.getD k 0 := rfl
    rw [e1] at p1 ⊢
    have hlt : es.getD k 0 < ks.length := by omega
    have hnone := g4 hlt
    have : 2 * e + 1 ≤ ((es.getD k 0 - beg 0 es k : Nat) : Int) := by
      rcases Int.lt_or_le ((es.getD k 0 - beg 0 es k : Nat) : Int) (2 * e + 1) with hc | hc
      · obtain ⟨F, hF⟩ := fitTo_short h0 (hr.drop (beg 0 es k)) (es.getD k 0 - beg 0 es k + 1) (by rw [List.length_drop]; omega) (by omega)
        rw [hF] at hnone; cases hnone
      · exact hc
    have e2 : ((k + 1 : Nat) : Int) * (2 * e + 1) = (k : Int) * (2 * e + 1) + (2 * e + 1) := by rw [Int.natCast_add, Int.add_mul]; simp
    rw [e2]
    omega

/-- a level is much shorter than what is below it -/
theorem Greedy.few {e : Int} {ks : List Int} {es : List Nat} (h : Greedy e ks 0 es ks.length) (h0 : 1 ≤ e) (hr : Rise ks) (hn : 0 < ks.length) : 0 < es.length ∧ ((es.length : Int) - 1) * (2 * e + 1) < ks.length := by
  have hp : 0 < es.length := by
    cases es with
    | nil => exact absurd (show 0 = ks.length from h) (by omega)
    | cons _ _ => simp
  refine ⟨hp, ?_⟩
  have h1 := beg_le h (by omega) hr (es.length - 1) (by omega)
  obtain ⟨g1, g2, _, _⟩ := h.at_ (show es.length - 1 < es.length by omega)
  rw [show ((es.length - 1 : Nat) : Int) = (es.length : Int) - 1 by omega] at h1
  omega

/-- levels, one upon the other, up to one segment -/
def Built (e : Int) : List Int → List (List Seg) → Prop
  | ks, [] => ks = []
  | ks, l :: t => 0 < ks.length ∧ (∃ es, Greedy e ks 0 es ks.length ∧ l = levelOf e ks 0 es) ∧ (if l.length = 1 then t = [] else Built e (l.map (·.first)) t)

theorem first_get {e : Int} {ks : List Int} {es : List Nat} (h : Greedy e ks 0 es ks.length) {k : Nat} (hk : k < es.length) : ((levelOf e ks 0 es).map (·.first)).getD k 0 = ks.getD (beg 0 es k) 0 := by
  have h1 := levelOf_get e ks es 0 k hk
  obtain ⟨g1, g2, _, _⟩ := h.at_ hk
  rw [List.getD_eq_getElem?_getD, List.getElem?_map, h1]
  show (stretch ks (beg 0 es k) (es.getD k 0)).getD 0 0 = _
  unfold stretch
  have h2 := K_take (ks := ks.drop (beg 0 es k)) (k := es.getD k 0 - beg 0 es k) (i := 0) (by omega)
  have h3 := K_drop ks (beg 0 es k) 0
  exact h2.trans h3

theorem beg_lt {e : Int} {ks : List Int} {es : List Nat} {b : Nat} (h : Greedy e ks 0 es b) : ∀ {i j : Nat}, i < j → j < es.length → beg 0 es i < beg 0 es j := by
  intro i j hij hj
  induction j with
  | zero => omega
  | succ j ih =>
    obtain ⟨g1, _⟩ := h.at_ (show j < es.length by omega)
    have e1 : beg 0 es (j + 1) = es.getD j 0 := rfl
    rcases Nat.eq_or_lt_of_le (show i ≤ j by omega) with rfl | hlt
    · omega
    · have := ih hlt (by omega); omega

/-- the keys of a level are as good as those below -/
theorem level_keys {e : Int} {ks : List Int} {es : List Nat} (h : Greedy e ks 0 es ks.length) (hin : KeysIn ks) (hr : Rise ks) :
    KeysIn ((levelOf e ks 0 es).map (·.first)) ∧ Rise ((levelOf e ks 0 es).map (·.first)) ∧ ((levelOf e ks 0 es).map (·.first)).length = es.length ∧ es.length ≤ ks.length := by
  have hlen : ((levelOf e ks 0 es).map (·.first)).length = es.length := by rw [List.length_map, levelOf_len]
  have hle : es.length ≤ ks.length := by have := h.len; omega
  refine ⟨⟨by rw [hlen]; have := hin.len; omega, fun i hi => ?_⟩, fun i j hij hj => ?_, hlen, hle⟩
  · rw [hlen] at hi
    have hfg : K ((levelOf e ks 0 es).map (·.first)) i = ks.getD (beg 0 es i) 0 := first_get h hi
    rw [hfg]
    obtain ⟨g1, g2, _⟩ := h.at_ hi
    exact hin.rng (beg 0 es i) (by omega)
  · rw [hlen] at hj
    show ((levelOf e ks 0 es).map (·.first)).getD i 0 < ((levelOf e ks 0 es).map (·.first)).getD j 0
    rw [first_get h hj, first_get h (by omega)]
    obtain ⟨g1, g2, _⟩ := h.at_ hj
    exact hr _ _ (beg_lt h hij hj) (by omega)

/-- how many levels there can be -/
def maxH (eps : Int) (n : Int) : Nat :=
  if n < 1 ∨ eps < 2 then 0 else if n ≤ 2 * eps - 1 then 1 else 1 + maxH eps (n / eps + 1)
termination_by n.toNat
decreasing_by
  have h1 : n / eps ≤ n / 2 := by
    rename_i h _
    have := Int.ediv_mul_le n (b := eps) (by omega)
    have h2 : 0 ≤ n / eps := Int.ediv_nonneg (by omega) (by omega)
    have h3 : n / eps * 2 ≤ n / eps * eps := Int.mul_le_mul_of_nonneg_left (by omega) h2
    omega
  omega

theorem div_mono {a b c : Int} (hc : 0 < c) (h : a ≤ b) : a / c ≤ b / c := Int.ediv_le_ediv hc h

theorem div_half {n eps : Int} (h : 2 ≤ eps) (hn : 0 ≤ n) : n / eps * 2 ≤ n := by
  have := Int.ediv_mul_le n (b := eps) (by omega)
  have h2 : 0 ≤ n / eps := Int.ediv_nonneg (by omega) (by omega)
  have h3 : n / eps * 2 ≤ n / eps * eps := Int.mul_le_mul_of_nonneg_left (by omega) h2
  omega

theorem maxH_one {eps n : Int} (h : 2 ≤ eps) (hn : 1 ≤ n) : 1 ≤ maxH eps n := by
  unfold maxH
  rw [if_neg (by omega)]
  split <;> omega

theorem maxH_mono {eps : Int} (h : 2 ≤ eps) : ∀ (N : Nat) (m n : Int), n.toNat ≤ N → m ≤ n → maxH eps m ≤ maxH eps n := by
  intro N
  induction N with
  | zero =>
    intro m n hN hmn
    have e : ∀ x : Int, x < 1 → maxH eps x = 0 := fun x hx => by unfold maxH; rw [if_pos (.inl hx)]
    rw [e m (by omega)]; omega
  | succ N ih =>
    intro m n hN hmn
    rcases Int.lt_or_le m 1 with h1 | h1
    · have : maxH eps m = 0 := by unfold maxH; rw [if_pos (.inl h1)]
      omega
    · rcases Int.lt_or_le (2 * eps - 1) m with h2 | h2
      · have e1 : maxH eps m = 1 + maxH eps (m / eps + 1) := by
          rw [maxH]; rw [if_neg (by omega), if_neg (by omega)]
        have e2 : maxH eps n = 1 + maxH eps (n / eps + 1) := by
          rw [maxH]; rw [if_neg (by omega), if_neg (by omega)]
        have hd := div_half h (show 0 ≤ n by omega)
        have := ih (m / eps + 1) (n / eps + 1) (by omega) (by have := div_mono (show 0 < eps by omega) hmn; omega)
        omega
      · have : maxH eps m = 1 := by unfold maxH; rw [if_neg (by omega), if_pos h2]
        rw [this]
        exact maxH_one h (by omega)

theorem built_high {eps : Int} (h : 2 ≤ eps) : ∀ (ls : List (List Seg)) (ks : List Int), KeysIn ks → Rise ks → Built (eps - 1) ks ls → ls.length ≤ maxH eps ks.length := by
  intro ls
  induction ls with
  | nil => intro ks _ _ _; simp
  | cons l t ih =>
    intro ks hin hr hb
    obtain ⟨hp, ⟨es, hg, rfl⟩, ht⟩ := hb
    have h1 := maxH_one h (show 1 ≤ (ks.length : Int) by omega)
    split at ht
    · subst ht; simpa using h1
    · rename_i hne
      rw [levelOf_len] at hne
      obtain ⟨k1, k2, k3, k4⟩ := level_keys hg hin hr
      obtain ⟨f1, f2⟩ := hg.few (by omega) hr hp
      have := ih _ k1 k2 ht
      rw [k3] at this
      have hge : (1 : Int) * (2 * (eps - 1) + 1) ≤ ((es.length : Int) - 1) * (2 * (eps - 1) + 1) := Int.mul_le_mul_of_nonneg_right (by omega) (by omega)
      have hbig : 2 * eps - 1 < (ks.length : Int) := by omega
      have e1 : maxH eps ks.length = 1 + maxH eps ((ks.length : Int) / eps + 1) := by
        rw [maxH]; rw [if_neg (by omega), if_neg (by omega)]
      have hle : (es.length : Int) ≤ (ks.length : Int) / eps + 1 := by
        have : (es.length : Int) - 1 ≤ (ks.length : Int) / eps := by
          rw [Int.le_ediv_iff_mul_le (by omega)]
          have : ((es.length : Int) - 1) * eps ≤ ((es.length : Int) - 1) * (2 * (eps - 1) + 1) := Int.mul_le_mul_of_nonneg_left (by omega) (by omega)
          omega
        omega
      have := maxH_mono h _ _ _ (Nat.le_refl _) hle
      simp only [List.length_cons]
      omega
end Inc
namespace Inc
/-- what is left to be built over these keys -/
def Rest (e : Int) (ks : List Int) (ls : List (List Seg)) (cur : List Int) : Prop := ∀ t, Built e cur t → Built e ks (ls ++ t)

theorem built_append {e : Int} {ks cur : List Int} {ls : List (List Seg)} {l : List Seg} (h : Rest e ks ls cur) (hp : 0 < cur.length) {es : List Nat} (hg : Greedy e cur 0 es cur.length) (hl : l = levelOf e cur 0 es) :
    (l.length = 1 → Built e ks (ls ++ [l])) ∧ (l.length ≠ 1 → Rest e ks (ls ++ [l]) (l.map (·.first))) := by
  constructor
  · intro h1
    exact h [l] ⟨hp, ⟨es, hg, hl⟩, by rw [if_pos h1]⟩
  · intro h1 t ht
    rw [List.append_assoc]
    exact h (l :: t) ⟨hp, ⟨es, hg, hl⟩, by rw [if_neg h1]; exact ht⟩
end Inc
namespace Go.Proofs.Ytdfkgkidaffcgaa
open Go.RowKit

theorem info_row : (Try.prog.info? 67).map (fun i => (i.zero, i.size, i.bytes)) = some (some (.slice none 0 0), 1, 24) := by kernel_rfl

/-- levels of the call's own -/
def LOwn (w : World) (base : Nat) (v : Value) (ls : List (List Inc.Seg)) : Prop :=
  ∃ vs : List Value, vs.length = ls.length ∧ w.ownsRow base 67 1 v ls.length vs ∧ ∀ (i : Nat) (s : List Inc.Seg), ls[i]? = some s → w.ownsRow base 51 5 (vs.getD i undef) s.length (segVals s)

theorem LOwn.read {w : World} {base : Nat} {v : Value} {ls : List (List Inc.Seg)} (h : LOwn w base v ls) : LRow w v ls := by
  obtain ⟨vs, h1, h2, h3⟩ := h
  exact ⟨vs, h1, Row.own h2, fun i s hs => Row.own (h3 i s hs)⟩

theorem LOwn.nil (w : World) (base : Nat) : LOwn w base (.slice none 0 0) [] := ⟨[], rfl, World.ownsRow_nil _ _ _ _, fun i s h => by simp at h⟩

theorem LOwn.below {w w' : World} {base : Nat} {v : Value} {ls : List (List Inc.Seg)} (h : LOwn w base v ls) (hb : Below w.heap.size w w') : LOwn w' base v ls := by
  obtain ⟨vs, h1, h2, h3⟩ := h
  exact ⟨vs, h1, owns_below h2 hb, fun i s hs => owns_below (h3 i s hs) hb⟩

theorem owns_mono {w : World} {b b' T size n : Nat} {v : Value} {xs : List Value} (h : w.ownsRow b T size v n xs) (hb : b' ≤ b) : w.ownsRow b' T size v n xs := by
  refine ⟨h.1, ?_⟩
  rcases h.2 with h' | ⟨g, cap, cur, rfl, hg, r⟩
  · exact .inl h'
  · exact .inr ⟨g, cap, cur, rfl, by omega, r⟩

theorem owns_apart {w : World} {b b' T T' size size' n n' : Nat} {v v' : Value} {xs xs' : List Value} (h : w.ownsRow b T size v n xs) (h' : w.ownsRow b' T' size' v' n' xs') (hT : T ≠ T') : v.ownBlock = none ∨ v.ownBlock ≠ v'.ownBlock := by
  rcases h.2 with ⟨rfl, _⟩ | ⟨g, cap, cur, rfl, _, hg, _⟩
  · exact .inl rfl
  · right
    intro he
    rcases h'.2 with ⟨rfl, _⟩ | ⟨g', cap', cur', rfl, _, hg', _⟩
    · simp [Value.ownBlock] at he
    · simp [Value.ownBlock] at he
      subst he
      rw [hg] at hg'
      injection hg' with hg'
      injection hg' with _ hg' _
      exact hT hg'

/-- one level more -/
theorem LOwn.snoc {w w' : World} {base : Nat} {v v' u : Value} {ls : List (List Inc.Seg)} {l : List Inc.Seg} {vs : List Value} (h1 : vs.length = ls.length) (h2 : w.ownsRow base 67 1 v ls.length vs)
    (h3 : ∀ (i : Nat) (s : List Inc.Seg), ls[i]? = some s → w.ownsRow base 51 5 (vs.getD i undef) s.length (segVals s)) (hu : w.ownsRow base 51 5 u l.length (segVals l))
    (hrow : w'.ownsRow base 67 1 v' (ls.length + 1) (vs ++ [u])) (hg : w.grownBy w' v.ownBlock) : LOwn w' base v' (ls ++ [l]) := by
  refine ⟨vs ++ [u], by simp [h1], by simpa using hrow, fun i s hs => ?_⟩
  rcases Nat.lt_trichotomy i ls.length with hi | rfl | hi
  · rw [List.getElem?_append_left hi] at hs
    have := (h3 i s hs).kept hg (owns_apart (h3 i s hs) h2 (by decide))
    rwa [List.getD_eq_getElem?_getD, List.getElem?_append_left (by omega), ← List.getD_eq_getElem?_getD]
  · rw [List.getElem?_append_right (Nat.le_refl _), Nat.sub_self] at hs
    simp only [List.getElem?_cons_zero, Option.some.injEq] at hs
    subst hs
    have := hu.kept hg (owns_apart hu h2 (by decide))
    rw [List.getD_eq_getElem?_getD, List.getElem?_append_right (by omega), h1, Nat.sub_self]
    exact this
  · rw [List.getElem?_append_right (by omega), List.getElem?_eq_none (by simp; omega)] at hs
    cases hs

/-- what Build keeps between its rounds -/
structure BuildSt (W : World) (e : Int) (ks : List Int) (ls : List (List Inc.Seg)) (cur : List Int) (kv lv : Value) (w : World) : Prop where
  row : KRow w kv cur
  own : LOwn w W.heap.size lv ls
  rest : Inc.Rest e ks ls cur
  kin : Inc.KeysIn cur
  rise : Inc.Rise cur
  len : cur.length ≤ 4294967296
  ne : ls ≠ [] → 1 < cur.length
  many : ls.length + cur.length ≤ 4294967297
  bel : Below W.heap.size W w

theorem few_more {e : Int} {ks : List Int} {es : List Nat} (h : Inc.Greedy e ks 0 es ks.length) (h0 : 1 ≤ e) (hr : Inc.Rise ks) (hn : 0 < ks.length) (h1 : es.length ≠ 1) : es.length < ks.length := by
  obtain ⟨f1, f2⟩ := h.few h0 hr hn
  have : ((es.length : Int) - 1) * 3 ≤ ((es.length : Int) - 1) * (2 * e + 1) := Int.mul_le_mul_of_nonneg_left (by omega) (by omega)
  omega

set_option maxRecDepth 100000 in
set_option maxHeartbeats 3200000 in
theorem build_any (eps : Int) (he : 2 ≤ eps) (he' : eps ≤ 64) (ks : List Int) (hin : Inc.KeysIn ks) (hl : ks.length ≤ 4294967296) (hr : Inc.riseB ks = true) (v : Value) (w : World) (h : KRow w v ks) :
    Calls Try.prog 24 #[v, .int .i64 eps] w fun ed w' => ∃ ls u, Inc.Built (eps - 1) ks ls ∧ ed = .returned (.tuple #[u, .int .i64 0]) ∧ LOwn w' w.heap.size u ls ∧ Below w.heap.size w w' := by
  obtain ⟨i0, hi, hq0, hq1, hq2⟩ := info_parts info_row
  have hris := fun w' (hb : Below w.heap.size w w') => rising_any ks _ w' (by have := hin.len; omega) (h.below hb).keys
  rw [hr] at hris
  have hd1 : decide (eps < 2) = false := by simp; omega
  have hd2 : decide (64 < eps) = false := by simp; omega
  go_enter Try.func24, Try.ntmps24
  go_wp2_with (first
    | (go_at_call 35; refine (hris _ (Below.refl _ _)).mono ?_; rintro e w1 ⟨rfl, hb1⟩))
  have hst : BuildSt w (eps - 1) ks [] ks v (.slice none 0 0) w1 :=
    ⟨h.below hb1, LOwn.nil _ _, fun t ht => ht, hin, Inc.rise_lt hr, hl, fun h => absurd rfl h, by simp; omega, hb1⟩
  have HST := Lib.hid hst
  clear hst hb1 hris h
  go_loopg [0, 6] (ks.length) (fun g s0 s6 wx => ∃ (ls : List (List Inc.Seg)) (cur : List Int), cur.length = g ∧ Aside (BuildSt w (eps - 1) ks ls cur s0 s6 wx))
  case atStart => exact ⟨[], ks, rfl, HST.out⟩
  case round =>
    clear HST
    obtain ⟨ls, cur, hcl, HI⟩ := hrel
    obtain ⟨_, A, cap, hA, _⟩ := HI.out.row
    subst hA
    cases gk with
    | zero =>
      have hz : cur.length = 0 := hcl
      have hz2 : cur = [] := List.eq_nil_of_length_eq_zero hz
      have hls : ls = [] := by
        rcases Classical.em (ls = []) with h | h
        · exact h
        · have := HI.out.ne h; omega
      have e0 : (0 < cur.length) = False := by simp; omega
      have HZ := Lib.hid hz
      have HZ2 := Lib.hid hz2
      have HLS := Lib.hid hls
      clear hz hz2 hls hcl
      go_wp2_with fail
      go_ret2
      have hb : Inc.Built (eps - 1) ks ls := by
        have := HI.out.rest [] (by rw [HZ2.out]; rfl)
        rwa [List.append_nil] at this
      exact ⟨ls, _, hb, rfl, HI.out.own, HI.out.bel⟩
    | succ g =>
      have e0 : (0 < cur.length) = True := by simp; omega
      have hov := over_any eps he he' cur HI.out.kin HI.out.len (Inc.riseB_iff.2 HI.out.rise) _ wr HI.out.row
      have HCL := Lib.hid hcl
      clear hcl
      go_wp2_with fail
      refine hov.mono ?_
      rintro ed w2 ⟨es, u, hg, rfl, hu, hb2⟩
      obtain ⟨f1, f2⟩ := hg.few (by omega) HI.out.rise (by have := HCL.out; omega)
      have hfm := few_more hg (by omega) HI.out.rise (by have := HCL.out; omega)
      obtain ⟨k1, k2, k3, k4⟩ := Inc.level_keys hg HI.out.kin HI.out.rise
      have hlv : (Inc.levelOf (eps - 1) cur 0 es).length = es.length := Inc.levelOf_len _ _ _ _
      obtain ⟨b1, b2⟩ := Inc.built_append HI.out.rest (by have := HCL.out; omega) hg rfl
      have hsz := HI.out.bel.size
      have hu' := owns_mono hu hsz
      have hown2 := HI.out.own.below hb2
      have hmany := HI.out.many
      have hlen := HI.out.len
      obtain ⟨vs, v1, v2, v3⟩ := hown2
      have HV1 := Lib.hid v1
      have HV3 : Aside (∀ (i : Nat) (s : List Inc.Seg), ls[i]? = some s → w2.ownsRow w.heap.size 51 5 (vs.getD i undef) s.length (segVals s)) := v3
      have HU := Lib.hid hu'
      have HB := Lib.hid (bl_then HI.out.bel hb2)
      have HG := Lib.hid hg
      have hsz2 := hb2.size
      obtain ⟨_, A2, cap2, hA2, _⟩ := Row.own hu
      subst hA2
      have HF := Lib.hid f2
      have HK : Aside (Inc.KeysIn ((Inc.levelOf (eps - 1) cur 0 es).map (·.first)) ∧ Inc.Rise ((Inc.levelOf (eps - 1) cur 0 es).map (·.first)) ∧ ((Inc.levelOf (eps - 1) cur 0 es).map (·.first)).length = es.length) := ⟨k1, k2, k3⟩
      have HLV := Lib.hid hlv
      have HB12 : Aside (((Inc.levelOf (eps - 1) cur 0 es).length = 1 → Inc.Built (eps - 1) ks (ls ++ [Inc.levelOf (eps - 1) cur 0 es])) ∧ ((Inc.levelOf (eps - 1) cur 0 es).length ≠ 1 → Inc.Rest (eps - 1) ks (ls ++ [Inc.levelOf (eps - 1) cur 0 es]) ((Inc.levelOf (eps - 1) cur 0 es).map (·.first)))) := ⟨b1, b2⟩
      clear hg f2 k1 k2 k3 hlv b1 b2 hu hu' hb2 v1 v3 hov
      go_wp2_with (first
        | (at_builtin; go_must (refine wpList_append_lies _ rfl _ _ 42 rfl w.heap.size 67 i0 (.slice none 0 0) 1 24 Try.underlying42 hi hq0 hq1 hq2 rfl (by decide) u6 ls.length vs rfl (v2.alloc _) ⟨_, 0, none⟩ 1 1 [.slice A2 es.length cap2] rfl rfl (one_new _ _ _) (by simp [Value.oneCell']) (by decide) (by unfold maxLen; omega) (by omega) (by simp; omega) _ rfl ?_)))
      intro g2 cap3 w3 hown3 hgrow3 hwhere3 hlt3
      have hlvs := LOwn.snoc (l := Inc.levelOf (eps - 1) cur 0 es) HV1.out (v2.alloc _) (fun i s hs => (HV3.out i s hs).alloc _) (by rw [HLV.out]; exact HU.out.alloc _) hown3 hgrow3
      have hB3 := below_own (bl_alloc HB.out _) (v2.alloc _) hgrow3 (by rw [World.size_alloc]; omega)
      have hu3 := (HU.out.alloc (.cells #[.slice A2 es.length cap2] 67)).kept hgrow3 (owns_apart HU.out v2 (by decide))
      have HLVS := Lib.hid hlvs
      have HB3 := Lib.hid hB3
      have HU3 := Lib.hid (Row.own hu3)
      have HMANY := Lib.hid hmany
      have HFM := Lib.hid hfm
      have HLEN := Lib.hid hlen
      clear hlvs hB3 hown3 hgrow3 hwhere3 hlt3 v2 hu3 hmany hfm hlen
      by_cases h1 : es.length = 1
      · have HH1 := Lib.hid h1
        have e1 : decide ((es.length : Int) = 1) = true := by simp; omega
        have e2 : ((es.length : Int) == 1) = true := by simp; omega
        clear h1
        go_wp2_with fail
        go_ret2
        exact ⟨_, _, HB12.out.1 (by rw [HLV.out]; exact HH1.out), rfl, HLVS.out, HB3.out⟩
      · have HH1 := Lib.hid h1
        have e1 : decide ((es.length : Int) = 1) = false := by simp; omega
        have e2 : ((es.length : Int) == 1) = false := by simp; omega
        clear h1
        have hsr : SRow w3 (.slice A2 es.length cap2) (Inc.levelOf (eps - 1) cur 0 es) := by
          unfold SRow; rw [HLV.out]; exact HU3.out
        have hfi := firsts_any (Inc.levelOf (eps - 1) cur 0 es) (by rw [HLV.out]; have := HF.out; have := HFM.out HH1.out; have := HLEN.out; omega) _ w3 hsr
        clear hsr
        go_wp2_with fail
        refine hfi.mono ?_
        rintro ed w4 ⟨kv, rfl, hkr, hb4⟩
        have HKR := Lib.hid hkr
        have HB4 := Lib.hid hb4
        clear hkr hb4
        go_wp2_with fail
        go_roundg es.length
        case measure => have := HFM.out HH1.out; have := HCL.out; omega
        case rel =>
          refine ⟨_, _, HK.out.2.2, HKR.out, HLVS.out.below HB4.out, HB12.out.2 (by rw [HLV.out]; exact HH1.out), HK.out.1, HK.out.2.1, ?_, ?_, ?_, bl_then HB3.out HB4.out⟩
          · have := HFM.out HH1.out; have := HLEN.out; rw [HK.out.2.2]; omega
          · intro _; rw [HK.out.2.2]; have := HH1.out; omega
          · have := HFM.out HH1.out; have := HMANY.out; rw [HK.out.2.2, List.length_append, List.length_singleton]; omega
end Go.Proofs.Ytdfkgkidaffcgaa
namespace Inc
def badE (e : Ent) : Bool := e.gone && (e.val != 0)
/-- the first tombstone with a value -/
def fbad : List Ent → Nat
  | [] => 0
  | e :: t => if badE e then 0 else fbad t + 1
theorem fbad_le (es : List Ent) : fbad es ≤ es.length := by
  induction es with
  | nil => simp [fbad]
  | cons e t ih => unfold fbad; split <;> simp <;> omega
theorem fbad_at : ∀ {es : List Ent} {k : Nat} {e : Ent}, es[k]? = some e → k ≤ fbad es → (badE e = true → fbad es = k) ∧ (badE e = false → k + 1 ≤ fbad es) := by
  intro es
  induction es with
  | nil => intro k e h; simp at h
  | cons x t ih =>
    intro k e h hk
    cases k with
    | zero =>
      simp only [List.getElem?_cons_zero, Option.some.injEq] at h
      subst h
      unfold fbad
      cases hb : badE x <;> simp
    | succ k =>
      unfold fbad at hk ⊢
      split at hk
      · omega
      · rename_i hx
        rw [if_neg hx]
        have := ih (by simpa using h) (by omega : k ≤ fbad t)
        constructor
        · intro hb; have := this.1 hb; omega
        · intro hb; have := this.2 hb; omega
/-- its place, or -1 -/
def badAt (es : List Ent) : Int := if fbad es < es.length then (fbad es : Int) else -1
/-- what is wrong with entries -/
def entCode (es : List Ent) : Int :=
  if riseB ((es.take (fbad es + 1)).map (·.key)) = false then 30 else if fbad es < es.length then 31 else 0
end Inc
namespace Go.Proofs.Ytdfkgkidaffcgaa
open Go.RowKit

def entV (e : Inc.Ent) : Value := .agg #[.int .u64 e.key, .int .u64 e.val, .bool e.gone]

theorem keyOf_any (k v : Int) (g : Bool) (w : World) : Calls Try.prog 34 #[.agg #[.int .u64 k, .int .u64 v, .bool g]] w fun e w' => e = .returned (.int .u64 k) ∧ Below w.heap.size w w' := by
  go_enter Try.func34, Try.ntmps34
  go_wp2
  go_ret
  exact ⟨rfl, by (repeat (first | exact Below.refl _ _ | refine bl_alloc ?_ _ | refine bl_drew ?_ | (refine bl_set ?_ (by simp <;> omega) _) | refine bl_then ?_ (by assumption) | refine bl_cls ?_ (by assumption)))⟩

theorem badE_any (k v : Int) (g : Bool) (w : World) : Calls Try.prog 32 #[.agg #[.int .u64 k, .int .u64 v, .bool g]] w fun e w' => e = .returned (.bool (Inc.badE ⟨k, v, g⟩)) ∧ Below w.heap.size w w' := by
  cases g
  ·
    go_enter Try.func32, Try.ntmps32
    go_wp2
    go_ret
    exact ⟨rfl, by (repeat (first | exact Below.refl _ _ | refine bl_alloc ?_ _ | refine bl_drew ?_ | (refine bl_set ?_ (by simp <;> omega) _) | refine bl_then ?_ (by assumption) | refine bl_cls ?_ (by assumption)))⟩
  ·
    go_enter Try.func32, Try.ntmps32
    go_wp2
    go_ret
    exact ⟨by simp [Inc.badE], by (repeat (first | exact Below.refl _ _ | refine bl_alloc ?_ _ | refine bl_drew ?_ | (refine bl_set ?_ (by simp <;> omega) _) | refine bl_then ?_ (by assumption) | refine bl_cls ?_ (by assumption)))⟩

theorem ERow.below {W w : World} {v : Value} {es : List Inc.Ent} (h : ERow W v es) (hb : Below W.heap.size W w) : ERow w v es := Row.below h hb

set_option maxHeartbeats 1600000 in
theorem indexBad_any (es : List Inc.Ent) (hn : es.length ≤ 4611686018427387904) (v : Value) (w : World) (h : ERow w v es) :
    Calls Try.prog 31 #[v, .func (.func 32) #[] #[]] w fun e w' => e = .returned (.int .i64 (Inc.badAt es)) ∧ Below w.heap.size w w' := by
  have HR := Lib.hid h
  obtain ⟨_, A, cap, rfl, _, _, _⟩ := h
  have hfl := Inc.fbad_le es
  go_enter Try.func31, Try.ntmps31
  go_wp2_with fail
  go_loopw [8] (fun x wr => ∃ k : Nat, k ≤ es.length ∧ x = .int .i64 k ∧ k ≤ Inc.fbad es ∧ Below w.heap.size w wr) (fun x _ => es.length - (intOf x).toNat)
  case atStart => exact ⟨0, by omega, rfl, by omega, Below.refl _ _⟩
  case round =>
    obtain ⟨k, hk, rfl, hkf, hbel⟩ := hrel
    by_cases hlt : k < es.length
    · obtain ⟨e, he⟩ : ∃ e, es[k]? = some e := ⟨_, List.getElem?_eq_getElem hlt⟩
      obtain ⟨f1, f2⟩ := Inc.fbad_at he hkf
      obtain ⟨b, off, cap', hA, hb, c0, c1, c2⟩ := ERow.at_ (ERow.below HR.out hbel) he
      injection hA with hA _ hA2
      subst hA hA2
      obtain ⟨key, val, gone⟩ := e
      simp only at c0 c1 c2
      have hc := badE_any key val gone wr
      have F1 := Lib.hid f1
      have F2 := Lib.hid f2
      have HBEL := Lib.hid hbel
      have e4 : 0 ≤ (k : Int) ∧ (k : Int) < (es.length : Int) := by omega
      have e5 : IntKind.i64.wrap ((k : Int) + 1) = ((k + 1 : Nat) : Int) := by rw [IntKind.wrap_i64]; omega
      have e0n : (k < es.length) = True := by simp; omega
      clear f1 f2 he hbel
      cases hB : Inc.badE ⟨key, val, gone⟩ with
      | true =>
        rw [hB] at hc
        have hfk := F1.out hB
        have HFK := Lib.hid hfk
        clear hfk hB F1 F2
        go_wp2_with fail
        refine hc.mono ?_
        rintro ed w1 ⟨rfl, hb1⟩
        go_wp2_with fail
        go_ret
        refine ⟨?_, bl_then HBEL.out hb1⟩
        have hba : Inc.badAt es = k := by unfold Inc.badAt; rw [HFK.out, if_pos hlt]
        rw [hba]; rfl
      | false =>
        rw [hB] at hc
        have hfk := F2.out hB
        clear hB F1 F2
        go_wp2_with fail
        refine hc.mono ?_
        rintro ed w1 ⟨rfl, hb1⟩
        go_wp2_with fail
        exact ⟨⟨k + 1, by omega, by go_num, hfk, bl_then HBEL.out hb1⟩, by simp [intOf]; omega⟩
    · obtain rfl : k = es.length := by omega
      have e0n : (es.length < es.length) = False := by simp
      go_wp2_with fail
      go_ret
      have hba : Inc.badAt es = -1 := by unfold Inc.badAt; rw [if_neg (by omega)]
      exact ⟨by rw [hba]; rfl, hbel⟩

set_option maxHeartbeats 1600000 in
theorem risesE_any (es : List Inc.Ent) (v : Value) (w : World) (hn : es.length ≤ 4611686018427387904) (h : ERow w v es) :
    Calls Try.prog 33 #[v, .func (.func 34) #[] #[]] w fun e w' => e = .returned (.bool (Inc.riseB (es.map (·.key)))) ∧ Below w.heap.size w w' := by
  have HR := Lib.hid h
  obtain ⟨_, A, cap, rfl, _, _, _⟩ := h
  have hkl : (es.map (·.key)).length = es.length := List.length_map _
  have hkg : ∀ (k : Nat) (e : Inc.Ent), es[k]? = some e → (es.map (·.key)).getD k 0 = e.key := fun k e h => by simp [List.getD_eq_getElem?_getD, h]
  generalize es.map (·.key) = ks at *
  have HKG := Lib.hid hkg
  have HKL := Lib.hid hkl
  clear hkg hkl
  go_enter Try.func33, Try.ntmps33
  go_wp2_with fail
  go_loopw [8] (fun x wr => ∃ k : Nat, k ≤ es.length ∧ x = .int .i64 k ∧ Inc.riseTo ks k = true ∧ Cls w wr) (fun x _ => es.length - (intOf x).toNat)
  case atStart => exact ⟨0, by omega, rfl, rfl, Cls.refl _⟩
  case round =>
    obtain ⟨k, hk, rfl, hr, hw⟩ := hrel
    have HRT := Lib.hid hr
    clear hr
    by_cases hlt : k < es.length
    · have e0n : (k < es.length) = True := by simp; omega
      rcases Nat.eq_zero_or_pos k with rfl | hpos
      · have hg : decide ((0 : Int) < 0) = false := by decide
        rw [show ((0 : Nat) : Int) = 0 from rfl] at *
        have e00 : decide ((0 : Int) < (es.length : Int)) = true := by simp; omega
        go_wp2_with fail
        refine wp_region_below (by kernel_rfl) (by kernel_rfl) ?_
        with_reducible refine q_want ?_ (fun K hK => ?_)
        · kernel_rfl
        apply Exists.intro
        constructor
        · (intro w1 hw1; have hc := hw1.cells; go_simp <;> rfl)
        go_simp; refine hK _ ?_; clear hK K
        with_reducible refine q_want ?_ (fun K hK => ?_)
        · kernel_rfl
        apply Exists.intro
        constructor
        · (intro w1 hw1; have hc := hw1.cells; go_simp <;> rfl)
        go_simp; refine hK _ ?_; clear hK K
        with_reducible refine q_want ?_ (fun K hK => ?_)
        · kernel_rfl
        apply Exists.intro
        constructor
        · (intro w1 hw1; have hc := hw1.cells; go_simp <;> rfl)
        go_simp; refine hK _ ?_; clear hK K
        with_reducible refine q_skip ?_ (fun K hK => ?_)
        · kernel_rfl
        go_simp; refine hK _ ?_; clear hK K
        with_reducible refine q_skip ?_ (fun K hK => ?_)
        · kernel_rfl
        go_simp; refine hK _ ?_; clear hK K
        with_reducible refine q_skip ?_ (fun K hK => ?_)
        · kernel_rfl
        go_simp; refine hK _ ?_; clear hK K
        with_reducible refine q_skip ?_ (fun K hK => ?_)
        · kernel_rfl
        go_simp; refine hK _ ?_; clear hK K
        with_reducible refine q_skip ?_ (fun K hK => ?_)
        · kernel_rfl
        go_simp; refine hK _ ?_; clear hK K
        with_reducible refine q_skip ?_ (fun K hK => ?_)
        · kernel_rfl
        go_simp; refine hK _ ?_; clear hK K
        with_reducible refine q_skip ?_ (fun K hK => ?_)
        · kernel_rfl
        go_simp; refine hK _ ?_; clear hK K
        with_reducible refine q_skip ?_ (fun K hK => ?_)
        · kernel_rfl
        go_simp; refine hK _ ?_; clear hK K
        with_reducible refine q_skip ?_ (fun K hK => ?_)
        · kernel_rfl
        go_simp; refine hK _ ?_; clear hK K
        with_reducible refine q_skip ?_ (fun K hK => ?_)
        · kernel_rfl
        go_simp; refine hK _ ?_; clear hK K
        with_reducible refine q_skip ?_ (fun K hK => ?_)
        · kernel_rfl
        go_simp; refine hK _ ?_; clear hK K
        with_reducible refine q_skip ?_ (fun K hK => ?_)
        · kernel_rfl
        go_simp; refine hK _ ?_; clear hK K
        with_reducible refine q_skip ?_ (fun K hK => ?_)
        · kernel_rfl
        go_simp; refine hK _ ?_; clear hK K
        with_reducible refine q_skip ?_ (fun K hK => ?_)
        · kernel_rfl
        go_simp; refine hK _ ?_; clear hK K
        with_reducible refine q_want ?_ (fun K hK => ?_)
        · kernel_rfl
        apply Exists.intro
        constructor
        · (intro w1 hw1; have hc := hw1.cells; go_simp <;> rfl)
        go_simp; refine hK _ ?_; clear hK K
        refine wpQuiet_nil ?_
        intro w1 hw1
        go_wp2_with fail
        exact ⟨⟨1, by omega, rfl, rfl, Below.trans hw (hw1.below.mono hw.below.size)⟩, by simp [intOf]; omega⟩
      · obtain ⟨j, rfl⟩ : ∃ j, k = j + 1 := ⟨k - 1, by omega⟩
        obtain ⟨e1, he1⟩ : ∃ e, es[j + 1]? = some e := ⟨_, List.getElem?_eq_getElem hlt⟩
        obtain ⟨e2, he2⟩ : ∃ e, es[j]? = some e := ⟨_, List.getElem?_eq_getElem (by omega)⟩
        have hE := ERow.below HR.out hw.below
        obtain ⟨b, off, cap1, hA, hb, c0, c1, c2⟩ := ERow.at_ hE he1
        injection hA with hA _ hA2
        subst hA hA2
        obtain ⟨b', off', cap2, hA, _, d0, d1, d2⟩ := ERow.at_ hE he2
        injection hA with hA _ hA2
        injection hA with hA
        injection hA with hAb hAo _
        subst hAb hAo hA2
        have hg : decide (0 < (j : Int) + 1) = true := by simp <;> omega
        have i1 : IntKind.i64.wrap (j : Int) = (j : Int) := wrap_i64_id' (by omega) (by omega)
        have i2 : 0 ≤ (j : Int) + 1 ∧ (j : Int) + 1 < (es.length : Int) := by omega
        have i3 : 0 ≤ (j : Int) ∧ (j : Int) < (es.length : Int) := by omega
        have i4 : ((j : Int) + 1).toNat = j + 1 := by omega
        have hst : Inc.riseTo ks (j + 1 + 1) = (Inc.riseTo ks (j + 1) && decide (ks.getD j 0 < ks.getD (j + 1) 0)) := rfl
        rw [HKG.out j e2 he2, HKG.out (j + 1) e1 he1] at hst
        have HST := Lib.hid hst
        obtain ⟨Y, y1, y2⟩ := e1
        obtain ⟨X, x1, x2⟩ := e2
        simp only at c0 c1 c2 d0 d1 d2
        clear hst he1 he2 hE
        by_cases hxy : X < Y
        · have hle : decide (Y ≤ X) = false := by simp; omega
          go_wp2_with fail
          refine wp_region_below (by kernel_rfl) (by kernel_rfl) ?_
          with_reducible refine q_want ?_ (fun K hK => ?_)
          · kernel_rfl
          apply Exists.intro
          constructor
          · (intro w1 hw1; have hc := hw1.cells; go_simp <;> rfl)
          go_simp; refine hK _ ?_; clear hK K
          with_reducible refine q_want ?_ (fun K hK => ?_)
          · kernel_rfl
          apply Exists.intro
          constructor
          · (intro w1 hw1; have hc := hw1.cells; go_simp <;> rfl)
          go_simp; refine hK _ ?_; clear hK K
          with_reducible refine q_want ?_ (fun K hK => ?_)
          · kernel_rfl
          apply Exists.intro
          constructor
          · (intro w1 hw1; have hc := hw1.cells; go_simp <;> rfl)
          go_simp; refine hK _ ?_; clear hK K
          with_reducible refine q_want ?_ (fun K hK => ?_)
          · kernel_rfl
          apply Exists.intro
          constructor
          · (intro w1 hw1; have hc := hw1.cells; go_simp <;> rfl)
          go_simp; refine hK _ ?_; clear hK K
          with_reducible refine q_want ?_ (fun K hK => ?_)
          · kernel_rfl
          apply Exists.intro
          constructor
          · (intro w1 hw1; have hc := hw1.cells; go_simp <;> rfl)
          go_simp; refine hK _ ?_; clear hK K
          with_reducible refine q_want ?_ (fun K hK => ?_)
          · kernel_rfl
          apply Exists.intro
          constructor
          · (intro w1 hw1; have hc := hw1.cells; go_simp <;> rfl)
          go_simp; refine hK _ ?_; clear hK K
          with_reducible refine q_want ?_ (fun K hK => ?_)
          · kernel_rfl
          apply Exists.intro
          constructor
          · (intro w1 hw1; have hc := hw1.cells; go_simp <;> rfl)
          go_simp; refine hK _ ?_; clear hK K
          with_reducible refine q_want ?_ (fun K hK => ?_)
          · kernel_rfl
          apply Exists.intro
          constructor
          · (intro w1 hw1; have hc := hw1.cells; go_simp <;> rfl)
          go_simp; refine hK _ ?_; clear hK K
          with_reducible refine q_want ?_ (fun K hK => ?_)
          · kernel_rfl
          apply Exists.intro
          constructor
          · intro w1 hw1
            have hc := hw1.cells
            go_simp
            first
              | (go_at_call 34; exact quiet_call hw1 (keyOf_any _ _ _ _))
          go_simp; refine hK _ ?_; clear hK K
          with_reducible refine q_want ?_ (fun K hK => ?_)
          · kernel_rfl
          apply Exists.intro
          constructor
          · (intro w1 hw1; have hc := hw1.cells; go_simp <;> rfl)
          go_simp; refine hK _ ?_; clear hK K
          with_reducible refine q_want ?_ (fun K hK => ?_)
          · kernel_rfl
          apply Exists.intro
          constructor
          · (intro w1 hw1; have hc := hw1.cells; go_simp <;> rfl)
          go_simp; refine hK _ ?_; clear hK K
          with_reducible refine q_want ?_ (fun K hK => ?_)
          · kernel_rfl
          apply Exists.intro
          constructor
          · (intro w1 hw1; have hc := hw1.cells; go_simp <;> rfl)
          go_simp; refine hK _ ?_; clear hK K
          with_reducible refine q_want ?_ (fun K hK => ?_)
          · kernel_rfl
          apply Exists.intro
          constructor
          · (intro w1 hw1; have hc := hw1.cells; go_simp <;> rfl)
          go_simp; refine hK _ ?_; clear hK K
          with_reducible refine q_want ?_ (fun K hK => ?_)
          · kernel_rfl
          apply Exists.intro
          constructor
          · (intro w1 hw1; have hc := hw1.cells; go_simp <;> rfl)
          go_simp; refine hK _ ?_; clear hK K
          with_reducible refine q_want ?_ (fun K hK => ?_)
          · kernel_rfl
          apply Exists.intro
          constructor
          · (intro w1 hw1; have hc := hw1.cells; go_simp <;> rfl)
          go_simp; refine hK _ ?_; clear hK K
          with_reducible refine q_want ?_ (fun K hK => ?_)
          · kernel_rfl
          apply Exists.intro
          constructor
          · intro w1 hw1
            have hc := hw1.cells
            go_simp
            first
              | (go_at_call 34; exact quiet_call hw1 (keyOf_any _ _ _ _))
          go_simp; refine hK _ ?_; clear hK K
          with_reducible refine q_want ?_ (fun K hK => ?_)
          · kernel_rfl
          apply Exists.intro
          constructor
          · (intro w1 hw1; have hc := hw1.cells; go_simp <;> rfl)
          go_simp; refine hK _ ?_; clear hK K
          with_reducible refine q_want ?_ (fun K hK => ?_)
          · kernel_rfl
          apply Exists.intro
          constructor
          · (intro w1 hw1; have hc := hw1.cells; go_simp <;> rfl)
          go_simp; refine hK _ ?_; clear hK K
          refine wpQuiet_nil ?_
          intro w1 hw1
          go_wp2_with fail
          exact ⟨⟨j + 1 + 1, by omega, by go_num, by rw [HST.out, HRT.out]; simpa using hxy, Below.trans hw (hw1.below.mono hw.below.size)⟩, by simp [intOf]; omega⟩
        · have hle : decide (Y ≤ X) = true := by simp; omega
          go_wp2_with fail
          refine wp_region_below (by kernel_rfl) (by kernel_rfl) ?_
          with_reducible refine q_want ?_ (fun K hK => ?_)
          · kernel_rfl
          apply Exists.intro
          constructor
          · (intro w1 hw1; have hc := hw1.cells; go_simp <;> rfl)
          go_simp; refine hK _ ?_; clear hK K
          with_reducible refine q_want ?_ (fun K hK => ?_)
          · kernel_rfl
          apply Exists.intro
          constructor
          · (intro w1 hw1; have hc := hw1.cells; go_simp <;> rfl)
          go_simp; refine hK _ ?_; clear hK K
          with_reducible refine q_want ?_ (fun K hK => ?_)
          · kernel_rfl
          apply Exists.intro
          constructor
          · (intro w1 hw1; have hc := hw1.cells; go_simp <;> rfl)
          go_simp; refine hK _ ?_; clear hK K
          with_reducible refine q_want ?_ (fun K hK => ?_)
          · kernel_rfl
          apply Exists.intro
          constructor
          · (intro w1 hw1; have hc := hw1.cells; go_simp <;> rfl)
          go_simp; refine hK _ ?_; clear hK K
          with_reducible refine q_want ?_ (fun K hK => ?_)
          · kernel_rfl
          apply Exists.intro
          constructor
          · (intro w1 hw1; have hc := hw1.cells; go_simp <;> rfl)
          go_simp; refine hK _ ?_; clear hK K
          with_reducible refine q_want ?_ (fun K hK => ?_)
          · kernel_rfl
          apply Exists.intro
          constructor
          · (intro w1 hw1; have hc := hw1.cells; go_simp <;> rfl)
          go_simp; refine hK _ ?_; clear hK K
          with_reducible refine q_want ?_ (fun K hK => ?_)
          · kernel_rfl
          apply Exists.intro
          constructor
          · (intro w1 hw1; have hc := hw1.cells; go_simp <;> rfl)
          go_simp; refine hK _ ?_; clear hK K
          with_reducible refine q_want ?_ (fun K hK => ?_)
          · kernel_rfl
          apply Exists.intro
          constructor
          · (intro w1 hw1; have hc := hw1.cells; go_simp <;> rfl)
          go_simp; refine hK _ ?_; clear hK K
          with_reducible refine q_want ?_ (fun K hK => ?_)
          · kernel_rfl
          apply Exists.intro
          constructor
          · intro w1 hw1
            have hc := hw1.cells
            go_simp
            first
              | (go_at_call 34; exact quiet_call hw1 (keyOf_any _ _ _ _))
          go_simp; refine hK _ ?_; clear hK K
          with_reducible refine q_want ?_ (fun K hK => ?_)
          · kernel_rfl
          apply Exists.intro
          constructor
          · (intro w1 hw1; have hc := hw1.cells; go_simp <;> rfl)
          go_simp; refine hK _ ?_; clear hK K
          with_reducible refine q_want ?_ (fun K hK => ?_)
          · kernel_rfl
          apply Exists.intro
          constructor
          · (intro w1 hw1; have hc := hw1.cells; go_simp <;> rfl)
          go_simp; refine hK _ ?_; clear hK K
          with_reducible refine q_want ?_ (fun K hK => ?_)
          · kernel_rfl
          apply Exists.intro
          constructor
          · (intro w1 hw1; have hc := hw1.cells; go_simp <;> rfl)
          go_simp; refine hK _ ?_; clear hK K
          with_reducible refine q_want ?_ (fun K hK => ?_)
          · kernel_rfl
          apply Exists.intro
          constructor
          · (intro w1 hw1; have hc := hw1.cells; go_simp <;> rfl)
          go_simp; refine hK _ ?_; clear hK K
          with_reducible refine q_want ?_ (fun K hK => ?_)
          · kernel_rfl
          apply Exists.intro
          constructor
          · (intro w1 hw1; have hc := hw1.cells; go_simp <;> rfl)
          go_simp; refine hK _ ?_; clear hK K
          with_reducible refine q_want ?_ (fun K hK => ?_)
          · kernel_rfl
          apply Exists.intro
          constructor
          · (intro w1 hw1; have hc := hw1.cells; go_simp <;> rfl)
          go_simp; refine hK _ ?_; clear hK K
          with_reducible refine q_want ?_ (fun K hK => ?_)
          · kernel_rfl
          apply Exists.intro
          constructor
          · intro w1 hw1
            have hc := hw1.cells
            go_simp
            first
              | (go_at_call 34; exact quiet_call hw1 (keyOf_any _ _ _ _))
          go_simp; refine hK _ ?_; clear hK K
          with_reducible refine q_want ?_ (fun K hK => ?_)
          · kernel_rfl
          apply Exists.intro
          constructor
          · (intro w1 hw1; have hc := hw1.cells; go_simp <;> rfl)
          go_simp; refine hK _ ?_; clear hK K
          with_reducible refine q_want ?_ (fun K hK => ?_)
          · kernel_rfl
          apply Exists.intro
          constructor
          · (intro w1 hw1; have hc := hw1.cells; go_simp <;> rfl)
          go_simp; refine hK _ ?_; clear hK K
          refine wpQuiet_nil ?_
          intro w1 hw1
          go_wp2_with fail
          go_ret
          refine ⟨?_, Below.trans hw (hw1.below.mono hw.below.size)⟩
          have hf : Inc.riseB ks = false := by
            cases hB : Inc.riseB ks with
            | false => rfl
            | true =>
              exfalso
              have := Inc.riseTo_mono ks (show j + 1 + 1 ≤ ks.length by have := HKL.out; omega) hB
              rw [HST.out] at this
              simp at this
              omega
          rw [hf]; rfl
    · obtain rfl : k = es.length := by omega
      have e0n : (es.length < es.length) = False := by simp
      go_wp2_with fail
      go_ret
      exact ⟨by have := HRT.out; unfold Inc.riseB; rw [HKL.out, this]; rfl, hw⟩
end Go.Proofs.Ytdfkgkidaffcgaa
namespace Go.Proofs.Ytdfkgkidaffcgaa
open Go.RowKit

theorem ERow.front {w : World} {A : Option Addr} {cap : Nat} {es : List Inc.Ent} (h : ERow w (.slice A es.length cap) es) {m : Nat} (hm : m ≤ es.length) : ERow w (.slice A m cap) (es.take m) := by
  obtain ⟨hl, A', cap', he, h1, h2, h3⟩ := h
  injection he with hA _ hc
  subst hA hc
  have hlm : (es.take m).length = m := by simp; omega
  refine ⟨by rw [entVals_len], A, cap, by rw [hlm], by omega, h2, fun hp => ?_⟩
  obtain ⟨b, off, hA, hb, hcell⟩ := h3 (by omega)
  refine ⟨b, off, hA, hb, fun i hi => ?_⟩
  rw [entVals_len, hlm] at hi
  rw [hcell i (by rw [entVals_len]; omega)]
  have he : entVals (es.take m) = (entVals es).take (m * 3) := by
    have h1 : entVals es = entVals (es.take m) ++ entVals (es.drop m) := by
      unfold entVals; rw [← List.flatMap_append, List.take_append_drop]
    rw [h1, List.take_left' (by rw [entVals_len, hlm])]
  rw [he, List.getD_eq_getElem?_getD, List.getD_eq_getElem?_getD, List.getElem?_take, if_pos hi]

set_option maxHeartbeats 1600000 in
theorem keysCheck_any (es : List Inc.Ent) (hn : es.length ≤ 4294967296) (v : Value) (w : World) (h : ERow w v es) :
    Calls Try.prog 23 #[v] w fun e w' => e = .returned (.int .i64 (Inc.entCode es)) ∧ Below w.heap.size w w' := by
  have hix := indexBad_any es (by omega) v w h
  have HR := Lib.hid h
  obtain ⟨_, A, cap, rfl, hcap, _, _⟩ := h
  have hfl := Inc.fbad_le es
  have hec : Inc.entCode es = if Inc.riseB ((es.take (Inc.fbad es + 1)).map (·.key)) = false then 30 else if Inc.fbad es < es.length then 31 else 0 := rfl
  have hba : Inc.badAt es = if Inc.fbad es < es.length then (Inc.fbad es : Int) else -1 := rfl
  generalize Inc.entCode es = EC at *
  generalize Inc.badAt es = BA at *
  generalize Inc.fbad es = f at *
  by_cases hf : f < es.length
  · rw [if_pos hf] at hba hec
    subst hba
    have hr := fun w' (hb : Below w.heap.size w w') => risesE_any (es.take (f + 1)) _ w' (by simp; omega) ((ERow.front HR.out (by omega : f + 1 ≤ es.length)).below hb)
    have hlm : (es.take (f + 1)).length = f + 1 := by simp; omega
    generalize Inc.riseB ((es.take (f + 1)).map (·.key)) = RB at *
    have HEC := Lib.hid hec
    have e1 : (0 : Int) ≤ (f : Int) := by omega
    have e2 : IntKind.i64.wrap ((f : Int) + 1) = ((f + 1 : Nat) : Int) := by rw [IntKind.wrap_i64]; omega
    have e3 : 0 ≤ ((f + 1 : Nat) : Int) ∧ ((f + 1 : Nat) : Int) ≤ (cap : Int) := by omega
    have e3n : f + 1 ≤ cap := by omega
    have hrA := fun w' (hb : Below w.heap.size w w') => hr w' hb
    clear hec hr
    cases RB with
    | true =>
      obtain rfl : EC = 31 := by rw [HEC.out]; rfl
      go_enter Try.func23, Try.ntmps23
      go_wp2_with fail
      refine hix.mono ?_
      rintro ed w1 ⟨rfl, hb1⟩
      go_wp2_with fail
      refine (hrA _ hb1).mono ?_
      rintro ed w2 ⟨rfl, hb2⟩
      go_wp2_with fail
      go_ret
      exact ⟨rfl, bl_then hb1 hb2⟩
    | false =>
      obtain rfl : EC = 30 := by rw [HEC.out]; rfl
      go_enter Try.func23, Try.ntmps23
      go_wp2_with fail
      refine hix.mono ?_
      rintro ed w1 ⟨rfl, hb1⟩
      go_wp2_with fail
      refine (hrA _ hb1).mono ?_
      rintro ed w2 ⟨rfl, hb2⟩
      go_wp2_with fail
      go_ret
      exact ⟨rfl, bl_then hb1 hb2⟩
  · obtain rfl : f = es.length := by omega
    rw [if_neg hf] at hba hec
    subst hba
    have ht : es.take (es.length + 1) = es := List.take_of_length_le (by omega)
    rw [ht] at hec
    have hr := fun w' (hb : Below w.heap.size w w') => risesE_any es _ w' (by omega) (ERow.below HR.out hb)
    generalize Inc.riseB (es.map (·.key)) = RB at *
    have HEC := Lib.hid hec
    have e3 : 0 ≤ ((es.length : Nat) : Int) ∧ ((es.length : Nat) : Int) ≤ (cap : Int) := by omega
    clear hec ht
    cases RB with
    | true =>
      obtain rfl : EC = 0 := by rw [HEC.out]; rfl
      go_enter Try.func23, Try.ntmps23
      go_wp2_with fail
      refine hix.mono ?_
      rintro ed w1 ⟨rfl, hb1⟩
      go_wp2_with fail
      refine (hr _ hb1).mono ?_
      rintro ed w2 ⟨rfl, hb2⟩
      go_wp2_with fail
      go_ret
      exact ⟨rfl, bl_then hb1 hb2⟩
    | false =>
      obtain rfl : EC = 30 := by rw [HEC.out]; rfl
      go_enter Try.func23, Try.ntmps23
      go_wp2_with fail
      refine hix.mono ?_
      rintro ed w1 ⟨rfl, hb1⟩
      go_wp2_with fail
      refine (hr _ hb1).mono ?_
      rintro ed w2 ⟨rfl, hb2⟩
      go_wp2_with fail
      go_ret
      exact ⟨rfl, bl_then hb1 hb2⟩
end Go.Proofs.Ytdfkgkidaffcgaa
