/- Walk: probe.Of. Walks: run.Of, run.New. Walk: run.New. Walks: the pile's methods. The descent through right levels. Plain mathematics. Walk: probe.look at a pile. -/
import Derived.Deep.RegionLaw
import Derived.Test.YtdfkgkidaffcgaaJ17
set_option linter.all false
namespace Go.Proofs.Ytdfkgkidaffcgaa
open Go.RowKit

/-- a pile in memory -/
structure PileAt (w : World) (p : Nat) (eps : Int) (ks : List Int) (ls : List (List Inc.Seg)) : Prop where
  lt : p < w.heap.size
  ceps : w.cell? ⟨p, 0, none⟩ = some (.int .i64 eps)
  ckeys : ∃ v, w.cell? ⟨p, 1, none⟩ = some v ∧ KRow w v ks
  clev : ∃ v, w.cell? ⟨p, 2, none⟩ = some v ∧ LRow w v ls

theorem PileAt.below {W w : World} {p : Nat} {eps : Int} {ks : List Int} {ls : List (List Inc.Seg)} (h : PileAt W p eps ks ls) (hb : Below W.heap.size W w) : PileAt w p eps ks ls := by
  obtain ⟨h1, h2, ⟨v, h3, h4⟩, u, h5, h6⟩ := h
  exact ⟨Nat.lt_of_lt_of_le h1 hb.size, (below_cells hb _ _ h1).trans h2, ⟨v, (below_cells hb _ _ h1).trans h3, Row.below h4 hb⟩, u, (below_cells hb _ _ h1).trans h5, h6.below hb⟩

/-- what probe.Of keeps -/
structure PS (W : World) (p : Nat) (eps : Int) (kv : Value) (ks : List Int) (ls : List (List Inc.Seg)) (k : Nat) (lv : Value) (w : World) : Prop where
  blk : Blk w p 66 [.int .i64 eps, kv, lv]
  krow : w.ownsRow W.heap.size 23 1 kv ks.length (ks.map (Value.int .u64))
  own : LOwn w W.heap.size lv (ls.take k)
  bel : Below W.heap.size W w
  ge : W.heap.size ≤ p

theorem PS.below {W w w' : World} {p : Nat} {eps : Int} {kv lv : Value} {ks : List Int} {ls : List (List Inc.Seg)} {k : Nat} (h : PS W p eps kv ks ls k lv w) (hb : Below w.heap.size w w') : PS W p eps kv ks ls k lv w' :=
  ⟨h.blk.below hb h.blk.lt, owns_below h.krow hb, h.own.below hb, bl_then h.bel hb, h.ge⟩

/-- a level more, and its slice laid into the pile -/
theorem PS.step {W w w' : World} {p : Nat} {eps : Int} {kv lv lv' u : Value} {ks : List Int} {ls : List (List Inc.Seg)} {k : Nat} {l : List Inc.Seg} (h : PS W p eps kv ks ls k lv w) (hl : ls[k]? = some l)
    (hu : w.ownsRow W.heap.size 51 5 u l.length (segVals l)) {vs : List Value} (h1 : vs.length = (ls.take k).length) (h2 : w.ownsRow W.heap.size 67 1 lv (ls.take k).length vs)
    (h3 : ∀ (i : Nat) (s : List Inc.Seg), (ls.take k)[i]? = some s → w.ownsRow W.heap.size 51 5 (vs.getD i undef) s.length (segVals s))
    (hrow : w'.ownsRow W.heap.size 67 1 lv' ((ls.take k).length + 1) (vs ++ [u])) (hg : w.grownBy w' lv.ownBlock) :
    PS W p eps kv ks ls (k + 1) lv' (w'.setCell ⟨p, 2, none⟩ lv') := by
  have hk : k < ls.length := (List.getElem?_eq_some_iff.1 hl).1
  have hsz := h.bel.size
  have hne : lv.ownBlock ≠ some p := owns_blk h2 h.blk (by decide)
  have hB' : Blk w' p 66 [.int .i64 eps, kv, lv] := h.blk.keep (hg.block p h.blk.lt (fun e => hne e.symm))
  have hlo := LOwn.snoc h1 h2 h3 hu hrow hg
  have htk : ls.take k ++ [l] = ls.take (k + 1) := by rw [List.take_add_one, hl]; rfl
  rw [htk] at hlo
  have hbel := below_own h.bel h2 hg hsz
  refine ⟨?_, ?_, ?_, bl_set hbel h.ge _, h.ge⟩
  · have := hB'.put 2 lv'
    simpa using this
  · have hk2 := h.krow.kept hg (owns_apart h.krow h2 (by decide))
    exact ownsRow_setCell_other hk2 (owns_blk hk2 hB' (by decide)) _
  · obtain ⟨vs', j1, j2, j3⟩ := hlo
    exact ⟨vs', j1, ownsRow_setCell_other j2 (owns_blk j2 hB' (by decide)) _, fun i s hs => ownsRow_setCell_other (j3 i s hs) (owns_blk (j3 i s hs) hB' (by decide)) _⟩

theorem PS.done {W w : World} {p : Nat} {eps : Int} {kv lv : Value} {ks : List Int} {ls : List (List Inc.Seg)} (h : PS W p eps kv ks ls ls.length lv w) : PileAt w p eps ks ls := by
  have ho := h.own
  rw [List.take_length] at ho
  exact ⟨h.blk.lt, h.blk.cell (i := 0) (by simp), ⟨kv, h.blk.cell (i := 1) (by simp), Row.own h.krow⟩, lv, h.blk.cell (i := 2) (by simp), ho.read⟩

theorem step_append_row {P : Program} (w : World) {ops : Array Oper} {o : Oper} {a : Act} {K : Act → World → Prop} {Q : Exit → Act → World → Prop} {E : Prop} (hgd : o.guard = none) (d x : Operand) (t : TypeId)
    (ho : o.op = .call { callee := .builtin .append, args := #[d, x], argTypes := #[t, t] })
    (base : Nat) (e : TypeId) (i : TypeInfo) (z : Value) (size bytes : Nat) (ht : P.underlying t = some (.slice e)) (hi : P.info? e = some i) (hz : i.zero = some z)
    (hsize : i.size = size) (hby : i.bytes = bytes) (hzs : z.cells.size = size) (hsz : 0 < size) (v : Value) (n : Nat) (xs : List Value) (hd : a.eval d = v) (hown : w.ownsRow base e size v n xs)
    (s : Value) (m : Nat) (news : List Value) (hx : a.eval x = s) (hr : Row w s m size news) (h1 : ∀ u ∈ news, u.oneCell' = true) (h63 : n + m ≤ maxLen) (hbytes : (n + m) * bytes ≤ 140737488355328) (hbase : base ≤ w.heap.size)
    (h : ∀ v' w', w'.ownsRow base e size v' (n + m) (xs ++ news) → w.grownBy w' v.ownBlock → (v'.ownBlock = v.ownBlock ∨ v'.ownBlock = some w.heap.size) → K (a.put o.dst v') w') :
    if Region.wanted o (yielded ops a.tmps) = true then Oper.wp P o a w K Q else E := by
  have hw : Region.wanted o (yielded ops a.tmps) = true := by simp [Region.wanted, hgd]
  rw [if_pos hw]
  exact wp_append_row w d x t ho base e i z size bytes ht hi hz hsize hby hzs hsz v n xs hd hown s m news hx hr h1 h63 hbytes hbase h

theorem u64_one (ks : List Int) : ∀ u ∈ ks.map (Value.int .u64), u.oneCell' = true := by
  intro u hu
  obtain ⟨_, _, rfl⟩ := List.mem_map.1 hu
  rfl

/-- probe.Of's answer -/
def PileTold (eps : Int) (ks : List Int) (ls : List (List Inc.Seg)) (W : World) (e : Ending) (w' : World) : Prop :=
  Below W.heap.size W w' ∧ (Inc.checkCode eps ks ls ≠ 0 → e = .returned (.tuple #[.pointer none, .int .i64 (Inc.checkCode eps ks ls)])) ∧
    (Inc.checkCode eps ks ls = 0 → ∃ p, W.heap.size ≤ p ∧ e = .returned (.tuple #[.pointer (some ⟨p, 0, none⟩), .int .i64 0]) ∧ PileAt w' p eps ks ls)

set_option maxRecDepth 100000 in
set_option maxHeartbeats 3200000 in
theorem probeOf_any (eps : Int) (ks : List Int) (hkl : ks.length ≤ 4294967296) (hk : ∀ i, i < ks.length → 0 ≤ ks.getD i 0 ∧ ks.getD i 0 < 18446744073709551616)
    (ls : List (List Inc.Seg)) (hll : ls.length ≤ 4294967296) (hls : ∀ l ∈ ls, l.length ≤ 4294967296 ∧ ∀ s ∈ l, Inc.SegWf s) (v lv : Value) (w : World) (h : KRow w v ks) (hl : LRow w lv ls) :
    Calls Try.prog 27 #[v, .int .i64 eps, lv] w (PileTold eps ks ls w) := by
  have hch := check_any eps ks hkl hk ls hll hls v lv w h hl
  obtain ⟨i0, hi, hq0, hq1, hq2⟩ := info_parts info_u64
  obtain ⟨i1, hi1, hr0, hr1, hr2⟩ := info_parts info_seg
  obtain ⟨i2, hi2, ht0, ht1, ht2⟩ := info_parts info_row
  by_cases hC : Inc.checkCode eps ks ls = 0
  · have HC := Lib.hid hC
    rw [hC] at hch
    clear hC
    obtain ⟨vs, hv1, hv2, hv3⟩ := hl
    have HV1 := Lib.hid hv1
    have HV2 := Lib.hid hv2
    have HV3 := Lib.hid hv3
    obtain ⟨_, A, cap, rfl, _, _, _⟩ := hv2
    have HR := Lib.hid h
    clear hv1 hv3 h
    go_enter Try.func27, Try.ntmps27
    go_wp2_with fail
    refine hch.mono ?_
    rintro ed w1 ⟨rfl, hb1⟩
    have hr1k := Row.below HR.out hb1
    have ho := World.ownsRow_made (base := w.heap.size) (e := 23) (size := 1) w1 #[] 0 hb1.size (by unfold maxLen; omega) rfl
    have HB1 := Lib.hid hb1
    clear hb1 hch
    go_wp2_with (first
      | (at_builtin; go_must (refine wpList_append_row _ rfl _ _ 57 rfl w.heap.size 23 i0 (.int .u64 0) 1 8 Try.underlying57 hi hq0 hq1 hq2 rfl (by decide) _ 0 [] rfl ho _ ks.length (ks.map (Value.int .u64)) rfl (Row.alloc hr1k _) (u64_one ks) (by unfold maxLen; omega) (by omega) (by have := HB1.out.size; simp; omega) ?_)))
    intro kv w2 hown2 hg2 hat2
    have hb2 : Below w.heap.size w w2 := below_own (bl_alloc HB1.out _) ho hg2 (by have := HB1.out.size; simp; omega)
    obtain ⟨_, Ak, capk, rfl, _, _, _⟩ := Row.own hown2
    have HO2 := Lib.hid hown2
    have HB2 := Lib.hid hb2
    clear hown2 hg2 hat2 hb2 ho hr1k
    go_wp2_with fail
    have hst : PS w w2.heap.size eps (.slice Ak ks.length capk) ks ls 0 (.slice none 0 0) (w2.alloc (.cells #[.int .i64 eps, .slice Ak ks.length capk, .slice none 0 0] 66)) :=
      ⟨Blk.new w2 _ [.int .i64 eps, .slice Ak ks.length capk, .slice none 0 0], by have := HO2.out.alloc (.cells #[.int .i64 eps, .slice Ak ks.length capk, .slice none 0 0] 66); simpa using this, LOwn.nil _ _, bl_alloc HB2.out _, HB2.out.size⟩
    have HST := Lib.hid hst
    clear hst
    go_loopw [27] (fun x wr => ∃ (k : Nat) (lv : Value), k ≤ ls.length ∧ x = .int .i64 k ∧ PS w w2.heap.size eps (.slice Ak ks.length capk) ks ls k lv wr) (fun x _ => ls.length - (intOf x).toNat)
    case atStart => exact ⟨0, .slice none 0 0, by omega, rfl, HST.out⟩
    case round =>
      clear HST
      obtain ⟨k, lv, hkk, rfl, hps⟩ := hrel
      have HPS := Lib.hid hps
      by_cases hlt : k < ls.length
      · obtain ⟨l, hle⟩ : ∃ l, ls[k]? = some l := ⟨_, List.getElem?_eq_getElem hlt⟩
        obtain ⟨hl1, hl2⟩ := hls l (List.mem_of_getElem? hle)
        obtain ⟨_, A2, cap2, hA, _, _, hc⟩ := Row.below HV2.out hps.bel
        injection hA with hA _ hA2
        subst hA hA2
        obtain ⟨b, off, rfl, hb, hcell⟩ := hc (by omega)
        have c0 := hcell k (by have := HV1.out; omega)
        have hsr : SRow wr (vs.getD k undef) l := Row.below (HV3.out k l hle) hps.bel
        obtain ⟨x, hx⟩ : ∃ x, vs.getD k undef = x := ⟨_, rfl⟩
        rw [hx] at c0 hsr
        have HSR := Lib.hid hsr
        obtain ⟨_, A3, cap3, rfl, _, _, _⟩ := hsr
        have HLE := Lib.hid hle
        have e0n : (k < ls.length) = True := by simp; omega
        have e4 : 0 ≤ (k : Int) ∧ (k : Int) < (ls.length : Int) := by omega
        have e5 : IntKind.i64.wrap ((k : Int) + 1) = ((k + 1 : Nat) : Int) := by rw [IntKind.wrap_i64]; omega
        obtain ⟨us, u1, u2, u3⟩ := hps.own
        have p2 := hps.blk.cell (i := 2) (by simp)
        have p2' : wr.cell? ⟨w2.heap.size, 2, none⟩ = some lv := by simpa using p2
        have pf := hps.blk.free
        have hpz := hps.blk.lt
        have htl : (ls.take k).length = k := by simp; omega
        have HU1 := Lib.hid u1
        have HU2 := Lib.hid u2
        have HU3 := Lib.hid u3
        have hsz := hps.bel.size
        have HHL := Lib.hid hl1
        clear hps hc hcell hx hle p2 u1 u2 u3 hl1 hl2
        have hkn : k < 4294967297 := by omega
        go_wp2_with fail
        go_region_law (first
          | (refine step_append_row _ rfl _ _ 67 rfl w.heap.size 51 i1 (.agg #[.int .u64 0, .float .f64 0, .float .f64 0, .int .i64 0, .int .i64 0]) 5 40 Try.underlying67 hi1 hr0 hr1 hr2 rfl (by decide) _ 0 [] rfl (World.ownsRow_made _ #[] 0 (by have := hsz; simp; omega) (by unfold maxLen; omega) rfl) _ l.length (segVals l) rfl (Row.below HSR.out (by (repeat (first | exact Below.refl _ _ | refine bl_alloc ?_ _ | refine bl_drew ?_ | (refine bl_set ?_ (by simp <;> omega) _) | refine bl_then ?_ (by assumption) | refine bl_cls ?_ (by assumption))))) (segVals_one l) (by have := HHL.out; unfold maxLen; omega) (by have := HHL.out; omega) (by have := hsz; simp; omega) ?_
             intro v3 w3 hown3 hg3 hat3
             simp only [Nat.zero_add, List.nil_append] at hown3
             have hb3 : Below wr.heap.size wr w3 := below_own (by (repeat (first | exact Below.refl _ _ | refine bl_alloc ?_ _ | refine bl_drew ?_ | (refine bl_set ?_ (by simp <;> omega) _) | refine bl_then ?_ (by assumption) | refine bl_cls ?_ (by assumption)))) (World.ownsRow.drew (World.ownsRow_made (base := wr.heap.size) (e := 51) (size := 5) wr #[] 0 (Nat.le_refl _) (by unfold maxLen; omega) rfl)) hg3 (by simp)
             obtain ⟨_, A5, cap5, rfl, _, _, _⟩ := Row.own hown3
             have hc3 := below_cells hb3
             have hz3b := hb3.size
             have hz3 : w2.heap.size < w3.heap.size := by omega)
          | (refine step_append_row _ rfl _ _ 42 rfl w.heap.size 67 i2 (.slice none 0 0) 1 24 Try.underlying42 hi2 ht0 ht1 ht2 rfl (by decide) _ (ls.take k).length us rfl (owns_below HU2.out (by (repeat (first | exact Below.refl _ _ | refine bl_alloc ?_ _ | refine bl_drew ?_ | (refine bl_set ?_ (by simp <;> omega) _) | refine bl_then ?_ (by assumption) | refine bl_cls ?_ (by assumption))))) _ 1 [.slice A5 l.length cap5] rfl ((Blk.new w3 67 [.slice A5 l.length cap5]).row (n := 1) (size := 1) rfl (by unfold maxLen; omega)) (by simp [Value.oneCell']) (by rw [htl]; unfold maxLen; omega) (by rw [htl]; omega) (by simp; omega) ?_
             intro v4 w4 hown4 hg4 hat4
             have hne4 := owns_blk (owns_below HU2.out (show Below wr.heap.size wr _ by (repeat (first | exact Below.refl _ _ | refine bl_alloc ?_ _ | refine bl_drew ?_ | (refine bl_set ?_ (by simp <;> omega) _) | refine bl_then ?_ (by assumption) | refine bl_cls ?_ (by assumption))))) (HPS.out.blk.below (show Below wr.heap.size wr _ by (repeat (first | exact Below.refl _ _ | refine bl_alloc ?_ _ | refine bl_drew ?_ | (refine bl_set ?_ (by simp <;> omega) _) | refine bl_then ?_ (by assumption) | refine bl_cls ?_ (by assumption)))) hpz) (by decide)
             have hk4 := hg4.block w2.heap.size (by simp; omega) (fun e => hne4 e.symm)
             have hB4 : Blk w4 w2.heap.size 66 [.int .i64 eps, .slice Ak ks.length capk, lv] := hk4.trans (HPS.out.blk.below (show Below wr.heap.size wr _ by (repeat (first | exact Below.refl _ _ | refine bl_alloc ?_ _ | refine bl_drew ?_ | (refine bl_set ?_ (by simp <;> omega) _) | refine bl_then ?_ (by assumption) | refine bl_cls ?_ (by assumption)))) hpz)
             have q4 := hB4.cell (i := 2) (by simp)
             have q4' : w4.cell? ⟨w2.heap.size, 2, none⟩ = some lv := q4
             have q4f := hB4.free
             obtain ⟨_, A6, cap6, rfl, _, _, _⟩ := Row.own hown4))
        all_goals
          go_wp2_with fail
          have hps4 := PS.step (HPS.out.below (show Below wr.heap.size wr (w3.alloc (.cells #[.slice A5 l.length cap5] 67)) by (repeat (first | exact Below.refl _ _ | refine bl_alloc ?_ _ | refine bl_drew ?_ | (refine bl_set ?_ (by simp <;> omega) _) | refine bl_then ?_ (by assumption) | refine bl_cls ?_ (by assumption))))) HLE.out (hown3.alloc (.cells #[.slice A5 l.length cap5] 67)) HU1.out (owns_below HU2.out (by (repeat (first | exact Below.refl _ _ | refine bl_alloc ?_ _ | refine bl_drew ?_ | (refine bl_set ?_ (by simp <;> omega) _) | refine bl_then ?_ (by assumption) | refine bl_cls ?_ (by assumption))))) (fun i s hs => owns_below (HU3.out i s hs) (by (repeat (first | exact Below.refl _ _ | refine bl_alloc ?_ _ | refine bl_drew ?_ | (refine bl_set ?_ (by simp <;> omega) _) | refine bl_then ?_ (by assumption) | refine bl_cls ?_ (by assumption))))) hown4 hg4
          rw [htl] at hps4
          exact ⟨⟨k + 1, .slice A6 (k + 1) cap6, by omega, by go_num, hps4⟩, by simp [intOf]; omega⟩
      · obtain rfl : k = ls.length := by omega
        have e0n : (ls.length < ls.length) = False := by simp
        clear hps
        go_wp2_with fail
        go_ret2
        exact ⟨HPS.out.bel, fun h => absurd HC.out h, fun _ => ⟨_, HPS.out.ge, rfl, HPS.out.done⟩⟩
  · have e1 : decide (Inc.checkCode eps ks ls = 0) = false := by simpa using hC
    have e2 : (Inc.checkCode eps ks ls != 0) = true := by simpa using hC
    have HC := Lib.hid hC
    obtain ⟨CC, hCC⟩ : ∃ CC, Inc.checkCode eps ks ls = CC := ⟨_, rfl⟩
    have HCC := Lib.hid hCC
    rw [hCC] at e1 e2 hch
    clear hC hCC
    go_enter Try.func27, Try.ntmps27
    go_wp2_with fail
    refine hch.mono ?_
    rintro ed w1 ⟨rfl, hb1⟩
    go_wp2_with fail
    go_ret2
    exact ⟨hb1, (fun _ => by rw [HCC.out]; rfl), fun h => absurd h HC.out⟩
end Go.Proofs.Ytdfkgkidaffcgaa
namespace Inc
structure EntWf (e : Ent) : Prop where
  k0 : 0 ≤ e.key
  k1 : e.key < 18446744073709551616
  v0 : 0 ≤ e.val
  v1 : e.val < 18446744073709551616
/-- run.Of's code -/
def runCode (eps : Int) (es : List Ent) (ls : List (List Seg)) : Int :=
  if eps < 2 ∨ 64 < eps then 1 else if entCode es ≠ 0 then entCode es else checkCode eps (es.map (·.key)) ls
theorem keys_range {es : List Ent} (h : ∀ e ∈ es, EntWf e) : ∀ i, i < (es.map (·.key)).length → 0 ≤ (es.map (·.key)).getD i 0 ∧ (es.map (·.key)).getD i 0 < 18446744073709551616 := by
  intro i hi
  rw [List.length_map] at hi
  have := h es[i] (List.getElem_mem hi)
  rw [show (es.map (·.key)).getD i 0 = es[i].key by simp [List.getD_eq_getElem?_getD, hi]]
  exact ⟨this.k0, this.k1⟩
end Inc
namespace Go.Proofs.Ytdfkgkidaffcgaa
open Go.RowKit

/-- a run in memory -/
structure RunAt (w : World) (b : Nat) (eps : Int) (es : List Inc.Ent) (ls : List (List Inc.Seg)) : Prop where
  lt : b < w.heap.size
  pile : ∃ p, w.cell? ⟨b, 0, none⟩ = some (.pointer (some ⟨p, 0, none⟩)) ∧ PileAt w p eps (es.map (·.key)) ls
  list : ∃ v, w.cell? ⟨b, 1, none⟩ = some v ∧ ERow w v es
  lev : ∃ v, w.cell? ⟨b, 2, none⟩ = some v ∧ LRow w v ls

theorem RunAt.below {W w : World} {b : Nat} {eps : Int} {es : List Inc.Ent} {ls : List (List Inc.Seg)} (h : RunAt W b eps es ls) (hb : Below W.heap.size W w) : RunAt w b eps es ls := by
  obtain ⟨h1, ⟨p, h2, h3⟩, ⟨v, h4, h5⟩, u, h6, h7⟩ := h
  exact ⟨Nat.lt_of_lt_of_le h1 hb.size, ⟨p, (below_cells hb _ _ h1).trans h2, h3.below hb⟩, ⟨v, (below_cells hb _ _ h1).trans h4, Row.below h5 hb⟩, u, (below_cells hb _ _ h1).trans h6, h7.below hb⟩

theorem LRow.shape {w : World} {v : Value} {ls : List (List Inc.Seg)} (h : LRow w v ls) : ∃ A cap, v = .slice A ls.length cap := by
  obtain ⟨_, _, ⟨_, A, cap, he, _⟩, _⟩ := h
  exact ⟨A, cap, he⟩

/-- run.Of's answer -/
def RunTold (c eps : Int) (es : List Inc.Ent) (ls : List (List Inc.Seg)) (W : World) (e : Ending) (w' : World) : Prop :=
  Below W.heap.size W w' ∧ (c ≠ 0 → e = .returned (.tuple #[.pointer none, .int .i64 c])) ∧
    (c = 0 → ∃ b, W.heap.size ≤ b ∧ e = .returned (.tuple #[.pointer (some ⟨b, 0, none⟩), .int .i64 0]) ∧ RunAt w' b eps es ls)

set_option maxRecDepth 100000 in
set_option maxHeartbeats 3200000 in
theorem runOf_any (eps : Int) (es : List Inc.Ent) (hel : es.length ≤ 4294967296) (hes : ∀ e ∈ es, Inc.EntWf e)
    (ls : List (List Inc.Seg)) (hll : ls.length ≤ 4294967296) (hls : ∀ l ∈ ls, l.length ≤ 4294967296 ∧ ∀ s ∈ l, Inc.SegWf s) (v lv : Value) (w : World) (h : ERow w v es) (hl : LRow w lv ls) :
    Calls Try.prog 11 #[v, .int .i64 eps, lv] w (RunTold (Inc.runCode eps es ls) eps es ls w) := by
  obtain ⟨c, hc⟩ : ∃ c, Inc.runCode eps es ls = c := ⟨_, rfl⟩
  rw [hc]
  have HC := Lib.hid hc
  clear hc
  by_cases d1 : eps < 2
  · obtain rfl : c = 1 := by rw [← HC.out]; unfold Inc.runCode; rw [if_pos (.inl d1)]
    have d1' : decide (eps < 2) = true := by simpa using d1
    go_enter Try.func11, Try.ntmps11
    go_wp2_with fail
    go_ret2
    exact ⟨Below.refl _ _, fun _ => rfl, fun h => absurd h (by decide)⟩
  · by_cases d2 : 64 < eps
    · obtain rfl : c = 1 := by rw [← HC.out]; unfold Inc.runCode; rw [if_pos (.inr d2)]
      have d1' : decide (eps < 2) = false := by simpa using d1
      have d2' : decide (64 < eps) = true := by simpa using d2
      go_enter Try.func11, Try.ntmps11
      go_wp2_with fail
      go_ret2
      exact ⟨Below.refl _ _, fun _ => rfl, fun h => absurd h (by decide)⟩
    · have d1' : decide (eps < 2) = false := by simpa using d1
      have d2' : decide (64 < eps) = false := by simpa using d2
      have hcc := HC.out
      unfold Inc.runCode at hcc
      rw [if_neg (by omega)] at hcc
      have HC2 := Lib.hid hcc
      have hkc := keysCheck_any es hel v w h
      clear HC hcc d1 d2
      by_cases d3 : Inc.entCode es = 0
      · have hcc := HC2.out
        rw [if_neg (by simp [d3])] at hcc
        have HC3 := Lib.hid hcc
        rw [d3] at hkc
        have HE := Lib.hid h
        have HL := Lib.hid hl
        clear d3 hcc h hl
        go_enter Try.func11, Try.ntmps11
        go_wp2_with fail
        refine hkc.mono ?_
        rintro ed w1 ⟨rfl, hb1⟩
        go_wp2_with fail
        refine (keysOf_any es hel v w1 (Row.below HE.out hb1)).mono ?_
        rintro ed w2 ⟨kv, rfl, hkv, hb2⟩
        go_wp2_with fail
        refine (probeOf_any eps (es.map (·.key)) (by rw [List.length_map]; exact hel) (Inc.keys_range hes) ls hll hls kv lv w2 hkv (HL.out.below (bl_then hb1 hb2))).mono ?_
        rintro ed w3 ⟨hb3, m1, m2⟩
        have hb13 : Below w.heap.size w w3 := bl_then (bl_then hb1 hb2) hb3
        have HB := Lib.hid hb13
        rw [HC3.out] at m1 m2
        by_cases d4 : c = 0
        · subst d4
          obtain ⟨p, hp, rfl, hpile⟩ := m2 rfl
          have HP := Lib.hid hpile
          clear m1 m2 hb1 hb2 hb3 hb13 hpile
          go_wp2_with fail
          refine (cloneE_any es hel v w3 (Row.below HE.out HB.out)).mono ?_
          rintro ed w4 ⟨u, rfl, hu, hb4⟩
          obtain ⟨_, A4, cap4, rfl, _, _, _⟩ := Row.own hu
          have HU := Lib.hid hu
          have HB4 := Lib.hid hb4
          clear hu hb4
          go_wp2_with fail
          refine (copied_any ls hll (fun l hl => (hls l hl).1) lv w4 (HL.out.below (bl_then HB.out HB4.out))).mono ?_
          rintro ed w5 ⟨u2, rfl, hu2, hb5⟩
          obtain ⟨A5, cap5, rfl⟩ := hu2.read.shape
          have HU2 := Lib.hid hu2
          have HB5 := Lib.hid hb5
          clear hu2 hb5
          go_wp2_with fail
          go_ret2
          have hB : Blk (w5.alloc (.cells #[.pointer (some ⟨p, 0, none⟩), .slice A4 es.length cap4, .slice A5 ls.length cap5] 44)) w5.heap.size 44 [.pointer (some ⟨p, 0, none⟩), .slice A4 es.length cap4, .slice A5 ls.length cap5] := Blk.new w5 _ [.pointer (some ⟨p, 0, none⟩), .slice A4 es.length cap4, .slice A5 ls.length cap5]
          have hba : Below w5.heap.size w5 (w5.alloc (.cells #[.pointer (some ⟨p, 0, none⟩), .slice A4 es.length cap4, .slice A5 ls.length cap5] 44)) := bl_alloc (Below.refl _ _) _
          have hsz : w.heap.size ≤ w5.heap.size := Nat.le_trans HB.out.size (Nat.le_trans HB4.out.size HB5.out.size)
          refine ⟨bl_alloc (bl_then (bl_then HB.out HB4.out) HB5.out) _, fun h => absurd rfl h, fun _ => ⟨w5.heap.size, hsz, rfl, ?_⟩⟩
          refine ⟨hB.lt, ⟨p, hB.cell (i := 0) (by simp), (HP.out.below (bl_then HB4.out HB5.out)).below hba⟩, ⟨_, hB.cell (i := 1) (by simp), ?_⟩, _, hB.cell (i := 2) (by simp), ?_⟩
          · exact Row.below (Row.below (Row.own HU.out) HB5.out) hba
          · exact HU2.out.read.below hba
        · obtain rfl := m1 d4
          have D4 := Lib.hid d4
          have e1 : decide (c = 0) = false := by simpa using d4
          have e2 : (c != 0) = true := by simpa using d4
          clear m1 m2 d4 hb1 hb2 hb3 hb13
          go_wp2_with fail
          go_ret2
          exact ⟨HB.out, fun _ => rfl, fun h => absurd h D4.out⟩
      · have hcc := HC2.out
        rw [if_pos d3] at hcc
        have D3 := Lib.hid d3
        rw [hcc] at hkc
        have e1 : decide (c = 0) = false := by simp; intro h; exact d3 (hcc.trans h)
        have e2 : (c != 0) = true := by simp; intro h; exact d3 (hcc.trans h)
        have hne : c ≠ 0 := fun h => d3 (hcc.trans h)
        have HN := Lib.hid hne
        clear hne d3 hcc
        go_enter Try.func11, Try.ntmps11
        go_wp2_with fail
        refine hkc.mono ?_
        rintro ed w1 ⟨rfl, hb1⟩
        go_wp2_with fail
        go_ret2
        exact ⟨hb1, fun _ => rfl, fun h => absurd h HN.out⟩
end Go.Proofs.Ytdfkgkidaffcgaa
namespace Inc
theorem built_wf {eps : Int} (he : 2 ≤ eps) (he' : eps ≤ 64) : ∀ (ls : List (List Seg)) (ks : List Int), KeysIn ks → ks.length ≤ 4294967296 → Rise ks → Built (eps - 1) ks ls → ∀ l ∈ ls, l.length ≤ 4294967296 ∧ ∀ s ∈ l, SegWf s := by
  intro ls
  induction ls with
  | nil => intro ks _ _ _ _ l hl; simp at hl
  | cons x t ih =>
    intro ks hin hl hr hb l hlm
    obtain ⟨hp, ⟨es, hg, rfl⟩, ht⟩ := hb
    obtain ⟨k1, k2, k3, k4⟩ := level_keys hg hin hr
    rcases List.mem_cons.1 hlm with rfl | hlm
    · refine ⟨by rw [levelOf_len]; omega, fun s hs => ?_⟩
      obtain ⟨k, hk⟩ := List.getElem?_of_mem hs
      have hkl : k < es.length := by have := (List.getElem?_eq_some_iff.1 hk).1; rw [levelOf_len] at this; exact this
      have hget := levelOf_get (eps - 1) ks es 0 k hkl
      rw [hk] at hget
      injection hget with hget
      obtain ⟨g1, g2, _, _⟩ := hg.at_ hkl
      have hfit := hg.fit hkl
      have hlen := stretch_len (Nat.le_of_lt g1) g2
      have hsin := hin.stretch (beg 0 es k) (es.getD k 0)
      have hsr := hr.stretch (beg 0 es k) (es.getD k 0)
      have hok := (fitTo_ok (e := eps - 1) (by omega) hsr (Nat.le_refl _) hfit).ok
      rw [List.take_length] at hok
      obtain ⟨c1, c2⟩ := seg_good he he' hsin (by omega) hsr hfit (a := (beg 0 es k : Nat)) (by omega) (by rw [hlen]; omega)
      rw [← hget] at c1
      obtain ⟨d1, d2, d3, d4, d5⟩ := chk_fin c1
      have hf := hsin.rng 0 (by omega)
      have ef : s.first = K (stretch ks (beg 0 es k) (es.getD k 0)) 0 := by rw [hget]; rfl
      have ei : s.icpt = ofI ((beg 0 es k : Nat) + baseTo (eps - 1) (stretch ks (beg 0 es k) (es.getD k 0)) (fitD (eps - 1) (stretch ks (beg 0 es k) (es.getD k 0))).least (stretch ks (beg 0 es k) (es.getD k 0)).length) := by rw [hget]; rfl
      refine ⟨by rw [ef]; exact hf.1, by rw [ef]; exact hf.2, by unfold SlOK at d4; omega, ?_, by omega, by omega, by omega, by omega⟩
      rw [ei, ofI_eq]
      exact wr_lt _ _
    · split at ht
      · subst ht; simp at hlm
      · exact ih _ k1 (by omega) k2 ht l hlm

theorem entCode_rise {es : List Ent} (h : entCode es = 0) : riseB (es.map (·.key)) = true ∧ fbad es = es.length := by
  unfold entCode at h
  have hf := fbad_le es
  split at h
  · omega
  · split at h
    · omega
    · rename_i h1 h2
      have : fbad es = es.length := by omega
      rw [this, List.take_of_length_le (by omega)] at h1
      exact ⟨by simpa using h1, this⟩

/-- run.New's code -/
def newCode (eps : Int) (es : List Ent) : Int := if eps < 2 ∨ 64 < eps then 1 else entCode es
end Inc
namespace Go.Proofs.Ytdfkgkidaffcgaa
open Go.RowKit

/-- run.New's answer -/
def NewTold (c eps : Int) (es : List Inc.Ent) (W : World) (e : Ending) (w' : World) : Prop :=
  Below W.heap.size W w' ∧ (c ≠ 0 → e = .returned (.tuple #[.pointer none, .int .i64 c])) ∧
    (c = 0 → ∃ ls b, Inc.Built (eps - 1) (es.map (·.key)) ls ∧ W.heap.size ≤ b ∧ e = .returned (.tuple #[.pointer (some ⟨b, 0, none⟩), .int .i64 0]) ∧ RunAt w' b eps es ls)

set_option maxRecDepth 100000 in
set_option maxHeartbeats 3200000 in
theorem runNew_any (eps : Int) (es : List Inc.Ent) (hel : es.length ≤ 4294967296) (hes : ∀ e ∈ es, Inc.EntWf e) (v : Value) (w : World) (h : ERow w v es) :
    Calls Try.prog 6 #[v, .int .i64 eps] w (NewTold (Inc.newCode eps es) eps es w) := by
  obtain ⟨c, hc⟩ : ∃ c, Inc.newCode eps es = c := ⟨_, rfl⟩
  rw [hc]
  have HC := Lib.hid hc
  clear hc
  by_cases d1 : eps < 2
  · obtain rfl : c = 1 := by rw [← HC.out]; unfold Inc.newCode; rw [if_pos (.inl d1)]
    have d1' : decide (eps < 2) = true := by simpa using d1
    go_enter Try.func6, Try.ntmps6
    go_wp2_with fail
    go_ret2
    exact ⟨Below.refl _ _, fun _ => rfl, fun h => absurd h (by decide)⟩
  · by_cases d2 : 64 < eps
    · obtain rfl : c = 1 := by rw [← HC.out]; unfold Inc.newCode; rw [if_pos (.inr d2)]
      have d1' : decide (eps < 2) = false := by simpa using d1
      have d2' : decide (64 < eps) = true := by simpa using d2
      go_enter Try.func6, Try.ntmps6
      go_wp2_with fail
      go_ret2
      exact ⟨Below.refl _ _, fun _ => rfl, fun h => absurd h (by decide)⟩
    · have d1' : decide (eps < 2) = false := by simpa using d1
      have d2' : decide (64 < eps) = false := by simpa using d2
      have hcc := HC.out
      unfold Inc.newCode at hcc
      rw [if_neg (by omega)] at hcc
      have HC2 := Lib.hid hcc
      have hkc := keysCheck_any es hel v w h
      have hE1 : 2 ≤ eps := by omega
      have hE2 : eps ≤ 64 := by omega
      clear HC d1 d2
      by_cases d3 : Inc.entCode es = 0
      · obtain rfl : c = 0 := hcc.symm.trans d3
        obtain ⟨r1, r2⟩ := Inc.entCode_rise d3
        rw [d3] at hkc
        have hlk : (es.map (·.key)).length ≤ 4294967296 := by rw [List.length_map]; exact hel
        have hin : Inc.KeysIn (es.map (·.key)) := ⟨by omega, Inc.keys_range hes⟩
        have hrc : ∀ ls, Inc.Built (eps - 1) (es.map (·.key)) ls → Inc.runCode eps es ls = 0 := by
          intro ls hb
          unfold Inc.runCode
          rw [if_neg (by omega), if_neg (by simp [d3])]
          exact Inc.built_code hE1 hE2 hin hlk r1 hb
        have HE := Lib.hid h
        have HRC := Lib.hid hrc
        have HR1 := Lib.hid r1
        have HIN := Lib.hid hin
        clear d3 h hcc hrc r1 r2 hin
        go_enter Try.func6, Try.ntmps6
        go_wp2_with fail
        refine hkc.mono ?_
        rintro ed w1 ⟨rfl, hb1⟩
        go_wp2_with fail
        refine (keysOf_any es hel v w1 (Row.below HE.out hb1)).mono ?_
        rintro ed w2 ⟨kv, rfl, hkv, hb2⟩
        go_wp2_with fail
        refine (build_any eps hE1 hE2 (es.map (·.key)) HIN.out hlk HR1.out kv w2 hkv).mono ?_
        rintro ed w3 ⟨ls, u, hbl, rfl, hu, hb3⟩
        have HBL := Lib.hid hbl
        have HU := Lib.hid hu.read
        have HB := Lib.hid (show Below w.heap.size w w3 from bl_then (bl_then hb1 hb2) hb3)
        have hll : ls.length ≤ 4294967296 := by
          have h1 := Inc.built_high hE1 ls _ HIN.out (Inc.rise_lt HR1.out) hbl
          have h2 := Inc.maxH_bound hE1 _ (es.map (·.key)).length (Int.self_le_toNat _) (by omega)
          omega
        have hwf := Inc.built_wf hE1 hE2 ls _ HIN.out hlk (Inc.rise_lt HR1.out) hbl
        clear hb1 hb2 hb3 hkv hu hbl
        go_wp2_with fail
        refine (runOf_any eps es hel hes ls hll hwf v u w3 (Row.below HE.out HB.out) HU.out).mono ?_
        rintro ed w4 ⟨hb4, m1, m2⟩
        obtain ⟨b, hbge, rfl, hrun⟩ := m2 (HRC.out ls HBL.out)
        have HRUN := Lib.hid hrun
        have HB4 := Lib.hid hb4
        have hge : w.heap.size ≤ b := Nat.le_trans HB.out.size hbge
        clear m1 m2 hrun hb4
        go_wp2_with fail
        go_ret2
        exact ⟨bl_then HB.out HB4.out, fun h => absurd rfl h, fun _ => ⟨ls, b, HBL.out, hge, rfl, HRUN.out⟩⟩
      · rw [hcc] at hkc
        have e1 : decide (c = 0) = false := by simp; intro h; exact d3 (hcc.trans h)
        have e2 : (c != 0) = true := by simp; intro h; exact d3 (hcc.trans h)
        have hne : c ≠ 0 := fun h => d3 (hcc.trans h)
        have HN := Lib.hid hne
        clear hne d3 hcc
        go_enter Try.func6, Try.ntmps6
        go_wp2_with fail
        refine hkc.mono ?_
        rintro ed w1 ⟨rfl, hb1⟩
        go_wp2_with fail
        go_ret2
        exact ⟨hb1, fun _ => rfl, fun h => absurd h HN.out⟩
end Go.Proofs.Ytdfkgkidaffcgaa
namespace Inc
def noSeg : Seg := ⟨0, 0, 0, 0, 0⟩
def lsize (ks : List Int) (ls : List (List Seg)) (lev : Int) : Int :=
  if lev < 0 ∨ (ls.length : Int) < lev then 0 else if lev = 0 then (ks.length : Int) else ((ls.getD (lev.toNat - 1) []).length : Int)
def lkey (ks : List Int) (ls : List (List Seg)) (lev slot : Int) : Int :=
  if slot < 0 ∨ lsize ks ls lev ≤ slot then 0 else if lev = 0 then ks.getD slot.toNat 0 else ((ls.getD (lev.toNat - 1) []).getD slot.toNat noSeg).first
def lseg (ks : List Int) (ls : List (List Seg)) (lev slot : Int) : Seg :=
  if lev < 1 ∨ slot < 0 ∨ lsize ks ls lev ≤ slot then noSeg else (ls.getD (lev.toNat - 1) []).getD slot.toNat noSeg
theorem lsize_nat (ks : List Int) (ls : List (List Seg)) (k : Nat) (h : k < ls.length) : lsize ks ls ((k : Int) + 1) = ((ls.getD k []).length : Int) := by
  unfold lsize
  rw [if_neg (by omega), if_neg (by omega)]
  congr 3
theorem lsize_zero (ks : List Int) (ls : List (List Seg)) : lsize ks ls 0 = ks.length := by
  unfold lsize
  rw [if_neg (by omega), if_pos rfl]
theorem lsize_le (ks : List Int) (ls : List (List Seg)) (B : Nat) (h1 : ks.length ≤ B) (h2 : ∀ l ∈ ls, l.length ≤ B) (lev : Int) : 0 ≤ lsize ks ls lev ∧ lsize ks ls lev ≤ B := by
  unfold lsize
  split
  · omega
  · split
    · omega
    · rename_i h3 h4
      have hk : lev.toNat - 1 < ls.length := by omega
      have := h2 (ls.getD (lev.toNat - 1) []) (by rw [List.getD_eq_getElem?_getD, List.getElem?_eq_getElem hk]; exact List.getElem_mem hk)
      omega
end Inc
namespace Go.Proofs.Ytdfkgkidaffcgaa
open Go.RowKit

theorem pileEps_any {w : World} {p : Nat} {eps : Int} {ks : List Int} {ls : List (List Inc.Seg)} (h : PileAt w p eps ks ls) :
    Calls Try.prog 13 #[.pointer (some ⟨p, 0, none⟩)] w fun e w' => e = .returned (.int .i64 eps) ∧ w = w' := by
  have h1 := h.ceps
  clear h
  go_enter Try.func13, Try.ntmps13
  go_wp2
  go_ret
  exact ⟨rfl, rfl⟩

theorem pileHeight_any {w : World} {p : Nat} {eps : Int} {ks : List Int} {ls : List (List Inc.Seg)} (h : PileAt w p eps ks ls) :
    Calls Try.prog 20 #[.pointer (some ⟨p, 0, none⟩)] w fun e w' => e = .returned (.int .i64 ls.length) ∧ w = w' := by
  obtain ⟨v, h1, h2⟩ := h.clev
  obtain ⟨A, cap, rfl⟩ := h2.shape
  clear h h2
  go_enter Try.func20, Try.ntmps20
  go_wp2
  go_ret
  exact ⟨rfl, rfl⟩

/-- the level in memory -/
theorem LRow.at_ {w : World} {v : Value} {ls : List (List Inc.Seg)} (h : LRow w v ls) {k : Nat} {l : List Inc.Seg} (hl : ls[k]? = some l) : ∃ b off cap u, v = .slice (some ⟨b, off, none⟩) ls.length cap ∧ w.cell? ⟨b, off + k, none⟩ = some u ∧ SRow w u l := by
  obtain ⟨vs, h1, h2, h3⟩ := h
  have hk : k < ls.length := (List.getElem?_eq_some_iff.1 hl).1
  obtain ⟨_, A, cap, rfl, _, _, hc⟩ := h2
  obtain ⟨b, off, rfl, hb, hcell⟩ := hc (by omega)
  exact ⟨b, off, cap, vs.getD k undef, rfl, hcell k (by omega), h3 k l hl⟩

set_option maxHeartbeats 1600000 in
theorem pileSize_any {w : World} {p : Nat} {eps : Int} {ks : List Int} {ls : List (List Inc.Seg)} (h : PileAt w p eps ks ls) (hll : ls.length ≤ 4294967296) (lev : Int) (h0 : -9223372036854775808 ≤ lev) (h1 : lev ≤ 9223372036854775807) :
    Calls Try.prog 21 #[.pointer (some ⟨p, 0, none⟩), .int .i64 lev] w fun e w' => e = .returned (.int .i64 (Inc.lsize ks ls lev)) ∧ w = w' := by
  obtain ⟨v, c1, c2⟩ := h.clev
  obtain ⟨kv, k1, k2⟩ := h.ckeys
  have HL := Lib.hid c2
  obtain ⟨A, cap, rfl⟩ := c2.shape
  obtain ⟨_, A2, cap2, rfl, _, _, _⟩ := k2
  clear c2 h
  by_cases d1 : lev < 0
  · have d1' : decide (lev < 0) = true := by simpa using d1
    rw [show Inc.lsize ks ls lev = 0 by unfold Inc.lsize; rw [if_pos (.inl d1)]]
    go_enter Try.func21, Try.ntmps21
    go_wp2
    go_ret
    exact ⟨rfl, rfl⟩
  · have d1' : decide (lev < 0) = false := by simpa using d1
    obtain ⟨n, rfl⟩ := Int.eq_ofNat_of_zero_le (show 0 ≤ lev by omega)
    by_cases d2 : ls.length < n
    · have d2' : (ls.length < n) = True := by simpa using d2
      rw [show Inc.lsize ks ls n = 0 by unfold Inc.lsize; rw [if_pos (by omega)]]
      clear d2
      go_enter Try.func21, Try.ntmps21
      go_wp2
      go_ret
      exact ⟨rfl, rfl⟩
    · have d2' : (ls.length < n) = False := by simpa using d2
      rcases Nat.eq_zero_or_pos n with rfl | hn
      · rw [show ((0 : Nat) : Int) = 0 from rfl, Inc.lsize_zero]
        have d3 : decide ((0 : Int) < 0) = false := by decide
        have d4 : decide ((ls.length : Int) < 0) = false := by simp <;> omega
        clear d1 d2 d1'
        go_enter Try.func21, Try.ntmps21
        go_wp2
        go_ret
        exact ⟨rfl, rfl⟩
      · obtain ⟨k, rfl⟩ : ∃ k, n = k + 1 := ⟨n - 1, by omega⟩
        obtain ⟨l, hl⟩ : ∃ l, ls[k]? = some l := ⟨_, List.getElem?_eq_getElem (by omega)⟩
        obtain ⟨b, off, cap3, u, hA, c3, hs⟩ := LRow.at_ HL.out hl
        injection hA with hA _ hA2
        subst hA hA2
        obtain ⟨_, A4, cap4, rfl, _, _, _⟩ := hs
        have hsz := Inc.lsize_nat ks ls k (by omega)
        rw [show (ls.getD k []).length = l.length by simp [List.getD_eq_getElem?_getD, hl]] at hsz
        rw [show (((k + 1 : Nat)) : Int) = (k : Int) + 1 by omega] at *
        rw [hsz]
        have e1 : decide ((k : Int) + 1 = 0) = false := by simp <;> omega
        have e1b : ((k : Int) + 1 == 0) = false := by simp <;> omega
        have e2 : decide ((k : Int) + 1 < 0) = false := by simp <;> omega
        have e3 : decide ((ls.length : Int) < (k : Int) + 1) = false := by simp <;> omega
        have e4 : 0 ≤ (k : Int) ∧ (k : Int) < (ls.length : Int) := by omega
        have e5 : (k : Int) + 1 - 1 = (k : Int) := by omega
        have e6 : IntKind.i64.wrap (k : Int) = (k : Int) := wrap_i64_id' (by omega) (by omega)
        clear hsz hl d1 d2 d2' d1'
        go_enter Try.func21, Try.ntmps21
        go_wp2
        go_ret
        exact ⟨rfl, rfl⟩

theorem lsize_in {ks : List Int} {ls : List (List Inc.Seg)} {lev slot : Int} (h : 0 ≤ slot) (h' : slot < Inc.lsize ks ls lev) : 0 ≤ lev ∧ lev ≤ ls.length := by
  unfold Inc.lsize at h'
  split at h'
  · omega
  · omega

set_option maxRecDepth 100000 in
set_option maxHeartbeats 1600000 in
theorem pileKey_any {w : World} {p : Nat} {eps : Int} {ks : List Int} {ls : List (List Inc.Seg)} (h : PileAt w p eps ks ls) (hll : ls.length ≤ 4294967296) (lev slot : Int) (h0 : -9223372036854775808 ≤ lev) (h1 : lev ≤ 9223372036854775807)
    (s0 : -9223372036854775808 ≤ slot) (s1 : slot ≤ 9223372036854775807) :
    Calls Try.prog 22 #[.pointer (some ⟨p, 0, none⟩), .int .i64 lev, .int .i64 slot] w fun e w' => e = .returned (.int .u64 (Inc.lkey ks ls lev slot)) ∧ w = w' := by
  have hsz := pileSize_any h hll lev h0 h1
  by_cases d1 : slot < 0
  · have d1' : decide (slot < 0) = true := by simpa using d1
    rw [show Inc.lkey ks ls lev slot = 0 by unfold Inc.lkey; rw [if_pos (.inl d1)]]
    go_enter Try.func22, Try.ntmps22
    go_wp2_with fail
    go_ret
    exact ⟨rfl, rfl⟩
  · have d1' : decide (slot < 0) = false := by simpa using d1
    by_cases d2 : Inc.lsize ks ls lev ≤ slot
    · rw [show Inc.lkey ks ls lev slot = 0 by unfold Inc.lkey; rw [if_pos (.inr d2)]]
      generalize Inc.lsize ks ls lev = sz at *
      have d2' : decide (sz ≤ slot) = true := by simpa using d2
      go_enter Try.func22, Try.ntmps22
      go_wp2_with fail
      refine hsz.mono ?_
      rintro e w' ⟨rfl, rfl⟩
      go_wp2_with fail
      go_ret
      exact ⟨rfl, rfl⟩
    · obtain ⟨l0, l1⟩ := lsize_in (show 0 ≤ slot by omega) (show slot < Inc.lsize ks ls lev by omega)
      obtain ⟨v, c1, c2⟩ := h.clev
      obtain ⟨kv, k1, k2⟩ := h.ckeys
      have HL := Lib.hid c2
      obtain ⟨A, cap, rfl⟩ := c2.shape
      obtain ⟨_, A2, cap2, rfl, _, _, kc⟩ := k2
      clear c2 h
      obtain ⟨n, rfl⟩ := Int.eq_ofNat_of_zero_le l0
      obtain ⟨m, rfl⟩ := Int.eq_ofNat_of_zero_le (show 0 ≤ slot by omega)
      rcases Nat.eq_zero_or_pos n with rfl | hn
      · have hk : Inc.lkey ks ls ((0 : Nat) : Int) m = ks.getD m 0 := by unfold Inc.lkey; rw [if_neg (by omega), if_pos (by simp), Int.toNat_natCast]
        have hs0 := Inc.lsize_zero ks ls
        rw [hk]
        rw [show ((0 : Nat) : Int) = 0 from rfl] at *
        rw [hs0] at hsz d2
        obtain ⟨b, off, rfl, hb, hcell⟩ := kc (by omega)
        have q := hcell m (by rw [List.length_map]; omega)
        rw [show (ks.map (Value.int .u64)).getD m undef = .int .u64 (ks.getD m 0) by simp [List.getD_eq_getElem?_getD, show m < ks.length by omega]] at q
        generalize ks.getD m 0 = key at *
        have e1 : decide ((ks.length : Int) ≤ (m : Int)) = false := by simp; omega
        have e1n : (ks.length ≤ m) = False := by simp; omega
        have e4 : 0 ≤ (m : Int) ∧ (m : Int) < (ks.length : Int) := by omega
        clear hk hs0 kc hcell d2
        go_enter Try.func22, Try.ntmps22
        go_wp2_with fail
        refine hsz.mono ?_
        rintro e w' ⟨rfl, rfl⟩
        go_wp2_with fail
        go_ret
        exact ⟨rfl, rfl⟩
      · obtain ⟨k, rfl⟩ : ∃ k, n = k + 1 := ⟨n - 1, by omega⟩
        obtain ⟨l, hl⟩ : ∃ l, ls[k]? = some l := ⟨_, List.getElem?_eq_getElem (by omega)⟩
        obtain ⟨b, off, cap3, u, hA, c3, hs⟩ := LRow.at_ HL.out hl
        injection hA with hA _ hA2
        subst hA hA2
        have hszn := Inc.lsize_nat ks ls k (by omega)
        rw [show (ls.getD k []).length = l.length by simp [List.getD_eq_getElem?_getD, hl]] at hszn
        rw [show (((k + 1 : Nat)) : Int) = (k : Int) + 1 by omega] at *
        rw [hszn] at hsz d2
        obtain ⟨sg, hsg⟩ : ∃ sg, l[m]? = some sg := ⟨_, List.getElem?_eq_getElem (by omega)⟩
        obtain ⟨b5, o5, cap5, hu, hb5, q0, q1, q2, q3, q4⟩ := SRow.at_ hs hsg
        subst hu
        have hk : Inc.lkey ks ls ((k : Int) + 1) m = sg.first := by
          unfold Inc.lkey
          rw [hszn, if_neg (by omega), if_neg (by omega), show ((k : Int) + 1).toNat - 1 = k by omega, Int.toNat_natCast]
          simp [List.getD_eq_getElem?_getD, hl, hsg]
        rw [hk]
        have e1 : decide ((l.length : Int) ≤ (m : Int)) = false := by simp; omega
        have e1n : (l.length ≤ m) = False := by simp; omega
        have e2 : decide ((k : Int) + 1 = 0) = false := by simp <;> omega
        have e2b : ((k : Int) + 1 == 0) = false := by simp <;> omega
        have e4 : 0 ≤ (k : Int) ∧ (k : Int) < (ls.length : Int) := by omega
        have e5 : (k : Int) + 1 - 1 = (k : Int) := by omega
        have e6 : IntKind.i64.wrap (k : Int) = (k : Int) := wrap_i64_id' (by omega) (by omega)
        have e7 : 0 ≤ (m : Int) ∧ (m : Int) < (l.length : Int) := by omega
        clear hszn hl hsg hs hk d2 d1 l0 l1 hn kc
        go_enter Try.func22, Try.ntmps22
        go_wp2_with fail
        refine hsz.mono ?_
        rintro e w' ⟨rfl, rfl⟩
        go_wp2_with fail
        go_ret
        exact ⟨rfl, rfl⟩

set_option maxRecDepth 100000 in
set_option maxHeartbeats 1600000 in
theorem pileSeg_any {w : World} {p : Nat} {eps : Int} {ks : List Int} {ls : List (List Inc.Seg)} (h : PileAt w p eps ks ls) (hll : ls.length ≤ 4294967296) (lev slot : Int) (h0 : -9223372036854775808 ≤ lev) (h1 : lev ≤ 9223372036854775807)
    (s0 : -9223372036854775808 ≤ slot) (s1 : slot ≤ 9223372036854775807) :
    Calls Try.prog 18 #[.pointer (some ⟨p, 0, none⟩), .int .i64 lev, .int .i64 slot] w fun e w' => e = .returned (segV (Inc.lseg ks ls lev slot)) ∧ Below w.heap.size w w' := by
  by_cases d0 : lev < 1
  · have d0' : decide (lev < 1) = true := by simpa using d0
    rw [show Inc.lseg ks ls lev slot = Inc.noSeg by unfold Inc.lseg; rw [if_pos (.inl d0)]]
    go_enter Try.func18, Try.ntmps18
    go_wp2_with fail
    exact bodyPost_ret (by simp only [results, Try.results18]; go_simp <;> rfl) rfl ⟨rfl, by (repeat (first | exact Below.refl _ _ | refine bl_alloc ?_ _ | refine bl_drew ?_ | (refine bl_set ?_ (by simp <;> omega) _) | refine bl_then ?_ (by assumption) | refine bl_cls ?_ (by assumption)))⟩
  · have d0' : decide (lev < 1) = false := by simpa using d0
    by_cases d1 : slot < 0
    · have d1' : decide (slot < 0) = true := by simpa using d1
      rw [show Inc.lseg ks ls lev slot = Inc.noSeg by unfold Inc.lseg; rw [if_pos (.inr (.inl d1))]]
      go_enter Try.func18, Try.ntmps18
      go_wp2_with fail
      exact bodyPost_ret (by simp only [results, Try.results18]; go_simp <;> rfl) rfl ⟨rfl, by (repeat (first | exact Below.refl _ _ | refine bl_alloc ?_ _ | refine bl_drew ?_ | (refine bl_set ?_ (by simp <;> omega) _) | refine bl_then ?_ (by assumption) | refine bl_cls ?_ (by assumption)))⟩
    · have d1' : decide (slot < 0) = false := by simpa using d1
      have hP := Lib.hid (h.below (w := w.alloc (.cells #[.int .u64 0, .float .f64 0, .float .f64 0, .int .i64 0, .int .i64 0] 51)) (bl_alloc (Below.refl _ _) _))
      have hsz := pileSize_any hP.out hll lev h0 h1
      by_cases d2 : Inc.lsize ks ls lev ≤ slot
      · rw [show Inc.lseg ks ls lev slot = Inc.noSeg by unfold Inc.lseg; rw [if_pos (.inr (.inr d2))]]
        generalize Inc.lsize ks ls lev = sz at *
        have d2' : decide (sz ≤ slot) = true := by simpa using d2
        go_enter Try.func18, Try.ntmps18
        go_wp2_with fail
        refine hsz.mono ?_
        rintro e w' ⟨rfl, rfl⟩
        go_wp2_with fail
        exact bodyPost_ret (by simp only [results, Try.results18]; go_simp <;> rfl) rfl ⟨rfl, by (repeat (first | exact Below.refl _ _ | refine bl_alloc ?_ _ | refine bl_drew ?_ | (refine bl_set ?_ (by simp <;> omega) _) | refine bl_then ?_ (by assumption) | refine bl_cls ?_ (by assumption)))⟩
      · obtain ⟨l0, l1⟩ := lsize_in (show 0 ≤ slot by omega) (show slot < Inc.lsize ks ls lev by omega)
        have hplt := h.lt
        obtain ⟨v, c1, c2⟩ := h.clev
        have HL := Lib.hid c2
        obtain ⟨A, cap, rfl⟩ := c2.shape
        clear c2 h
        obtain ⟨k, rfl⟩ : ∃ k : Nat, lev = (k : Int) + 1 := ⟨(lev - 1).toNat, by omega⟩
        obtain ⟨m, rfl⟩ := Int.eq_ofNat_of_zero_le (show 0 ≤ slot by omega)
        obtain ⟨l, hl⟩ : ∃ l, ls[k]? = some l := ⟨_, List.getElem?_eq_getElem (by omega)⟩
        obtain ⟨b, off, cap3, u, hA, c3, hs⟩ := LRow.at_ HL.out hl
        injection hA with hA _ hA2
        subst hA hA2
        have hb3 := World.block_lt_of_cell? w _ c3
        have hszn := Inc.lsize_nat ks ls k (by omega)
        rw [show (ls.getD k []).length = l.length by simp [List.getD_eq_getElem?_getD, hl]] at hszn
        rw [hszn] at hsz d2
        obtain ⟨sg, hsg⟩ : ∃ sg, l[m]? = some sg := ⟨_, List.getElem?_eq_getElem (by omega)⟩
        obtain ⟨b5, o5, cap5, hu, hb5, q0, q1, q2, q3, q4⟩ := SRow.at_ hs hsg
        subst hu
        have hk : Inc.lseg ks ls ((k : Int) + 1) m = sg := by
          unfold Inc.lseg
          rw [hszn, if_neg (by omega), show ((k : Int) + 1).toNat - 1 = k by omega, Int.toNat_natCast]
          simp [List.getD_eq_getElem?_getD, hl, hsg]
        rw [hk]
        have e1 : decide ((l.length : Int) ≤ (m : Int)) = false := by simp; omega
        have e1n : (l.length ≤ m) = False := by simp; omega
        have e4 : 0 ≤ (k : Int) ∧ (k : Int) < (ls.length : Int) := by omega
        have e5 : (k : Int) + 1 - 1 = (k : Int) := by omega
        have e6 : IntKind.i64.wrap (k : Int) = (k : Int) := wrap_i64_id' (by omega) (by omega)
        have e7 : 0 ≤ (m : Int) ∧ (m : Int) < (l.length : Int) := by omega
        clear hszn hl hsg hs hk d2 d1 d0 l0 l1
        go_enter Try.func18, Try.ntmps18
        go_wp2_with fail
        refine hsz.mono ?_
        rintro e w' ⟨rfl, rfl⟩
        go_wp2_with fail
        exact bodyPost_ret (by simp only [results, Try.results18]; go_simp <;> rfl) rfl ⟨rfl, by (repeat (first | exact Below.refl _ _ | refine bl_alloc ?_ _ | refine bl_drew ?_ | (refine bl_set ?_ (by simp <;> omega) _) | refine bl_then ?_ (by assumption) | refine bl_cls ?_ (by assumption)))⟩
end Go.Proofs.Ytdfkgkidaffcgaa
namespace Inc
/-- how many keys are below q -/
def rk (row : List Int) (q : Int) : Nat := row.countP (fun k => decide (k < q))

theorem rk_le (row : List Int) (q : Int) : rk row q ≤ row.length := List.countP_le_length

theorem rise_tail {a : Int} {t : List Int} (h : Rise (a :: t)) : Rise t ∧ ∀ i, i < t.length → a < K t i := by
  constructor
  · intro i j hij hj
    have := h (i + 1) (j + 1) (by omega) (by simpa using hj)
    simpa [K] using this
  · intro i hi
    have := h 0 (i + 1) (by omega) (by simpa using hi)
    simpa [K] using this

theorem rk_iff {row : List Int} (h : Rise row) (q : Int) : ∀ i, i < row.length → (K row i < q ↔ i < rk row q) := by
  induction row with
  | nil => intro i hi; simp at hi
  | cons a t ih =>
    obtain ⟨h1, h2⟩ := rise_tail h
    intro i hi
    have e : rk (a :: t) q = rk t q + (if a < q then 1 else 0) := by
      unfold rk
      rw [List.countP_cons]
      simp
    have hz : ¬ a < q → rk t q = 0 := by
      intro ha
      rcases Nat.eq_zero_or_pos (rk t q) with hz | hp
      · exact hz
      · have hl := rk_le t q
        have := (ih h1 0 (by omega)).2 hp
        have := h2 0 (by omega)
        omega
    cases i with
    | zero =>
      rw [show K (a :: t) 0 = a from rfl, e]
      by_cases ha : a < q
      · rw [if_pos ha]; omega
      · rw [if_neg ha, hz ha]; omega
    | succ i =>
      rw [show K (a :: t) (i + 1) = K t i from rfl, e]
      have := ih h1 i (by simpa using hi)
      by_cases ha : a < q
      · rw [if_pos ha]; omega
      · rw [if_neg ha, hz ha] at *
        have hi' := h2 i (by simpa using hi)
        omega

theorem tile_next : ∀ (l : List Seg) (a n : Int) (j : Nat) (s t : Seg), tileB a l n = true → l[j]? = some s → l[j + 1]? = some t → t.from_ = s.till := by
  intro l
  induction l with
  | nil => intro a n j s t _ h; simp at h
  | cons x r ih =>
    intro a n j s t h hs ht
    simp only [tileB, Bool.and_eq_true, decide_eq_true_eq] at h
    obtain ⟨⟨⟨h1, h2⟩, h3⟩, h4⟩ := h
    cases j with
    | zero =>
      simp only [List.getElem?_cons_zero, Option.some.injEq] at hs
      subst hs
      cases r with
      | nil => simp at ht
      | cons y r2 =>
        simp only [List.getElem?_cons_succ, List.getElem?_cons_zero, Option.some.injEq] at ht
        subst ht
        simp only [tileB, Bool.and_eq_true, decide_eq_true_eq] at h4
        exact h4.1.1.1
    | succ j => exact ih _ n j s t h4 (by simpa using hs) (by simpa using ht)

theorem tile_last : ∀ (l : List Seg) (a n : Int) (j : Nat) (s : Seg), tileB a l n = true → l[j]? = some s → j + 1 = l.length → s.till = n := by
  intro l
  induction l with
  | nil => intro a n j s _ h; simp at h
  | cons x r ih =>
    intro a n j s h hs hj
    simp only [tileB, Bool.and_eq_true, decide_eq_true_eq] at h
    obtain ⟨⟨⟨h1, h2⟩, h3⟩, h4⟩ := h
    cases j with
    | zero =>
      simp only [List.getElem?_cons_zero, Option.some.injEq] at hs
      subst hs
      cases r with
      | nil => simpa [tileB] using h4
      | cons y r2 => simp at hj
    | succ j => exact ih _ n j s h4 (by simpa using hs) (by simpa using hj)

/-- the keys of a level -/
def rowOf (ks : List Int) (ls : List (List Seg)) : Nat → List Int
  | 0 => ks
  | k + 1 => (ls.getD k []).map (·.first)

/-- levels that are right over these keys -/
def Right (eps : Int) (ks : List Int) (ls : List (List Seg)) : Prop :=
  Rise ks ∧ (∀ k, k < ls.length → tileB 0 (ls.getD k []) (rowOf ks ls k).length = true ∧ rowBad eps (rowOf ks ls k) (ls.getD k []) = 0) ∧ (ls.length = 0 ↔ ks.length = 0) ∧ (0 < ls.length → (rowOf ks ls ls.length).length = 1)

theorem go_right {eps : Int} : ∀ (ls : List (List Seg)) (ks : List Int), goBad eps ks ls = 0 → (∀ k, k < ls.length → tileB 0 (ls.getD k []) (rowOf ks ls k).length = true ∧ rowBad eps (rowOf ks ls k) (ls.getD k []) = 0) ∧ (rowOf ks ls ls.length).length = 1 := by
  intro ls
  induction ls with
  | nil =>
    intro ks h
    refine ⟨fun k hk => by simp at hk, ?_⟩
    have h' : (if ks.length = 1 then (0 : Int) else 84) = 0 := h
    split at h'
    · assumption
    · omega
  | cons l t ih =>
    intro ks h
    unfold goBad at h
    split at h
    · omega
    · rename_i ht
      split at h
      · omega
      · rename_i hb
        obtain ⟨h1, h2⟩ := ih _ h
        have e : ∀ k, rowOf (l.map (·.first)) t k = rowOf ks (l :: t) (k + 1) := by
          intro k
          cases k with
          | zero => rfl
          | succ k => rfl
        refine ⟨fun k hk => ?_, ?_⟩
        · cases k with
          | zero =>
          have g1 : tileB 0 l ks.length = true := by simpa using ht
          have g2 : rowBad eps ks l = 0 := by omega
          exact ⟨g1, g2⟩
          | succ k =>
            have := h1 k (by simpa using hk)
            rw [e k] at this
            exact this
        · rw [e] at h2
          exact h2

theorem check_right {eps : Int} {ks : List Int} {ls : List (List Seg)} (h : checkCode eps ks ls = 0) : 2 ≤ eps ∧ eps ≤ 64 ∧ Right eps ks ls ∧ ls.length ≤ maxH eps 4294967296 := by
  unfold checkCode at h
  split at h
  · omega
  · split at h
    · omega
    · rename_i h1 h2
      split at h
      · omega
      · rename_i h3
        have hr : riseB ks = true := by simpa using h2
        split at h
        · rename_i h4
          refine ⟨by omega, by omega, ⟨rise_lt hr, fun k hk => by omega, by omega, fun h => by omega⟩, by omega⟩
        · obtain ⟨a, b⟩ := go_right ls ks h
          exact ⟨by omega, by omega, ⟨rise_lt hr, a, by omega, fun _ => b⟩, by omega⟩

theorem Right.rise {eps : Int} {ks : List Int} {ls : List (List Seg)} (h : Right eps ks ls) : ∀ k, k ≤ ls.length → Rise (rowOf ks ls k) := by
  intro k
  induction k with
  | zero => intro _; exact h.1
  | succ k ih =>
    intro hk
    obtain ⟨h1, h2⟩ := h.2.1 k (by omega)
    exact firsts_rise h1 h2 (ih (by omega))

/-- a slot that may be asked: q is not below its first key (if it is not the first), and below the next slot's -/
def SlotOK (row : List Int) (q : Int) (j : Nat) : Prop := j < row.length ∧ (j = 0 ∨ K row j ≤ q) ∧ (j + 1 < row.length → q < K row (j + 1))

theorem gs_mono {s : Seg} (h : chk s = 0) (hw : SegWf s) {a b : Int} (ha : a ≤ b) (hb : b < 18446744073709551616) : gs s a ≤ gs s b := by
  obtain ⟨c1, c2, c3, c4, c5⟩ := chk_fin h
  have := hw.f0
  have := hw.f1
  have := whole_mono (s := s.slope) (b := s.icpt) (c := max a s.first - s.first) (d := max b s.first - s.first) c4 (by omega) (by omega) (by omega)
  unfold gs
  omega

/-- what a segment that was asked says of the rank below it -/
structure StepOK (eps : Int) (row : List Int) (q : Int) (s : Seg) (r : Nat) : Prop where
  f0 : 0 ≤ s.from_
  fr : s.from_ ≤ r
  rt : (r : Int) ≤ s.till
  tl : s.till ≤ row.length
  ft : s.from_ < s.till
  lo : max s.from_ (gs s q - eps - 1) ≤ r
  hi : (r : Int) ≤ min s.till (gs s q + eps + 1)
  near : gs s q - r ≤ eps + 1 ∧ r - gs s q ≤ eps + 1
  on : r < row.length → K row r = q → gs s q - r ≤ eps ∧ r - gs s q ≤ eps
  ends : (r : Int) = s.till → r < row.length → K row r ≠ q

theorem level_step {eps : Int} {row : List Int} {l : List Seg} (he : 0 ≤ eps) (ht : tileB 0 l row.length = true) (hb : rowBad eps row l = 0) (hr : Rise row) (hw : ∀ s ∈ l, SegWf s) {q : Int} (hq : q < 18446744073709551616)
    (hrow : ∀ i, i < row.length → K row i < 18446744073709551616) {j : Nat} {s : Seg} (hs : l[j]? = some s) (hj : SlotOK (l.map (·.first)) q j) : StepOK eps row q s (rk row q) := by
  rw [rowBad_zero] at hb
  have hm := List.mem_of_getElem? hs
  obtain ⟨c0, f1, off⟩ := seg_first (hb s hm)
  obtain ⟨t1, t2, t3⟩ := tile_seg l 0 _ j s ht hs
  have hjl : j < l.length := (List.getElem?_eq_some_iff.1 hs).1
  obtain ⟨c1, c2, c3, c4, c5⟩ := chk_fin c0
  have hrl := rk_le row q
  have hgb := gs_bound c0 q
  have hfirst : K (l.map (·.first)) j = s.first := by simp [K, List.getD_eq_getElem?_getD, hs]
  have hK0 : s.first = K row s.from_.toNat := f1
  obtain ⟨_, hj1, hj2⟩ := hj
  rw [hfirst] at hj1
  -- the rank is not ahead of the stretch
  have hfr : s.from_ ≤ rk row q := by
    rcases hj1 with rfl | hj1
    · cases l with
      | nil => simp at hs
      | cons x t =>
        simp only [List.getElem?_cons_zero, Option.some.injEq] at hs
        subst hs
        simp only [tileB, Bool.and_eq_true, decide_eq_true_eq] at ht
        omega
    · rw [hK0] at hj1
      rcases Int.lt_or_le (rk row q : Int) s.from_ with hlt | hge
      · exfalso
        have := (rk_iff hr q (s.from_.toNat - 1) (by omega))
        have h2 : ¬ (s.from_.toNat - 1 < rk row q) ∨ rk row q = s.from_.toNat - 1 + 1 := by omega
        have h3 : ¬ K row (rk row q) < q := fun h => absurd ((rk_iff hr q _ (by omega)).1 h) (by omega)
        have h4 := hr (rk row q) s.from_.toNat (by omega) (by omega)
        omega
      · exact hge
  -- nor behind it
  have htl : (rk row q : Int) ≤ s.till := by
    rcases Nat.lt_or_ge (j + 1) l.length with hn | hn
    · obtain ⟨s2, hs2⟩ : ∃ s2, l[j + 1]? = some s2 := ⟨_, List.getElem?_eq_getElem hn⟩
      have hlt := hj2 (by rw [List.length_map]; exact hn)
      have h2 : K (l.map (·.first)) (j + 1) = s2.first := by simp [K, List.getD_eq_getElem?_getD, hs2]
      obtain ⟨_, f2, _⟩ := seg_first (hb s2 (List.mem_of_getElem? hs2))
      obtain ⟨u1, u2, u3⟩ := tile_seg l 0 _ (j + 1) s2 ht hs2
      have hnx := tile_next l 0 _ j s s2 ht hs hs2
      rw [h2, f2] at hlt
      have h3 : ¬ (s2.from_.toNat < rk row q) := fun h => by
        have := (rk_iff hr q s2.from_.toNat (by omega)).2 h
        have e : K row s2.from_.toNat = row.getD s2.from_.toNat 0 := rfl
        omega
      omega
    · have hl := tile_last l 0 _ j s ht hs (by omega)
      omega
  have hoff := (offTo_le s (stretch row s.from_.toNat s.till.toNat) eps he (s.till.toNat - s.from_.toNat)).1 off
  have hat : ∀ i : Nat, s.from_ ≤ i → (i : Int) < s.till → gs s (K row i) - i ≤ eps ∧ i - gs s (K row i) ≤ eps := by
    intro i h1 h2
    have := hoff (i - s.from_.toNat) (by omega)
    have e1 : (stretch row s.from_.toNat s.till.toNat).getD (i - s.from_.toNat) 0 = K row i := by
      unfold stretch
      have h3 := (K_take (ks := row.drop s.from_.toNat) (k := s.till.toNat - s.from_.toNat) (i := i - s.from_.toNat) (by omega)).trans (K_drop row _ _)
      rw [show s.from_.toNat + (i - s.from_.toNat) = i by omega] at h3
      exact h3
    rw [e1] at this
    omega
  -- the guess is not far above the rank
  have hup : gs s q - rk row q ≤ eps := by
    rcases Int.lt_or_le (rk row q : Int) s.till with hlt | hge
    · have hqk : q ≤ K row (rk row q) := by
        have := (rk_iff hr q (rk row q) (by omega))
        omega
      have h1 := gs_mono c0 (hw s hm) hqk (hrow _ (by omega))
      have h2 := hat (rk row q) hfr hlt
      omega
    · omega
  have hdn : (rk row q : Int) - gs s q ≤ eps + 1 := by
    rcases Int.lt_or_le s.from_ (rk row q : Int) with hlt | hge
    · have hqk : K row (rk row q - 1) < q := (rk_iff hr q (rk row q - 1) (by omega)).2 (by omega)
      have h1 := gs_mono c0 (hw s hm) (Int.le_of_lt hqk) hq
      have h2 := hat (rk row q - 1) (by omega) (by omega)
      omega
    · omega
  refine ⟨t1, hfr, htl, t3, t2, by omega, by omega, ⟨by omega, hdn⟩, fun h1 h2 => ?_, fun h1 h2 h3 => ?_⟩
  · rcases Int.lt_or_le (rk row q : Int) s.till with hlt | hge
    · have := hat (rk row q) hfr hlt
      rw [h2] at this
      exact this
    · -- q stands behind the stretch: then the next segment begins with it
      exfalso
      rcases Nat.lt_or_ge (j + 1) l.length with hn | hn
      · obtain ⟨s2, hs2⟩ : ∃ s2, l[j + 1]? = some s2 := ⟨_, List.getElem?_eq_getElem hn⟩
        have hlt := hj2 (by rw [List.length_map]; exact hn)
        have h5 : K (l.map (·.first)) (j + 1) = s2.first := by simp [K, List.getD_eq_getElem?_getD, hs2]
        obtain ⟨_, f2, _⟩ := seg_first (hb s2 (List.mem_of_getElem? hs2))
        have hnx := tile_next l 0 _ j s s2 ht hs hs2
        rw [h5, f2, hnx, show s.till.toNat = rk row q by omega] at hlt
        have e : K row (rk row q) = row.getD (rk row q) 0 := rfl
        omega
      · have hl := tile_last l 0 _ j s ht hs (by omega)
        omega
  · rcases Nat.lt_or_ge (j + 1) l.length with hn | hn
    · obtain ⟨s2, hs2⟩ : ∃ s2, l[j + 1]? = some s2 := ⟨_, List.getElem?_eq_getElem hn⟩
      have hlt := hj2 (by rw [List.length_map]; exact hn)
      have h5 : K (l.map (·.first)) (j + 1) = s2.first := by simp [K, List.getD_eq_getElem?_getD, hs2]
      obtain ⟨_, f2, _⟩ := seg_first (hb s2 (List.mem_of_getElem? hs2))
      have hnx := tile_next l 0 _ j s s2 ht hs hs2
      rw [h5, f2, hnx, show s.till.toNat = rk row q by omega] at hlt
      have e : K row (rk row q) = row.getD (rk row q) 0 := rfl
      omega
    · have hl := tile_last l 0 _ j s ht hs (by omega)
      omega

/-- the slot that is asked next -/
def nextSlot (row : List Int) (q : Int) (s : Seg) : Nat := if rk row q < row.length ∧ K row (rk row q) = q then rk row q else max (rk row q - 1) s.from_.toNat

theorem next_ok {eps : Int} {row : List Int} {q : Int} {s : Seg} (hr : Rise row) (hf : s.from_ = 0 ∨ K row s.from_.toNat ≤ q) (h : StepOK eps row q s (rk row q)) : SlotOK row q (nextSlot row q s) := by
  have h1 := h.fr
  have h2 := h.rt
  have h3 := h.tl
  have h4 := h.f0
  have h5 := h.ft
  have hlt : rk row q < row.length → ¬ K row (rk row q) < q := fun hl hk => absurd ((rk_iff hr q _ hl).1 hk) (by omega)
  unfold nextSlot
  split
  · rename_i hc
    refine ⟨hc.1, .inr (by omega), fun hn => ?_⟩
    have := hr (rk row q) (rk row q + 1) (by omega) hn
    omega
  · rename_i hc
    have hgt : rk row q < row.length → q < K row (rk row q) := fun hl => by
      have := hlt hl
      rcases Int.lt_or_le q (K row (rk row q)) with h' | h'
      · exact h'
      · exact absurd ⟨hl, by omega⟩ hc
    rcases Nat.lt_or_ge s.from_.toNat (rk row q) with hp | hp
    · rw [show max (rk row q - 1) s.from_.toNat = rk row q - 1 by omega]
      have hk := (rk_iff hr q (rk row q - 1) (by omega)).2 (by omega)
      refine ⟨by omega, .inr (by omega), fun hn => ?_⟩
      rw [show rk row q - 1 + 1 = rk row q by omega] at hn ⊢
      exact hgt hn
    · have hz : rk row q = s.from_.toNat := by omega
      rw [show max (rk row q - 1) s.from_.toNat = s.from_.toNat by omega]
      have hz0 : s.from_.toNat = 0 := by
        rcases hf with h' | h'
        · omega
        · have := hgt (by omega)
          rw [hz] at this
          omega
      rw [hz0]
      refine ⟨by omega, .inl rfl, fun hn => ?_⟩
      have h6 := hgt (by omega)
      rw [hz, hz0] at h6
      have := hr 0 1 (by omega) hn
      show q < K row 1
      omega
end Inc
namespace Go.Proofs.Ytdfkgkidaffcgaa
open Go.RowKit

theorem method_key (a : Addr) (w : World) : (method 278 41 (.pointer (some a)) "Key").run Try.prog w = .ok (22, .pointer (some a)) w := by kernel_rfl

set_option maxRecDepth 100000 in
set_option maxHeartbeats 3200000 in
theorem look_any {w : World} {p : Nat} {eps : Int} {ks : List Int} {ls : List (List Inc.Seg)} (h : PileAt w p eps ks ls) (hll : ls.length ≤ 4294967296) (hrl : ∀ k, (Inc.rowOf ks ls k).length ≤ 4294967296) (k : Nat) (hk : k ≤ ls.length) (q : Int)
    (hr : Inc.Rise (Inc.rowOf ks ls k)) (lo hi to_ : Nat) (h1 : lo ≤ Inc.rk (Inc.rowOf ks ls k) q) (h2 : Inc.rk (Inc.rowOf ks ls k) q ≤ hi) (h3 : hi ≤ to_) (h4 : to_ ≤ (Inc.rowOf ks ls k).length) :
    Calls Try.prog 48 #[.pointer (some ⟨p, 0, none⟩), .int .i64 k, .int .i64 lo, .int .i64 hi, .int .i64 to_, .int .u64 q] w fun e w' =>
      e = .returned (.tuple #[.int .i64 (Inc.rk (Inc.rowOf ks ls k) q), .bool (decide (Inc.rk (Inc.rowOf ks ls k) q < to_) && (Inc.K (Inc.rowOf ks ls k) (Inc.rk (Inc.rowOf ks ls k) q) == q))]) ∧ w = w' := by
  have hkey : ∀ slot : Nat, slot < (Inc.rowOf ks ls k).length → Inc.lkey ks ls k slot = Inc.K (Inc.rowOf ks ls k) slot := by
    intro slot hs
    unfold Inc.lkey
    cases k with
    | zero =>
      rw [show ((0 : Nat) : Int) = 0 from rfl, Inc.lsize_zero]
      have : slot < ks.length := hs
      rw [if_neg (by omega), if_pos rfl, Int.toNat_natCast]
      rfl
    | succ k =>
      have hs' : slot < (ls.getD k []).length := by simpa [Inc.rowOf] using hs
      rw [show (((k + 1 : Nat)) : Int) = (k : Int) + 1 by omega, Inc.lsize_nat _ _ _ (by omega), if_neg (by omega), if_neg (by omega), show ((k : Int) + 1).toNat - 1 = k by omega, Int.toNat_natCast]
      show _ = ((ls.getD k []).map (·.first)).getD slot 0
      generalize ls.getD k [] = l at *
      simp [List.getD_eq_getElem?_getD, hs']
  have hcall : ∀ slot : Nat, slot < (Inc.rowOf ks ls k).length → Calls Try.prog 22 #[.pointer (some ⟨p, 0, none⟩), .int .i64 k, .int .i64 slot] w fun e w' => e = .returned (.int .u64 (Inc.K (Inc.rowOf ks ls k) slot)) ∧ w = w' := by
    intro slot hs
    have hl := hrl k
    rw [← hkey slot hs]
    exact pileKey_any h hll k slot (by omega) (by omega) (by omega) (by omega)
  have hrk := Inc.rk_iff hr q
  have hlen := hrl k
  generalize Inc.rk (Inc.rowOf ks ls k) q = r at *
  generalize hK : Inc.K (Inc.rowOf ks ls k) = row at *
  generalize (Inc.rowOf ks ls k).length = n at *
  have HCALL := Lib.hid hcall
  have HRK := Lib.hid hrk
  clear hcall hkey hr hrl h hK hrk
  have hme := method_key ⟨p, 0, none⟩
  go_enter Try.func48, Try.ntmps48
  go_wp2_with fail
  go_loopw [2, 3, 14, 15] (fun s2 s3 s14 s15 wr => ∃ (a b : Nat) (kn : Bool) (key : Int), a ≤ r ∧ r ≤ b ∧ b ≤ hi ∧ s2 = .int .i64 a ∧ s3 = .int .i64 b ∧ s14 = .bool kn ∧ s15 = .int .u64 key ∧ (kn = true → b < to_ ∧ key = row b) ∧ (kn = false → b = hi) ∧ wr = w) (fun s2 s3 _ _ _ => (intOf s3 - intOf s2).toNat)
  case atStart => exact ⟨lo, hi, false, 0, h1, h2, by omega, rfl, rfl, rfl, rfl, (fun h => by cases h), (fun _ => rfl), rfl⟩
  case round =>
    obtain ⟨a, b, kn, key, ha, hb, hbh, rfl, rfl, rfl, rfl, hkn, hkf, rfl⟩ := hrel
    have HKN := Lib.hid hkn
    have HKF := Lib.hid hkf
    clear hkn hkf
    by_cases hlt : a < b
    · have e0n : (a < b) = True := by simpa using hlt
      obtain ⟨m, hm⟩ : ∃ m, m = (a + b) / 2 := ⟨_, rfl⟩
      have m1 : a ≤ m := by omega
      have m2 : m < b := by omega
      have e1 : IntKind.i64.wrap ((a : Int) + (b : Int)) = (a : Int) + b := wrap_i64_id' (by omega) (by omega)
      have e2 : ((a : Int) + (b : Int)) / 2 = (m : Int) := by omega
      have hc := HCALL.out m (by omega)
      have hrm := HRK.out m (by omega)
      have e3 : IntKind.i64.wrap ((m : Int) + 1) = ((m + 1 : Nat) : Int) := by rw [IntKind.wrap_i64]; omega
      generalize hrow : row m = key2 at *
      have HROW := Lib.hid hrow
      clear hm hrow
      by_cases hlow : key2 < q
      · have e4 : decide (key2 < q) = true := by simpa using hlow
        have hmr := hrm.1 hlow
        clear hrm
        go_wp2_with fail
        refine hc.mono ?_
        rintro e w' ⟨rfl, rfl⟩
        go_wp2_with fail
        exact ⟨⟨m + 1, b, kn, key, by omega, hb, hbh, by go_num, rfl, rfl, rfl, HKN.out, HKF.out, by first | rfl | trivial⟩, by simp [intOf]; omega⟩
      · have e4 : decide (key2 < q) = false := by simpa using hlow
        have hmr : r ≤ m := by
          rcases Nat.lt_or_ge m r with h | h
          · exact absurd (hrm.2 h) hlow
          · exact h
        clear hrm
        go_wp2_with fail
        refine hc.mono ?_
        rintro e w' ⟨rfl, rfl⟩
        go_wp2_with fail
        exact ⟨⟨a, m, true, key2, ha, hmr, by omega, rfl, rfl, rfl, rfl, (fun _ => ⟨by omega, HROW.out.symm⟩), (fun h => by cases h), by first | rfl | trivial⟩, by simp [intOf]; omega⟩
    · have e0n : (a < b) = False := by simpa using hlt
      obtain rfl : b = r := by omega
      obtain rfl : a = b := by omega
      clear e0n hlt
      have e0n : (a < a) = False := by simp
      cases kn with
      | true =>
        obtain ⟨k1, k2⟩ := HKN.out rfl
        subst k2
        have K1 := Lib.hid k1
        clear k1
        go_wp2_with fail
        go_ret2
        have h1 : decide (a < to_) = true := by simpa using K1.out
        exact ⟨by rw [h1]; simp, rfl⟩
      | false =>
        obtain rfl := HKF.out rfl
        by_cases hto : a < to_
        · have e1n : (a < to_) = True := by simpa using hto
          have hc := HCALL.out a (by omega)
          generalize hrow : row a = key2 at *
          have HROW := Lib.hid hrow
          clear hrow
          go_wp2_with fail
          refine hc.mono ?_
          rintro e w' ⟨rfl, rfl⟩
          go_wp2_with fail
          go_ret2
          have h1 : decide (a < to_) = true := by simpa using hto
          have h2 := HROW.out
          exact ⟨by first | (rw [h1, h2]; simp) | (rw [h2]; simp) | simp, rfl⟩
        · have e1n : (a < to_) = False := by simpa using hto
          go_wp2_with fail
          go_ret2
          have h1 : decide (a < to_) = false := by simpa using hto
          exact ⟨by first | (rw [h1]; simp) | simp, rfl⟩
end Go.Proofs.Ytdfkgkidaffcgaa
