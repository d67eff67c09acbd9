/- Walks: the variables of a call of Add. What a round of Add's last loop does to memory. Walks: one key more, if a line still fits. Walks: line.along, hull.Fit.Least. Walks: Add on a fit that is right; hull.New .. for line.Of. Walk: line.Of. What its loops keep. -/
import Derived.Deep.DeepCutAuto
import Derived.Deep.CutBlock
import Derived.Deep.RegionWith
import Derived.Deep.RegionHeld3
import Derived.Test.YtdfkgkidaffcgaaJ12
set_option linter.all false
namespace Go.Proofs.Ytdfkgkidaffcgaa
open Go.RowKit

/-- all blocks that stood are as they were, but for the fit's own and rows of points -/
structure FrP (base : Nat) (w w' : World) (fb : Nat) : Prop where
  os : w'.os = w.os
  tape : w'.tape = w.tape
  output : w'.output = w.output
  size : w.heap.size ≤ w'.heap.size
  block : ∀ j, j < w.heap.size → j ≠ fb → (j < base ∨ ∀ c fz, w.heap[j]? ≠ some (.cells c 122 fz)) → w'.heap[j]? = w.heap[j]?

/-- the three variables of a call of Add: the two points, the least slope, the greatest one -/
structure Vars (w wx : World) (b6 b7 b8 : Nat) (key y0 y1 : Int) (l m : Int × Int) : Prop where
  h6 : wx.heap[b6]? = some (.cells #[.int .u64 key, .int .i64 y0, .int .u64 key, .int .i64 y1] 123 (0, 0))
  h7 : wx.heap[b7]? = some (.cells #[.int .u64 l.1, .int .u64 l.2] 116 (0, 0))
  h8 : wx.heap[b8]? = some (.cells #[.int .u64 m.1, .int .u64 m.2] 116 (0, 0))
  l6 : w.heap.size ≤ b6
  l7 : w.heap.size ≤ b7
  l8 : w.heap.size ≤ b8
  n78 : b7 ≠ b8

/-- least and greatest slope behind the key -/
def AddLM (e : Int) (F : Inc.Fit) (key : Int) (l m : Int × Int) : Prop :=
  (¬ 0 < F.cnt ∧ l = F.least ∧ m = F.most) ∨ (0 < F.cnt ∧ l = Inc.leastOf e F key ∧ m = Inc.mostOf e F key ∧ Inc.below m l = false)

theorem heap_keep2 {w : World} {b : Nat} {o p q : Obj} (h : w.heap[b]? = some o) : ((w.alloc p).alloc q).drew.heap[b]? = some o := by
  have hb := (Array.getElem?_eq_some_iff.1 h).1
  show ((w.alloc p).alloc q).heap[b]? = some o
  rw [heap_alloc_old _ _ (by simp; omega), heap_alloc_old _ _ hb, h]
theorem heap_two_a (w : World) (p q : Obj) : ((w.alloc p).alloc q).drew.heap[w.heap.size]? = some p := by
  show ((w.alloc p).alloc q).heap[w.heap.size]? = some p
  rw [heap_alloc_old _ _ (by simp), heap_alloc_new]
theorem heap_two_b (w : World) (p q : Obj) : ((w.alloc p).alloc q).drew.heap[w.heap.size + 1]? = some q := by
  have := heap_alloc_new (w.alloc p) q
  rw [World.size_alloc] at this
  exact this

theorem Vars.cells {w wx : World} {b6 b7 b8 : Nat} {key y0 y1 : Int} {l m : Int × Int} (h : Vars w wx b6 b7 b8 key y0 y1 l m) :
    (wx.cell? ⟨b6, 0, none⟩ = some (.int .u64 key) ∧ wx.cell? ⟨b6, 1, none⟩ = some (.int .i64 y0) ∧ wx.cell? ⟨b6, 2, none⟩ = some (.int .u64 key) ∧ wx.cell? ⟨b6, 3, none⟩ = some (.int .i64 y1)) ∧
    (wx.cell? ⟨b7, 0, none⟩ = some (.int .u64 l.1) ∧ wx.cell? ⟨b7, 1, none⟩ = some (.int .u64 l.2)) ∧ (wx.cell? ⟨b8, 0, none⟩ = some (.int .u64 m.1) ∧ wx.cell? ⟨b8, 1, none⟩ = some (.int .u64 m.2)) ∧
    b6 < wx.heap.size ∧ b7 < wx.heap.size ∧ b8 < wx.heap.size ∧ (∀ i, wx.frozen? ⟨b7, i, none⟩ = false) ∧ (∀ i, wx.frozen? ⟨b8, i, none⟩ = false) := by
  have h6 := h.h6
  have h7 := h.h7
  have h8 := h.h8
  refine ⟨⟨?_, ?_, ?_, ?_⟩, ⟨?_, ?_⟩, ⟨?_, ?_⟩, (Array.getElem?_eq_some_iff.1 h6).1, (Array.getElem?_eq_some_iff.1 h7).1, (Array.getElem?_eq_some_iff.1 h8).1, ?_, ?_⟩
  · rw [cell_of_row _ _ _ _ _ _ h6]; rfl
  · rw [cell_of_row _ _ _ _ _ _ h6]; rfl
  · rw [cell_of_row _ _ _ _ _ _ h6]; rfl
  · rw [cell_of_row _ _ _ _ _ _ h6]; rfl
  · rw [cell_of_row _ _ _ _ _ _ h7]; rfl
  · rw [cell_of_row _ _ _ _ _ _ h7]; rfl
  · rw [cell_of_row _ _ _ _ _ _ h8]; rfl
  · rw [cell_of_row _ _ _ _ _ _ h8]; rfl
  · intro i; simp [World.frozen?, h7]
  · intro i; simp [World.frozen?, h8]

theorem touch_mem (s : Int) (c : List Inc.Pt) (p : Inc.Pt) (h : 0 < c.length) : Inc.touch s c p ∈ c := by
  have hl : Inc.bsearch (fun i => decide (0 ≤ Inc.steepS (c.getD i default) (c.getD (i + 1) default) p * s)) c.length 0 (c.length - 1) < c.length := by
    have := bsearch_le (fun i => decide (0 ≤ Inc.steepS (c.getD i default) (c.getD (i + 1) default) p * s)) c.length 0 (c.length - 1) (by omega)
    omega
  unfold Inc.touch
  rw [Inc.getD_get _ _ hl]
  exact List.getElem_mem hl

theorem Vars.below {w wx wy : World} {b6 b7 b8 : Nat} {key y0 y1 : Int} {l m : Int × Int} (h : Vars w wx b6 b7 b8 key y0 y1 l m) (hb : Below wx.heap.size wx wy) : Vars w wy b6 b7 b8 key y0 y1 l m :=
  ⟨(hb.block _ (Array.getElem?_eq_some_iff.1 h.h6).1).trans h.h6, (hb.block _ (Array.getElem?_eq_some_iff.1 h.h7).1).trans h.h7, (hb.block _ (Array.getElem?_eq_some_iff.1 h.h8).1).trans h.h8, h.l6, h.l7, h.l8, h.n78⟩
theorem Vars.alloc {w wx : World} {b6 b7 b8 : Nat} {key y0 y1 : Int} {l m : Int × Int} (h : Vars w wx b6 b7 b8 key y0 y1 l m) (o : Obj) : Vars w (wx.alloc o) b6 b7 b8 key y0 y1 l m :=
  h.below (bl_alloc (Below.refl _ _) o)

theorem Vars.drew {w wx : World} {b6 b7 b8 : Nat} {key y0 y1 : Int} {l m : Int × Int} (h : Vars w wx b6 b7 b8 key y0 y1 l m) : Vars w wx.drew b6 b7 b8 key y0 y1 l m :=
  h.below (bl_drew (Below.refl _ _))
theorem two_set {w : World} {b : Nat} {x y : Value} {T : TypeId} {fz : Nat × Nat} (h : w.heap[b]? = some (.cells #[x, y] T fz)) (u v : Value) :
    ((w.setCell ⟨b, 0, none⟩ u).setCell ⟨b, 1, none⟩ v).heap[b]? = some (.cells #[u, v] T fz) := by
  simp [World.setCell, Array.getElem?_modify, h]
theorem Vars.set_new {w wx : World} {b6 b7 b8 : Nat} {key y0 y1 : Int} {l m : Int × Int} (h : Vars w wx b6 b7 b8 key y0 y1 l m) {b : Nat} (h6 : b6 ≠ b) (h7 : b7 ≠ b) (h8 : b8 ≠ b) (u v : Value) :
    Vars w ((wx.setCell ⟨b, 0, none⟩ u).setCell ⟨b, 1, none⟩ v) b6 b7 b8 key y0 y1 l m := by
  refine ⟨?_, ?_, ?_, h.l6, h.l7, h.l8, h.n78⟩
  · rw [Below.heap_setCell _ _ _ _ h6, Below.heap_setCell _ _ _ _ h6]; exact h.h6
  · rw [Below.heap_setCell _ _ _ _ h7, Below.heap_setCell _ _ _ _ h7]; exact h.h7
  · rw [Below.heap_setCell _ _ _ _ h8, Below.heap_setCell _ _ _ _ h8]; exact h.h8

theorem Vars.set_least {w wx : World} {b6 b7 b8 : Nat} {key y0 y1 : Int} {l m : Int × Int} (h : Vars w wx b6 b7 b8 key y0 y1 l m) (s1 s2 : Int) :
    Vars w ((wx.setCell ⟨b7, 0, none⟩ (.int .u64 s1)).setCell ⟨b7, 1, none⟩ (.int .u64 s2)) b6 b7 b8 key y0 y1 (s1, s2) m := by
  have h67 : b6 ≠ b7 := fun e => by have := h.h6; rw [e, h.h7] at this; cases this
  refine ⟨?_, ?_, ?_, h.l6, h.l7, h.l8, h.n78⟩
  · rw [Below.heap_setCell _ _ _ _ h67, Below.heap_setCell _ _ _ _ h67]; exact h.h6
  · simp [World.setCell, Array.getElem?_modify, h.h7]
  · rw [Below.heap_setCell _ _ _ _ (Ne.symm h.n78), Below.heap_setCell _ _ _ _ (Ne.symm h.n78)]; exact h.h8
theorem Vars.set_most {w wx : World} {b6 b7 b8 : Nat} {key y0 y1 : Int} {l m : Int × Int} (h : Vars w wx b6 b7 b8 key y0 y1 l m) (s1 s2 : Int) :
    Vars w ((wx.setCell ⟨b8, 0, none⟩ (.int .u64 s1)).setCell ⟨b8, 1, none⟩ (.int .u64 s2)) b6 b7 b8 key y0 y1 l (s1, s2) := by
  have h68 : b6 ≠ b8 := fun e => by have := h.h6; rw [e, h.h8] at this; cases this
  refine ⟨?_, ?_, ?_, h.l6, h.l7, h.l8, h.n78⟩
  · rw [Below.heap_setCell _ _ _ _ h68, Below.heap_setCell _ _ _ _ h68]; exact h.h6
  · rw [Below.heap_setCell _ _ _ _ h.n78, Below.heap_setCell _ _ _ _ h.n78]; exact h.h7
  · simp [World.setCell, Array.getElem?_modify, h.h8]

def SlB (s : Int × Int) : Prop := 0 ≤ s.1 ∧ s.1 < 9223372036854775808 ∧ 0 ≤ s.2 ∧ s.2 < 18446744073709551616

theorem between_bound {p q : Inc.Pt} (hp : PtB p) (hq : PtB q) (hx : p.x < q.x) (hy : p.y ≤ q.y) :
    (0 ≤ (Inc.between p q).1 ∧ (Inc.between p q).1 < 9223372036854775808) ∧ (0 < (Inc.between p q).2 ∧ (Inc.between p q).2 < 18446744073709551616) := by
  unfold PtB at hp hq
  unfold Inc.between
  obtain ⟨g, hg, e1, e2, p1, p2, _⟩ := Inc.low2_spec (a := q.y - p.y) (b := q.x - p.x) (by omega) (by omega)
  generalize Inc.low2 (q.y - p.y) (q.x - p.x) = s at *
  have h1 : s.1 * 1 ≤ s.1 * g := Int.mul_le_mul_of_nonneg_left (by omega) p1
  have h2 : s.2 * 1 ≤ s.2 * g := Int.mul_le_mul_of_nonneg_left (by omega) (by omega)
  rw [Int.mul_one] at h1 h2
  omega

/-- a chain that is not empty: its slice, its cells -/
theorem row_form {w : World} {base T : Nat} {v : Value} {c : List Inc.Pt} (h : w.ownsRow base T 2 v c.length (pts c)) (hn : 0 < c.length) :
    ∃ g cap, v = .slice (some ⟨g, 0, none⟩) c.length cap ∧ g < w.heap.size ∧
      (∀ i, i < c.length → w.cell? ⟨g, 2 * i, none⟩ = some (.int .u64 (c.getD i default).x) ∧ w.cell? ⟨g, 2 * i + 1, none⟩ = some (.int .i64 (c.getD i default).y)) := by
  have h0 := h
  rcases h.2 with ⟨_, h0⟩ | ⟨g, cap, cur, rfl, _⟩
  · omega
  · refine ⟨g, cap, rfl, (h0.lt g rfl).2, fun i hi => ?_⟩
    have h1 := h0.cellAt (2 * i) (by omega)
    have h2 := h0.cellAt (2 * i + 1) (by omega)
    obtain ⟨p1, p2⟩ := pts_get c i hi
    exact ⟨h1.trans p1, h2.trans p2⟩

/-- what Add comes to -/
def AddPost (base fb : Nat) (e : Int) (F : Inc.Fit) (key : Int) (w : World) (ed : Ending) (w' : World) : Prop :=
  (Inc.Fit.add e F key = none ∧ ed = .returned (.tuple #[.bool false, .int .i64 0]) ∧ Below w.heap.size w w') ∨
  (∃ F' v0 v1, Inc.Fit.add e F key = some F' ∧ ed = .returned (.tuple #[.bool true, .int .i64 0]) ∧ FitAt w' base fb e F' v0 v1 ∧ FrP base w w' fb)

theorem add_no {e : Int} {F : Inc.Fit} {key : Int} (h : 0 < F.cnt) (hb : Inc.below (Inc.mostOf e F key) (Inc.leastOf e F key) = true) : Inc.Fit.add e F key = none := by
  unfold Inc.Fit.add
  rw [if_pos h, if_pos hb]

end Go.Proofs.Ytdfkgkidaffcgaa
namespace Go.Proofs.Ytdfkgkidaffcgaa
open Go.RowKit

structure LoopSt (base fb b6 b7 b8 : Nat) (e cnt last key : Int) (least most l m : Int × Int) (lo up : List Inc.Pt) (w : World) (k : Nat) (wr : World) (a0 a1 : Value) : Prop where
  fit : FitAt wr base fb e ⟨cnt, last, least, most, if 0 < k then Inc.laid (-1) lo ⟨key, cnt - e⟩ else lo, if 1 < k then Inc.laid 1 up ⟨key, cnt + e⟩ else up⟩ a0 a1
  fr : FrP base w wr fb
  vars : Vars w wr b6 b7 b8 key (cnt - e) (cnt + e) l m

theorem owns_set {w : World} {base T size n : Nat} {v : Value} {xs : List Value} (h : w.ownsRow base T size v n xs) {a : Addr} (hne : v.ownBlock ≠ some a.block) (u : Value) : (w.setCell a u).ownsRow base T size v n xs := by
  refine ⟨h.1, ?_⟩
  rcases h.2 with h' | ⟨g, cap, cur, rfl, hb, hg, r⟩
  · exact .inl h'
  · refine .inr ⟨g, cap, cur, rfl, hb, ?_, r⟩
    rw [Below.heap_setCell _ _ _ _ (fun e => hne (by rw [← e]; rfl))]
    exact hg

theorem owns_type {w : World} {base T size n : Nat} {v : Value} {xs : List Value} (h : w.ownsRow base T size v n xs) {b : Nat} {c : Array Value} {T' : TypeId} {fz : Nat × Nat} (hb : w.heap[b]? = some (.cells c T' fz)) (hT : T' ≠ T) : v.ownBlock ≠ some b := by
  rcases h.2 with ⟨rfl, _⟩ | ⟨g, cap, cur, rfl, _, hg, _⟩
  · simp [Value.ownBlock]
  · intro he
    have : g = b := by simpa [Value.ownBlock] using he
    subst this
    rw [hg] at hb
    injection hb with hb
    injection hb with _ hb _
    exact hT hb.symm

/-- what is written is a row of points: all else that stood stays -/
theorem FrP.row {w wr w1 : World} {fb : Nat} {base n : Nat} {v : Value} {xs : List Value} (h : FrP base w wr fb) (ho : wr.ownsRow base 122 2 v n xs) (hg : wr.grownBy w1 v.ownBlock) : FrP base w w1 fb := by
  refine ⟨hg.os.trans h.os, hg.tape.trans h.tape, hg.output.trans h.output, Nat.le_trans h.size hg.size, fun j hj hf ht => ?_⟩
  have h1 := h.block j hj hf ht
  have h2 : some j ≠ v.ownBlock := by
    rcases ho.2 with ⟨rfl, _⟩ | ⟨g, cap, cur, rfl, hbg, hgg, _⟩
    · simp [Value.ownBlock]
    · intro he
      have : j = g := by simpa [Value.ownBlock] using he
      subst this
      rcases ht with ht | ht
      · omega
      · rw [h1] at hgg
        exact ht _ _ hgg
  exact (hg.block j (Nat.lt_of_lt_of_le hj h.size) h2).trans h1
theorem FrP.set {base : Nat} {w wr : World} {fb : Nat} (h : FrP base w wr fb) (o : Nat) (u : Value) : FrP base w (wr.setCell ⟨fb, o, none⟩ u) fb :=
  ⟨h.os, h.tape, h.output, by simpa using h.size, fun j hj hf ht => by rw [Below.heap_setCell _ _ _ _ hf]; exact h.block j hj hf ht⟩

theorem FrP.drew {base : Nat} {w wr : World} {fb : Nat} (h : FrP base w wr fb) : FrP base w wr.drew fb := ⟨h.os, h.tape, h.output, h.size, h.block⟩

theorem Vars.row {w wr w1 : World} {b6 b7 b8 : Nat} {key y0 y1 : Int} {l m : Int × Int} {base n : Nat} {v : Value} {xs : List Value} (h : Vars w wr b6 b7 b8 key y0 y1 l m)
    (ho : wr.ownsRow base 122 2 v n xs) (hg : wr.grownBy w1 v.ownBlock) : Vars w w1 b6 b7 b8 key y0 y1 l m :=
  ⟨(hg.block _ (Array.getElem?_eq_some_iff.1 h.h6).1 (Ne.symm (owns_type ho h.h6 (by decide)))).trans h.h6, (hg.block _ (Array.getElem?_eq_some_iff.1 h.h7).1 (Ne.symm (owns_type ho h.h7 (by decide)))).trans h.h7,
   (hg.block _ (Array.getElem?_eq_some_iff.1 h.h8).1 (Ne.symm (owns_type ho h.h8 (by decide)))).trans h.h8, h.l6, h.l7, h.l8, h.n78⟩
theorem Vars.set_fit {w wr : World} {b6 b7 b8 fb : Nat} {key y0 y1 : Int} {l m : Int × Int} (h : Vars w wr b6 b7 b8 key y0 y1 l m) (hfb : fb < w.heap.size) (o : Nat) (u : Value) : Vars w (wr.setCell ⟨fb, o, none⟩ u) b6 b7 b8 key y0 y1 l m := by
  have h1 := h.l6
  have h2 := h.l7
  have h3 := h.l8
  exact ⟨by rw [Below.heap_setCell _ _ _ _ (by simp only; omega)]; exact h.h6, by rw [Below.heap_setCell _ _ _ _ (by simp only; omega)]; exact h.h7, by rw [Below.heap_setCell _ _ _ _ (by simp only; omega)]; exact h.h8, h.l6, h.l7, h.l8, h.n78⟩

theorem grown_drew {w w1 : World} {row : Option Nat} (h : w.drew.grownBy w1 row) : w.grownBy w1 row := ⟨h.os, h.tape, h.output, h.size, h.block⟩

/-- a row was written: the fit's own block may still be written -/
theorem row_store {wr w1 : World} {row : Option Nat} {fb : Nat} {c : Array Value} {T : TypeId} (hg : wr.grownBy w1 row) (hb : wr.heap[fb]? = some (.cells c T (0, 0))) (hne : row ≠ some fb) :
    (∀ i, i < c.size → w1.cell? ⟨fb, i, none⟩ = c[i]?) ∧ (∀ i, w1.frozen? ⟨fb, i, none⟩ = false) := by
  have h1 : w1.heap[fb]? = _ := (hg.block fb (Array.getElem?_eq_some_iff.1 hb).1 (Ne.symm hne)).trans hb
  exact ⟨fun i _ => cell_of_row _ _ _ _ _ _ h1, fun i => by simp [World.frozen?, h1]⟩

theorem loop_start {base fb b6 b7 b8 : Nat} {e cnt last key : Int} {least most l m : Int × Int} {lo up : List Inc.Pt} {w wc : World} {v0 v1 : Value}
    (h : FitAt w base fb e ⟨cnt, last, least, most, lo, up⟩ v0 v1) (hb : Below w.heap.size w wc) (hv : Vars w wc b6 b7 b8 key (cnt - e) (cnt + e) l m) :
    LoopSt base fb b6 b7 b8 e cnt last key least most l m lo up w 0 wc v0 v1 :=
  ⟨⟨(hb.block _ (Array.getElem?_eq_some_iff.1 h.blk).1).trans h.blk, owns_below h.lo hb, owns_below h.up hb, h.ne⟩, ⟨hb.os, hb.tape, hb.output, hb.size, fun j hj _ _ => hb.block j hj⟩, hv⟩

theorem loop_zero {base fb b6 b7 b8 : Nat} {e cnt last key : Int} {least most l m : Int × Int} {lo up : List Inc.Pt} {w wr w1 : World} {a0 a1 : Value} {g' cap' n' : Nat}
    (h : LoopSt base fb b6 b7 b8 e cnt last key least most l m lo up w 0 wr a0 a1) (hfb : fb < w.heap.size) (hn : n' = (Inc.laid (-1) lo ⟨key, cnt - e⟩).length)
    (hown : w1.ownsRow base 122 2 (.slice (some ⟨g', 0, none⟩) n' cap') n' (pts (Inc.laid (-1) lo ⟨key, cnt - e⟩)))
    (hg : wr.grownBy w1 a0.ownBlock) (hw : a0.ownBlock = some g' ∨ wr.heap.size ≤ g') :
    LoopSt base fb b6 b7 b8 e cnt last key least most l m lo up w 1 (w1.setCell ⟨fb, 7, none⟩ (.slice (some ⟨g', 0, none⟩) n' cap')) (.slice (some ⟨g', 0, none⟩) n' cap') a1 := by
  have hb1 : w1.heap[fb]? = _ := (hg.block fb (Array.getElem?_eq_some_iff.1 h.fit.blk).1 (Ne.symm (owns_type h.fit.lo h.fit.blk (by decide)))).trans h.fit.blk
  refine ⟨⟨?_, ?_, ?_, ?_⟩, (h.fr.row h.fit.lo hg).set _ _, (h.vars.row h.fit.lo hg).set_fit hfb _ _⟩
  · simp [World.setCell, Array.getElem?_modify, hb1, fitCells]
  · subst hn
    exact owns_set hown (owns_type hown hb1 (by decide)) _
  · have hk := h.fit.up.kept hg (by
      rcases h.fit.ne with h0 | h0
      · rw [h0]; cases a1.ownBlock <;> simp
      · exact .inr (Ne.symm h0))
    exact owns_set hk (owns_type hk hb1 (by decide)) _
  · right
    intro he
    rcases hw with hw | hw
    · rcases h.fit.ne with h0 | h0
      · rw [h0] at hw; cases hw
      · exact h0 (hw.trans he)
    · have := (h.fit.up.lt g' he.symm).2
      omega

theorem loop_one {base fb b6 b7 b8 : Nat} {e cnt last key : Int} {least most l m : Int × Int} {lo up : List Inc.Pt} {w wr w1 : World} {a0 a1 : Value} {g' cap' n' : Nat}
    (h : LoopSt base fb b6 b7 b8 e cnt last key least most l m lo up w 1 wr a0 a1) (hfb : fb < w.heap.size) (hn : n' = (Inc.laid 1 up ⟨key, cnt + e⟩).length)
    (hown : w1.ownsRow base 122 2 (.slice (some ⟨g', 0, none⟩) n' cap') n' (pts (Inc.laid 1 up ⟨key, cnt + e⟩)))
    (hg : wr.grownBy w1 a1.ownBlock) (hw : a1.ownBlock = some g' ∨ wr.heap.size ≤ g') :
    LoopSt base fb b6 b7 b8 e cnt last key least most l m lo up w 2 (w1.setCell ⟨fb, 8, none⟩ (.slice (some ⟨g', 0, none⟩) n' cap')) a0 (.slice (some ⟨g', 0, none⟩) n' cap') := by
  have hb1 : w1.heap[fb]? = _ := (hg.block fb (Array.getElem?_eq_some_iff.1 h.fit.blk).1 (Ne.symm (owns_type h.fit.up h.fit.blk (by decide)))).trans h.fit.blk
  refine ⟨⟨?_, ?_, ?_, ?_⟩, (h.fr.row h.fit.up hg).set _ _, (h.vars.row h.fit.up hg).set_fit hfb _ _⟩
  · simp [World.setCell, Array.getElem?_modify, hb1, fitCells]
  · have hk := h.fit.lo.kept hg h.fit.ne
    exact owns_set hk (owns_type hk hb1 (by decide)) _
  · subst hn
    exact owns_set hown (owns_type hown hb1 (by decide)) _
  · rcases h.fit.ne with h0 | h0
    · exact .inl h0
    · right
      intro he
      rcases hw with hw | hw
      · exact h0 (he.trans hw.symm)
      · have := (h.fit.lo.lt g' he).2
        omega

theorem one_set {w : World} {b : Nat} {c : Array Value} {T : TypeId} {fz : Nat × Nat} (h : w.heap[b]? = some (.cells c T fz)) (o : Nat) (u : Value) :
    (w.setCell ⟨b, o, none⟩ u).heap[b]? = some (.cells (c.setIfInBounds o u) T fz) := by
  simp [World.setCell, Array.getElem?_modify, h]

theorem fit_cells6 (e cnt last key : Int) (least most l m : Int × Int) (lo up : List Inc.Pt) (a0 a1 : Value) (s : Inc.Fit) (hs : s = ⟨cnt, last, least, most, lo, up⟩) :
    ((((((fitCells e s a0 a1).setIfInBounds 3 (.int .u64 l.1)).setIfInBounds 4 (.int .u64 l.2)).setIfInBounds 5 (.int .u64 m.1)).setIfInBounds 6 (.int .u64 m.2)).setIfInBounds 2 (.int .u64 key)).setIfInBounds 1 (.int .i64 (cnt + 1)) =
      #[.int .i64 e, .int .i64 (cnt + 1), .int .u64 key, .int .u64 l.1, .int .u64 l.2, .int .u64 m.1, .int .u64 m.2, a0, a1] := by
  subst hs
  simp [fitCells]

theorem add_end {base fb b6 b7 b8 : Nat} {e cnt last key : Int} {least most l m : Int × Int} {lo up : List Inc.Pt} {w wr : World} {a0 a1 : Value}
    (h : LoopSt base fb b6 b7 b8 e cnt last key least most l m lo up w 2 wr a0 a1) (hlm : AddLM e ⟨cnt, last, least, most, lo, up⟩ key l m) :
    AddPost base fb e ⟨cnt, last, least, most, lo, up⟩ key w (.returned (.tuple #[.bool true, .int .i64 0]))
      ((((((wr.setCell ⟨fb, 3, none⟩ (.int .u64 l.1)).setCell ⟨fb, 4, none⟩ (.int .u64 l.2)).setCell ⟨fb, 5, none⟩ (.int .u64 m.1)).setCell ⟨fb, 6, none⟩ (.int .u64 m.2)).setCell ⟨fb, 2, none⟩ (.int .u64 key)).setCell ⟨fb, 1, none⟩ (.int .i64 (cnt + 1))).drew := by
  have hb := h.fit.blk
  have hlo := h.fit.lo
  have hup := h.fit.up
  have tl := owns_type hlo hb (by decide)
  have tu := owns_type hup hb (by decide)
  refine .inr ⟨Inc.Fit.lay e ⟨cnt, last, least, most, lo, up⟩ key l m, a0, a1, ?_, rfl, ⟨?_, ?_, ?_, h.fit.ne⟩, ?_⟩
  · unfold Inc.Fit.add
    rcases hlm with ⟨h0, rfl, rfl⟩ | ⟨h0, rfl, rfl, hbl⟩
    · rw [if_neg h0]
    · rw [if_pos h0, hbl]; rfl
  · have := one_set (one_set (one_set (one_set (one_set (one_set hb 3 (.int .u64 l.1)) 4 (.int .u64 l.2)) 5 (.int .u64 m.1)) 6 (.int .u64 m.2)) 2 (.int .u64 key)) 1 (.int .i64 (cnt + 1))
    rw [fit_cells6 e cnt last key least most l m _ _ a0 a1 _ rfl] at this
    have e0 : ∀ W : World, W.drew.heap = W.heap := fun _ => rfl
    have e1 : fitCells e (Inc.Fit.lay e ⟨cnt, last, least, most, lo, up⟩ key l m) a0 a1 = #[.int .i64 e, .int .i64 (cnt + 1), .int .u64 key, .int .u64 l.1, .int .u64 l.2, .int .u64 m.1, .int .u64 m.2, a0, a1] := rfl
    rw [e0, e1]
    exact this
  · have := owns_set (owns_set (owns_set (owns_set (owns_set (owns_set hlo (a := ⟨fb, 3, none⟩) tl (.int .u64 l.1)) (a := ⟨fb, 4, none⟩) tl (.int .u64 l.2)) (a := ⟨fb, 5, none⟩) tl (.int .u64 m.1)) (a := ⟨fb, 6, none⟩) tl (.int .u64 m.2)) (a := ⟨fb, 2, none⟩) tl (.int .u64 key)) (a := ⟨fb, 1, none⟩) tl (.int .i64 (cnt + 1))
    refine owns_below ?_ (bl_drew (Below.refl _ _))
    exact this
  · have := owns_set (owns_set (owns_set (owns_set (owns_set (owns_set hup (a := ⟨fb, 3, none⟩) tu (.int .u64 l.1)) (a := ⟨fb, 4, none⟩) tu (.int .u64 l.2)) (a := ⟨fb, 5, none⟩) tu (.int .u64 m.1)) (a := ⟨fb, 6, none⟩) tu (.int .u64 m.2)) (a := ⟨fb, 2, none⟩) tu (.int .u64 key)) (a := ⟨fb, 1, none⟩) tu (.int .i64 (cnt + 1))
    refine owns_below ?_ (bl_drew (Below.refl _ _))
    exact this
  · have := (((((h.fr.set 3 (.int .u64 l.1)).set 4 (.int .u64 l.2)).set 5 (.int .u64 m.1)).set 6 (.int .u64 m.2)).set 2 (.int .u64 key)).set 1 (.int .i64 (cnt + 1))
    exact this.drew

end Go.Proofs.Ytdfkgkidaffcgaa
namespace Go.Proofs.Ytdfkgkidaffcgaa
open Go.RowKit

set_option maxRecDepth 100000 in
set_option maxHeartbeats 8000000 in
theorem add_any (e key : Int) (he : 1 ≤ e) (he' : e ≤ 63) (hk : 0 ≤ key) (hk' : key < 18446744073709551616) (base fb : Nat) (F : Inc.Fit) (v0 v1 : Value) (w : World)
    (hbase : base ≤ w.heap.size) (hfb : base ≤ fb) (h : FitAt w base fb e F v0 v1) (hcnt : 0 ≤ F.cnt) (hcnt' : F.cnt ≤ 1099511627776) (hlast : 0 < F.cnt → F.last < key)
    (hup : 0 < F.cnt → ChB F.up ⟨key, F.cnt - e⟩ ∧ 0 < F.up.length ∧ F.up.length ≤ 1099511627776 ∧ (∀ d ∈ F.up, d.x < key)) (hlo : 0 < F.cnt → ChB F.lo ⟨key, F.cnt + e⟩ ∧ 0 < F.lo.length ∧ F.lo.length ≤ 1099511627776 ∧ (∀ d ∈ F.lo, d.x < key ∧ d.y ≤ F.cnt + e))
    (hch : (∀ y, ChB F.up ⟨key, y⟩) ∧ (∀ y, ChB F.lo ⟨key, y⟩) ∧ F.up.length ≤ 1099511627776 ∧ F.lo.length ≤ 1099511627776)
    (hsl : 0 ≤ F.least.1 ∧ F.least.1 < 9223372036854775808 ∧ 0 ≤ F.least.2 ∧ F.least.2 < 18446744073709551616) (hsm : 0 ≤ F.most.1 ∧ F.most.1 < 9223372036854775808 ∧ 0 ≤ F.most.2 ∧ F.most.2 < 18446744073709551616) :
    Calls Try.prog 56 #[.pointer (some ⟨fb, 0, none⟩), .int .u64 key] w (AddPost base fb e F key w) := by
  obtain ⟨⟨c0, c1, c2, c3, c4, c5, c6, c7, c8⟩, hfr, hlt⟩ := h.cells
  have HH := Lib.hid h
  clear h
  obtain ⟨cnt, last, least, most, lo, up⟩ := F
  simp only at c1 c2 c3 c4 c5 c6 hcnt hcnt' hlast hup hlo hsl hsm hch
  have g1 : fb < w.heap.size + 1 := by omega
  have g2 : fb < w.heap.size + 1 + 1 := by omega
  have e1 : IntKind.i64.wrap (cnt - e) = cnt - e := wrap_i64_id (by omega) (by omega)
  have e2 : IntKind.i64.wrap (cnt + e) = cnt + e := wrap_i64_id (by omega) (by omega)
  go_enter Try.func56, Try.ntmps56
  go_upto_region 1 with (fail)
  go_cut [25] (fun s25 wx => s25 = .bool false ∧ wx = w)
  case first =>
    by_cases hc : 0 < cnt
    · have hcb : decide (0 < cnt) = true := by simpa using hc
      have hlb : decide (key ≤ last) = false := by simp; have := hlast hc; omega
      go_wp2_with fail
      go_meet
      exact ⟨rfl, rfl⟩
    · have hcb : decide (0 < cnt) = false := by simpa using hc
      go_wp2_with fail
      go_meet
      exact ⟨rfl, rfl⟩
  case rest =>
    obtain ⟨rfl, hw⟩ := hcut
    obtain rfl : w = wc := hw.symm
    clear hw
    go_upto_region 3 with (fail)
    go_cut [6] (fun s6 wx => ∃ b6 : Nat, s6 = .pointer (some ⟨b6, 0, none⟩) ∧ Below w.heap.size w wx ∧ w.heap.size ≤ b6 ∧ b6 < wx.heap.size ∧ wx.heap[b6]? = some (.cells #[.int .u64 key, .int .i64 (cnt - e), .int .u64 key, .int .i64 (cnt + e)] 123 (0, 0)))
    case first =>
      go_region
      go_wp2_with fail
      go_meet
      exact ⟨w.heap.size, rfl, by (repeat (first | exact Below.refl _ _ | refine bl_alloc ?_ _ | refine bl_drew ?_ | (refine bl_set ?_ (by simp <;> omega) _) | refine bl_then ?_ (by assumption) | refine bl_cls ?_ (by assumption))), Nat.le_refl _, by simp, heap_alloc_new w _⟩
    case rest =>
      obtain ⟨b6, rfl, hb1, hb6, hb6', h6⟩ := hcut
      have hc1 := below_cells hb1
      have hs1 := hb1.size
      have k1 : fb < wc.heap.size := by omega
      have k2 : fb < wc.heap.size + 1 := by omega
      have H6 := Lib.hid h6
      clear h6
      go_upto_region 4 with (fail)
      go_cut [7, 8] (fun s7 s8 wx => ∃ b7 b8 : Nat, s7 = .pointer (some ⟨b7, 0, none⟩) ∧ s8 = .pointer (some ⟨b8, 0, none⟩) ∧ Below w.heap.size w wx ∧ Vars w wx b6 b7 b8 key (cnt - e) (cnt + e) least most)
      case first =>
        go_region
        all_goals (go_wp2_with fail; go_meet)
        · exact ⟨wc.heap.size, wc.heap.size + 1, rfl, rfl, by (repeat (first | exact Below.refl _ _ | refine bl_alloc ?_ _ | refine bl_drew ?_ | (refine bl_set ?_ (by simp <;> omega) _) | refine bl_then ?_ (by assumption) | refine bl_cls ?_ (by assumption))), ⟨heap_keep2 H6.out, heap_two_a _ _ _, heap_two_b _ _ _, by omega, by omega, by omega, by omega⟩⟩
        · exact ⟨wc.heap.size + 1, wc.heap.size, rfl, rfl, by (repeat (first | exact Below.refl _ _ | refine bl_alloc ?_ _ | refine bl_drew ?_ | (refine bl_set ?_ (by simp <;> omega) _) | refine bl_then ?_ (by assumption) | refine bl_cls ?_ (by assumption))), ⟨heap_keep2 H6.out, heap_two_b _ _ _, heap_two_a _ _ _, by omega, by omega, by omega, by omega⟩⟩
      case rest =>
        clear hc1 hs1 k1 k2 H6 hb6 hb6' hb1
        rename_i wd
        obtain ⟨b7, b8, rfl, rfl, hb2, hv⟩ := hcut
        have hc2 := below_cells hb2
        go_upto_if 61 with (fail)
        go_cut [] (fun wx => ∃ l m : Int × Int, Below w.heap.size w wx ∧ Vars w wx b6 b7 b8 key (cnt - e) (cnt + e) l m ∧ AddLM e ⟨cnt, last, least, most, lo, up⟩ key l m)
        case first =>
          by_cases hc : 0 < cnt
          · have hcb : decide (0 < cnt) = true := by simpa using hc
            obtain ⟨hu1, hu2, hu3, hu4⟩ := hup hc
            obtain ⟨hl1, hl2, hl3, hl4⟩ := hlo hc
            obtain ⟨ga, capa, rfl, hga, hgac⟩ := row_form HH.out.up hu2
            obtain ⟨gb, capb, rfl, hgb, hgbc⟩ := row_form HH.out.lo hl2
            have HGA := Lib.hid hgac
            have HGB := Lib.hid hgbc
            clear hgac hgbc
            obtain ⟨⟨d0, d1, d2, d3⟩, d4, d5, hz6, hz7, hz8, hfr7, hfr8⟩ := hv.cells
            have hsz := hb2.size
            have k0 : fb < wc.heap.size := by omega
            have k1 : ga < wc.heap.size := by omega
            have k2 : gb < wc.heap.size := by omega
            go_wp2_with fail
            refine (touching_up up ⟨key, cnt - e⟩ hu1 ⟨hk, hk', by simp only; omega, by simp only; omega⟩ fb ga capa hu2 hu3 _ (by go_simp) (by omega) (by omega)
              (fun i hi => ⟨(hc2 _ _ hga).trans (HGA.out i hi).1, (hc2 _ _ hga).trans (HGA.out i hi).2⟩)).mono ?_
            rintro e1 w1 ⟨rfl, hb3⟩
            have hc3 := below_cells hb3
            have hf3 := below_frozen hb3
            have hs3 := hb3.size
            have ht1 := touch_mem 1 up ⟨key, cnt - e⟩ hu2
            generalize hT1 : Inc.touch 1 up ⟨key, cnt - e⟩ = t1 at *
            have hp1 := hu1.1 t1 ht1
            have hx1 := hu4 t1 ht1
            have HT1 := Lib.hid hT1
            clear hT1
            obtain ⟨tx, ty⟩ := t1
            simp only at hx1
            have k6 : b6 < w1.heap.size := by omega
            have k7 : b7 < w1.heap.size := by omega
            have k8 : b8 < w1.heap.size := by omega
            unfold ptV
            simp only
            go_upto_if 71 with (fail)
            have hbw : Below w.heap.size w (w1.alloc (.cells #[.int .u64 tx, .int .i64 ty] 122)) := bl_alloc (bl_then hb2 hb3) _
            have hvw : Vars w (w1.alloc (.cells #[.int .u64 tx, .int .i64 ty] 122)) b6 b7 b8 key (cnt - e) (cnt + e) least most := (hv.below hb3).alloc _
            have hn1 := heap_alloc_new w1 (.cells #[.int .u64 tx, .int .i64 ty] 122)
            have hsw : w1.heap.size < (w1.alloc (.cells #[.int .u64 tx, .int .i64 ty] 122)).heap.size := by simp
            generalize w1.alloc (.cells #[.int .u64 tx, .int .i64 ty] 122) = wa at *
            generalize w1.heap.size = b9 at *
            go_cut [] (fun wx => Below w.heap.size w wx ∧ Vars w wx b6 b7 b8 key (cnt - e) (cnt + e) (Inc.leastOf e ⟨cnt, last, least, most, lo, up⟩ key) most ∧ SlB (Inc.leastOf e ⟨cnt, last, least, most, lo, up⟩ key))
            case first =>
              clear hc2 hc3 hf3 hs3 k6 k7 k8 hz6 hz7 hz8 hfr7 hfr8 d0 d1 d2 d3 d4 d5 hb3 hsz k0 k1 k2
              obtain ⟨⟨d0, d1, d2, d3⟩, ⟨d4, d4'⟩, d5, hz6, hz7, hz8, hfr7, hfr8⟩ := hvw.cells
              have n0 : wa.cell? ⟨b9, 0, none⟩ = some (.int .u64 tx) := by rw [cell_of_row _ _ _ _ _ _ hn1]; rfl
              have n1 : wa.cell? ⟨b9, 1, none⟩ = some (.int .i64 ty) := by rw [cell_of_row _ _ _ _ _ _ hn1]; rfl
              have HN := Lib.hid hn1
              clear hn1
              by_cases hgt : ty < cnt - e
              · have hgb : decide (ty < cnt - e) = true := by simpa using hgt
                go_wp2_with fail
                refine (between_any ⟨tx, ty⟩ ⟨key, cnt - e⟩ hp1 ⟨hk, hk', by simp only; omega, by simp only; omega⟩ hx1 (by simp only; omega) _).mono ?_
                rintro e2 w2 ⟨rfl, hb4⟩
                have hs1 := between_bound (p := ⟨tx, ty⟩) (q := ⟨key, cnt - e⟩) hp1 ⟨hk, hk', by simp only; omega, by simp only; omega⟩ hx1 (by simp only; omega)
                generalize hS : Inc.between ⟨tx, ty⟩ ⟨key, cnt - e⟩ = sl at *
                have HS := Lib.hid hS
                clear hS
                obtain ⟨s1, s2⟩ := sl
                simp only at hs1
                have hc4 := below_cells hb4
                have hf4 := below_frozen hb4
                have hs4 := hb4.size
                have q7 : b7 < w2.heap.size := by omega
                have q8 : b8 < w2.heap.size := by omega
                have q6 : b6 < w2.heap.size := by omega
                go_wp2_with fail
                refine (below_any least.1 least.2 s1 s2 (by omega) (by omega) (by omega) (by omega) (by omega) (by omega) (by omega) (by omega) _).mono ?_
                rintro e3 w3 ⟨rfl, hb5⟩
                have hc5 := below_cells hb5
                have hf5 := below_frozen hb5
                have hs5 := hb5.size
                rw [World.size_alloc] at hs5
                have r7 : b7 < w3.heap.size := by omega
                have r7' : b7 < w2.heap.size + 1 := by omega
                have r10 : w2.heap.size < w3.heap.size := by omega
                have hv3 : Vars w w3 b6 b7 b8 key (cnt - e) (cnt + e) least most := ((hvw.below hb4).alloc _).below hb5
                have hbw3 : Below w.heap.size w w3 := bl_then (bl_alloc (bl_then hbw hb4) _) hb5
                have hlz : Inc.leastOf e ⟨cnt, last, least, most, lo, up⟩ key = if Inc.below (least.1, least.2) (s1, s2) = true then (s1, s2) else least := by
                  unfold Inc.leastOf
                  simp only [HT1.out, HS.out]
                  rw [if_pos hgt]
                have HLZ := Lib.hid hlz
                clear hlz
                cases hbl : Inc.below (least.1, least.2) (s1, s2) with
                | true =>
                  go_wp2_with fail
                  go_meet
                  refine ⟨bl_set (bl_set hbw3 hv.l7 _) hv.l7 _, ?_⟩
                  rw [HLZ.out, hbl]
                  exact ⟨hv3.set_least s1 s2, by unfold SlB; simp only [if_true]; omega⟩
                | false =>
                  go_wp2_with fail
                  go_meet
                  refine ⟨hbw3, ?_⟩
                  rw [HLZ.out, hbl]
                  exact ⟨hv3, hsl⟩
              · have hgb : decide (ty < cnt - e) = false := by simpa using hgt
                go_wp2_with fail
                go_meet
                refine ⟨hbw, ?_⟩
                have hlz : Inc.leastOf e ⟨cnt, last, least, most, lo, up⟩ key = least := by
                  unfold Inc.leastOf
                  simp only [HT1.out]
                  rw [if_neg (by omega)]
                rw [hlz]
                exact ⟨hvw, hsl⟩
            case rest =>
              clear hc2 hc3 hf3 hs3 k6 k7 k8 hz6 hz7 hz8 hfr7 hfr8 d0 d1 d2 d3 d4 d5 hb3 hsz k0 k1 k2 hn1 hsw hvw hbw hv hb2
              rename_i wold
              obtain ⟨hb2, hv, hsl'⟩ := hcut
              have hsz := hb2.size
              have hc2 := below_cells hb2
              have k0 : fb < wc.heap.size := by omega
              obtain ⟨⟨d0, d1, d2, d3⟩, ⟨d4, d4'⟩, d5, hz6, hz7, hz8, hfr7, hfr8⟩ := hv.cells
              go_upto_region 11 with (fail)
              go_cut [11] (fun s11 wx => ∃ b11 : Nat, s11 = .pointer (some ⟨b11, 0, none⟩) ∧ Below w.heap.size w wx ∧ Vars w wx b6 b7 b8 key (cnt - e) (cnt + e) (Inc.leastOf e ⟨cnt, last, least, most, lo, up⟩ key) most ∧ b11 ≠ b8 ∧
                wx.heap[b11]? = some (.cells #[.int .u64 (Inc.between (Inc.touch (-1) lo ⟨key, cnt + e⟩) ⟨key, cnt + e⟩).1, .int .u64 (Inc.between (Inc.touch (-1) lo ⟨key, cnt + e⟩) ⟨key, cnt + e⟩).2] 116 (0, 0)))
              case first =>
                have X1 : Hid (∀ W, Below wc.heap.size wc W → ∀ i, i < lo.length → W.cell? ⟨gb, 2 * i, none⟩ = some (.int .u64 (lo.getD i default).x) ∧ W.cell? ⟨gb, 2 * i + 1, none⟩ = some (.int .i64 (lo.getD i default).y)) :=
                  fun W hW i hi => ⟨(below_cells hW _ _ (by omega)).trans ((hc2 _ _ hgb).trans (HGB.out i hi).1), (below_cells hW _ _ (by omega)).trans ((hc2 _ _ hgb).trans (HGB.out i hi).2)⟩
                have X2 : Hid (∀ W, Below wc.heap.size wc W → W.cell? ⟨fb, 7, none⟩ = some (.slice (some ⟨gb, 0, none⟩) lo.length capb)) :=
                  fun W hW => (below_cells hW _ _ (by omega)).trans ((hc2 _ _ hlt).trans c7)
                have X3 : Hid (∀ W, Below wc.heap.size wc W → fb < W.heap.size ∧ gb < W.heap.size) := fun W hW => by have := hW.size; omega
                have X5 : Hid (∀ W, Below wc.heap.size wc W → W.cell? ⟨b6, 2, none⟩ = some (.int .u64 key) ∧ W.cell? ⟨b6, 3, none⟩ = some (.int .i64 (cnt + e))) :=
                  fun W hW => ⟨(below_cells hW _ _ hz6).trans d2, (below_cells hW _ _ hz6).trans d3⟩
                have ht2 := touch_mem (-1) lo ⟨key, cnt + e⟩ hl2
                have hp2 := hl1.1 _ ht2
                obtain ⟨hx2, hy2⟩ := hl4 _ ht2
                clear ht2
                generalize hT2 : Inc.touch (-1) lo ⟨key, cnt + e⟩ = t2 at *
                have HT2 := Lib.hid hT2
                clear hT2
                have X4 : Hid (∀ W, Calls Try.prog 64 #[.agg #[.int .u64 t2.x, .int .i64 t2.y], .agg #[.int .u64 key, .int .i64 (cnt + e)]] W fun ed w' => ed = .returned (.agg #[.int .u64 (Inc.between t2 ⟨key, cnt + e⟩).1, .int .u64 (Inc.between t2 ⟨key, cnt + e⟩).2]) ∧ Below W.heap.size W w') :=
                  fun W => between_any t2 ⟨key, cnt + e⟩ hp2 ⟨hk, hk', by simp only; omega, by simp only; omega⟩ hx2 hy2 W
                generalize Inc.between t2 ⟨key, cnt + e⟩ = sm at *
                obtain ⟨s1, s2⟩ := sm
                have HV := Lib.hid hv
                have HB2 := Lib.hid hb2
                clear hc2 hv hb2 hp2 hx2 hy2
                have k61 : b6 < wc.heap.size + 1 := by omega
                go_region_held3 (fun w' => w'.cell? ⟨b6, 2, none⟩ = some (.int .u64 key) ∧ w'.cell? ⟨b6, 3, none⟩ = some (.int .i64 (cnt + e))) (first | exact X5.out _ (by (repeat (first | exact Below.refl _ _ | refine bl_alloc ?_ _ | refine bl_drew ?_ | (refine bl_set ?_ (by simp <;> omega) _) | refine bl_then ?_ (by assumption) | refine bl_cls ?_ (by assumption)))) | go_keep) (first
                  | (go_at_call 63; refine (touching_lo lo ⟨key, cnt + e⟩ hl1 ⟨hk, hk', by simp only; omega, by simp only; omega⟩ fb gb capb hl2 hl3 _ (X2.out _ (by (repeat (first | exact Below.refl _ _ | refine bl_alloc ?_ _ | refine bl_drew ?_ | (refine bl_set ?_ (by simp <;> omega) _) | refine bl_then ?_ (by assumption) | refine bl_cls ?_ (by assumption))))) (X3.out _ (by (repeat (first | exact Below.refl _ _ | refine bl_alloc ?_ _ | refine bl_drew ?_ | (refine bl_set ?_ (by simp <;> omega) _) | refine bl_then ?_ (by assumption) | refine bl_cls ?_ (by assumption))))).2 (X3.out _ (by (repeat (first | exact Below.refl _ _ | refine bl_alloc ?_ _ | refine bl_drew ?_ | (refine bl_set ?_ (by simp <;> omega) _) | refine bl_then ?_ (by assumption) | refine bl_cls ?_ (by assumption))))).1 (X1.out _ (by (repeat (first | exact Below.refl _ _ | refine bl_alloc ?_ _ | refine bl_drew ?_ | (refine bl_set ?_ (by simp <;> omega) _) | refine bl_then ?_ (by assumption) | refine bl_cls ?_ (by assumption)))))).mono ?_; rw [HT2.out]; rintro e1 w1 ⟨rfl, hb3⟩; have hc3 := below_cells hb3; have hf3 := below_frozen hb3; have hz3 := hb3.size; (try simp only [World.size_alloc, World.size_drew, World.size_setCell] at hz3); (try rw [Nat.add_one_le_iff] at hz3); unfold ptV)
                  | (go_at_call 64; refine (X4.out _).mono ?_; rintro e2 w2 ⟨rfl, hb4⟩; have hc4 := below_cells hb4; have hf4 := below_frozen hb4; have hz4 := hb4.size; (try simp only [World.size_alloc, World.size_drew, World.size_setCell] at hz4); (try rw [Nat.add_one_le_iff] at hz4)))
                all_goals (go_wp2_with fail; go_meet)
                · refine ⟨w2.heap.size, rfl, bl_alloc (bl_then (bl_then (bl_drew HB2.out) hb3) hb4) _, ((HV.out.drew.below hb3).below hb4).alloc _, by omega, heap_alloc_new w2 _⟩
                · have h11 : w2.heap[w1.heap.size]? = _ := (hb4.block w1.heap.size (by simp)).trans (heap_alloc_new w1 _)
                  have hle := HB2.out.size
                  exact ⟨w1.heap.size, rfl, bl_set (bl_set (bl_then (bl_alloc (bl_then (bl_drew HB2.out) hb3) _) hb4) (by simp only; omega) _) (by simp only; omega) _,
                    (((HV.out.drew.below hb3).alloc _).below hb4).set_new (by omega) (by omega) (by omega) _ _, by omega, two_set h11 _ _⟩
                · have h10 : w1.heap[wc.heap.size]? = _ := (hb3.block wc.heap.size (by simp)).trans (heap_alloc_new wc _)
                  have h11 : w2.heap[wc.heap.size]? = _ := (hb4.block wc.heap.size (by omega)).trans h10
                  have hle := HB2.out.size
                  exact ⟨wc.heap.size, rfl, bl_set (bl_set (bl_then (bl_then (bl_drew (bl_alloc HB2.out _)) hb3) hb4) (by simp only; omega) _) (by simp only; omega) _,
                    (((HV.out.alloc _).drew.below hb3).below hb4).set_new (by omega) (by omega) (by omega) _ _, by omega, two_set h11 _ _⟩
              case rest =>
                clear hc2 hb2 hv d0 d1 d2 d3 d4 d4' d5 hz6 hz7 hz8 hfr7 hfr8 hsz k0
                rename_i wold2
                obtain ⟨b11, rfl, hb2, hv, hn8, h11⟩ := hcut
                have ht2 := touch_mem (-1) lo ⟨key, cnt + e⟩ hl2
                have hp2 := hl1.1 _ ht2
                obtain ⟨hx2, hy2⟩ := hl4 _ ht2
                have hs1 := between_bound hp2 (q := ⟨key, cnt + e⟩) ⟨hk, hk', by simp only; omega, by simp only; omega⟩ hx2 hy2
                clear ht2 hp2 hx2 hy2
                have hmo : Hid (Inc.mostOf e ⟨cnt, last, least, most, lo, up⟩ key = if Inc.below (Inc.between (Inc.touch (-1) lo ⟨key, cnt + e⟩) ⟨key, cnt + e⟩) most = true then Inc.between (Inc.touch (-1) lo ⟨key, cnt + e⟩) ⟨key, cnt + e⟩ else most) := rfl
                generalize Inc.between (Inc.touch (-1) lo ⟨key, cnt + e⟩) ⟨key, cnt + e⟩ = sm at *
                obtain ⟨s1, s2⟩ := sm
                simp only at hs1 h11
                obtain ⟨⟨d0, d1, d2, d3⟩, ⟨d4, d4'⟩, ⟨d5, d5'⟩, hz6, hz7, hz8, hfr7, hfr8⟩ := hv.cells
                have n0 : wc.cell? ⟨b11, 0, none⟩ = some (.int .u64 s1) := by rw [cell_of_row _ _ _ _ _ _ h11]; rfl
                have n1 : wc.cell? ⟨b11, 1, none⟩ = some (.int .u64 s2) := by rw [cell_of_row _ _ _ _ _ _ h11]; rfl
                have hz11 : b11 < wc.heap.size := (Array.getElem?_eq_some_iff.1 h11).1
                have H11 := Lib.hid h11
                clear h11
                go_upto_region 12 with (fail)
                go_cut [89] (fun s89 wx => s89 = .bool (Inc.below (s1, s2) (most.1, most.2)) ∧ Below wc.heap.size wc wx)
                case first =>
                  go_wp2_with fail
                  refine (below_any s1 s2 most.1 most.2 (by omega) (by omega) (by omega) (by omega) (by omega) (by omega) (by omega) (by omega) _).mono ?_
                  rintro e3 w3 ⟨rfl, hb5⟩
                  go_wp2_with fail
                  go_meet
                  exact ⟨rfl, hb5⟩
                case rest =>
                  rename_i wold3
                  obtain ⟨rfl, hb5⟩ := hcut
                  have hc5 := below_cells hb5
                  have hf5 := below_frozen hb5
                  have hs5 := hb5.size
                  have hv5 := hv.below hb5
                  have hb6 := bl_then hb2 hb5
                  have t7 : b7 < wc.heap.size := by omega
                  have t8 : b8 < wc.heap.size := by omega
                  clear hv hb2
                  go_upto_if 89 with (fail)
                  go_cut [] (fun wx => Below w.heap.size w wx ∧ Vars w wx b6 b7 b8 key (cnt - e) (cnt + e) (Inc.leastOf e ⟨cnt, last, least, most, lo, up⟩ key) (Inc.mostOf e ⟨cnt, last, least, most, lo, up⟩ key) ∧ SlB (Inc.mostOf e ⟨cnt, last, least, most, lo, up⟩ key))
                  case first =>
                    have hl8 := hv5.l8
                    cases hbl : Inc.below (s1, s2) (most.1, most.2) with
                    | true =>
                      go_wp2_with fail
                      go_meet
                      refine ⟨bl_set (bl_set hb6 hl8 _) hl8 _, ?_⟩
                      rw [hmo.out, hbl]
                      exact ⟨hv5.set_most s1 s2, by unfold SlB; simp only [if_true]; omega⟩
                    | false =>
                      go_wp2_with fail
                      go_meet
                      refine ⟨hb6, ?_⟩
                      rw [hmo.out, hbl]
                      exact ⟨hv5, hsm⟩
                  case rest =>
                    clear hc5 hf5 hs5 hv5 hb6 t7 t8 hmo n0 n1 hz11 H11 d0 d1 d2 d3 d4 d4' d5 d5' hz6 hz7 hz8 hfr7 hfr8 hs1
                    rename_i wold4
                    obtain ⟨hb2, hv, hsm'⟩ := hcut
                    obtain ⟨⟨d0, d1, d2, d3⟩, ⟨d4, d4'⟩, ⟨d5, d5'⟩, hz6, hz7, hz8, hfr7, hfr8⟩ := hv.cells
                    have HNO := Lib.hid (add_no (e := e) (F := ⟨cnt, last, least, most, lo, up⟩) (key := key) hc)
                    generalize hL : Inc.leastOf e ⟨cnt, last, least, most, lo, up⟩ key = l' at *
                    generalize hM : Inc.mostOf e ⟨cnt, last, least, most, lo, up⟩ key = m' at *
                    have HL := Lib.hid hL
                    have HM := Lib.hid hM
                    clear hL hM
                    obtain ⟨l1, l2⟩ := l'
                    obtain ⟨m1, m2⟩ := m'
                    unfold SlB at hsl' hsm'
                    simp only at hsl' hsm' d4 d4' d5 d5'
                    go_wp2_with fail
                    refine (below_any m1 m2 l1 l2 (by omega) (by omega) (by omega) (by omega) (by omega) (by omega) (by omega) (by omega) _).mono ?_
                    rintro e3 w3 ⟨rfl, hb5⟩
                    cases hbl : Inc.below (m1, m2) (l1, l2) with
                    | true =>
                      have HB := Lib.hid hbl
                      clear hbl
                      go_wp2_with fail
                      go_ret2
                      exact .inl ⟨HNO.out HB.out, rfl, bl_then hb2 hb5⟩
                    | false =>
                      have HB := Lib.hid hbl
                      clear hbl
                      go_wp2_with fail
                      go_meet
                      exact ⟨(l1, l2), (m1, m2), bl_then hb2 hb5, hv.below hb5, .inr ⟨hc, HL.out.symm, HM.out.symm, HB.out⟩⟩
          · have hcb : decide (0 < cnt) = false := by simpa using hc
            go_wp2_with fail
            go_meet
            exact ⟨least, most, hb2, hv, .inl ⟨by simp only; omega, rfl, rfl⟩⟩
        case rest =>
          clear hc2 hv hb2
          rename_i wold5
          obtain ⟨l, m, hb2, hv, hlm⟩ := hcut
          have HH2 : LoopSt base fb b6 b7 b8 e cnt last key least most l m lo up w 0 wc v0 v1 := loop_start HH.out hb2 hv
          have HLM := Lib.hid hlm
          have HL0 := Lib.hid HH2
          clear hlm HH2 hb2 hv
          go_wp2_with fail
          go_loopw [94] (fun x wr => ∃ (k : Nat) (a0 a1 : Value), k ≤ 2 ∧ x = .int .i64 k ∧ LoopSt base fb b6 b7 b8 e cnt last key least most l m lo up w k wr a0 a1) (fun x _ => (2 - intOf x).toNat)
          case atStart => exact ⟨0, v0, v1, by omega, rfl, HL0.out⟩
          case round =>
            obtain ⟨k, a0, a1, hk2, rfl, hst⟩ := hrel
            obtain ⟨⟨z0, z1, z2, z3, z4, z5, z6, z7, z8⟩, zfr, zlt⟩ := hst.fit.cells
            obtain ⟨⟨d0, d1, d2, d3⟩, ⟨d4, d4'⟩, ⟨d5, d5'⟩, hz6, hz7, hz8, hfr7, hfr8⟩ := hst.vars.cells
            have hbr : base ≤ wr.heap.size := by have := hst.fr.size; omega
            have HST := Lib.hid hst
            clear hst
            simp only at z1 z2 z3 z4 z5 z6
            match k with
            | 0 =>
              rw [show ((0 : Nat) : Int) = 0 from rfl]
              have hg : decide ((0 : Int) < 2) = true := by decide
              go_wp2_with fail
              have Y1 := Lib.hid (fun W (hW : Below wr.heap.size wr W) => laid_any lo ⟨key, cnt - e⟩ 0 (hch.2.1 _) ⟨hk, hk', by simp only; omega, by simp only; omega⟩ (.inl rfl) (by omega) base a0 W (by have := hW.size; omega) (owns_below HST.out.fit.lo hW))
              have hfb2 := HST.out.fit.blk
              have HF2 := Lib.hid hfb2
              clear hfb2
              go_region_with (first
                | (go_at_call 66; refine (Y1.out _ (by (repeat (first | exact Below.refl _ _ | refine bl_alloc ?_ _ | refine bl_drew ?_ | (refine bl_set ?_ (by simp <;> omega) _) | refine bl_then ?_ (by assumption) | refine bl_cls ?_ (by assumption))))).mono ?_; rintro e1 w1 hpost; obtain ⟨g', cap', rfl, hown, hgrow, hwhere⟩ := hpost; have hq := row_store (grown_drew hgrow) HF2.out (owns_type HST.out.fit.lo HF2.out (by decide)); have q1 : w1.cell? ⟨fb, 7, none⟩ = some a0 := hq.1 7 (by simp [fitCells]); have q2 := hq.2; have HO := Lib.hid hown; have HG := Lib.hid (grown_drew hgrow); have HW := Lib.hid hwhere; clear hown hgrow hwhere hq))
              all_goals
                go_wp2_with fail
                exact ⟨⟨1, _, _, by omega, rfl, loop_zero HST.out hlt rfl HO.out HG.out HW.out⟩, by decide⟩
            | 1 =>
              rw [show ((1 : Nat) : Int) = 1 from rfl]
              have hg : decide ((1 : Int) < 2) = true := by decide
              go_wp2_with fail
              have Y1 := Lib.hid (fun W (hW : Below wr.heap.size wr W) => laid_any up ⟨key, cnt + e⟩ 1 (hch.1 _) ⟨hk, hk', by simp only; omega, by simp only; omega⟩ (.inr rfl) (by omega) base a1 W (by have := hW.size; omega) (owns_below HST.out.fit.up hW))
              have hfb2 := HST.out.fit.blk
              have HF2 := Lib.hid hfb2
              clear hfb2
              go_region_with (first
                | (go_at_call 66; refine (Y1.out _ (by (repeat (first | exact Below.refl _ _ | refine bl_alloc ?_ _ | refine bl_drew ?_ | (refine bl_set ?_ (by simp <;> omega) _) | refine bl_then ?_ (by assumption) | refine bl_cls ?_ (by assumption))))).mono ?_; rintro e1 w1 hpost; obtain ⟨g', cap', rfl, hown, hgrow, hwhere⟩ := hpost; have hq := row_store (grown_drew hgrow) HF2.out (owns_type HST.out.fit.up HF2.out (by decide)); have q1 : w1.cell? ⟨fb, 8, none⟩ = some a1 := hq.1 8 (by simp [fitCells]); have q2 := hq.2; have HO := Lib.hid hown; have HG := Lib.hid (grown_drew hgrow); have HW := Lib.hid hwhere; clear hown hgrow hwhere hq))
              all_goals
                go_wp2_with fail
                exact ⟨⟨2, _, _, by omega, rfl, loop_one HST.out hlt rfl HO.out HG.out HW.out⟩, by decide⟩
            | 2 =>
              rw [show ((2 : Nat) : Int) = 2 from rfl]
              have hg : decide ((2 : Int) < 2) = false := by decide
              have f1 : ∀ i, wr.frozen? ⟨fb, i, none⟩ = false := zfr
              have hblk := Lib.hid HST.out.fit.blk
              go_wp2_with fail
              go_region
              all_goals
                go_wp2_with fail
                go_ret2
                exact add_end HST.out HLM.out
            | k + 3 => omega
end Go.Proofs.Ytdfkgkidaffcgaa
namespace Go.Proofs.Ytdfkgkidaffcgaa
open Go.RowKit

theorem along_any (num den d : Nat) (hn : num < 18446744073709551616) (hd : d < 18446744073709551616) (hden : den < 18446744073709551616) (w : World) :
    Calls Try.prog 68 #[.int .u64 num, .int .u64 den, .int .u64 d] w fun e w' => e = .returned (if den ≤ num * d / 18446744073709551616 then .tuple #[.int .u64 0, .bool false] else .tuple #[.int .u64 (num * d / den : Nat), .bool (decide (num * d / den ≤ 2305843009213693952))]) ∧ Below w.heap.size w w' := by
  obtain ⟨hi, hhi⟩ : ∃ hi, num * d / 18446744073709551616 = hi := ⟨_, rfl⟩
  obtain ⟨lo, hlo⟩ : ∃ lo, num * d % 18446744073709551616 = lo := ⟨_, rfl⟩
  have e : num * d = hi * 18446744073709551616 + lo := by omega
  have hb : num * d < 18446744073709551616 * 18446744073709551616 := Nat.mul_lt_mul'' hn hd
  have h1 : hi < 18446744073709551616 := by omega
  have h2 : lo < 18446744073709551616 := by omega
  have hm := Try.bits_Mul64 num d (by omega) (by omega) w
  rw [hhi]
  rw [e]
  have f1 : (num : Int) * (d : Int) / 18446744073709551616 = (hi : Int) := by rw [← Int.natCast_mul]; omega
  have f2 : (num : Int) * (d : Int) % 18446744073709551616 = (lo : Int) := by rw [← Int.natCast_mul]; omega
  clear e hb hhi hlo
  rcases Nat.lt_or_ge hi den with hlt | hge
  · have c1 : decide ((den : Int) ≤ (hi : Int)) = false := by simp; omega
    rw [if_neg (by omega)]
    have hdiv := div64_any hi lo den (by omega) (by omega) (by omega)
    generalize (hi * 18446744073709551616 + lo) / den = Q at *
    generalize (hi * 18446744073709551616 + lo) % den = R at *
    go_enter Try.func68, Try.ntmps68
    go_wp2_with (first
      | (go_at_call 83; refine (mul64_any _ _ (by omega) (by omega) (by omega) (by omega) _).mono ?_; rintro e w' ⟨rfl, rfl⟩)
      | (go_at_call 70; refine (hdiv _).mono ?_; rintro e w1 ⟨rfl, hb1⟩))
    go_ret2
    exact ⟨by simp; omega, hb1⟩
  · have c1 : decide ((den : Int) ≤ (hi : Int)) = true := by simp; omega
    rw [if_pos hge]
    go_enter Try.func68, Try.ntmps68
    go_wp2_with (first
      | (go_at_call 83; refine (mul64_any _ _ (by omega) (by omega) (by omega) (by omega) _).mono ?_; rintro e w' ⟨rfl, rfl⟩))
    go_ret2
    exact ⟨rfl, Below.refl _ _⟩

theorem least_any (w : World) (base fb : Nat) (e : Int) (F : Inc.Fit) (v0 v1 : Value) (h : FitAt w base fb e F v0 v1) :
    Calls Try.prog 67 #[.pointer (some ⟨fb, 0, none⟩)] w fun e w' => e = .returned (.agg #[.int .u64 F.least.1, .int .u64 F.least.2]) ∧ Below w.heap.size w w' := by
  obtain ⟨⟨c0, c1, c2, c3, c4, c5, c6, c7, c8⟩, hf, hfb⟩ := h.cells
  have hne : fb ≠ w.heap.size := by omega
  go_enter Try.func67, Try.ntmps67
  go_wp2_with fail
  exact bodyPost_ret (by simp only [results, Try.results67]; go_simp <;> rfl) rfl ⟨rfl, by (repeat (first | exact Below.refl _ _ | refine bl_alloc ?_ _ | refine bl_drew ?_ | (refine bl_set ?_ (by simp <;> omega) _) | refine bl_then ?_ (by assumption) | refine bl_cls ?_ (by assumption)))⟩
end Go.Proofs.Ytdfkgkidaffcgaa
namespace Go.Proofs.Ytdfkgkidaffcgaa
open Go.RowKit

/-- what Add leaves of a fit -/
theorem add_ok (e key : Int) (he : 1 ≤ e) (he' : e ≤ 63) (ks : List Int) (base fb : Nat) (F : Inc.Fit) (v0 v1 : Value) (w : World) (hin : Inc.KeysIn (ks ++ [key])) (hlen : ks.length < 8589934592)
    (hbase : base ≤ w.heap.size) (hfb : base ≤ fb) (h : FitAt w base fb e F v0 v1) (hF : Inc.FitS e ks F) (hk : ∀ i, i < ks.length → Inc.K ks i < key) :
    Calls Try.prog 56 #[.pointer (some ⟨fb, 0, none⟩), .int .u64 key] w (AddPost base fb e F key w) := by
  have hkey := hin.rng ks.length (by simp)
  rw [Inc.K_append_last] at hkey
  have hks : Inc.KeysIn ks := ⟨by omega, fun i hi => by have := hin.rng i (by simp; omega); rwa [Inc.K_append_lt _ _ _ hi] at this⟩
  obtain ⟨hsl, hsm⟩ := hF.ok.slopes he he' hks
  have hc := hF.ok.cnt
  have hul := hF.ul
  have hll := hF.ll
  have um : ∀ d ∈ F.up, PtB d ∧ d.x < key ∧ d.y ≤ F.cnt + e := by
    intro d hd
    obtain ⟨i, hi, rfl⟩ := hF.ok.up.mem d hd
    have := hks.rng i hi
    have := hk i hi
    refine ⟨⟨?_, ?_, ?_, ?_⟩, ?_, ?_⟩ <;> simp only <;> omega
  have lm : ∀ d ∈ F.lo, PtB d ∧ d.x < key ∧ d.y ≤ F.cnt + e := by
    intro d hd
    obtain ⟨i, hi, rfl⟩ := hF.ok.flip_mem hd
    have := hks.rng i hi
    have := hk i hi
    refine ⟨⟨?_, ?_, ?_, ?_⟩, ?_, ?_⟩ <;> simp only <;> omega
  have uch : ∀ y, ChB F.up ⟨key, y⟩ := fun y => ⟨fun d hd => (um d hd).1, hF.ok.up.conv.sorted_rev, fun d hd => Int.le_of_lt (um d hd).2.1⟩
  have lch : ∀ y, ChB F.lo ⟨key, y⟩ := fun y => ⟨fun d hd => (lm d hd).1, hF.ok.lo_sorted, fun d hd => Int.le_of_lt (lm d hd).2.1⟩
  refine add_any e key he he' hkey.1 hkey.2 base fb F v0 v1 w hbase hfb h (by omega) (by omega) (fun hn => hF.ok.last_lt hk hn) (fun hn => ⟨uch _, ?_, by omega, fun d hd => (um d hd).2.1⟩)
    (fun hn => ⟨lch _, ?_, by omega, fun d hd => (lm d hd).2⟩) ⟨uch, lch, by omega, by omega⟩ hsl hsm
  · exact List.length_pos_iff.2 (hF.ok.up.ne (by omega))
  · have := List.length_pos_iff.2 (hF.ok.lo.ne (by omega))
    simpa using this
end Go.Proofs.Ytdfkgkidaffcgaa
namespace Inc

/-- the fit of the first k keys, each laid -/
def fitTo (e : Int) (ks : List Int) : Nat → Option Fit
  | 0 => some Fit.new
  | k + 1 => (fitTo e ks k).bind (fun F => F.add e (K ks k))

theorem fitTo_down {e : Int} {ks : List Int} {n : Nat} {F : Fit} (h : fitTo e ks n = some F) : ∀ k, k ≤ n → ∃ G, fitTo e ks k = some G := by
  induction n generalizing F with
  | zero => intro k hk; exact ⟨F, by rw [show k = 0 by omega]; exact h⟩
  | succ n ih =>
    intro k hk
    rcases Nat.eq_or_lt_of_le hk with rfl | hlt
    · exact ⟨F, h⟩
    · unfold fitTo at h
      rcases hg : fitTo e ks n with _ | G
      · rw [hg] at h; simp at h
      · exact ih hg k (by omega)

theorem fitTo_step {e : Int} {ks : List Int} {k : Nat} {F G : Fit} (h : fitTo e ks k = some F) (h' : fitTo e ks (k + 1) = some G) : F.add e (K ks k) = some G := by
  unfold fitTo at h'
  rw [h] at h'
  simpa using h'

theorem K_take {ks : List Int} {k i : Nat} (h : i < k) : K (ks.take k) i = K ks i := by
  simp [K, List.getD_eq_getElem?_getD, List.getElem?_take, h]

theorem take_K {ks : List Int} {k : Nat} (h : k < ks.length) : ks.take (k + 1) = ks.take k ++ [K ks k] := by
  rw [List.take_add_one, List.getElem?_eq_getElem h, show K ks k = ks[k] from getD_get _ _ h]
  rfl

/-- the first k keys' fit is right -/
theorem fitTo_ok {e : Int} (h0 : 0 ≤ e) {ks : List Int} (hr : Rise ks) : ∀ {k : Nat} {F : Fit}, k ≤ ks.length → fitTo e ks k = some F → FitS e (ks.take k) F := by
  intro k
  induction k with
  | zero => intro F _ h; injection h with h; subst h; exact FitS.new e
  | succ k ih =>
    intro F hk h
    obtain ⟨G, hG⟩ := fitTo_down h k (by omega)
    have hF := fitTo_step hG h
    have hlen : (ks.take k).length = k := by simp; omega
    rcases (ih (by omega) hG).add h0 (key := K ks k) (fun i hi => by rw [hlen] at hi; rw [K_take hi]; exact hr i k hi (by omega)) with ⟨F', h1, h2⟩ | ⟨_, h1, _⟩
    · rw [hF] at h1
      injection h1 with h1
      subst h1
      rw [take_K (by omega)]
      exact h2
    · rw [hF] at h1; cases h1
theorem KeysIn.take {ks : List Int} (h : KeysIn ks) (k : Nat) : KeysIn (ks.take k) := by
  have hl := h.len
  refine ⟨by simp; omega, fun i hi => ?_⟩
  simp only [List.length_take] at hi
  rw [K_take (by omega)]
  exact h.rng i (by omega)
end Inc
namespace Go.Proofs.Ytdfkgkidaffcgaa
open Go.RowKit

theorem below_frp {b fb : Nat} {W w w' : World} (h : Below b W w) (hf : FrP b w w' fb) (hb : b ≤ fb) (hs : b ≤ w.heap.size) : Below b W w' :=
  ⟨hf.os.trans h.os, hf.tape.trans h.tape, hf.output.trans h.output, Nat.le_trans h.size hf.size, fun j hj => (hf.block j (by omega) (by omega) (.inl hj)).trans (h.block j hj)⟩

theorem URow.below {W w : World} {v : Value} {ks : List Int} (h : URow W v ks) (hb : Below W.heap.size W w) : URow w v ks := by
  obtain ⟨A, cap, rfl, hc⟩ := h
  refine ⟨A, cap, rfl, fun hp => ?_⟩
  obtain ⟨b, off, rfl, hlt, hcell⟩ := hc hp
  exact ⟨b, off, rfl, Nat.lt_of_lt_of_le hlt hb.size, fun i hi => (below_cells hb b _ hlt).trans (hcell i hi)⟩

/-- Add lays the next key of a list, or finds that no line fits -/
theorem add_step (e : Int) (he : 1 ≤ e) (he' : e ≤ 63) (ks : List Int) (k base fb : Nat) (G : Inc.Fit) (v0 v1 : Value) (w : World) (hin : Inc.KeysIn ks) (hr : Inc.Rise ks) (hk : k < ks.length)
    (hbase : base ≤ w.heap.size) (hfb : base ≤ fb) (hG : Inc.fitTo e ks k = some G) (h : FitAt w base fb e G v0 v1) :
    Calls Try.prog 56 #[.pointer (some ⟨fb, 0, none⟩), .int .u64 (ks.getD k 0)] w fun ed w' =>
      (Inc.fitTo e ks (k + 1) = none ∧ ed = .returned (.tuple #[.bool false, .int .i64 0]) ∧ Below w.heap.size w w') ∨
      (∃ G' u0 u1, Inc.fitTo e ks (k + 1) = some G' ∧ ed = .returned (.tuple #[.bool true, .int .i64 0]) ∧ FitAt w' base fb e G' u0 u1 ∧ FrP base w w' fb) := by
  have hlen : (ks.take k).length = k := by simp; omega
  have hl := hin.len
  have hS := Inc.fitTo_ok (by omega) hr (by omega) hG
  have he2 : Inc.fitTo e ks (k + 1) = G.add e (ks.getD k 0) := by
    show (Inc.fitTo e ks k).bind _ = _
    rw [hG]; rfl
  rw [he2]
  refine (add_ok e (ks.getD k 0) he he' (ks.take k) base fb G v0 v1 w (by rw [← Inc.take_K hk]; exact hin.take _) (by omega) hbase hfb h hS (fun i hi => by rw [hlen] at hi; rw [Inc.K_take hi]; exact hr i k hi hk)).mono ?_
  rintro ed w' (h' | h')
  · exact .inl h'
  · exact .inr h'

theorem heap_new (w : World) (o : Obj) : (w.alloc o).heap[w.heap.size]? = some o := by
  show (w.heap.push o)[w.heap.size]? = some o
  exact Array.getElem?_push_size

/-- a new fit, just made -/
theorem FitAt.new (w : World) (e : Int) (base : Nat) (w' : World) (hb : Below (w.heap.size + 1) (w.alloc (.cells (fitCells e Inc.Fit.new (.slice none 0 0) (.slice none 0 0)) 120)) w') :
    FitAt w' base w.heap.size e Inc.Fit.new (.slice none 0 0) (.slice none 0 0) := by
  refine ⟨?_, World.ownsRow_nil _ _ _ _, World.ownsRow_nil _ _ _ _, .inl rfl⟩
  rw [hb.block _ (by omega)]
  exact heap_new _ _

/-- what line.Of's first loop keeps -/
def LoSt (W : World) (e : Int) (ks : List Int) (k : Nat) (w : World) : Prop :=
  ∃ G u0 u1, Inc.fitTo e ks k = some G ∧ FitAt w W.heap.size (W.heap.size + 1) e G u0 u1 ∧ Below W.heap.size W w ∧ w.heap[W.heap.size]? = some (.cells #[.int .u64 0, .int .u64 0, .int .i64 0] 107 (0, 0)) ∧ W.heap.size + 1 < w.heap.size

theorem LoSt.start (W : World) (e : Int) (ks : List Int) (w1 : World)
    (hb : Below ((W.alloc (.cells #[.int .u64 0, .int .u64 0, .int .i64 0] 107)).alloc (.cells (fitCells e Inc.Fit.new (.slice none 0 0) (.slice none 0 0)) 120)).heap.size
      ((W.alloc (.cells #[.int .u64 0, .int .u64 0, .int .i64 0] 107)).alloc (.cells (fitCells e Inc.Fit.new (.slice none 0 0) (.slice none 0 0)) 120)) w1) : LoSt W e ks 0 w1 := by
  have hs : (W.alloc (.cells #[.int .u64 0, .int .u64 0, .int .i64 0] 107)).heap.size = W.heap.size + 1 := World.size_alloc ..
  have hs2 := hb.size
  rw [World.size_alloc, hs] at hb hs2
  refine ⟨Inc.Fit.new, .slice none 0 0, .slice none 0 0, rfl, ?_, ?_, ?_, by omega⟩
  · have := FitAt.new (W.alloc (.cells #[.int .u64 0, .int .u64 0, .int .i64 0] 107)) e W.heap.size w1 (by rw [hs]; exact hb)
    rw [hs] at this
    exact this
  · exact Below.trans ((Below.refl _ _).alloc (Nat.le_refl _) _ |>.alloc (by rw [hs]; omega) _) (hb.mono (by omega))
  · rw [hb.block _ (by omega)]
    have hb2 := (Below.refl (W.heap.size + 1) (W.alloc (.cells #[.int .u64 0, .int .u64 0, .int .i64 0] 107))).alloc (by rw [hs]; omega) (.cells (fitCells e Inc.Fit.new (.slice none 0 0) (.slice none 0 0)) 120)
    rw [hb2.block _ (by omega)]
    exact heap_new _ _

theorem LoSt.res {W : World} {e : Int} {ks : List Int} {k : Nat} {w : World} (h : LoSt W e ks k w) : Below W.heap.size W w ∧ w.heap[W.heap.size]? = some (.cells #[.int .u64 0, .int .u64 0, .int .i64 0] 107 (0, 0)) ∧ W.heap.size + 1 < w.heap.size := by
  obtain ⟨_, _, _, _, _, h1, h2, h3⟩ := h
  exact ⟨h1, h2, h3⟩

theorem LoSt.step {W : World} {e : Int} {ks : List Int} {k : Nat} {w : World} (h : LoSt W e ks k w) (he : 1 ≤ e) (he' : e ≤ 63) (hin : Inc.KeysIn ks) (hr : Inc.Rise ks) (hk : k < ks.length) (F : Inc.Fit) (hF : Inc.fitTo e ks ks.length = some F) :
    Calls Try.prog 56 #[.pointer (some ⟨W.heap.size + 1, 0, none⟩), .int .u64 (ks.getD k 0)] w fun ed w' => ed = .returned (.tuple #[.bool true, .int .i64 0]) ∧ LoSt W e ks (k + 1) w' ∧ w.heap.size ≤ w'.heap.size := by
  obtain ⟨G, u0, u1, hG, hat, hb, hres, hlt⟩ := h
  refine (add_step e he he' ks k W.heap.size (W.heap.size + 1) G u0 u1 w hin hr hk (by omega) (by omega) hG hat).mono ?_
  rintro ed w' (⟨hnone, _⟩ | ⟨G', t0, t1, hsome, rfl, hat', hfr⟩)
  · obtain ⟨X, hX⟩ := Inc.fitTo_down hF (k + 1) hk
    rw [hX] at hnone
    cases hnone
  · have hsz := hfr.size
    refine ⟨rfl, ⟨G', t0, t1, hsome, hat', below_frp hb hfr (by omega) (by omega), ?_, by omega⟩, hsz⟩
    rw [hfr.block _ (by omega) (by omega) (.inr (fun c fz he => by rw [hres] at he; injection he with he; injection he with _ he _; exact absurd he (by decide)))]
    exact hres

theorem LoSt.done {W : World} {e : Int} {ks : List Int} {w : World} (h : LoSt W e ks ks.length w) (F : Inc.Fit) (hF : Inc.fitTo e ks ks.length = some F) : ∃ u0 u1, FitAt w W.heap.size (W.heap.size + 1) e F u0 u1 := by
  obtain ⟨G, u0, u1, hG, hat, _⟩ := h
  rw [hF] at hG
  injection hG with hG
  subst hG
  exact ⟨u0, u1, hat⟩

/-- what line.Of's second loop keeps: X, and behind it a block of the line's three numbers -/
structure Lo2 (X : World) (bl : Nat) (a b c : Int) (w : World) : Prop where
  at_ : X.heap.size = bl
  bel : Below bl X w
  lt : bl < w.heap.size
  c0 : w.cell? ⟨bl, 0, none⟩ = some (.int .u64 a)
  c1 : w.cell? ⟨bl, 1, none⟩ = some (.int .u64 b)
  c2 : w.cell? ⟨bl, 2, none⟩ = some (.int .i64 c)
  fz : ∀ o, w.frozen? ⟨bl, o, none⟩ = false

theorem Lo2.start (X : World) (bl : Nat) (h : X.heap.size = bl) (a b c : Int) (T : TypeId) : Lo2 X bl a b c (X.alloc (.cells #[.int .u64 a, .int .u64 b, .int .i64 c] T)) := by
  subst h
  refine ⟨rfl, (Below.refl _ _).alloc (Nat.le_refl _) _, by simp, ?_, ?_, ?_, ?_⟩
  · rw [World.cell?_alloc_new]; rfl
  · rw [World.cell?_alloc_new]; rfl
  · rw [World.cell?_alloc_new]; rfl
  · intro o; exact World.frozen?_alloc_at _ _ _ _ rfl

theorem Lo2.cls {X : World} {bl : Nat} {a b c : Int} {w w1 : World} (h : Lo2 X bl a b c w) (hc : Cls w w1) : Lo2 X bl a b c w1 :=
  ⟨h.at_, h.bel.trans (hc.below.mono (Nat.le_of_lt h.lt)), Nat.lt_of_lt_of_le h.lt hc.below.size, (hc.cells _ _ h.lt).trans h.c0, (hc.cells _ _ h.lt).trans h.c1, (hc.cells _ _ h.lt).trans h.c2, fun o => (hc.frozen _ _ h.lt).trans (h.fz o)⟩

theorem Lo2.set {X : World} {bl : Nat} {a b c : Int} {w : World} (h : Lo2 X bl a b c w) (c' : Int) : Lo2 X bl a b c' (w.setCell ⟨bl, 2, none⟩ (.int .i64 c')) := by
  refine ⟨h.at_, h.bel.setCell (Nat.le_refl _) _, by simpa using h.lt, ?_, ?_, ?_, ?_⟩
  · exact (World.cell?_setCell_other _ _ _ _ (by simp)).trans h.c0
  · exact (World.cell?_setCell_other _ _ _ _ (by simp)).trans h.c1
  · exact World.cell?_setCell_same _ _ _ h.c2
  · intro o; rw [World.frozen?_setCell]; exact h.fz o

/-- the line at a key: how far above its base, by whole steps -/
theorem along_key {e : Int} {ks : List Int} {F : Inc.Fit} (h0 : 1 ≤ e) (h1 : e ≤ 63) (hin : Inc.KeysIn ks) (hF : Inc.FitOK e ks F) {k : Nat} (hk : k < ks.length) :
    (0 ≤ Inc.flo F.least (ks.getD k 0 - ks.getD 0 0) ∧ Inc.flo F.least (ks.getD k 0 - ks.getD 0 0) ≤ (k : Int) + 2 * e) ∧ IntKind.u64.wrap (ks.getD k 0 - ks.getD 0 0) = ks.getD k 0 - ks.getD 0 0 ∧
    ∀ w, Calls Try.prog 68 #[.int .u64 F.least.1, .int .u64 F.least.2, .int .u64 (ks.getD k 0 - ks.getD 0 0)] w fun ed w' => ed = .returned (.tuple #[.int .u64 (Inc.flo F.least (ks.getD k 0 - ks.getD 0 0)), .bool true]) ∧ Below w.heap.size w w' := by
  have hfl := Inc.flo_bound (by omega) hF hk
  obtain ⟨⟨s1, s2, s3, s4⟩, _⟩ := hF.slopes h0 h1 hin
  have hl := hin.len
  have hden := hF.low.den
  have r0 := hin.rng 0 (by omega)
  have rk := hin.rng k hk
  have hle : Inc.K ks 0 ≤ Inc.K ks k := by
    rcases Nat.eq_zero_or_pos k with rfl | hp
    · exact Int.le_refl _
    · exact Int.le_of_lt (hF.rise 0 k hp hk)
  unfold Inc.K at *
  generalize ks.getD k 0 = x at *
  generalize ks.getD 0 0 = y at *
  obtain ⟨d, hd⟩ := Int.eq_ofNat_of_zero_le (show 0 ≤ x - y by omega)
  refine ⟨hfl, by rw [IntKind.wrap_u64]; omega, fun w => ?_⟩
  rw [hd] at hfl ⊢
  clear hF
  unfold Inc.flo at *
  generalize F.least = s at *
  obtain ⟨s1', s2'⟩ := s
  simp only at *
  obtain ⟨num, rfl⟩ := Int.eq_ofNat_of_zero_le s1
  obtain ⟨den, rfl⟩ := Int.eq_ofNat_of_zero_le s3
  rw [← Int.natCast_mul, ← Int.natCast_ediv] at hfl ⊢
  refine (along_any num den d (by omega) (by omega) (by omega) w).mono ?_
  rintro ed w' ⟨rfl, hb⟩
  have h2 : num * d / den < 18446744073709551616 := by omega
  have h3 : num * d < 18446744073709551616 * den := by
    rw [Nat.div_lt_iff_lt_mul (by omega)] at h2
    exact h2
  have h4 : num * d / 18446744073709551616 < den := by
    rw [Nat.div_lt_iff_lt_mul (by decide)]
    omega
  rw [if_neg (by omega)]
  refine ⟨?_, hb⟩
  rw [decide_eq_true (by omega)]
end Go.Proofs.Ytdfkgkidaffcgaa
