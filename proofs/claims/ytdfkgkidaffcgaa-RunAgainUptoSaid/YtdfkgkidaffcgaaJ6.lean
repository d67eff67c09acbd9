/- Words on memory: slices that read as lists of cells, blocks that a call makes and fills. Walks: levels.firsts, keys.Of. What a segment guesses: a word's whole part; it rises with the key. Plain mathematics. Plain geometry of chains of points: convex chains, tangents found by halving, points that may be left out. -/
import Derived.Laws.OwnMore
import Derived.Maps.AppendAt
import Derived.Test.YtdfkgkidaffcgaaJ5
set_option linter.all false
namespace Go.Proofs.Ytdfkgkidaffcgaa
open Go.RowKit

/-- a slice of n elements of size cells each, that reads as these cells -/
def Row (w : World) (v : Value) (n size : Nat) (xs : List Value) : Prop :=
  xs.length = n * size ∧ ∃ A cap, v = .slice A n cap ∧ n ≤ cap ∧ cap ≤ maxLen ∧
    (0 < n → ∃ b off, A = some ⟨b, off, none⟩ ∧ b < w.heap.size ∧ ∀ i, i < xs.length → w.cell? ⟨b, off + i, none⟩ = some (xs.getD i undef))

theorem Row.mem {W w : World} {v : Value} {n size : Nat} {xs : List Value} (h : Row W v n size xs) (hs : W.heap.size ≤ w.heap.size) (hc : ∀ b o, b < W.heap.size → w.cell? ⟨b, o, none⟩ = W.cell? ⟨b, o, none⟩) : Row w v n size xs := by
  obtain ⟨hl, A, cap, rfl, h1, h2, h3⟩ := h
  refine ⟨hl, A, cap, rfl, h1, h2, fun hp => ?_⟩
  obtain ⟨b, off, rfl, hlt, hcell⟩ := h3 hp
  exact ⟨b, off, rfl, Nat.lt_of_lt_of_le hlt hs, fun i hi => (hc b _ hlt).trans (hcell i hi)⟩
theorem Row.below {W w : World} {v : Value} {n size : Nat} {xs : List Value} (h : Row W v n size xs) (hb : Below W.heap.size W w) : Row w v n size xs :=
  h.mem hb.size (below_cells hb)
theorem Row.alloc {w : World} {v : Value} {n size : Nat} {xs : List Value} (h : Row w v n size xs) (o : Obj) : Row (w.alloc o) v n size xs :=
  h.mem (by rw [World.size_alloc]; omega) (fun _ _ hb => World.cell?_alloc_past _ _ _ hb)
theorem Row.drew {w : World} {v : Value} {n size : Nat} {xs : List Value} (h : Row w v n size xs) : Row w.drew v n size xs := h
theorem Row.nil (w : World) (size : Nat) : Row w (.slice none 0 0) 0 size [] := ⟨by simp, none, 0, rfl, Nat.le_refl _, by unfold maxLen; omega, fun h => absurd h (Nat.lt_irrefl _)⟩

/-- a row of the call's own, read -/
theorem Row.own {w : World} {base T size n : Nat} {v : Value} {xs : List Value} (h : w.ownsRow base T size v n xs) : Row w v n size xs := by
  refine ⟨h.1, ?_⟩
  rcases h.2 with ⟨rfl, rfl⟩ | ⟨g, cap, cur, rfl, hb, hg, h1, h2, h3, h4⟩
  · exact ⟨none, 0, rfl, Nat.le_refl _, by unfold maxLen; omega, fun h => absurd h (Nat.lt_irrefl _)⟩
  · refine ⟨_, cap, rfl, h1, h2, fun _ => ⟨g, 0, rfl, (Array.getElem?_eq_some_iff.1 hg).1, fun i hi => ?_⟩⟩
    rw [Nat.zero_add, cell_of_row w g i cur T (0, 0) hg]
    have : xs[i]? = some (xs.getD i undef) := by rw [List.getElem?_eq_getElem hi, List.getD_eq_getElem?_getD, List.getElem?_eq_getElem hi]; rfl
    rw [← this, ← h4, List.getElem?_take]
    have hl := h.1
    rw [if_pos (by omega)]
    simp

/-- the head of a slice's memory, and its cells -/
theorem Row.cells {w : World} {v : Value} {n size : Nat} {xs : List Value} (h : Row w v n size xs) : ∃ A cap, v = .slice A n cap ∧ n ≤ cap ∧ cap ≤ maxLen ∧
    (0 < n → ∃ b off, A = some ⟨b, off, none⟩ ∧ b < w.heap.size ∧ ∀ i, i < xs.length → w.cell? ⟨b, off + i, none⟩ = some (xs.getD i undef)) := h.2

/-- a part of a slice -/
theorem Row.part {w : World} {A : Option Addr} {n cap size : Nat} {xs : List Value} (h : Row w (.slice A n cap) n size xs) (hs : 0 < size) {a b : Nat} (hab : a ≤ b) (hb : b ≤ n) :
    Row w (.slice (if cap = a then A else A.map (·.add (a * size))) (b - a) (cap - a)) (b - a) size ((xs.drop (a * size)).take ((b - a) * size)) := by
  obtain ⟨hl, A', cap', he, h1, h2, h3⟩ := h
  injection he with hA _ hc
  subst hA hc
  have hm : b * size ≤ n * size := Nat.mul_le_mul_right _ hb
  have hm2 : a * size + (b - a) * size = b * size := by rw [← Nat.add_mul]; congr 1; omega
  refine ⟨by rw [List.length_take, List.length_drop, hl]; omega, _, _, rfl, by omega, by omega, fun hp => ?_⟩
  obtain ⟨bl, off, rfl, hlt, hc⟩ := h3 (by omega)
  rw [if_neg (by omega)]
  refine ⟨bl, off + a * size, ?_, hlt, fun i hi => ?_⟩
  · simp only [Option.map_some]
    unfold Addr.add
    split <;> simp_all
  · rw [List.length_take, List.length_drop, hl] at hi
    rw [Nat.add_assoc, hc _ (by omega)]
    congr 1
    rw [List.getD_eq_getElem?_getD, List.getD_eq_getElem?_getD, List.getElem?_take, if_pos (by omega), List.getElem?_drop]

/-- a block of the call's own, known whole -/
def Blk (w : World) (g : Nat) (T : TypeId) (xs : List Value) : Prop := w.heap[g]? = some (.cells xs.toArray T (0, 0))

section
variable {w w' : World} {g : Nat} {T : TypeId} {xs : List Value}
theorem Blk.lt (h : Blk w g T xs) : g < w.heap.size := (Array.getElem?_eq_some_iff.1 h).1
theorem Blk.cell (h : Blk w g T xs) {i : Nat} (hi : i < xs.length) : w.cell? ⟨g, i, none⟩ = some (xs.getD i undef) := by
  rw [cell_of_row w g i _ T (0, 0) h]
  simp [List.getD_eq_getElem?_getD, hi]
theorem Blk.free (h : Blk w g T xs) (i : Nat) : w.frozen? ⟨g, i, none⟩ = false := by
  unfold Blk at h
  simp [World.frozen?, h]
theorem Blk.new (w : World) (T : TypeId) (xs : List Value) : Blk (w.alloc (.cells xs.toArray T)) w.heap.size T xs := heap_alloc_new w _
theorem Blk.keep (h : Blk w g T xs) (he : w'.heap[g]? = w.heap[g]?) : Blk w' g T xs := he.trans h
theorem Blk.below {B : Nat} (h : Blk w g T xs) (hb : Below B w w') (hg : g < B) : Blk w' g T xs := h.keep (hb.block g hg)
theorem Blk.drew (h : Blk w g T xs) : Blk w.drew g T xs := h
theorem Blk.alloc (h : Blk w g T xs) (o : Obj) : Blk (w.alloc o) g T xs := h.keep (Below.heap_alloc w o g h.lt)
theorem Blk.far (h : Blk w g T xs) {p : Addr} (hp : g ≠ p.block) (u : Value) : Blk (w.setCell p u) g T xs := h.keep (Below.heap_setCell w p u g hp)
theorem Blk.put (h : Blk w g T xs) (i : Nat) (u : Value) : Blk (w.setCell ⟨g, i, none⟩ u) g T (xs.set i u) := by
  unfold Blk at h ⊢
  rw [heap_setCell_same w g i _ T u h]
  simp
theorem Blk.row (h : Blk w g T xs) {n size : Nat} (hl : xs.length = n * size) (hn : n ≤ maxLen) : Row w (.slice (some ⟨g, 0, none⟩) n n) n size xs :=
  ⟨hl, _, n, rfl, Nat.le_refl _, hn, fun _ => ⟨g, 0, rfl, h.lt, fun i hi => by rw [Nat.zero_add]; exact h.cell hi⟩⟩
theorem Blk.owns (h : Blk w g T xs) {base n size : Nat} (hb : base ≤ g) (hl : xs.length = n * size) (hn : n ≤ maxLen) : w.ownsRow base T size (.slice (some ⟨g, 0, none⟩) n n) n xs :=
  ⟨hl, .inr ⟨g, n, _, rfl, hb, h, Nat.le_refl _, hn, by simpa using hl, by rw [← hl]; simp⟩⟩
end

/-- append of a slice that came in, nil or not, onto a row of the call's own -/
theorem run_append_row {P : Program} (w : World) (base : Nat) (t ty e : TypeId) (i : TypeInfo) (z : Value) (size bytes : Nat) (ht : P.underlying t = some (.slice e)) (hi : P.info? e = some i) (hz : i.zero = some z)
    (hsize : i.size = size) (hby : i.bytes = bytes) (hzs : z.cells.size = size) (hsz : 0 < size) (v : Value) (n : Nat) (xs : List Value) (hown : w.ownsRow base e size v n xs)
    (s : Value) (m : Nat) (news : List Value) (hr : Row w s m size news) (h1 : ∀ u ∈ news, u.oneCell' = true) (h63 : n + m ≤ maxLen) (hbytes : (n + m) * bytes ≤ 140737488355328) (hbase : base ≤ w.heap.size) :
    ∃ v' w', (Builtin.append_ #[t, t] ty #[v, s]).run P w = .ok v' w' ∧ w'.ownsRow base e size v' (n + m) (xs ++ news) ∧ w.grownBy w' v.ownBlock ∧ (v'.ownBlock = v.ownBlock ∨ v'.ownBlock = some w.heap.size) := by
  obtain ⟨hl, A, c, rfl, hc1, hc2, hc⟩ := hr
  cases A with
  | none =>
    obtain rfl : m = 0 := by
      rcases Nat.eq_zero_or_pos m with h | h
      · exact h
      · obtain ⟨b, off, hb, _⟩ := hc h; cases hb
    obtain rfl : news = [] := List.eq_nil_of_length_eq_zero (by simpa using hl)
    refine ⟨v, w, ?_, by simpa using hown, World.grownBy.refl w _, .inl rfl⟩
    rcases hown.2 with ⟨rfl, rfl⟩ | ⟨g, cap, cur, rfl, _, _, hnc, _⟩
    · simp [Builtin.append_, run_underlying ht, sizeOf, typeInfo, hi, Builtin.lenOf, Builtin.firstCells]
    · simp [Builtin.append_, run_underlying ht, sizeOf, typeInfo, hi, Builtin.lenOf, Builtin.firstCells, hnc, storeCells]
  | some ad =>
    have hcells : ∀ j u, news[j]? = some u → w.cell? (ad.add j) = some u := by
      intro j u hu
      have hj : j < news.length := (List.getElem?_eq_some_iff.1 hu).1
      have hm : 0 < m := by
        rcases Nat.eq_zero_or_pos m with h | h
        · subst h; simp at hl; subst hl; simp at hj
        · exact h
      obtain ⟨b, off, hb, _, hcell⟩ := hc hm
      injection hb with hb
      subst hb
      have hadd : (⟨b, off, none⟩ : Addr).add j = ⟨b, off + j, none⟩ := by unfold Addr.add; split <;> simp_all
      rw [hadd, hcell j hj, List.getD_eq_getElem?_getD, hu]
      rfl
    obtain ⟨v', w', hrun, h2, h3, _, h5⟩ := run_append_own_at (P := P) w base t ty e i z size bytes ht hi hz hsize hby hzs hsz v n xs hown ad m c news hl hcells h1 h63 hbytes hbase
    exact ⟨v', w', hrun, h2, h3, h5⟩

theorem wp_append_row {P : Program} (w : World) {o : Oper} {a : Act} {K : Act → World → Prop} {Q : Exit → Act → World → Prop} (d x : Operand) (t : TypeId)
    (ho : o.op = .call { callee := .builtin .append, args := #[d, x], argTypes := #[t, t] })
    (base : Nat) (e : TypeId) (i : TypeInfo) (z : Value) (size bytes : Nat) (ht : P.underlying t = some (.slice e)) (hi : P.info? e = some i) (hz : i.zero = some z)
    (hsize : i.size = size) (hby : i.bytes = bytes) (hzs : z.cells.size = size) (hsz : 0 < size) (v : Value) (n : Nat) (xs : List Value) (hd : a.eval d = v) (hown : w.ownsRow base e size v n xs)
    (s : Value) (m : Nat) (news : List Value) (hx : a.eval x = s) (hr : Row w s m size news) (h1 : ∀ u ∈ news, u.oneCell' = true) (h63 : n + m ≤ maxLen) (hbytes : (n + m) * bytes ≤ 140737488355328) (hbase : base ≤ w.heap.size)
    (h : ∀ v' w', w'.ownsRow base e size v' (n + m) (xs ++ news) → w.grownBy w' v.ownBlock → (v'.ownBlock = v.ownBlock ∨ v'.ownBlock = some w.heap.size) → K (a.put o.dst v') w') : o.wp P a w K Q := by
  obtain ⟨v', w', hrun, h2, h3, h4⟩ := run_append_row (P := P) w base t o.type e i z size bytes ht hi hz hsize hby hzs hsz v n xs hown s m news hr h1 h63 hbytes hbase
  unfold Oper.wp execOp
  simp only [ho, resolve, invoke, builtin, Sem.run_bind, Sem.run_pure, Result.andThen_ok, List.map_toArray, List.map_cons, List.map_nil, hd, hx, hrun]
  exact h v' w' h2 h3 h4

theorem wpList_append_row {P : Program} (w : World) {ops : Array Oper} {rest : List Oper} {o : Oper} {a : Act} {Q : Exit → Act → World → Prop} (hgd : o.guard = none) (d x : Operand) (t : TypeId)
    (ho : o.op = .call { callee := .builtin .append, args := #[d, x], argTypes := #[t, t] })
    (base : Nat) (e : TypeId) (i : TypeInfo) (z : Value) (size bytes : Nat) (ht : P.underlying t = some (.slice e)) (hi : P.info? e = some i) (hz : i.zero = some z)
    (hsize : i.size = size) (hby : i.bytes = bytes) (hzs : z.cells.size = size) (hsz : 0 < size) (v : Value) (n : Nat) (xs : List Value) (hd : a.eval d = v) (hown : w.ownsRow base e size v n xs)
    (s : Value) (m : Nat) (news : List Value) (hx : a.eval x = s) (hr : Row w s m size news) (h1 : ∀ u ∈ news, u.oneCell' = true) (h63 : n + m ≤ maxLen) (hbytes : (n + m) * bytes ≤ 140737488355328) (hbase : base ≤ w.heap.size)
    (h : ∀ v' w', w'.ownsRow base e size v' (n + m) (xs ++ news) → w.grownBy w' v.ownBlock → (v'.ownBlock = v.ownBlock ∨ v'.ownBlock = some w.heap.size) → wpList P ops Q rest (a.put o.dst v') w') : wpList P ops Q (o :: rest) a w :=
  wpList_plain hgd fun _ hK => wp_append_row w d x t ho base e i z size bytes ht hi hz hsize hby hzs hsz v n xs hd hown s m news hx hr h1 h63 hbytes hbase fun v' w' h2 h3 h4 => hK _ _ (h v' w' h2 h3 h4)

/-- a make of n elements, as an equation -/
theorem make_eq {P : Program} (t e : TypeId) (i : TypeInfo) (z : Value) (size bytes : Nat) (ht : P.underlying t = some (.slice e)) (hi : P.info? e = some i) (hz : i.zero = some z) (hsize : i.size = size) (hby : i.bytes = bytes)
    (n : Nat) (hbytes : bytes * n ≤ 281474976710656) (h63 : n ≤ 9223372036854775807) (w : World) :
    (Instr.makeSlice t (.int .i64 (n : Int)) (.int .i64 (n : Int))).run P w = .ok (.slice (some ⟨w.heap.size, 0, none⟩) n n) (w.alloc (.cells (madeCells z.cells (n * size)) e)) := by
  subst hsize hby
  have h := run_make (P := P) w t e i z ht hi hz .i64 .i64 n n (by omega) (Int.le_refl _) (by rw [← Int.natCast_mul]; omega) (by omega)
  simpa using h

/-! Keys, entries, segments, levels -/
theorem Row.keys {w : World} {v : Value} {ks : List Int} (h : Row w v ks.length 1 (ks.map (Value.int .u64))) : URow w v ks := by
  obtain ⟨_, A, cap, rfl, _, _, hc⟩ := h
  refine ⟨A, cap, rfl, fun hp => ?_⟩
  obtain ⟨b, off, hA, hb, hcell⟩ := hc hp
  refine ⟨b, off, hA, hb, fun i hi => ?_⟩
  rw [hcell i (by simpa using hi)]
  simp [List.getD_eq_getElem?_getD, hi]

abbrev KRow (w : World) (v : Value) (ks : List Int) : Prop := Row w v ks.length 1 (ks.map (Value.int .u64))
end Go.Proofs.Ytdfkgkidaffcgaa
namespace Inc
structure Ent where
  key : Int
  val : Int
  gone : Bool
end Inc
namespace Go.Proofs.Ytdfkgkidaffcgaa
open Go.RowKit
def segCells (s : Inc.Seg) : List Value := [.int .u64 s.first, .float .f64 s.slope, .float .f64 s.icpt, .int .i64 s.from_, .int .i64 s.till]
def entCells (e : Inc.Ent) : List Value := [.int .u64 e.key, .int .u64 e.val, .bool e.gone]
def segVals (ss : List Inc.Seg) : List Value := ss.flatMap segCells
def entVals (es : List Inc.Ent) : List Value := es.flatMap entCells
abbrev SRow (w : World) (v : Value) (ss : List Inc.Seg) : Prop := Row w v ss.length 5 (segVals ss)
abbrev ERow (w : World) (v : Value) (es : List Inc.Ent) : Prop := Row w v es.length 3 (entVals es)

theorem flat_len {α : Type} (f : α → List Value) (k : Nat) (hf : ∀ a, (f a).length = k) (l : List α) : (l.flatMap f).length = l.length * k := by
  induction l with
  | nil => simp
  | cons a t ih => simp only [List.flatMap_cons, List.length_append, ih, hf, List.length_cons, Nat.add_mul]; omega
theorem flat_get {α : Type} (f : α → List Value) (k : Nat) (hf : ∀ a, (f a).length = k) : ∀ (l : List α) (i : Nat) (a : α), l[i]? = some a → ∀ j, j < k → (l.flatMap f).getD (i * k + j) undef = (f a).getD j undef := by
  intro l
  induction l with
  | nil => intro i a h; simp at h
  | cons b t ih =>
    intro i a h j hj
    have hb := hf b
    cases i with
    | zero =>
      simp only [List.getElem?_cons_zero, Option.some.injEq] at h
      subst h
      rw [List.flatMap_cons, List.getD_eq_getElem?_getD, List.getD_eq_getElem?_getD, Nat.zero_mul, Nat.zero_add, List.getElem?_append_left (by omega)]
    | succ i =>
      simp only [List.getElem?_cons_succ] at h
      rw [List.flatMap_cons, List.getD_eq_getElem?_getD, List.getElem?_append_right (by rw [hb, Nat.add_mul]; omega), hb, ← ih i a h j hj, List.getD_eq_getElem?_getD]
      congr 2
      rw [Nat.add_mul]; omega
theorem segVals_len (ss : List Inc.Seg) : (segVals ss).length = ss.length * 5 := flat_len segCells 5 (fun _ => rfl) ss
theorem entVals_len (es : List Inc.Ent) : (entVals es).length = es.length * 3 := flat_len entCells 3 (fun _ => rfl) es
theorem segVals_get {ss : List Inc.Seg} {i : Nat} {s : Inc.Seg} (h : ss[i]? = some s) {j : Nat} (hj : j < 5) : (segVals ss).getD (i * 5 + j) undef = (segCells s).getD j undef := flat_get segCells 5 (fun _ => rfl) ss i s h j hj
theorem entVals_get {es : List Inc.Ent} {i : Nat} {e : Inc.Ent} (h : es[i]? = some e) {j : Nat} (hj : j < 3) : (entVals es).getD (i * 3 + j) undef = (entCells e).getD j undef := flat_get entCells 3 (fun _ => rfl) es i e h j hj

/-- the cells of a segment in a slice of segments -/
theorem SRow.at_ {w : World} {v : Value} {ss : List Inc.Seg} (h : SRow w v ss) {i : Nat} {s : Inc.Seg} (hs : ss[i]? = some s) : ∃ b off cap, v = .slice (some ⟨b, off, none⟩) ss.length cap ∧ b < w.heap.size ∧
    w.cell? ⟨b, off + i * 5, none⟩ = some (.int .u64 s.first) ∧ w.cell? ⟨b, off + i * 5 + 1, none⟩ = some (.float .f64 s.slope) ∧ w.cell? ⟨b, off + i * 5 + 2, none⟩ = some (.float .f64 s.icpt) ∧
    w.cell? ⟨b, off + i * 5 + 3, none⟩ = some (.int .i64 s.from_) ∧ w.cell? ⟨b, off + i * 5 + 4, none⟩ = some (.int .i64 s.till) := by
  obtain ⟨_, A, cap, rfl, _, _, hc⟩ := h
  have hi : i < ss.length := (List.getElem?_eq_some_iff.1 hs).1
  obtain ⟨b, off, rfl, hb, hcell⟩ := hc (by omega)
  have key : ∀ j, j < 5 → w.cell? ⟨b, off + i * 5 + j, none⟩ = some ((segCells s).getD j undef) := fun j hj => by
    rw [Nat.add_assoc, hcell _ (by rw [segVals_len]; omega), segVals_get hs hj]
  exact ⟨b, off, cap, rfl, hb, key 0 (by omega), key 1 (by omega), key 2 (by omega), key 3 (by omega), key 4 (by omega)⟩

theorem ERow.at_ {w : World} {v : Value} {es : List Inc.Ent} (h : ERow w v es) {i : Nat} {e : Inc.Ent} (he : es[i]? = some e) : ∃ b off cap, v = .slice (some ⟨b, off, none⟩) es.length cap ∧ b < w.heap.size ∧
    w.cell? ⟨b, off + i * 3, none⟩ = some (.int .u64 e.key) ∧ w.cell? ⟨b, off + i * 3 + 1, none⟩ = some (.int .u64 e.val) ∧ w.cell? ⟨b, off + i * 3 + 2, none⟩ = some (.bool e.gone) := by
  obtain ⟨_, A, cap, rfl, _, _, hc⟩ := h
  have hi : i < es.length := (List.getElem?_eq_some_iff.1 he).1
  obtain ⟨b, off, rfl, hb, hcell⟩ := hc (by omega)
  have key : ∀ j, j < 3 → w.cell? ⟨b, off + i * 3 + j, none⟩ = some ((entCells e).getD j undef) := fun j hj => by
    rw [Nat.add_assoc, hcell _ (by rw [entVals_len]; omega), entVals_get he hj]
  exact ⟨b, off, cap, rfl, hb, key 0 (by omega), key 1 (by omega), key 2 (by omega)⟩

/-- a slice of slices of segments -/
def LRow (w : World) (v : Value) (ls : List (List Inc.Seg)) : Prop :=
  ∃ vs : List Value, vs.length = ls.length ∧ Row w v ls.length 1 vs ∧ ∀ (i : Nat) (s : List Inc.Seg), ls[i]? = some s → SRow w (vs.getD i undef) s

theorem LRow.below {W w : World} {v : Value} {ls : List (List Inc.Seg)} (h : LRow W v ls) (hb : Below W.heap.size W w) : LRow w v ls := by
  obtain ⟨vs, h1, h2, h3⟩ := h
  exact ⟨vs, h1, h2.below hb, fun i s hs => (h3 i s hs).below hb⟩
end Go.Proofs.Ytdfkgkidaffcgaa
namespace Go.Proofs.Ytdfkgkidaffcgaa
open Go.RowKit

theorem info_u64 : (Try.prog.info? 23).map (fun i => (i.zero, i.size, i.bytes)) = some (some (.int .u64 0), 1, 8) := by kernel_rfl

theorem madeCells_list (z : Value) (n : Nat) : madeCells #[z] n = (List.replicate n z).toArray := by
  apply Array.ext'
  rw [toList_madeCells_one]

theorem make_u64 (n : Nat) (hn : n ≤ 4294967296) (w : World) : (Instr.makeSlice 57 (.int .i64 (n : Int)) (.int .i64 (n : Int))).run Try.prog w = .ok (.slice (some ⟨w.heap.size, 0, none⟩) n n) (w.alloc (.cells (List.replicate n (Value.int .u64 0)).toArray 23)) := by
  obtain ⟨i0, hi, hz, h1, h2⟩ := info_parts info_u64
  have := make_eq (P := Try.prog) 57 23 i0 (.int .u64 0) 1 8 Try.underlying57 hi hz h1 h2 n (by omega) (by omega) w
  rw [Nat.mul_one, show (Value.int .u64 0).cells = #[Value.int .u64 0] from rfl, madeCells_list] at this
  exact this

/-- the keys filled in so far, zeros behind them -/
def filled (ks : List Int) (k : Nat) : List Value := (ks.take k).map (Value.int .u64) ++ List.replicate (ks.length - k) (.int .u64 0)
theorem filled_len (ks : List Int) {k : Nat} (h : k ≤ ks.length) : (filled ks k).length = ks.length := by simp [filled]; omega
theorem filled_all (ks : List Int) : filled ks ks.length = ks.map (Value.int .u64) := by simp [filled]
theorem filled_none (ks : List Int) : filled ks 0 = List.replicate ks.length (.int .u64 0) := by simp [filled]
theorem filled_step (ks : List Int) {k : Nat} (h : k < ks.length) : (filled ks k).set k (.int .u64 (ks.getD k 0)) = filled ks (k + 1) := by
  apply List.ext_getElem?
  intro j
  rw [List.getElem?_set]
  unfold filled
  have hl : ((ks.take k).map (Value.int .u64)).length = k := by simp; omega
  have hl2 : ((ks.take (k + 1)).map (Value.int .u64)).length = k + 1 := by simp; omega
  have hlen : ((ks.take k).map (Value.int .u64) ++ List.replicate (ks.length - k) (Value.int .u64 0)).length = ks.length := by simp; omega
  rw [hlen]
  rcases Nat.lt_trichotomy j k with hj | rfl | hj
  · rw [if_neg (by omega), List.getElem?_append_left (by omega), List.getElem?_append_left (by omega)]
    simp [hj, Nat.lt_succ_of_lt hj]
  · rw [if_pos rfl, if_pos h, List.getElem?_append_left (by omega)]
    simp [List.getD_eq_getElem?_getD, h]
  · rw [if_neg (by omega), List.getElem?_append_right (by omega), List.getElem?_append_right (by omega), hl, hl2]
    simp only [List.getElem?_replicate]
    rcases Nat.lt_or_ge j ks.length with hj2 | hj2
    · rw [if_pos (by omega), if_pos (by omega)]
    · rw [if_neg (by omega), if_neg (by omega)]

set_option maxRecDepth 100000 in
set_option maxHeartbeats 1600000 in
theorem firsts_any (ss : List Inc.Seg) (hn : ss.length ≤ 4294967296) (v : Value) (w : World) (h : SRow w v ss) :
    Calls Try.prog 37 #[v] w fun e w' => ∃ u, e = .returned u ∧ KRow w' u (ss.map (·.first)) ∧ Below w.heap.size w w' := by
  have hmk := make_u64 ss.length hn
  have HR := Lib.hid h
  obtain ⟨hxl, A, cap, rfl, hca, _, _⟩ := h
  clear hxl hca
  go_enter Try.func37, Try.ntmps37
  go_wp2_with fail
  have hb0 : Blk (w.alloc (.cells (List.replicate ss.length (Value.int .u64 0)).toArray 23)) w.heap.size 23 (filled (ss.map (·.first)) 0) := by
    rw [filled_none, List.length_map]; exact Blk.new _ _ _
  have HB0 := Lib.hid hb0
  clear hb0
  go_loopw [11] (fun x wr => ∃ k : Nat, k ≤ ss.length ∧ x = .int .i64 k ∧ Blk wr w.heap.size 23 (filled (ss.map (·.first)) k) ∧ Below w.heap.size w wr) (fun x _ => ss.length - (intOf x).toNat)
  case atStart => exact ⟨0, by omega, rfl, HB0.out, by (repeat (first | exact Below.refl _ _ | refine bl_alloc ?_ _ | refine bl_drew ?_ | (refine bl_set ?_ (by simp <;> omega) _) | refine bl_then ?_ (by assumption) | refine bl_cls ?_ (by assumption)))⟩
  case round =>
    clear HB0
    obtain ⟨k, hk, rfl, hblk, hbel⟩ := hrel
    by_cases hlt : k < ss.length
    · obtain ⟨s, hs⟩ : ∃ s, ss[k]? = some s := ⟨_, List.getElem?_eq_getElem hlt⟩
      obtain ⟨b, off, cap', he, hb, c0, c1, c2, c3, c4⟩ := SRow.at_ (Row.below HR.out hbel) hs
      injection he with he _ _
      subst he
      have q0 := hblk.cell (i := k) (by rw [filled_len _ (by simpa using hk)]; simpa using hlt)
      have q1 := hblk.free k
      have hz := hblk.lt
      have e3 : IntKind.i64.wrap ((k : Int) + 1) = ((k + 1 : Nat) : Int) := by rw [IntKind.wrap_i64]; omega
      have hst := filled_step (ss.map (·.first)) (k := k) (by simpa using hlt)
      rw [show (ss.map (·.first)).getD k 0 = s.first by simp [List.getD_eq_getElem?_getD, hs]] at hst
      have HST := Lib.hid hst
      clear hst
      generalize (filled (ss.map (·.first)) k).getD k undef = old at *
      have HBLK := Lib.hid hblk
      have HBEL := Lib.hid hbel
      clear hblk hbel hs
      go_wp2_with fail
      exact ⟨⟨k + 1, by omega, by go_num, by rw [← HST.out]; exact (HBLK.out.put k _).alloc _, bl_alloc (bl_set HBEL.out (Nat.le_refl _) _) _⟩, by simp [intOf]; omega⟩
    · obtain rfl : k = ss.length := by omega
      go_wp2_with fail
      go_ret
      rw [show ss.length = (ss.map (·.first)).length by simp, filled_all] at hblk
      refine ⟨_, rfl, ?_, hbel⟩
      have := hblk.row (n := ss.length) (size := 1) (by simp) (by unfold maxLen; omega)
      unfold KRow
      rw [List.length_map]
      exact this

set_option maxRecDepth 100000 in
set_option maxHeartbeats 1600000 in
theorem keysOf_any (es : List Inc.Ent) (hn : es.length ≤ 4294967296) (v : Value) (w : World) (h : ERow w v es) :
    Calls Try.prog 25 #[v] w fun e w' => ∃ u, e = .returned u ∧ KRow w' u (es.map (·.key)) ∧ Below w.heap.size w w' := by
  have hmk := make_u64 es.length hn
  have HR := Lib.hid h
  obtain ⟨hxl, A, cap, rfl, hca, _, _⟩ := h
  clear hxl hca
  go_enter Try.func25, Try.ntmps25
  go_wp2_with fail
  have hb0 : Blk (w.alloc (.cells (List.replicate es.length (Value.int .u64 0)).toArray 23)) w.heap.size 23 (filled (es.map (·.key)) 0) := by
    rw [filled_none, List.length_map]; exact Blk.new _ _ _
  have HB0 := Lib.hid hb0
  clear hb0
  go_loopw [11] (fun x wr => ∃ k : Nat, k ≤ es.length ∧ x = .int .i64 k ∧ Blk wr w.heap.size 23 (filled (es.map (·.key)) k) ∧ Below w.heap.size w wr) (fun x _ => es.length - (intOf x).toNat)
  case atStart => exact ⟨0, by omega, rfl, HB0.out, by (repeat (first | exact Below.refl _ _ | refine bl_alloc ?_ _ | refine bl_drew ?_ | (refine bl_set ?_ (by simp <;> omega) _) | refine bl_then ?_ (by assumption) | refine bl_cls ?_ (by assumption)))⟩
  case round =>
    clear HB0
    obtain ⟨k, hk, rfl, hblk, hbel⟩ := hrel
    by_cases hlt : k < es.length
    · obtain ⟨s, hs⟩ : ∃ s, es[k]? = some s := ⟨_, List.getElem?_eq_getElem hlt⟩
      obtain ⟨b, off, cap', he, hb, c0, c1, c2⟩ := ERow.at_ (Row.below HR.out hbel) hs
      injection he with he _ _
      subst he
      have q0 := hblk.cell (i := k) (by rw [filled_len _ (by simpa using hk)]; simpa using hlt)
      have q1 := hblk.free k
      have hz := hblk.lt
      have e3 : IntKind.i64.wrap ((k : Int) + 1) = ((k + 1 : Nat) : Int) := by rw [IntKind.wrap_i64]; omega
      have hst := filled_step (es.map (·.key)) (k := k) (by simpa using hlt)
      rw [show (es.map (·.key)).getD k 0 = s.key by simp [List.getD_eq_getElem?_getD, hs]] at hst
      have HST := Lib.hid hst
      clear hst
      generalize (filled (es.map (·.key)) k).getD k undef = old at *
      have HBLK := Lib.hid hblk
      have HBEL := Lib.hid hbel
      clear hblk hbel hs
      go_wp2_with fail
      exact ⟨⟨k + 1, by omega, by go_num, by rw [← HST.out]; exact (HBLK.out.put k _).alloc _, bl_alloc (bl_set HBEL.out (Nat.le_refl _) _) _⟩, by simp [intOf]; omega⟩
    · obtain rfl : k = es.length := by omega
      go_wp2_with fail
      go_ret
      rw [show es.length = (es.map (·.key)).length by simp, filled_all] at hblk
      refine ⟨_, rfl, ?_, hbel⟩
      have := hblk.row (n := es.length) (size := 1) (by simp) (by unfold maxLen; omega)
      unfold KRow
      rw [List.length_map]
      exact this
end Go.Proofs.Ytdfkgkidaffcgaa
section
set_option exponentiation.threshold 4000
namespace Inc
open Ieee

/-- slope * far + base, as floats reckon it -/
def alongW (s : Nat) (d : Int) (b : Nat) : Nat :=
  wr (sumNeg (wr (negW s ^^ negW (ofI d)) (mag (rungOfW s) * mag (rungOfW (ofI d)))) b) ((sval (wr (negW s ^^ negW (ofI d)) (mag (rungOfW s) * mag (rungOfW (ofI d)))) + sval b).natAbs * U)

/-- its whole part -/
def whole (s : Nat) (d : Int) (b : Nat) : Int := sval (alongW s d b) / (U : Int)

theorem rungOf_pow_eq {k : Nat} (hk : 1126 ≤ k) : mag (rungOf (2 ^ k)) * U = 2 ^ k := by
  rw [U_eq]
  refine rung_exact (d := k - 52) (by omega) (Nat.pow_lt_pow_right (by omega) (by omega)) ?_
  exact Nat.pow_dvd_pow 2 (by omega)

theorem ofI_neg {d : Int} (h : 0 ≤ d) : negW (ofI d) = false := by
  rw [ofI_eq, wr_neg]; simp; omega

theorem ofI_rung {d : Int} (h : 0 ≤ d) (h' : d ≤ 2 ^ 64) : rungOfW (ofI d) = rungOf (d.toNat * (U * U)) ∧ rungOf (d.toNat * (U * U)) < infR := by
  have h1 : rungOf (d.toNat * (U * U)) < infR := by
    refine rungOf_fin ?_
    rw [UU]
    calc d.toNat * 2 ^ 2148 ≤ 2 ^ 64 * 2 ^ 2148 := Nat.mul_le_mul_right _ (by omega)
      _ = 2 ^ 2212 := by rw [← Nat.pow_add]
      _ ≤ 2 ^ 3171 := Nat.pow_le_pow_right (by omega) (by omega)
  refine ⟨?_, h1⟩
  rw [ofI_eq, wr_rung, show d.natAbs = d.toNat by omega]
  omega

theorem ofI_fin {d : Int} (h : 0 ≤ d) (h' : d ≤ 2 ^ 64) : Fin (ofI d) := by
  obtain ⟨h1, h2⟩ := ofI_rung h h'
  unfold Fin; omega

theorem ofI_mono {c d : Int} (h0 : 0 ≤ c) (h : c ≤ d) (h' : d ≤ 2 ^ 64) : mag (rungOfW (ofI c)) ≤ mag (rungOfW (ofI d)) := by
  rw [(ofI_rung h0 (by omega)).1, (ofI_rung (by omega) h').1]
  exact mag_mono (rungOf_mono (Nat.mul_le_mul_right _ (by omega)))

theorem mag_cap {n k c : Nat} (hk : 1126 ≤ k) (h : n ≤ 2 ^ k) (e : 2 ^ k = c * U * U) : mag (rungOf n) ≤ c * U := by
  have h1 := Nat.mul_le_mul_right U (mag_mono (rungOf_mono h))
  rw [rungOf_pow_eq hk, e] at h1
  exact Nat.le_of_mul_le_mul_right h1 U_pos

theorem two_UU (j k : Nat) (h : k = j + 2148) : 2 ^ k = 2 ^ j * U * U := by
  rw [Nat.mul_assoc, UU, ← Nat.pow_add, h]

theorem ofI_top {d : Int} (h : 0 ≤ d) (h' : d ≤ 2 ^ 64) : mag (rungOfW (ofI d)) ≤ 2 ^ 64 * U := by
  rw [(ofI_rung h h').1]
  refine mag_cap (k := 2212) (by omega) ?_ (two_UU _ _ rfl)
  rw [two_UU 64 2212 rfl, Nat.mul_assoc]
  exact Nat.mul_le_mul_right _ (by omega)

/-- a slope that may be: at most 2 -/
def SlOK (s : Nat) : Prop := s ≤ 4611686018427387904
theorem SlOK.rung {s : Nat} (h : SlOK s) : rungOfW s = s ∧ negW s = false := by
  unfold SlOK at h
  constructor
  · unfold rungOfW; omega
  · unfold negW; simp; omega
theorem mag_two : mag 4611686018427387904 = 2 * U := by rw [U_eq]; decide +kernel
theorem SlOK.mag {s : Nat} (h : SlOK s) : mag (rungOfW s) ≤ 2 * U := by
  rw [h.rung.1, ← mag_two]; exact mag_mono h
theorem SlOK.fin {s : Nat} (h : SlOK s) : Fin s := by
  unfold Fin; rw [h.rung.1]; unfold SlOK at h; unfold infR; omega

/-- the product -/
def prodW (s : Nat) (d : Int) : Nat := wr (negW s ^^ negW (ofI d)) (mag (rungOfW s) * mag (rungOfW (ofI d)))

theorem prod_le {s : Nat} {d : Int} (hs : SlOK s) (h : 0 ≤ d) (h' : d ≤ 2 ^ 64) : mag (rungOfW s) * mag (rungOfW (ofI d)) ≤ 2 ^ 2213 := by
  calc mag (rungOfW s) * mag (rungOfW (ofI d)) ≤ (2 * U) * (2 ^ 64 * U) := Nat.mul_le_mul hs.mag (ofI_top h h')
    _ = 2 ^ 65 * (U * U) := by rw [show (2 : Nat) ^ 65 = 2 * 2 ^ 64 from rfl]; simp only [Nat.mul_assoc, Nat.mul_left_comm]
    _ = 2 ^ 2213 := by rw [UU, ← Nat.pow_add]

theorem prod_rung {s : Nat} {d : Int} (hs : SlOK s) (h : 0 ≤ d) (h' : d ≤ 2 ^ 64) : rungOfW (prodW s d) = rungOf (mag (rungOfW s) * mag (rungOfW (ofI d))) ∧ negW (prodW s d) = false ∧ Fin (prodW s d) := by
  have h1 : rungOf (mag (rungOfW s) * mag (rungOfW (ofI d))) < infR := rungOf_fin (Nat.le_trans (prod_le hs h h') (Nat.pow_le_pow_right (by omega) (by omega)))
  unfold prodW Fin
  rw [wr_rung, wr_neg, hs.rung.2, ofI_neg h]
  refine ⟨by omega, rfl, by omega⟩

theorem prod_sval {s : Nat} {d : Int} (hs : SlOK s) (h : 0 ≤ d) (h' : d ≤ 2 ^ 64) : sval (prodW s d) = (mag (rungOf (mag (rungOfW s) * mag (rungOfW (ofI d)))) : Int) := by
  obtain ⟨h1, h2, _⟩ := prod_rung hs h h'
  unfold sval
  rw [h1, h2]; rfl

theorem prod_top {s : Nat} {d : Int} (hs : SlOK s) (h : 0 ≤ d) (h' : d ≤ 2 ^ 64) : mag (rungOf (mag (rungOfW s) * mag (rungOfW (ofI d)))) ≤ 2 ^ 65 * U :=
  mag_cap (by omega) (prod_le hs h h') (two_UU _ _ rfl)

theorem mag_fin {x : Nat} (h : Fin x) : mag (rungOfW x) ≤ mag (infR - 1) := mag_mono (by unfold Fin at h; omega)
theorem mag_last : mag (infR - 1) = (2 ^ 53 - 1) * 2 ^ 2045 := by unfold infR; decide +kernel

theorem rung_last : rungOf (((2 ^ 53 - 1) * 2 ^ 2045 + 2 ^ 65 * 2 ^ 1074) * 2 ^ 1074) < infR := by unfold infR; decide +kernel

theorem sval_abs (x : Nat) : (sval x).natAbs = mag (rungOfW x) := by unfold sval; split <;> omega

theorem sum_fin {s b : Nat} {d : Int} (hs : SlOK s) (h : 0 ≤ d) (h' : d ≤ 2 ^ 64) (hb : Fin b) : rungOf ((sval (prodW s d) + sval b).natAbs * U) < infR := by
  have h1 := prod_top hs h h'
  have h2 := mag_fin hb
  rw [mag_last] at h2
  have h3 := sval_abs b
  have h4 := prod_sval hs h h'
  refine Nat.lt_of_le_of_lt (rungOf_mono ?_) rung_last
  rw [U_eq] at h1 ⊢
  refine Nat.mul_le_mul_right _ ?_
  omega

theorem along_fin {s b : Nat} {d : Int} (hs : SlOK s) (h : 0 ≤ d) (h' : d ≤ 2 ^ 64) (hb : Fin b) : Fin (alongW s d b) := by
  have := sum_fin hs h h' hb
  unfold prodW at this
  unfold alongW Fin
  rw [wr_rung]; omega

theorem along_bits {s b : Nat} {d : Int} (hs : SlOK s) (h : 0 ≤ d) (h' : d ≤ 2 ^ 64) (hb : Fin b) :
    double.mul s (ofI d) = some (prodW s d) ∧ double.add (prodW s d) b = some (alongW s d b) :=
  ⟨mul_fin hs.fin (ofI_fin h h'), add_fin (prod_rung hs h h').2.2 hb⟩

theorem whole_mono {s b : Nat} {c d : Int} (hs : SlOK s) (h : 0 ≤ c) (hcd : c ≤ d) (h' : d ≤ 2 ^ 64) : whole s c b ≤ whole s d b := by
  unfold whole
  refine Int.ediv_le_ediv (by have := U_pos; omega) ?_
  refine add_mono ?_
  show sval (prodW s c) ≤ sval (prodW s d)
  rw [prod_sval hs h (by omega), prod_sval hs (by omega) h']
  have := mag_mono (rungOf_mono (Nat.mul_le_mul_left (mag (rungOfW s)) (ofI_mono h hcd h')))
  omega
end Inc
end
set_option autoImplicit false
namespace Inc

structure Pt where
  x : Int
  y : Int
deriving DecidableEq, Inhabited

def icmp (a b : Int) : Int := if a < b then -1 else if a = b then 0 else 1
theorem icmp_nonneg {a b : Int} : 0 ≤ icmp a b ↔ b ≤ a := by unfold icmp; split <;> (try split) <;> omega
theorem icmp_neg (a b : Int) : icmp (-a) (-b) = - icmp a b := by unfold icmp; split <;> split <;> (try split) <;> (try split) <;> omega

def turnS (p q r : Pt) : Int := icmp ((q.y - p.y) * (r.x - p.x)) ((r.y - p.y) * (q.x - p.x))
def steepS (p q r : Pt) : Int := icmp ((r.y - p.y) * (r.x - q.x)) ((r.y - q.y) * (r.x - p.x))

/-- slope from a to r is at most that from b to r (both left of r) -/
def SlLe (a b r : Pt) : Prop := (r.y - a.y) * (r.x - b.x) ≤ (r.y - b.y) * (r.x - a.x)

theorem SlLe.refl (a r : Pt) : SlLe a a r := Int.le_refl _
theorem SlLe.trans {a b c r : Pt} (ha : a.x < r.x) (hb : b.x < r.x) (hc : c.x < r.x) (h1 : SlLe a b r) (h2 : SlLe b c r) : SlLe a c r := by
  unfold SlLe at *
  have hA : 0 < r.x - a.x := by omega
  have hB : 0 < r.x - b.x := by omega
  have hC : 0 < r.x - c.x := by omega
  generalize r.x - a.x = A at *
  generalize r.x - b.x = B at *
  generalize r.x - c.x = C at *
  have h1' := Int.mul_le_mul_of_nonneg_right h1 (Int.le_of_lt hC)
  have h2' := Int.mul_le_mul_of_nonneg_right h2 (Int.le_of_lt hA)
  apply Int.le_of_mul_le_mul_right (a := B) _ hB
  grind
theorem SlLe.total (a b r : Pt) : SlLe a b r ∨ SlLe b a r := by unfold SlLe; omega

/-- A point on or above the segment from a to p is no better than one of the two, for whatever lies behind p. -/
theorem pop_ok {a b p r : Pt} (hab : a.x < b.x) (hbp : b.x < p.x) (hpr : p.x < r.x) (ht : 0 ≤ turnS a b p) : SlLe b a r ∨ SlLe b p r := by
  unfold turnS at ht
  rw [icmp_nonneg] at ht
  unfold SlLe
  by_cases h1 : (r.y - b.y) * (r.x - a.x) ≤ (r.y - a.y) * (r.x - b.x)
  · exact .inl h1
  · refine .inr ?_
    by_cases h2 : (r.y - b.y) * (r.x - p.x) ≤ (r.y - p.y) * (r.x - b.x)
    · exact h2
    · exfalso
      obtain ⟨A, hA⟩ : ∃ A, A = r.x - a.x := ⟨_, rfl⟩
      obtain ⟨B, hB⟩ : ∃ B, B = r.x - b.x := ⟨_, rfl⟩
      obtain ⟨P, hP⟩ : ∃ P, P = r.x - p.x := ⟨_, rfl⟩
      obtain ⟨u, hu⟩ : ∃ u, u = r.y - a.y := ⟨_, rfl⟩
      obtain ⟨v, hv⟩ : ∃ v, v = r.y - b.y := ⟨_, rfl⟩
      obtain ⟨z, hz⟩ : ∃ z, z = r.y - p.y := ⟨_, rfl⟩
      rw [← hA, ← hB, ← hu, ← hv] at h1
      rw [← hP, ← hB, ← hz, ← hv] at h2
      have e1 : b.y - a.y = u - v := by omega
      have e2 : p.x - a.x = A - P := by omega
      have e3 : p.y - a.y = u - z := by omega
      have e4 : b.x - a.x = A - B := by omega
      rw [e1, e2, e3, e4] at ht
      have hP0 : 0 < P := by omega
      have hBP : 0 < B - P := by omega
      have hAB : 0 < A - B := by omega
      have hB0 : 0 < B := by omega
      have h1' : u * B < v * A := by omega
      have h2' : z * B < v * P := by omega
      have k1 := Int.mul_lt_mul_of_pos_right h1' hBP
      have k2 := Int.mul_lt_mul_of_pos_right h2' hAB
      have k3 := Int.mul_le_mul_of_nonneg_right ht (Int.le_of_lt hB0)
      grind

/-- On a strictly convex chain: once the slope to p no longer rises, it does not rise any more. -/
theorem uni_step {a b c p : Pt} (hab : a.x < b.x) (hbc : b.x < c.x) (hcp : c.x < p.x) (ht : turnS a b c < 0) (h : SlLe b a p) : SlLe c b p := by
  have ht' : ¬ 0 ≤ turnS a b c := by omega
  unfold turnS at ht'
  rw [icmp_nonneg] at ht'
  unfold SlLe at *
  obtain ⟨A, hA⟩ : ∃ A, A = p.x - a.x := ⟨_, rfl⟩
  obtain ⟨B, hB⟩ : ∃ B, B = p.x - b.x := ⟨_, rfl⟩
  obtain ⟨C, hC⟩ : ∃ C, C = p.x - c.x := ⟨_, rfl⟩
  obtain ⟨u, hu⟩ : ∃ u, u = p.y - a.y := ⟨_, rfl⟩
  obtain ⟨v, hv⟩ : ∃ v, v = p.y - b.y := ⟨_, rfl⟩
  obtain ⟨z, hz⟩ : ∃ z, z = p.y - c.y := ⟨_, rfl⟩
  have e1 : b.y - a.y = u - v := by omega
  have e2 : c.x - a.x = A - C := by omega
  have e3 : c.y - a.y = u - z := by omega
  have e4 : b.x - a.x = A - B := by omega
  rw [e1, e2, e3, e4] at ht'
  rw [← hA, ← hB, ← hu, ← hv] at h
  rw [← hB, ← hC, ← hv, ← hz]
  have hC0 : 0 < C := by omega
  have hBC : 0 < B - C := by omega
  have hAB : 0 < A - B := by omega
  have hB0 : 0 < B := by omega
  have k1 := Int.mul_le_mul_of_nonneg_right h (Int.le_of_lt hBC)
  have k3 := Int.mul_lt_mul_of_pos_right (Int.not_le.1 ht') hB0
  have : (z * B) * (A - B) ≤ (v * C) * (A - B) := by grind
  exact Int.le_of_mul_le_mul_right this hAB

/-! ### chains, the newest point first -/
def popR (p : Pt) : List Pt → List Pt
  | b :: a :: t => if 0 ≤ turnS a b p then popR p (a :: t) else b :: a :: t
  | l => l

def Conv : List Pt → Prop
  | c :: b :: a :: t => b.x < c.x ∧ turnS a b c < 0 ∧ Conv (b :: a :: t)
  | [b, a] => a.x < b.x
  | _ => True

theorem Conv.tail {c : Pt} {l : List Pt} (h : Conv (c :: l)) : Conv l := by
  match l, h with
  | [], _ => trivial
  | [_], _ => trivial
  | _ :: _ :: _, h => exact h.2.2

theorem Conv.lt {c b : Pt} {l : List Pt} (h : Conv (c :: b :: l)) : b.x < c.x := by
  match l, h with
  | [], h => exact h
  | _ :: _, h => exact h.1

theorem Conv.lt_head {c : Pt} {l : List Pt} (h : Conv (c :: l)) : ∀ d ∈ l, d.x < c.x := by
  induction l generalizing c with
  | nil => intro d hd; cases hd
  | cons b t ih =>
    intro d hd
    have hbc := h.lt
    rcases List.mem_cons.1 hd with rfl | hd
    · exact hbc
    · have := ih h.tail d hd; omega

theorem popR_sub (p : Pt) (l : List Pt) : ∀ d ∈ popR p l, d ∈ l := by
  fun_induction popR p l with
  | case1 b a t h ih => intro d hd; exact List.mem_cons_of_mem _ (ih d hd)
  | case2 b a t h => intro d hd; exact hd
  | case3 l h => intro d hd; exact hd

theorem popR_ne (p : Pt) (l : List Pt) (h : l ≠ []) : popR p l ≠ [] := by
  fun_induction popR p l with
  | case1 b a t h' ih => exact ih (by simp)
  | case2 b a t h' => exact h
  | case3 l h' => exact h

theorem popR_conv (p : Pt) (l : List Pt) (h : Conv l) (hp : ∀ d ∈ l, d.x < p.x) : Conv (p :: popR p l) := by
  fun_induction popR p l with
  | case1 b a t h' ih => exact ih h.tail (fun d hd => hp d (List.mem_cons_of_mem _ hd))
  | case2 b a t h' =>
    refine ⟨hp b (by simp), by omega, h⟩
  | case3 l h' =>
    match l, h' with
    | [], _ => trivial
    | [b], _ => exact hp b (by simp)
    | b :: a :: t, h' => exact (h' b a t rfl).elim

/-- For whatever lies behind the newest point: a chain has a point that is as good as s. -/
def Dom (s : Pt) (l : List Pt) (m : Int) : Prop := ∀ r : Pt, m < r.x → ∃ c ∈ l, SlLe s c r

theorem popR_dom (p : Pt) (l : List Pt) (h : Conv l) (hp : ∀ d ∈ l, d.x < p.x) : ∀ s ∈ l, Dom s (p :: popR p l) p.x := by
  fun_induction popR p l with
  | case1 b a t h' ih =>
    intro s hs r hr
    have ih' := ih h.tail (fun d hd => hp d (List.mem_cons_of_mem _ hd))
    rcases List.mem_cons.1 hs with rfl | hs
    · have hbp := hp s (by simp)
      have hab := h.lt
      rcases pop_ok (a := a) (b := s) (p := p) (r := r) hab hbp hr h' with k | k
      · obtain ⟨c, hc, hk⟩ := ih' a (by simp) r hr
        refine ⟨c, hc, k.trans (by omega) (by omega) ?_ hk⟩
        rcases List.mem_cons.1 hc with rfl | hc
        · exact hr
        · have := hp c (List.mem_cons_of_mem _ (popR_sub _ _ _ hc)); omega
      · exact ⟨p, by simp, k⟩
    · exact ih' s hs r hr
  | case2 b a t h' =>
    intro s hs r hr
    exact ⟨s, List.mem_cons_of_mem _ hs, SlLe.refl _ _⟩
  | case3 l h' =>
    intro s hs r hr
    exact ⟨s, List.mem_cons_of_mem _ hs, SlLe.refl _ _⟩

/-- Laying p: what was dominated stays dominated, and p is. -/
theorem lay_dom (p : Pt) (l : List Pt) (m : Int) (h : Conv l) (hp : ∀ d ∈ l, d.x < p.x) (hm : m < p.x) (s : Pt) (hsx : s.x ≤ m) (hs : Dom s l m) : Dom s (p :: popR p l) p.x := by
  intro r hr
  obtain ⟨c, hc, hk⟩ := hs r (by omega)
  have hcp := hp c hc
  obtain ⟨c', hc', hk'⟩ := popR_dom p l h hp c hc r hr
  refine ⟨c', hc', hk.trans (by omega) (by omega) ?_ hk'⟩
  rcases List.mem_cons.1 hc' with rfl | hc'
  · exact hr
  · have := hp c' (popR_sub _ _ _ hc'); omega

/-! ### the chain forwards, and the search on it -/
def bsearch (f : Nat → Bool) : Nat → Nat → Nat → Nat
  | 0, i, _ => i
  | k + 1, i, j => if i < j then (if f ((i + j) / 2) then bsearch f k i ((i + j) / 2) else bsearch f k ((i + j) / 2 + 1) j) else i

theorem bsearch_spec (f : Nat → Bool) (n : Nat) (mono : ∀ i, i + 1 < n → f i = true → f (i + 1) = true) :
    ∀ k i j, i ≤ j → j ≤ n → j - i < k → (∀ x, x < i → f x = false) → (∀ x, j ≤ x → x < n → f x = true) →
      bsearch f k i j ≤ n ∧ (∀ x, x < bsearch f k i j → f x = false) ∧ (∀ x, bsearch f k i j ≤ x → x < n → f x = true) := by
  have up : ∀ d x, x + d < n → f x = true → f (x + d) = true := by
    intro d
    induction d with
    | zero => intro x _ h; exact h
    | succ d ih => intro x hx h; exact mono (x + d) (by omega) (ih x (by omega) h)
  intro k
  induction k with
  | zero => intro i j _ _ h; omega
  | succ k ih =>
    intro i j hij hjn hk hlo hhi
    unfold bsearch
    split
    · rename_i hlt
      split
      · rename_i hf
        refine ih i ((i + j) / 2) (by omega) (by omega) (by omega) hlo ?_
        intro x hx hxn
        have := up (x - (i + j) / 2) ((i + j) / 2) (by omega) hf
        rwa [show (i + j) / 2 + (x - (i + j) / 2) = x from by omega] at this
      · rename_i hf
        refine ih ((i + j) / 2 + 1) j (by omega) hjn (by omega) ?_ hhi
        intro x hx
        cases hfx : f x with
        | false => rfl
        | true =>
          exfalso
          have := up ((i + j) / 2 - x) x (by omega) hfx
          rw [show x + ((i + j) / 2 - x) = (i + j) / 2 from by omega] at this
          exact hf this
    · refine ⟨by omega, hlo, fun x hx hxn => hhi x (by omega) hxn⟩

/-- The chain forwards: strictly convex, by indices. -/
def ConvF (c : List Pt) : Prop :=
  (∀ i, i + 1 < c.length → (c.getD i default).x < (c.getD (i + 1) default).x) ∧
  (∀ i, i + 2 < c.length → turnS (c.getD i default) (c.getD (i + 1) default) (c.getD (i + 2) default) < 0)

theorem getD_get {α : Type} (l : List α) (d : α) {i : Nat} (h : i < l.length) : l.getD i d = l[i] := by
  simp [List.getD_eq_getElem?_getD, h]

theorem getD_reverse_at (l : List Pt) (i : Nat) (h : i < l.length) : l.reverse.getD i default = l.getD (l.length - 1 - i) default := by
  simp [List.getD_eq_getElem?_getD, List.getElem?_reverse h]

theorem Conv.idx {l : List Pt} (h : Conv l) :
    (∀ i, i + 1 < l.length → (l.getD (i + 1) default).x < (l.getD i default).x) ∧
    (∀ i, i + 2 < l.length → turnS (l.getD (i + 2) default) (l.getD (i + 1) default) (l.getD i default) < 0) := by
  induction l with
  | nil => exact ⟨fun i hi => by simp at hi, fun i hi => by simp at hi⟩
  | cons c t ih =>
    obtain ⟨i1, i2⟩ := ih h.tail
    constructor
    · intro i hi
      cases i with
      | zero =>
        match t, h with
        | b :: t, h => exact h.lt
      | succ i => simpa using i1 i (by simp at hi ⊢; omega)
    · intro i hi
      cases i with
      | zero =>
        match t, h with
        | b :: a :: t, h => exact h.2.1
      | succ i => simpa using i2 i (by simp at hi ⊢; omega)

theorem Conv.forward {l : List Pt} (h : Conv l) : ConvF l.reverse := by
  obtain ⟨h1, h2⟩ := h.idx
  constructor
  · intro i hi
    simp at hi
    rw [getD_reverse_at _ _ (by omega), getD_reverse_at _ _ (by omega)]
    have := h1 (l.length - 1 - (i + 1)) (by omega)
    rwa [show l.length - 1 - (i + 1) + 1 = l.length - 1 - i from by omega] at this
  · intro i hi
    simp at hi
    rw [getD_reverse_at _ _ (by omega), getD_reverse_at _ _ (by omega), getD_reverse_at _ _ (by omega)]
    have := h2 (l.length - 1 - (i + 2)) (by omega)
    rwa [show l.length - 1 - (i + 2) + 1 = l.length - 1 - (i + 1) from by omega, show l.length - 1 - (i + 2) + 2 = l.length - 1 - i from by omega] at this

def touchAt (c : List Pt) (p : Pt) : Nat :=
  bsearch (fun i => decide (0 ≤ steepS (c.getD i default) (c.getD (i + 1) default) p)) c.length 0 (c.length - 1)
def touchS (c : List Pt) (p : Pt) : Pt := c.getD (touchAt c p) default

theorem steep_iff (a b p : Pt) : 0 ≤ steepS a b p ↔ SlLe b a p := by unfold steepS SlLe; rw [icmp_nonneg]

/-- The tangent is the best point of the chain. -/
theorem touch_best (c : List Pt) (p : Pt) (h : ConvF c) (hne : c ≠ []) (hp : ∀ d ∈ c, d.x < p.x) :
    touchAt c p < c.length ∧ touchS c p ∈ c ∧ ∀ d ∈ c, SlLe d (touchS c p) p := by
  have hpos : 0 < c.length := List.length_pos_iff.2 hne
  have hat : ∀ i, i < c.length → (c.getD i default).x < p.x := fun i hi => hp _ (by rw [getD_get _ _ hi]; exact List.getElem_mem hi)
  obtain ⟨b1, b2, b3⟩ := bsearch_spec (fun i => decide (0 ≤ steepS (c.getD i default) (c.getD (i + 1) default) p)) (c.length - 1)
    (by
      intro i hi hf
      simp only [decide_eq_true_eq] at hf ⊢
      rw [steep_iff] at hf ⊢
      exact uni_step (h.1 i (by omega)) (h.1 (i + 1) (by omega)) (hat _ (by omega)) (h.2 i (by omega)) hf)
    c.length 0 (c.length - 1) (by omega) (by omega) (by omega) (fun x hx => by omega) (fun x hx hxn => by omega)
  have hlt : touchAt c p < c.length := by unfold touchAt; omega
  have hmem : touchS c p ∈ c := by unfold touchS; rw [getD_get _ _ hlt]; exact List.getElem_mem hlt
  refine ⟨hlt, hmem, ?_⟩
  have up : ∀ d, touchAt c p + d < c.length → SlLe (c.getD (touchAt c p + d) default) (touchS c p) p := by
    intro d
    induction d with
    | zero => intro _; exact SlLe.refl _ _
    | succ d ih =>
      intro hd
      have h1 := b3 (touchAt c p + d) (by unfold touchAt; omega) (by omega)
      simp only [decide_eq_true_eq] at h1
      rw [steep_iff] at h1
      exact h1.trans (hat _ (by omega)) (hat _ (by omega)) (hp _ hmem) (ih (by omega))
  have down : ∀ d, d ≤ touchAt c p → SlLe (c.getD (touchAt c p - d) default) (touchS c p) p := by
    intro d
    induction d with
    | zero => intro _; exact SlLe.refl _ _
    | succ d ih =>
      intro hd
      have h1 := b2 (touchAt c p - (d + 1)) (by unfold touchAt at *; omega)
      simp only [decide_eq_false_iff_not] at h1
      rw [steep_iff] at h1
      have h2 : SlLe (c.getD (touchAt c p - (d + 1)) default) (c.getD (touchAt c p - (d + 1) + 1) default) p := by
        rcases SlLe.total (c.getD (touchAt c p - (d + 1)) default) (c.getD (touchAt c p - (d + 1) + 1) default) p with k | k
        · exact k
        · exact (h1 k).elim
      rw [show touchAt c p - (d + 1) + 1 = touchAt c p - d from by omega] at h2
      exact h2.trans (hat _ (by omega)) (hat _ (by omega)) (hp _ hmem) (ih (by omega))
  intro d hd
  obtain ⟨i, hi, rfl⟩ := List.mem_iff_getElem.1 hd
  rw [← getD_get _ default hi]
  rcases Nat.le_total i (touchAt c p) with k | k
  · have := down (touchAt c p - i) (by omega)
    rwa [show touchAt c p - (touchAt c p - i) = i from by omega] at this
  · have := up (i - touchAt c p) (by omega)
    rwa [show touchAt c p + (i - touchAt c p) = i from by omega] at this

end Inc
