/- Walk: shown, the document's example at the head of the statements. Walk: RunPlaces. -/
import Derived.Test.YtdfkgkidaffcgaaJ19
set_option linter.all false
namespace Go.Proofs.Ytdfkgkidaffcgaa
open Go.RowKit

theorem Row.none_ (w : World) (A : Option Addr) (size cap : Nat) (hc : cap ≤ maxLen) : Row w (.slice A 0 cap) 0 size [] := ⟨by simp, A, cap, rfl, by omega, hc, fun h => absurd h (Nat.lt_irrefl _)⟩

/-- cells of a block, known -/
def Cel (w : World) (b : Nat) (vs : List Value) : Prop := b < w.heap.size ∧ ∀ i, i < vs.length → w.cell? ⟨b, i, none⟩ = some (vs.getD i undef)
theorem Cel.below {W w : World} {b : Nat} {vs : List Value} (h : Cel W b vs) (hb : Below W.heap.size W w) : Cel w b vs :=
  ⟨Nat.lt_of_lt_of_le h.1 hb.size, fun i hi => (below_cells hb _ _ h.1).trans (h.2 i hi)⟩
theorem good_five : Inc.Good 2 (Inc.fiveL.map (·.key)) [[Inc.fiveS]] := by
  refine Inc.good_of (by decide +kernel) (by decide) ?_ (by decide) ?_
  · decide
  · intro l hl
    simp only [List.mem_cons, List.not_mem_nil, or_false] at hl
    subst hl
    refine ⟨by decide, fun s hs => ?_⟩
    simp only [List.mem_cons, List.not_mem_nil, or_false] at hs
    subst hs
    constructor <;> decide

set_option maxRecDepth 100000 in
set_option maxHeartbeats 3200000 in
theorem shown_any (w : World) : Calls Try.prog 5 #[] w fun e w' => e = .returned (.bool true) ∧ Below w.heap.size w w' := by
  have hwf : ∀ e ∈ Inc.fiveL, Inc.EntWf e := by
    intro e he
    simp only [Inc.fiveL, List.mem_cons, List.not_mem_nil, or_false] at he
    rcases he with rfl | rfl | rfl | rfl | rfl <;> constructor <;> decide
  go_enter Try.func5, Try.ntmps5
  go_wp2_with fail
  refine (five_any w).mono ?_
  rintro ed w1 ⟨u, rfl, hu, hb1⟩
  have HU := Lib.hid hu
  obtain ⟨_, A1, cap1, rfl, _, _, _⟩ := hu
  go_wp2_with fail
  refine (runNew_any 2 Inc.fiveL (by decide) hwf _ w1 HU.out).mono ?_
  rintro ed w2 ⟨hb2, _, m2⟩
  obtain ⟨ls, b, hbl, hbge, rfl, hrun⟩ := m2 (by decide)
  obtain rfl := Inc.Built.unique hbl Inc.five_built
  have HB := Lib.hid (show Below w.heap.size w w2 from bl_then hb1 hb2)
  have HRUN := Lib.hid hrun
  clear HU hwf hb1 hb2 m2 hbl hrun
  go_wp2_with fail
  refine (runOf_any 2 [⟨7, 1, false⟩] (by decide) (by intro e he; simp only [List.mem_cons, List.not_mem_nil, or_false] at he; subst he; constructor <;> decide) [] (by decide) (by simp) _ _ _ ?_ ?_).mono ?_
  · exact ⟨rfl, _, 1, rfl, by decide, by decide, fun _ => ⟨w2.heap.size, 0, rfl, by simp <;> omega, fun i hi => by
      match i, hi with
      | 0, _ => go_simp; rfl
      | 1, _ => go_simp; rfl
      | 2, _ => go_simp; rfl⟩⟩
  · exact ⟨[], rfl, Row.none_ _ _ _ _ (by decide), by simp⟩
  rintro ed w3 ⟨hb3, m1, _⟩
  obtain rfl := m1 (by decide)
  have HB3 := Lib.hid (show Below w.heap.size w w3 from bl_then (bl_alloc (bl_alloc HB.out _) _) hb3)
  have HR3 := Lib.hid (HRUN.out.below (bl_then (bl_alloc (bl_alloc (Below.refl _ _) _) _) hb3))
  clear HB HRUN hb3 m1 hbge
  go_wp2_with fail
  refine (runGet_any HR3.out good_five 30 (by decide) (by decide)).mono ?_
  rintro ed w4 ⟨rfl, hb4⟩
  rw [show Inc.getE Inc.fiveL 30 = ⟨30, 0, true⟩ by rfl, show Inc.stands (Inc.fiveL.map (·.key)) 30 = true by rfl]
  unfold entV
  have HB4 := Lib.hid (bl_then HB3.out hb4)
  have HR4 := Lib.hid (HR3.out.below hb4)
  clear HB3 HR3 hb4
  go_wp2_with fail
  refine (runGet_any (HR4.out.below (by (repeat (first | exact Below.refl _ _ | refine bl_alloc ?_ _ | refine bl_drew ?_ | (refine bl_set ?_ (by simp <;> omega) _) | refine bl_then ?_ (by assumption) | refine bl_cls ?_ (by assumption))))) good_five 35 (by decide) (by decide)).mono ?_
  rintro ed w5 ⟨rfl, hb5⟩
  rw [show Inc.getE Inc.fiveL 35 = ⟨0, 0, false⟩ by rfl, show Inc.stands (Inc.fiveL.map (·.key)) 35 = false by rfl]
  unfold entV
  have HX5 := Lib.hid (show Cel w5 w4.heap.size [.int .u64 30, .int .u64 0, .bool true] from Cel.below ⟨by simp <;> omega, fun i hi => by
      match i, hi with
      | 0, _ => go_simp
      | 1, _ => go_simp
      | 2, _ => go_simp⟩ hb5)
  have HB5 := Lib.hid (show Below w.heap.size w w5 from bl_then (bl_alloc HB4.out _) hb5)
  have HR5 := Lib.hid (HR4.out.below (bl_then (by (repeat (first | exact Below.refl _ _ | refine bl_alloc ?_ _ | refine bl_drew ?_ | (refine bl_set ?_ (by simp <;> omega) _) | refine bl_then ?_ (by assumption) | refine bl_cls ?_ (by assumption)))) hb5))
  clear HB4 HR4 hb5
  go_wp2_with fail
  refine (runAt_any (HR5.out.below (by (repeat (first | exact Below.refl _ _ | refine bl_alloc ?_ _ | refine bl_drew ?_ | (refine bl_set ?_ (by simp <;> omega) _) | refine bl_then ?_ (by assumption) | refine bl_cls ?_ (by assumption))))) (by decide) 1 (by decide) (by decide)).mono ?_
  rintro ed w6 ⟨rfl, hb6⟩
  rw [show Inc.atE Inc.fiveL 1 = ⟨20, 2, false⟩ by rfl, show Inc.atC Inc.fiveL 1 = 0 by rfl]
  unfold entV
  have HB6 := Lib.hid (show Below w.heap.size w w6 from bl_then (bl_alloc HB5.out _) hb6)
  have HR6 := Lib.hid (HR5.out.below (bl_then (by (repeat (first | exact Below.refl _ _ | refine bl_alloc ?_ _ | refine bl_drew ?_ | (refine bl_set ?_ (by simp <;> omega) _) | refine bl_then ?_ (by assumption) | refine bl_cls ?_ (by assumption)))) hb6))
  have HX6 := Lib.hid (HX5.out.below (bl_then (by (repeat (first | exact Below.refl _ _ | refine bl_alloc ?_ _ | refine bl_drew ?_ | (refine bl_set ?_ (by simp <;> omega) _) | refine bl_then ?_ (by assumption) | refine bl_cls ?_ (by assumption)))) hb6))
  clear HB5 HR5 HX5 hb6
  go_wp2_with fail
  refine (runAt_any (HR6.out.below (by (repeat (first | exact Below.refl _ _ | refine bl_alloc ?_ _ | refine bl_drew ?_ | (refine bl_set ?_ (by simp <;> omega) _) | refine bl_then ?_ (by assumption) | refine bl_cls ?_ (by assumption))))) (by decide) 5 (by decide) (by decide)).mono ?_
  rintro ed w7 ⟨rfl, hb7⟩
  rw [show Inc.atE Inc.fiveL 5 = ⟨0, 0, false⟩ by rfl, show Inc.atC Inc.fiveL 5 = 1 by rfl]
  unfold entV
  have HY7 := Lib.hid (show Cel w7 w6.heap.size [.int .u64 20, .int .u64 2, .bool false] from Cel.below ⟨by simp <;> omega, fun i hi => by
      match i, hi with
      | 0, _ => go_simp
      | 1, _ => go_simp
      | 2, _ => go_simp⟩ hb7)
  have HB7 := Lib.hid (show Below w.heap.size w w7 from bl_then (bl_alloc HB6.out _) hb7)
  have HR7 := Lib.hid (HR6.out.below (bl_then (by (repeat (first | exact Below.refl _ _ | refine bl_alloc ?_ _ | refine bl_drew ?_ | (refine bl_set ?_ (by simp <;> omega) _) | refine bl_then ?_ (by assumption) | refine bl_cls ?_ (by assumption)))) hb7))
  have HX7 := Lib.hid (HX6.out.below (bl_then (by (repeat (first | exact Below.refl _ _ | refine bl_alloc ?_ _ | refine bl_drew ?_ | (refine bl_set ?_ (by simp <;> omega) _) | refine bl_then ?_ (by assumption) | refine bl_cls ?_ (by assumption)))) hb7))
  clear HB6 HR6 HX6 hb7
  obtain ⟨p, c7, hp⟩ := HR7.out.pile
  have hblt := HR7.out.lt
  go_wp2_with fail
  refine (pileSeg_any (hp.below (by (repeat (first | exact Below.refl _ _ | refine bl_alloc ?_ _ | refine bl_drew ?_ | (refine bl_set ?_ (by simp <;> omega) _) | refine bl_then ?_ (by assumption) | refine bl_cls ?_ (by assumption))))) (by decide) 1 0 (by decide) (by decide) (by decide) (by decide)).mono ?_
  rintro ed w8 ⟨rfl, hb8⟩
  rw [show Inc.lseg (Inc.fiveL.map (·.key)) [[Inc.fiveS]] 1 0 = Inc.fiveS by rfl]
  unfold Inc.fiveS segV
  have hbe : Below w7.heap.size w7 w8 := bl_then (by (repeat (first | exact Below.refl _ _ | refine bl_alloc ?_ _ | refine bl_drew ?_ | (refine bl_set ?_ (by simp <;> omega) _) | refine bl_then ?_ (by assumption) | refine bl_cls ?_ (by assumption)))) hb8
  have c8 : w8.cell? ⟨b, 0, none⟩ = some (.pointer (some ⟨p, 0, none⟩)) := (below_cells hbe _ _ hblt).trans c7
  have HP8 := Lib.hid (hp.below hbe)
  have HB8 := Lib.hid (show Below w.heap.size w w8 from bl_then HB7.out hbe)
  have HR8 := Lib.hid (HR7.out.below hbe)
  have HX8 := Lib.hid (HX7.out.below hbe)
  have HY8 := Lib.hid (HY7.out.below hbe)
  have hbl8 : b < w8.heap.size := Nat.lt_of_lt_of_le hblt hbe.size
  clear HB7 HR7 HX7 HY7 hb8 c7 hp hblt hbe
  go_wp2_with fail
  refine (runLen_any (HR8.out.below (by (repeat (first | exact Below.refl _ _ | refine bl_alloc ?_ _ | refine bl_drew ?_ | (refine bl_set ?_ (by simp <;> omega) _) | refine bl_then ?_ (by assumption) | refine bl_cls ?_ (by assumption)))))).mono ?_
  rintro ed w9 ⟨rfl, rfl⟩
  go_wp2_with fail
  refine (pileHeight_any (HP8.out.below (by (repeat (first | exact Below.refl _ _ | refine bl_alloc ?_ _ | refine bl_drew ?_ | (refine bl_set ?_ (by simp <;> omega) _) | refine bl_then ?_ (by assumption) | refine bl_cls ?_ (by assumption)))))).mono ?_
  rintro ed w9 ⟨rfl, rfl⟩
  go_wp2_with fail
  refine (pileSize_any (HP8.out.below (by (repeat (first | exact Below.refl _ _ | refine bl_alloc ?_ _ | refine bl_drew ?_ | (refine bl_set ?_ (by simp <;> omega) _) | refine bl_then ?_ (by assumption) | refine bl_cls ?_ (by assumption))))) (by decide) 1 (by decide) (by decide)).mono ?_
  rintro ed w9 ⟨rfl, rfl⟩
  rw [show Inc.lsize (Inc.fiveL.map (·.key)) [[Inc.fiveS]] 1 = 1 by rfl]
  go_wp2_with fail
  refine (pileSize_any (HP8.out.below (by (repeat (first | exact Below.refl _ _ | refine bl_alloc ?_ _ | refine bl_drew ?_ | (refine bl_set ?_ (by simp <;> omega) _) | refine bl_then ?_ (by assumption) | refine bl_cls ?_ (by assumption))))) (by decide) 2 (by decide) (by decide)).mono ?_
  rintro ed w9 ⟨rfl, rfl⟩
  rw [show Inc.lsize (Inc.fiveL.map (·.key)) [[Inc.fiveS]] 2 = 0 by rfl]
  go_wp2_with fail
  refine (runRank_any (HR8.out.below (by (repeat (first | exact Below.refl _ _ | refine bl_alloc ?_ _ | refine bl_drew ?_ | (refine bl_set ?_ (by simp <;> omega) _) | refine bl_then ?_ (by assumption) | refine bl_cls ?_ (by assumption))))) good_five 35 (by decide) (by decide)).mono ?_
  rintro ed w9 ⟨rfl, hb9⟩
  rw [show (Inc.rk (Inc.fiveL.map (·.key)) 35 : Int) = 3 by rfl]
  have hbe : Below w8.heap.size w8 w9 := bl_then (by (repeat (first | exact Below.refl _ _ | refine bl_alloc ?_ _ | refine bl_drew ?_ | (refine bl_set ?_ (by simp <;> omega) _) | refine bl_then ?_ (by assumption) | refine bl_cls ?_ (by assumption)))) hb9
  have c9 : w9.cell? ⟨b, 0, none⟩ = some (.pointer (some ⟨p, 0, none⟩)) := (below_cells hbe _ _ hbl8).trans c8
  have HP9 := Lib.hid (HP8.out.below hbe)
  have HB9 := Lib.hid (show Below w.heap.size w w9 from bl_then HB8.out hbe)
  obtain ⟨_, x9⟩ := HX8.out.below hbe
  obtain ⟨_, y9⟩ := HY8.out.below hbe
  have x90 := x9 0 (by simp)
  have x91 := x9 1 (by simp)
  have x92 := x9 2 (by simp)
  have y90 := y9 0 (by simp)
  have y91 := y9 1 (by simp)
  have y92 := y9 2 (by simp)
  have z90 : w9.cell? ⟨w8.heap.size, 0, none⟩ = some (.int .u64 10) := (below_cells hb9 _ _ (by simp <;> omega)).trans (by go_simp)
  have z91 : w9.cell? ⟨w8.heap.size, 1, none⟩ = some (.float .f64 4587366580439587226) := (below_cells hb9 _ _ (by simp <;> omega)).trans (by go_simp)
  have z92 : w9.cell? ⟨w8.heap.size, 2, none⟩ = some (.float .f64 4607182418800017408) := (below_cells hb9 _ _ (by simp <;> omega)).trans (by go_simp)
  have z94 : w9.cell? ⟨w8.heap.size, 4, none⟩ = some (.int .i64 5) := (below_cells hb9 _ _ (by simp <;> omega)).trans (by go_simp)
  simp only [List.getD_cons_zero, List.getD_cons_succ] at x90 x91 x92 y90 y91 y92
  clear x9 y9 HB8 HR8 HX8 HY8 hb9 c8 HP8 hbe
  go_wp2_with fail
  refine (pileKey_any HP9.out (by decide) 0 4 (by decide) (by decide) (by decide) (by decide)).mono ?_
  rintro ed w10 ⟨rfl, rfl⟩
  rw [show Inc.lkey (Inc.fiveL.map (·.key)) [[Inc.fiveS]] 0 4 = 50 by rfl]
  go_wp2_with fail
  go_ret
  exact ⟨rfl, HB9.out⟩
end Go.Proofs.Ytdfkgkidaffcgaa
namespace Inc
theorem rk_mono (row : List Int) {p q : Int} (h : p ≤ q) : rk row p ≤ rk row q := by
  unfold rk
  apply List.countP_mono_left
  intro x _ hx
  simp only [decide_eq_true_eq] at hx ⊢
  omega
theorem rk_at {row : List Int} (h : Rise row) {i : Nat} (hi : i < row.length) : rk row (K row i) = i := by
  have h1 := rk_iff h (K row i)
  have hl := rk_le row (K row i)
  have h2 := h1 i hi
  rcases Nat.lt_trichotomy (rk row (K row i)) i with hlt | heq | hgt
  · have := (h1 (rk row (K row i)) (by omega)).1 (h _ _ hlt hi)
    omega
  · exact heq
  · have := h2.2 hgt
    omega
theorem rk_succ {row : List Int} (h : Rise row) (q : Int) : rk row (q + 1) = rk row q + (if stands row q then 1 else 0) := by
  have h1 := rk_iff h q
  have h2 := rk_iff h (q + 1)
  have hl := rk_le row q
  have hl2 := rk_le row (q + 1)
  have hm := rk_mono row (show q ≤ q + 1 by omega)
  cases hs : stands row q with
  | true =>
    unfold stands at hs
    simp only [Bool.and_eq_true, decide_eq_true_eq, beq_iff_eq] at hs
    have := (h2 _ hs.1).1 (by omega)
    rcases Nat.lt_or_ge (rk row q + 1) (rk row (q + 1)) with hc | hc
    · have a := (h2 (rk row q + 1) (by omega)).2 hc
      have b := h (rk row q) (rk row q + 1) (by omega) (by omega)
      omega
    · simp; omega
  | false =>
    simp only [Bool.false_eq_true, if_false, Nat.add_zero]
    rcases Nat.lt_or_ge (rk row q) (rk row (q + 1)) with hc | hc
    · have a := (h2 (rk row q) (by omega)).2 hc
      have b := mt (h1 (rk row q) (by omega)).1 (by omega)
      have : stands row q = true := by
        unfold stands
        simp only [Bool.and_eq_true, decide_eq_true_eq, beq_iff_eq]
        omega
      rw [hs] at this; cases this
    · omega
theorem stands_at {row : List Int} (h : Rise row) {i : Nat} (hi : i < row.length) : stands row (K row i) = true := by
  unfold stands
  rw [rk_at h hi]
  simp [hi]
theorem key_at {es : List Ent} {k : Nat} {e : Ent} (he : es[k]? = some e) : K (es.map (·.key)) k = e.key := by
  simp [K, List.getD_eq_getElem?_getD, he]
theorem getE_at {es : List Ent} (h : Rise (es.map (·.key))) {k : Nat} {e : Ent} (he : es[k]? = some e) : getE es e.key = e ∧ stands (es.map (·.key)) e.key = true ∧ rk (es.map (·.key)) e.key = k := by
  have hk : k < (es.map (·.key)).length := by rw [List.length_map]; exact (List.getElem?_eq_some_iff.1 he).1
  have h1 := stands_at h hk
  have h2 := rk_at h hk
  rw [key_at he] at h1 h2
  refine ⟨?_, h1, h2⟩
  unfold getE
  rw [h1, h2]
  simp [List.getD_eq_getElem?_getD, he]
theorem getE_key {es : List Ent} {q : Int} (h : stands (es.map (·.key)) q = true) : (getE es q).key = q := by
  have h0 := h
  unfold stands at h
  simp only [Bool.and_eq_true, decide_eq_true_eq, beq_iff_eq] at h
  unfold getE
  rw [h0]
  have hk : rk (es.map (·.key)) q < es.length := by simpa using h.1
  have h2 := key_at (List.getElem?_eq_getElem hk)
  rw [h.2] at h2
  generalize rk (es.map (·.key)) q = r at *
  simp [List.getD_eq_getElem?_getD, hk, ← h2]
theorem atE_at {es : List Ent} {k : Nat} {e : Ent} (he : es[k]? = some e) : atE es k = e ∧ atC es k = 0 := by
  have hk := (List.getElem?_eq_some_iff.1 he).1
  unfold atE atC
  rw [if_neg (by omega), if_neg (by omega), Int.toNat_natCast]
  simp [List.getD_eq_getElem?_getD, he]
/-- a run that was built may be asked -/
theorem built_good {eps : Int} {es : List Ent} {ls : List (List Seg)} (hc : newCode eps es = 0) (hel : es.length ≤ 4294967296) (hes : ∀ e ∈ es, EntWf e) (hb : Built (eps - 1) (es.map (·.key)) ls) :
    Good eps (es.map (·.key)) ls ∧ Rise (es.map (·.key)) ∧ 2 ≤ eps ∧ eps ≤ 64 ∧ runCode eps es ls = 0 ∧ ls.length ≤ 4294967296 ∧ (∀ l ∈ ls, l.length ≤ 4294967296 ∧ ∀ s ∈ l, SegWf s) := by
  unfold newCode at hc
  split at hc
  · omega
  · rename_i h
    have h1 : 2 ≤ eps := by omega
    have h2 : eps ≤ 64 := by omega
    obtain ⟨r1, r2⟩ := entCode_rise hc
    have hlk : (es.map (·.key)).length ≤ 4294967296 := by rw [List.length_map]; exact hel
    have hin : KeysIn (es.map (·.key)) := ⟨by omega, keys_range hes⟩
    have hcc := built_code h1 h2 hin hlk r1 hb
    have hr := rise_lt r1
    have hll : ls.length ≤ 4294967296 := by
      have h1 := built_high h1 ls _ hin hr hb
      have h2 := maxH_bound (show 2 ≤ eps by omega) _ (es.map (·.key)).length (Int.self_le_toNat _) (by omega)
      omega
    have hwf := built_wf h1 h2 ls _ hin hlk hr hb
    refine ⟨good_of hcc hlk hin.rng hll hwf, hr, h1, h2, ?_, hll, hwf⟩
    unfold runCode
    rw [if_neg h, if_neg (by simp [hc])]
    exact hcc
end Inc
namespace Go.Proofs.Ytdfkgkidaffcgaa
open Go.RowKit

set_option maxRecDepth 100000 in
set_option maxHeartbeats 3200000 in
theorem runPlaces_any (es : List Inc.Ent) (hel : es.length ≤ 4294967296) (hes : ∀ e ∈ es, Inc.EntWf e) (eps : Int) (q p : Int) (hq0 : 0 ≤ q) (hq : q < 18446744073709551616) (hp0 : 0 ≤ p) (hp : p < 18446744073709551616) (v : Value) (w : World) (h : ERow w v es) :
    Calls Try.prog 3 #[v, .int .i64 eps, .int .u64 q, .int .u64 p] w fun e w' => e = .returned (.bool true) ∧ Below w.heap.size w w' := by
  have HE := Lib.hid h
  obtain ⟨_, A, cap, rfl, _, _, _⟩ := h
  by_cases hc : Inc.newCode eps es = 0
  · have HES := Lib.hid hes
    go_enter Try.func3, Try.ntmps3
    go_wp2_with fail
    refine (shown_any w).mono ?_
    rintro ed w1 ⟨rfl, hb1⟩
    go_wp2_with fail
    refine (runNew_any eps es hel hes _ w1 (ERow.below HE.out hb1)).mono ?_
    rintro ed w2 ⟨hb2, _, m2⟩
    obtain ⟨ls, b, hbl, hbge, rfl, hrun⟩ := m2 hc
    obtain ⟨hg, hr, _, _, _, hll, _⟩ := Inc.built_good hc hel hes hbl
    have HE2 := Lib.hid (ERow.below HE.out (bl_then hb1 hb2))
    have HB02 := Lib.hid (bl_then hb1 hb2)
    have HRUN := Lib.hid hrun
    have HG := Lib.hid hg
    have HR := Lib.hid hr
    clear HE hb1 hb2 m2 hbl hrun hg hr hbge hc hes
    go_wp2_with fail
    go_loopw [12] (fun x wr => ∃ k : Nat, k ≤ es.length ∧ x = .int .i64 k ∧ Below w2.heap.size w2 wr) (fun x _ => es.length - (intOf x).toNat)
    case atStart => exact ⟨0, by omega, rfl, Below.refl _ _⟩
    case round =>
      obtain ⟨k, hk, rfl, hbr⟩ := hrel
      have HBR := Lib.hid hbr
      clear hbr
      by_cases hlt : k < es.length
      · have e0n : (k < es.length) = True := by simp; omega
        obtain ⟨e, he⟩ : ∃ e, es[k]? = some e := ⟨_, List.getElem?_eq_getElem hlt⟩
        obtain ⟨b3, o3, cap3, hA, hb3, q0, q1, q2⟩ := ERow.at_ (ERow.below HE2.out HBR.out) he
        injection hA with hA _ hA2
        subst hA hA2
        have hAT := runAt_any (HRUN.out.below HBR.out) hel k (by omega) (by omega)
        obtain ⟨a1, a2⟩ := Inc.atE_at he
        rw [a1, a2] at hAT
        obtain ⟨g1, g2, g3⟩ := Inc.getE_at HR.out he
        have hwf := HES.out _ (List.mem_of_getElem? he)
        obtain ⟨k0, k1, _, _⟩ := hwf
        have hGET : ∀ w', Below wr.heap.size wr w' → Calls Try.prog 9 #[.pointer (some ⟨b, 0, none⟩), .int .u64 e.key] w' fun ed w'' => ed = .returned (.tuple #[entV e, .bool true]) ∧ Below w'.heap.size w' w'' := by
          intro w' hb
          have := runGet_any ((HRUN.out.below HBR.out).below hb) HG.out e.key k0 k1
          rw [g1, g2] at this
          exact this
        have hRANK : ∀ w', Below wr.heap.size wr w' → Calls Try.prog 10 #[.pointer (some ⟨b, 0, none⟩), .int .u64 e.key] w' fun ed w'' => ed = .returned (.int .i64 k) ∧ Below w'.heap.size w' w'' := by
          intro w' hb
          have := runRank_any ((HRUN.out.below HBR.out).below hb) HG.out e.key k0 k1
          rw [g3] at this
          exact this
        obtain ⟨ek, ev, eg⟩ := e
        simp only at q0 q1 q2 hGET hRANK
        unfold entV at hAT hGET
        have i2 : 0 ≤ (k : Int) ∧ (k : Int) < (es.length : Int) := by omega
        have e5 : IntKind.i64.wrap ((k : Int) + 1) = ((k + 1 : Nat) : Int) := by rw [IntKind.wrap_i64]; omega
        clear a1 a2 g1 g2 g3 he k0 k1
        go_wp2_with fail
        refine hAT.mono ?_
        rintro ed w3 ⟨rfl, hb4⟩
        clear hAT
        have s0 : w3.cell? ⟨b3, o3 + k * 3, none⟩ = some (.int .u64 ek) := by rw [below_cells hb4 _ _ hb3]; exact q0
        have s1 : w3.cell? ⟨b3, o3 + k * 3 + 1, none⟩ = some (.int .u64 ev) := by rw [below_cells hb4 _ _ hb3]; exact q1
        have s2 : w3.cell? ⟨b3, o3 + k * 3 + 2, none⟩ = some (.bool eg) := by rw [below_cells hb4 _ _ hb3]; exact q2
        have hb33 : b3 < w3.heap.size := Nat.lt_of_lt_of_le hb3 hb4.size
        clear q0 q1 q2
        go_wp2_with fail
        refine (hGET _ (bl_then hb4 (by (repeat (first | exact Below.refl _ _ | refine bl_alloc ?_ _ | refine bl_drew ?_ | (refine bl_set ?_ (by simp <;> omega) _) | refine bl_then ?_ (by assumption) | refine bl_cls ?_ (by assumption)))))).mono ?_
        rintro ed w4 ⟨rfl, hb5⟩
        clear hGET
        have hb34 : Below w3.heap.size w3 w4 := bl_then (by (repeat (first | exact Below.refl _ _ | refine bl_alloc ?_ _ | refine bl_drew ?_ | (refine bl_set ?_ (by simp <;> omega) _) | refine bl_then ?_ (by assumption) | refine bl_cls ?_ (by assumption)))) hb5
        have x0 : w4.cell? ⟨w3.heap.size, 0, none⟩ = some (.int .u64 ek) := (below_cells hb5 _ _ (by simp <;> omega)).trans (by go_simp)
        have x1 : w4.cell? ⟨w3.heap.size, 1, none⟩ = some (.int .u64 ev) := (below_cells hb5 _ _ (by simp <;> omega)).trans (by go_simp)
        have x2 : w4.cell? ⟨w3.heap.size, 2, none⟩ = some (.bool eg) := (below_cells hb5 _ _ (by simp <;> omega)).trans (by go_simp)
        have xlt : w3.heap.size < w4.heap.size := by have := hb5.size; simp only [World.size_alloc] at this; omega
        have t0 : w4.cell? ⟨b3, o3 + k * 3, none⟩ = some (.int .u64 ek) := by rw [below_cells hb34 _ _ hb33]; exact s0
        have t1 : w4.cell? ⟨b3, o3 + k * 3 + 1, none⟩ = some (.int .u64 ev) := by rw [below_cells hb34 _ _ hb33]; exact s1
        have t2 : w4.cell? ⟨b3, o3 + k * 3 + 2, none⟩ = some (.bool eg) := by rw [below_cells hb34 _ _ hb33]; exact s2
        have hb43 : b3 < w4.heap.size := Nat.lt_of_lt_of_le hb33 hb34.size
        have HB4 := Lib.hid (bl_then hb4 hb34)
        clear s0 s1 s2 hb5 hb34 hb33 hb4
        go_wp2_with fail
        refine wp_region_below (by kernel_rfl) (by kernel_rfl) ?_
        with_reducible refine q_want ?_ (fun K hK => ?_)
        · kernel_rfl
        apply Exists.intro
        constructor
        · (intro w1 hw1; have hc := hw1.cells; go_simp <;> rfl)
        go_simp; refine hK _ ?_; clear hK K
        with_reducible refine q_want ?_ (fun K hK => ?_)
        · kernel_rfl
        apply Exists.intro
        constructor
        · (intro w1 hw1; have hc := hw1.cells; go_simp <;> rfl)
        go_simp; refine hK _ ?_; clear hK K
        with_reducible refine q_want ?_ (fun K hK => ?_)
        · kernel_rfl
        apply Exists.intro
        constructor
        · (intro w1 hw1; have hc := hw1.cells; go_simp <;> rfl)
        go_simp; refine hK _ ?_; clear hK K
        with_reducible refine q_want ?_ (fun K hK => ?_)
        · kernel_rfl
        apply Exists.intro
        constructor
        · (intro w1 hw1; have hc := hw1.cells; go_simp <;> rfl)
        go_simp; refine hK _ ?_; clear hK K
        with_reducible refine q_want ?_ (fun K hK => ?_)
        · kernel_rfl
        apply Exists.intro
        constructor
        · (intro w1 hw1; have hc := hw1.cells; go_simp <;> rfl)
        go_simp; refine hK _ ?_; clear hK K
        with_reducible refine q_want ?_ (fun K hK => ?_)
        · kernel_rfl
        apply Exists.intro
        constructor
        · (intro w1 hw1; have hc := hw1.cells; go_simp <;> rfl)
        go_simp; refine hK _ ?_; clear hK K
        with_reducible refine q_want ?_ (fun K hK => ?_)
        · kernel_rfl
        apply Exists.intro
        constructor
        · (intro w1 hw1; have hc := hw1.cells; go_simp <;> rfl)
        go_simp; refine hK _ ?_; clear hK K
        with_reducible refine q_want ?_ (fun K hK => ?_)
        · kernel_rfl
        apply Exists.intro
        constructor
        · (intro w1 hw1; have hc := hw1.cells; go_simp <;> rfl)
        go_simp; refine hK _ ?_; clear hK K
        with_reducible refine q_want ?_ (fun K hK => ?_)
        · kernel_rfl
        apply Exists.intro
        constructor
        · (intro w1 hw1; have hc := hw1.cells; go_simp <;> rfl)
        go_simp; refine hK _ ?_; clear hK K
        with_reducible refine q_want ?_ (fun K hK => ?_)
        · kernel_rfl
        apply Exists.intro
        constructor
        · (intro w1 hw1; have hc := hw1.cells; go_simp <;> rfl)
        go_simp; refine hK _ ?_; clear hK K
        with_reducible refine q_want ?_ (fun K hK => ?_)
        · kernel_rfl
        apply Exists.intro
        constructor
        · (intro w1 hw1; have hc := hw1.cells; go_simp <;> rfl)
        go_simp; refine hK _ ?_; clear hK K
        with_reducible refine q_want ?_ (fun K hK => ?_)
        · kernel_rfl
        apply Exists.intro
        constructor
        · (intro w1 hw1; have hc := hw1.cells; go_simp <;> rfl)
        go_simp; refine hK _ ?_; clear hK K
        with_reducible refine q_want ?_ (fun K hK => ?_)
        · kernel_rfl
        apply Exists.intro
        constructor
        · (intro w1 hw1; have hc := hw1.cells; go_simp <;> rfl)
        go_simp; refine hK _ ?_; clear hK K
        with_reducible refine q_want ?_ (fun K hK => ?_)
        · kernel_rfl
        apply Exists.intro
        constructor
        · (intro w1 hw1; have hc := hw1.cells; go_simp <;> rfl)
        go_simp; refine hK _ ?_; clear hK K
        with_reducible refine q_want ?_ (fun K hK => ?_)
        · kernel_rfl
        apply Exists.intro
        constructor
        · (intro w1 hw1; have hc := hw1.cells; go_simp <;> rfl)
        go_simp; refine hK _ ?_; clear hK K
        with_reducible refine q_want ?_ (fun K hK => ?_)
        · kernel_rfl
        apply Exists.intro
        constructor
        · (intro w1 hw1; have hc := hw1.cells; go_simp <;> rfl)
        go_simp; refine hK _ ?_; clear hK K
        with_reducible refine q_want ?_ (fun K hK => ?_)
        · kernel_rfl
        apply Exists.intro
        constructor
        · (intro w1 hw1; have hc := hw1.cells; go_simp <;> rfl)
        go_simp; refine hK _ ?_; clear hK K
        with_reducible refine q_want ?_ (fun K hK => ?_)
        · kernel_rfl
        apply Exists.intro
        constructor
        · (intro w1 hw1; have hc := hw1.cells; go_simp <;> rfl)
        go_simp; refine hK _ ?_; clear hK K
        with_reducible refine q_want ?_ (fun K hK => ?_)
        · kernel_rfl
        apply Exists.intro
        constructor
        · (intro w1 hw1; have hc := hw1.cells; go_simp <;> rfl)
        go_simp; refine hK _ ?_; clear hK K
        with_reducible refine q_want ?_ (fun K hK => ?_)
        · kernel_rfl
        apply Exists.intro
        constructor
        · (intro w1 hw1; have hc := hw1.cells; go_simp <;> rfl)
        go_simp; refine hK _ ?_; clear hK K
        with_reducible refine q_want ?_ (fun K hK => ?_)
        · kernel_rfl
        apply Exists.intro
        constructor
        · (intro w1 hw1; have hc := hw1.cells; go_simp <;> rfl)
        go_simp; refine hK _ ?_; clear hK K
        with_reducible refine q_want ?_ (fun K hK => ?_)
        · kernel_rfl
        apply Exists.intro
        constructor
        · (intro w1 hw1; have hc := hw1.cells; go_simp <;> rfl)
        go_simp; refine hK _ ?_; clear hK K
        with_reducible refine q_want ?_ (fun K hK => ?_)
        · kernel_rfl
        apply Exists.intro
        constructor
        · (intro w1 hw1; have hc := hw1.cells; go_simp <;> rfl)
        go_simp; refine hK _ ?_; clear hK K
        with_reducible refine q_want ?_ (fun K hK => ?_)
        · kernel_rfl
        apply Exists.intro
        constructor
        · (intro w1 hw1; have hc := hw1.cells; go_simp <;> rfl)
        go_simp; refine hK _ ?_; clear hK K
        with_reducible refine q_want ?_ (fun K hK => ?_)
        · kernel_rfl
        apply Exists.intro
        constructor
        · (intro w1 hw1; have hc := hw1.cells; go_simp <;> rfl)
        go_simp; refine hK _ ?_; clear hK K
        with_reducible refine q_want ?_ (fun K hK => ?_)
        · kernel_rfl
        apply Exists.intro
        constructor
        · (intro w1 hw1; have hc := hw1.cells; go_simp <;> rfl)
        go_simp; refine hK _ ?_; clear hK K
        with_reducible refine q_want ?_ (fun K hK => ?_)
        · kernel_rfl
        apply Exists.intro
        constructor
        · (intro w1 hw1; have hc := hw1.cells; go_simp <;> rfl)
        go_simp; refine hK _ ?_; clear hK K
        with_reducible refine q_want ?_ (fun K hK => ?_)
        · kernel_rfl
        apply Exists.intro
        constructor
        · (intro w1 hw1; have hc := hw1.cells; go_simp <;> rfl)
        go_simp; refine hK _ ?_; clear hK K
        with_reducible refine q_want ?_ (fun K hK => ?_)
        · kernel_rfl
        apply Exists.intro
        constructor
        · (intro w1 hw1; have hc := hw1.cells; go_simp <;> rfl)
        go_simp; refine hK _ ?_; clear hK K
        with_reducible refine q_want ?_ (fun K hK => ?_)
        · kernel_rfl
        apply Exists.intro
        constructor
        · intro w1 hw1
          have hc := hw1.cells
          go_simp
          first
            | (go_at_call 10; exact quiet_call hw1 (hRANK _ (bl_then (bl_alloc HB4.out _) hw1.below)))
        go_simp; refine hK _ ?_; clear hK K
        with_reducible refine q_want ?_ (fun K hK => ?_)
        · kernel_rfl
        apply Exists.intro
        constructor
        · (intro w1 hw1; have hc := hw1.cells; go_simp <;> rfl)
        go_simp; refine hK _ ?_; clear hK K
        with_reducible refine q_want ?_ (fun K hK => ?_)
        · kernel_rfl
        apply Exists.intro
        constructor
        · (intro w1 hw1; have hc := hw1.cells; go_simp <;> rfl)
        go_simp; refine hK _ ?_; clear hK K
        with_reducible refine q_want ?_ (fun K hK => ?_)
        · kernel_rfl
        apply Exists.intro
        constructor
        · (intro w1 hw1; have hc := hw1.cells; go_simp <;> rfl)
        go_simp; refine hK _ ?_; clear hK K
        refine wpQuiet_nil ?_
        intro w9 hw9
        have HB9 := Lib.hid (bl_then HBR.out (bl_then (bl_alloc HB4.out _) hw9.below))
        go_wp2_with fail
        exact ⟨⟨k + 1, by omega, by go_num, HB9.out⟩, by simp [intOf]; omega⟩
      · obtain rfl : k = es.length := by omega
        have e0n : (es.length < es.length) = False := by simp
        obtain ⟨n, hn⟩ : ∃ n, Inc.rk (es.map (·.key)) q = n := ⟨_, rfl⟩
        have hnl : n ≤ es.length := by have := Inc.rk_le (es.map (·.key)) q; rw [List.length_map] at this; omega
        obtain ⟨m, hm⟩ : ∃ m, Inc.rk (es.map (·.key)) p = m := ⟨_, rfl⟩
        have hml : m ≤ es.length := by have := Inc.rk_le (es.map (·.key)) p; rw [List.length_map] at this; omega
        have hqp : q ≤ p → n ≤ m := fun h => by rw [← hn, ← hm]; exact Inc.rk_mono _ h
        have hpq : p ≤ q → m ≤ n := fun h => by rw [← hn, ← hm]; exact Inc.rk_mono _ h
        obtain ⟨st, hst⟩ : ∃ st, Inc.stands (es.map (·.key)) q = st := ⟨_, rfl⟩
        have hsu := Inc.rk_succ HR.out q
        rw [hn, hst] at hsu
        have hkey : st = true → (Inc.getE es q).key = q := fun h => Inc.getE_key (hst.trans h)
        have hno : st = false → Inc.getE es q = Inc.noEnt := fun h => by unfold Inc.getE; rw [hst, h]; rfl
        have hGET : ∀ w', Below wr.heap.size wr w' → Calls Try.prog 9 #[.pointer (some ⟨b, 0, none⟩), .int .u64 q] w' fun ed w'' => ed = .returned (.tuple #[entV (Inc.getE es q), .bool st]) ∧ Below w'.heap.size w' w'' := by
          intro w' hb
          have := runGet_any ((HRUN.out.below HBR.out).below hb) HG.out q hq0 hq
          rw [hst] at this
          exact this
        have hRQ : ∀ w', Below wr.heap.size wr w' → Calls Try.prog 10 #[.pointer (some ⟨b, 0, none⟩), .int .u64 q] w' fun ed w'' => ed = .returned (.int .i64 n) ∧ Below w'.heap.size w' w'' := by
          intro w' hb
          have := runRank_any ((HRUN.out.below HBR.out).below hb) HG.out q hq0 hq
          rw [hn] at this
          exact this
        have hRP : ∀ w', Below wr.heap.size wr w' → Calls Try.prog 10 #[.pointer (some ⟨b, 0, none⟩), .int .u64 p] w' fun ed w'' => ed = .returned (.int .i64 m) ∧ Below w'.heap.size w' w'' := by
          intro w' hb
          have := runRank_any ((HRUN.out.below HBR.out).below hb) HG.out p hp0 hp
          rw [hm] at this
          exact this
        have hRS : q < 18446744073709551615 → ∀ w', Below wr.heap.size wr w' → Calls Try.prog 10 #[.pointer (some ⟨b, 0, none⟩), .int .u64 (q + 1)] w' fun ed w'' => ed = .returned (.int .i64 ((n + (if st then 1 else 0) : Nat) : Int)) ∧ Below w'.heap.size w' w'' := by
          intro hlt w' hb
          have := runRank_any ((HRUN.out.below HBR.out).below hb) HG.out (q + 1) (by omega) (by omega)
          rw [hsu] at this
          exact this
        have c1 : decide ((n : Int) < 0) = false := by simp <;> omega
        have c2 : (es.length < n) = False := by simp; omega
        clear HES HE2 HR HG HRUN hn hm hst hsu
        generalize Inc.getE es q = x at *
        have c3 : IntKind.i64.wrap ((n : Int) + 1) = (n : Int) + 1 := by rw [IntKind.wrap_i64]; omega
        have c4 : ((n : Int) == (n : Int) + 1) = false := by simp; omega
        have c5 : ((n : Int) = (n : Int) + 1) = False := by simp; omega
        cases st with
        | true =>
          have hx := hkey rfl
          obtain ⟨xk, xv, xg⟩ := x
          obtain rfl : xk = q := hx
          clear hkey hno
          by_cases hq9 : xk < 18446744073709551615
          · have q9 : decide (xk < 18446744073709551615) = true := by simpa using hq9
            have q8 : IntKind.u64.wrap (xk + 1) = xk + 1 := by rw [IntKind.wrap_u64]; omega
            have hRT := hRS hq9
            rw [show ((n + (if true = true then 1 else 0) : Nat) : Int) = (n : Int) + 1 by simp] at hRT
            go_wp2_with fail
            refine (hRQ _ (Below.refl _ _)).mono ?_
            rintro ed w3 ⟨rfl, hb3⟩
            go_wp2_with fail
            refine (hGET _ hb3).mono ?_
            rintro ed w4 ⟨rfl, hb4⟩
            unfold entV
            have HB4 := Lib.hid (bl_then hb3 hb4)
            go_wp2_with fail
            refine (hRT _ (bl_alloc HB4.out _)).mono ?_
            rintro ed w5 ⟨rfl, hb5⟩
            have HB5 := Lib.hid (bl_then (bl_alloc HB4.out _) hb5)
            go_wp2_with fail
            refine (hRP _ HB5.out).mono ?_
            rintro ed w7 ⟨rfl, hb7⟩
            rcases Int.lt_trichotomy p xk with h3 | h3 | h3
            · have d1 : decide (xk < p) = false := by simp; omega
              have d2 : decide (p < xk) = true := by simpa using h3
              have d3 : (m ≤ n) = True := by have := hpq (by omega); simp; omega
              clear hqp hpq
              go_wp2_with fail
              go_ret
              exact ⟨rfl, bl_then HB02.out (bl_then HBR.out (bl_then HB5.out hb7))⟩
            · subst h3
              have d1 : decide (p < p) = false := by simp
              have d3 : (m ≤ n) = True := by have := hpq (by omega); simp; omega
              have d4 : (n ≤ m) = True := by have := hqp (by omega); simp; omega
              clear hqp hpq
              go_wp2_with fail
              go_ret
              exact ⟨rfl, bl_then HB02.out (bl_then HBR.out (bl_then HB5.out hb7))⟩
            · have d1 : decide (xk < p) = true := by simpa using h3
              have d2 : decide (p < xk) = false := by simp; omega
              have d4 : (n ≤ m) = True := by have := hqp (by omega); simp; omega
              clear hqp hpq
              go_wp2_with fail
              go_ret
              exact ⟨rfl, bl_then HB02.out (bl_then HBR.out (bl_then HB5.out hb7))⟩
          · have q9 : decide (xk < 18446744073709551615) = false := by simpa using hq9
            go_wp2_with fail
            refine (hRQ _ (Below.refl _ _)).mono ?_
            rintro ed w3 ⟨rfl, hb3⟩
            go_wp2_with fail
            refine (hGET _ hb3).mono ?_
            rintro ed w4 ⟨rfl, hb4⟩
            unfold entV
            have HB4 := Lib.hid (bl_then hb3 hb4)
            go_wp2_with fail
            refine (hRP _ (bl_alloc HB4.out _)).mono ?_
            rintro ed w7 ⟨rfl, hb7⟩
            rcases Int.lt_trichotomy p xk with h3 | h3 | h3
            · have d1 : decide (xk < p) = false := by simp; omega
              have d2 : decide (p < xk) = true := by simpa using h3
              have d3 : (m ≤ n) = True := by have := hpq (by omega); simp; omega
              clear hqp hpq
              go_wp2_with fail
              go_ret
              exact ⟨rfl, bl_then HB02.out (bl_then HBR.out (bl_then (bl_alloc HB4.out _) hb7))⟩
            · subst h3
              have d1 : decide (p < p) = false := by simp
              have d3 : (m ≤ n) = True := by have := hpq (by omega); simp; omega
              have d4 : (n ≤ m) = True := by have := hqp (by omega); simp; omega
              clear hqp hpq
              go_wp2_with fail
              go_ret
              exact ⟨rfl, bl_then HB02.out (bl_then HBR.out (bl_then (bl_alloc HB4.out _) hb7))⟩
            · have d1 : decide (xk < p) = true := by simpa using h3
              have d2 : decide (p < xk) = false := by simp; omega
              have d4 : (n ≤ m) = True := by have := hqp (by omega); simp; omega
              clear hqp hpq
              go_wp2_with fail
              go_ret
              exact ⟨rfl, bl_then HB02.out (bl_then HBR.out (bl_then (bl_alloc HB4.out _) hb7))⟩
        | false =>
          obtain rfl := hno rfl
          clear hkey hno
          by_cases hq9 : q < 18446744073709551615
          · have q9 : decide (q < 18446744073709551615) = true := by simpa using hq9
            have q8 : IntKind.u64.wrap (q + 1) = q + 1 := by rw [IntKind.wrap_u64]; omega
            have hRT := hRS hq9
            rw [show ((n + (if false = true then 1 else 0) : Nat) : Int) = (n : Int) by simp] at hRT
            go_wp2_with fail
            refine (hRQ _ (Below.refl _ _)).mono ?_
            rintro ed w3 ⟨rfl, hb3⟩
            go_wp2_with fail
            refine (hGET _ hb3).mono ?_
            rintro ed w4 ⟨rfl, hb4⟩
            unfold entV Inc.noEnt
            have HB4 := Lib.hid (bl_then hb3 hb4)
            go_wp2_with fail
            refine (hRT _ (bl_alloc HB4.out _)).mono ?_
            rintro ed w5 ⟨rfl, hb5⟩
            have HB5 := Lib.hid (bl_then (bl_alloc HB4.out _) hb5)
            go_wp2_with fail
            refine (hRT _ HB5.out).mono ?_
            rintro ed w6 ⟨rfl, hb6⟩
            have HB6 := Lib.hid (bl_then HB5.out hb6)
            go_wp2_with fail
            refine (hRP _ HB6.out).mono ?_
            rintro ed w7 ⟨rfl, hb7⟩
            rcases Int.lt_trichotomy p q with h3 | h3 | h3
            · have d1 : decide (q < p) = false := by simp; omega
              have d2 : decide (p < q) = true := by simpa using h3
              have d3 : (m ≤ n) = True := by have := hpq (by omega); simp; omega
              clear hqp hpq
              go_wp2_with fail
              go_ret
              exact ⟨rfl, bl_then HB02.out (bl_then HBR.out (bl_then HB6.out hb7))⟩
            · subst h3
              have d1 : decide (p < p) = false := by simp
              have d3 : (m ≤ n) = True := by have := hpq (by omega); simp; omega
              have d4 : (n ≤ m) = True := by have := hqp (by omega); simp; omega
              clear hqp hpq
              go_wp2_with fail
              go_ret
              exact ⟨rfl, bl_then HB02.out (bl_then HBR.out (bl_then HB6.out hb7))⟩
            · have d1 : decide (q < p) = true := by simpa using h3
              have d2 : decide (p < q) = false := by simp; omega
              have d4 : (n ≤ m) = True := by have := hqp (by omega); simp; omega
              clear hqp hpq
              go_wp2_with fail
              go_ret
              exact ⟨rfl, bl_then HB02.out (bl_then HBR.out (bl_then HB6.out hb7))⟩
          · have q9 : decide (q < 18446744073709551615) = false := by simpa using hq9
            go_wp2_with fail
            refine (hRQ _ (Below.refl _ _)).mono ?_
            rintro ed w3 ⟨rfl, hb3⟩
            go_wp2_with fail
            refine (hGET _ hb3).mono ?_
            rintro ed w4 ⟨rfl, hb4⟩
            unfold entV Inc.noEnt
            have HB4 := Lib.hid (bl_then hb3 hb4)
            go_wp2_with fail
            refine (hRP _ (bl_alloc HB4.out _)).mono ?_
            rintro ed w7 ⟨rfl, hb7⟩
            rcases Int.lt_trichotomy p q with h3 | h3 | h3
            · have d1 : decide (q < p) = false := by simp; omega
              have d2 : decide (p < q) = true := by simpa using h3
              have d3 : (m ≤ n) = True := by have := hpq (by omega); simp; omega
              clear hqp hpq
              go_wp2_with fail
              go_ret
              exact ⟨rfl, bl_then HB02.out (bl_then HBR.out (bl_then (bl_alloc HB4.out _) hb7))⟩
            · subst h3
              have d1 : decide (p < p) = false := by simp
              have d3 : (m ≤ n) = True := by have := hpq (by omega); simp; omega
              have d4 : (n ≤ m) = True := by have := hqp (by omega); simp; omega
              clear hqp hpq
              go_wp2_with fail
              go_ret
              exact ⟨rfl, bl_then HB02.out (bl_then HBR.out (bl_then (bl_alloc HB4.out _) hb7))⟩
            · have d1 : decide (q < p) = true := by simpa using h3
              have d2 : decide (p < q) = false := by simp; omega
              have d4 : (n ≤ m) = True := by have := hqp (by omega); simp; omega
              clear hqp hpq
              go_wp2_with fail
              go_ret
              exact ⟨rfl, bl_then HB02.out (bl_then HBR.out (bl_then (bl_alloc HB4.out _) hb7))⟩
  · have hd : Inc.entCode es ≠ 0 ∨ (Inc.entCode es = 0 ∧ eps < 2) ∨ (Inc.entCode es = 0 ∧ ¬ eps < 2 ∧ 64 < eps) := by
      unfold Inc.newCode at hc
      split at hc <;> omega
    rcases hd with hd | ⟨hd, he⟩ | ⟨hd, he, he2⟩
    · have hd' : (Inc.entCode es != 0) = true := by simpa using hd
      go_enter Try.func3, Try.ntmps3
      go_wp2_with fail
      refine (shown_any w).mono ?_
      rintro ed w1 ⟨rfl, hb1⟩
      go_wp2_with fail
      refine (runNew_any eps es hel hes _ w1 (ERow.below HE.out hb1)).mono ?_
      rintro ed w2 ⟨hb2, m1, _⟩
      obtain rfl := m1 hc
      go_wp2_with fail
      refine (refCheck_any es _ w2 (by omega) (ERow.below HE.out (bl_then hb1 hb2))).mono ?_
      rintro ed w3 ⟨rfl, hb3⟩
      go_wp2_with fail
      go_ret
      exact ⟨rfl, bl_then (bl_then hb1 hb2) hb3⟩
    · have he' : decide (eps < 2) = true := by simpa using he
      go_enter Try.func3, Try.ntmps3
      go_wp2_with fail
      refine (shown_any w).mono ?_
      rintro ed w1 ⟨rfl, hb1⟩
      go_wp2_with fail
      refine (runNew_any eps es hel hes _ w1 (ERow.below HE.out hb1)).mono ?_
      rintro ed w2 ⟨hb2, m1, _⟩
      obtain rfl := m1 hc
      go_wp2_with fail
      refine (refCheck_any es _ w2 (by omega) (ERow.below HE.out (bl_then hb1 hb2))).mono ?_
      rintro ed w3 ⟨rfl, hb3⟩
      rw [hd]
      go_wp2_with fail
      go_ret
      exact ⟨rfl, bl_then (bl_then hb1 hb2) hb3⟩
    · have he' : decide (eps < 2) = false := by simpa using he
      have he2' : decide (64 < eps) = true := by simpa using he2
      go_enter Try.func3, Try.ntmps3
      go_wp2_with fail
      refine (shown_any w).mono ?_
      rintro ed w1 ⟨rfl, hb1⟩
      go_wp2_with fail
      refine (runNew_any eps es hel hes _ w1 (ERow.below HE.out hb1)).mono ?_
      rintro ed w2 ⟨hb2, m1, _⟩
      obtain rfl := m1 hc
      go_wp2_with fail
      refine (refCheck_any es _ w2 (by omega) (ERow.below HE.out (bl_then hb1 hb2))).mono ?_
      rintro ed w3 ⟨rfl, hb3⟩
      rw [hd]
      go_wp2_with fail
      go_ret
      exact ⟨rfl, bl_then (bl_then hb1 hb2) hb3⟩
end Go.Proofs.Ytdfkgkidaffcgaa
