/- RunPlaces answers true for every list of entries, every eps, every two keys, where what it reads is of bulk at most 1048576 (the row's own bound); what came in reads as it did. Walks: sameSegment, sameList, sameLevels of what is the same. Walk: RunAgain. -/
import Derived.Test.YtdfkgkidaffcgaaRows
import Derived.WalkKit
import Derived.ProofKit
import Derived.OpenShut
import Derived.ChangeOld
import Derived.Below
import Derived.JoinedCond
import Derived.Deep.Slices
import Derived.Deep.Fields
import Derived.ChangeSame
import Derived.Test.YtdfkgkidaffcgaaJ20
set_option linter.all false
namespace Go.Proofs.Ytdfkgkidaffcgaa
open Go.ChangeShapes Go.WideShapes Go.Deep Go.ChangeAt Go.RowKit
theorem bulk_one {H : Type} (d : DataW H) : 1 ≤ Rows.uptoBulk d := by
  cases d with
  | lit l => cases l <;> simp [Rows.uptoBulk]
  | nil => simp [Rows.uptoBulk]
  | ptr d => simp [Rows.uptoBulk]
  | slice elems spare => simp [Rows.uptoBulk]
  | agg parts => simp [Rows.uptoBulk]
  | iface t d => simp [Rows.uptoBulk]
  | map entries => simp [Rows.uptoBulk]
  | held h => simp [Rows.uptoBulk]
theorem bulk_len {H : Type} (l : List (DataW H)) : l.length ≤ Rows.uptoBulkAll l := by
  induction l with
  | nil => simp
  | cons x r ih => have := bulk_one x; simp only [Rows.uptoBulkAll, List.length_cons]; omega

set_option maxRecDepth 100000 in
/-- entries that came in: what the walks ask of them -/
theorem open_ents {H : Type} {enc : TypeId × Value → H} {W : World} {v : Value} {d : DataW H} {p : List MemPlace} (hv : Value.okWide Try.prog W .any 0 22 v)
    (h : DataW.Trod enc Try.prog W 0 (fun _ => true) true 22 v d p) : ∃ es : List Inc.Ent, ERow W v es ∧ es.length ≤ Rows.uptoBulk d ∧ ∀ e ∈ es, Inc.EntWf e := by
  obtain ⟨A, len, cap, rfl⟩ := okWide_slice Try.underlying22 hv
  obtain ⟨fuel, hf⟩ := h
  rcases open_slice Try.underlying22 hf with ⟨hcs, hx⟩ | ⟨a, len', cap', m, n, D, Pl, hcs, hb, hl, hm, hmm, hx, hi⟩
  · simp only [Value.cells, List.cons.injEq, Value.slice.injEq, and_true] at hcs
    obtain ⟨rfl, rfl, rfl⟩ := hcs
    exact ⟨[], Row.nil _ _, by simp, by simp⟩
  · simp only [Value.cells, List.cons.injEq, Value.slice.injEq, and_true] at hcs
    obtain ⟨rfl, rfl, rfl⟩ := hcs
    simp only [if_true] at hmm
    subst hmm
    have hC : Try.prog.cellsOf 31 = 3 := by kernel_rfl
    have one : ∀ i, ∃ e : Inc.Ent, i < len → Inc.EntWf e ∧ W.cell? (a.add (i * 3)) = some (.int .u64 e.key) ∧ W.cell? (a.add (i * 3 + 1)) = some (.int .u64 e.val) ∧ W.cell? (a.add (i * 3 + 2)) = some (.bool e.gone) := by
      intro i
      by_cases hil : i < len
      · obtain ⟨cs, hc, ht⟩ := hi i (by omega)
        rw [hC] at hc
        obtain ⟨xs, k, _, _, hcl, hxl, hfd⟩ := DataW.trod_struct Try.underlying31 ht
        obtain ⟨_, hcn, hat⟩ := World.cells?_some hc
        match cs, hcn with
        | [c0, c1, c2], _ =>
          have k23 : Try.prog.cellsOf 23 = 1 := by kernel_rfl
          have k4 : Try.prog.cellsOf 4 = 1 := by kernel_rfl
          have h0 : DataW.trod enc Try.prog W 0 (fun _ => true) true k 23 (([c0, c1, c2].drop 0).take (Try.prog.cellsOf 23)) = xs[0]? := hfd 0 _ rfl
          have h1 : DataW.trod enc Try.prog W 0 (fun _ => true) true k 23 (([c0, c1, c2].drop 1).take (Try.prog.cellsOf 23)) = xs[1]? := hfd 1 _ rfl
          have h2 : DataW.trod enc Try.prog W 0 (fun _ => true) true k 4 (([c0, c1, c2].drop 2).take (Try.prog.cellsOf 4)) = xs[2]? := hfd 2 _ rfl
          rw [k23] at h0 h1
          rw [k4] at h2
          have hxl : xs.length = 3 := hxl
          match xs, hxl with
          | [x0, x1, x2], _ =>
            obtain ⟨n0, e0, _, w0⟩ := DataW.trod_int Try.underlying23 h0
            obtain ⟨n1, e1, _, w1⟩ := DataW.trod_int Try.underlying23 h1
            obtain ⟨b2, e2, _⟩ := DataW.trod_bool Try.underlying4 h2
            obtain rfl : c0 = .int .u64 n0 := by simpa using e0
            obtain rfl : c1 = .int .u64 n1 := by simpa using e1
            obtain rfl : c2 = .bool b2 := by simpa using e2
            have r0 : 0 ≤ n0 ∧ n0 ≤ 18446744073709551615 := by simpa [Lit.wf, IntKind.min, IntKind.max, IntKind.signed, IntKind.bits] using w0
            have r1 : 0 ≤ n1 ∧ n1 ≤ 18446744073709551615 := by simpa [Lit.wf, IntKind.min, IntKind.max, IntKind.signed, IntKind.bits] using w1
            refine ⟨⟨n0, n1, b2⟩, fun _ => ⟨⟨r0.1, by show n0 < _; omega, r1.1, by show n1 < _; omega⟩, ?_, ?_, ?_⟩⟩
            · have := hat 0 (by omega); rw [Go.Deep.add_add] at this; exact this
            · have := hat 1 (by omega); rw [Go.Deep.add_add] at this; exact this
            · have := hat 2 (by omega); rw [Go.Deep.add_add] at this; exact this
      · exact ⟨⟨0, 0, false⟩, fun h => absurd h hil⟩
    obtain ⟨f, hfn⟩ := Classical.axiomOfChoice one
    obtain ⟨blk, off, spot⟩ := a
    have hspot : 0 < len → spot = none := fun hp => by
      have := (hfn 0 hp).2.1
      simpa [Addr.add] using World.cell?_spot this
    have hwl : ∀ e ∈ (List.range len).map f, Inc.EntWf e := by
      intro e he
      obtain ⟨i, hir, rfl⟩ := List.mem_map.1 he
      exact (hfn i (by simpa using hir)).1
    have hlen : ((List.range len).map f).length = len := by simp
    refine ⟨(List.range len).map f, ⟨by rw [entVals_len], some ⟨blk, off, spot⟩, m, by rw [hlen], by omega, hm, fun hp => ?_⟩, ?_, hwl⟩
    · rw [hlen] at hp
      obtain rfl := hspot hp
      refine ⟨blk, off, rfl, ?_, fun t ht => ?_⟩
      · have := (hfn 0 hp).2.1
        unfold World.cell? at this
        rcases Nat.lt_or_ge blk W.heap.size with h | h
        · exact h
        · have hn : ((⟨blk, off, none⟩ : Addr).add (0 * 3)).block = blk := by simp [Addr.add]
          rw [hn, Array.getElem?_eq_none h] at this
          simp at this
      · rw [entVals_len, hlen] at ht
        have hq : t / 3 < len := by omega
        obtain ⟨_, q0, q1, q2⟩ := hfn (t / 3) hq
        have hget : ((List.range len).map f)[t / 3]? = some (f (t / 3)) := by simp [hq]
        have hfl := flat_get entCells 3 (fun _ => rfl) _ _ _ hget (t % 3) (by omega)
        have ht3 : t / 3 * 3 + t % 3 = t := by omega
        rw [ht3] at hfl
        show W.cell? ⟨blk, off + t, none⟩ = some ((((List.range len).map f).flatMap entCells).getD t undef)
        rw [hfl]
        have hmod : t % 3 = 0 ∨ t % 3 = 1 ∨ t % 3 = 2 := by omega
        have adr : ∀ j, (⟨blk, off, none⟩ : Addr).add j = ⟨blk, off + j, none⟩ := fun j => by unfold Addr.add; split <;> simp_all
        rcases hmod with h | h | h
        · rw [h, show off + t = off + (t / 3 * 3) by omega, ← adr]; exact q0
        · rw [h, show off + t = off + (t / 3 * 3 + 1) by omega, ← adr]; exact q1
        · rw [h, show off + t = off + (t / 3 * 3 + 2) by omega, ← adr]; exact q2
    · rw [hlen]
      injection hx with hx1 hx2
      rw [hx1]
      have := bulk_len ((List.range len).map D)
      simp only [Rows.uptoBulk]
      rw [List.length_map, List.length_range] at this
      omega
end Go.Proofs.Ytdfkgkidaffcgaa
namespace Go.Proofs.Ytdfkgkidaffcgaa.places
open Go.ChangeShapes Go.WideShapes Go.Deep Go.ChangeAt Go.RowKit
theorem own : ownKnob Try.prog.godebug = none := by kernel_rfl
theorem laidOut : laidOutB Try.prog = true := by kernel_rfl

set_option maxRecDepth 100000 in
theorem contract (H : Type) (enc : TypeId × Value → H) (W : World) (base : Nat) (args : Array Value) (ds gs : List (DataW H)) (before : List MemPlace)
    (hval : ∀ (j : Nat) t v, Try.f3.params[j]? = some t → args[j]? = some v → Value.okWide Try.prog W .any base t v)
    (hW : DataW.Whole enc Try.prog Try.f3.params.toList Rows.runPlacesSpec.vars false W args.toList ds gs before) (hk : Rows.uptoSmall H (ds ++ gs) = true) :
    Calls Try.prog 3 args W fun e W' => ∃ v, e = .returned v ∧ Rows.runPlacesSpec.post enc Try.prog Try.f3 false true false false W args v W' := by
  have hW' := hW
  obtain ⟨p, q, hA0, hV, rfl, hfz, hnd⟩ := hW
  have hA : DataW.TrodAll enc Try.prog W 0 (fun _ => true) true Try.f3.params.toList args.toList ds p := hA0
  rw [Try.params3] at hA hval
  obtain ⟨v0, vs0, d0, ds0, p0, q0, hargs, rfl, rfl, h0, r0⟩ := trodAll_cons hA
  obtain ⟨v1, vs1, d1, ds1, p1, q1, rfl, rfl, rfl, h1, r1⟩ := trodAll_cons r0
  obtain ⟨v2, vs2, d2, ds2, p2, q2, rfl, rfl, rfl, h2, r2⟩ := trodAll_cons r1
  obtain ⟨v3, vs3, d3, ds3, p3, q3, rfl, rfl, rfl, h3, r3⟩ := trodAll_cons r2
  obtain ⟨rfl, rfl, rfl⟩ := trodAll_nil r3
  obtain rfl : args = #[v0, v1, v2, v3] := by cases args; simp_all
  obtain ⟨rfl, rfl⟩ := trodVars_none hV
  have lt0 : ∀ x ∈ p0, x.block < W.heap.size := by obtain ⟨m, hm⟩ := h0; exact DataW.trod_lt m _ _ _ hm
  obtain ⟨es, hE, hlen, hwf⟩ := open_ents (hval 0 22 v0 rfl rfl) h0
  have k0 := h0
  obtain ⟨a1, rfl, rfl, rfl, w1⟩ := open_int Try.underlying3 (hval 1 3 v1 rfl rfl) h1
  obtain ⟨a2, rfl, rfl, rfl, w2⟩ := open_int Try.underlying23 (hval 2 23 v2 rfl rfl) h2
  obtain ⟨a3, rfl, rfl, rfl, w3⟩ := open_int Try.underlying23 (hval 3 23 v3 rfl rfl) h3
  have b2 : 0 ≤ a2 ∧ a2 ≤ 18446744073709551615 := by simpa [Lit.wf, IntKind.min, IntKind.max, IntKind.signed, IntKind.bits] using w2
  have b3 : 0 ≤ a3 ∧ a3 ≤ 18446744073709551615 := by simpa [Lit.wf, IntKind.min, IntKind.max, IntKind.signed, IntKind.bits] using w3
  have hsmall : es.length ≤ 4294967296 := by
    have hb : Rows.uptoBulkAll ([d0, .lit (.int .i64 a1), .lit (.int .u64 a2), .lit (.int .u64 a3)] ++ []) ≤ 1048576 := of_decide_eq_true hk
    simp only [List.cons_append, Rows.uptoBulkAll] at hb
    omega
  clear hA0
  refine (runPlaces_any es hsmall hwf a1 a2 a3 b2.1 (by omega) b3.1 (by omega) v0 W hE).mono fun e W' ⟨he, bel⟩ => ?_
  subst he
  exact ⟨_, rfl, _, _, _, [], _, [], hW', trodAll_mk1 (shut_bool Try.underlying4 _), (trodAll_cons_mk (Below.trod laidOut (by kernel_rfl) (of_decide_eq_true (by kernel_rfl)) k0 bel lt0) (trodAll_cons_mk (shut_int Try.underlying3 w1) (trodAll_cons_mk (shut_int Try.underlying23 w2) (trodAll_cons_mk (shut_int Try.underlying23 w3) trodAll_mk0)))), rfl, bel.frame _, fun h => by cases h⟩

set_option maxRecDepth 100000 in
theorem lifted (os : Os) (started : os.Started) (H : Type) (enc : TypeId × Value → H) (F : Stop.Interp) :
    ReturnsInHanded {} Try.checked os 3 .any ((Rows.OpenSpec.upto Rows.runPlacesSpec).pre6 enc Try.prog Try.f3 Rows.runPlacesUptoRow.domain false) (((Rows.OpenSpec.upto Rows.runPlacesSpec).at F).post enc Try.prog Try.f3 false true false false) := by
  refine returnsInHanded_of_cond (C := Try.checked) (s := Rows.OpenSpec.upto Rows.runPlacesSpec) (k := Rows.uptoSmall) rfl own started (by kernel_rfl) Try.func3
    (OpenSpec.witness (enc := enc) (C := Try.checked) (s := Rows.OpenSpec.upto Rows.runPlacesSpec) (k := Rows.uptoSmall) rfl false ⟨#[], #[.slice none 0 0, .int .i64 0, .int .u64 0, .int .u64 0], []⟩ 8 (by kernel_rfl) (by kernel_rfl) (by kernel_rfl)
      (x := ([.nil, .lit (.int .i64 0), .lit (.int .u64 0), .lit (.int .u64 0)], [], [])) (by kernel_rfl) rfl (by kernel_rfl)) ?_
  intro W base args ds gs before hval hW _ hk _
  exact contract H enc W base args ds gs before hval hW hk

theorem over : Rows.runPlacesUptoRow.holds Try.pinned (Rows.OpenSpec.upto Rows.runPlacesSpec) :=
  OpenClaim.holds_of_cond 3 Try.f3 rfl rfl rfl rfl rfl rfl rfl ⟨rfl, rfl, rfl, rfl, rfl⟩ rfl rfl rfl rfl rfl (by kernel_rfl) Try.func3 (by kernel_rfl)
    (of_decide_eq_true (by kernel_rfl)) (by unfold Func.isWrapper; first | (rw [if_pos (by decide +kernel)]; kernel_rfl) | (rw [if_neg (by decide +kernel)]; exact ⟨rfl, rfl⟩))
    (fun os started H enc _ F => lifted os started H enc F)

theorem proved : Rows.RunPlacesUptoSaid := over
#print axioms proved
end Go.Proofs.Ytdfkgkidaffcgaa.places
namespace Go.Proofs.Ytdfkgkidaffcgaa
open Go.RowKit

set_option maxRecDepth 100000 in
set_option maxHeartbeats 1600000 in
theorem sameSeg_any (s : Inc.Seg) (w : World) : Calls Try.prog 30 #[segV s, segV s] w fun e w' => e = .returned (.bool true) ∧ Below w.heap.size w w' := by
  unfold segV
  have hb := fun (x : Nat) (w : World) => run_bits x w
  obtain ⟨f, sl, ic, fr, ti⟩ := s
  go_enter Try.func30, Try.ntmps30
  go_wp2_with fail
  trace_state
  refine wp_region_below (by kernel_rfl) (by kernel_rfl) ?_
  with_reducible refine q_want ?_ (fun K hK => ?_)
  · kernel_rfl
  apply Exists.intro
  constructor
  · (intro w1 hw1; have hc := hw1.cells; go_simp <;> rfl)
  go_simp; refine hK _ ?_; clear hK K
  with_reducible refine q_want ?_ (fun K hK => ?_)
  · kernel_rfl
  apply Exists.intro
  constructor
  · (intro w1 hw1; have hc := hw1.cells; go_simp <;> rfl)
  go_simp; refine hK _ ?_; clear hK K
  with_reducible refine q_want ?_ (fun K hK => ?_)
  · kernel_rfl
  apply Exists.intro
  constructor
  · (intro w1 hw1; have hc := hw1.cells; go_simp <;> rfl)
  go_simp; refine hK _ ?_; clear hK K
  with_reducible refine q_want ?_ (fun K hK => ?_)
  · kernel_rfl
  apply Exists.intro
  constructor
  · (intro w1 hw1; have hc := hw1.cells; go_simp <;> rfl)
  go_simp; refine hK _ ?_; clear hK K
  with_reducible refine q_want ?_ (fun K hK => ?_)
  · kernel_rfl
  apply Exists.intro
  constructor
  · (intro w1 hw1; have hc := hw1.cells; go_simp <;> rfl)
  go_simp; refine hK _ ?_; clear hK K
  with_reducible refine q_want ?_ (fun K hK => ?_)
  · kernel_rfl
  apply Exists.intro
  constructor
  · (intro w1 hw1; have hc := hw1.cells; go_simp <;> rfl)
  go_simp; refine hK _ ?_; clear hK K
  with_reducible refine q_want ?_ (fun K hK => ?_)
  · kernel_rfl
  apply Exists.intro
  constructor
  · (intro w1 hw1; have hc := hw1.cells; go_simp <;> rfl)
  go_simp; refine hK _ ?_; clear hK K
  with_reducible refine q_want ?_ (fun K hK => ?_)
  · kernel_rfl
  apply Exists.intro
  constructor
  · (intro w1 hw1; have hc := hw1.cells; go_simp <;> rfl)
  go_simp; refine hK _ ?_; clear hK K
  with_reducible refine q_want ?_ (fun K hK => ?_)
  · kernel_rfl
  apply Exists.intro
  constructor
  · (intro w1 hw1; have hc := hw1.cells; go_simp <;> rfl)
  go_simp; refine hK _ ?_; clear hK K
  with_reducible refine q_want ?_ (fun K hK => ?_)
  · kernel_rfl
  apply Exists.intro
  constructor
  · (intro w1 hw1; have hc := hw1.cells; go_simp <;> rfl)
  go_simp; refine hK _ ?_; clear hK K
  with_reducible refine q_want ?_ (fun K hK => ?_)
  · kernel_rfl
  apply Exists.intro
  constructor
  · (intro w1 hw1; have hc := hw1.cells; go_simp <;> rfl)
  go_simp; refine hK _ ?_; clear hK K
  with_reducible refine q_want ?_ (fun K hK => ?_)
  · kernel_rfl
  apply Exists.intro
  constructor
  · (intro w1 hw1; have hc := hw1.cells; go_simp <;> rfl)
  go_simp; refine hK _ ?_; clear hK K
  with_reducible refine q_want ?_ (fun K hK => ?_)
  · kernel_rfl
  apply Exists.intro
  constructor
  · (intro w1 hw1; have hc := hw1.cells; go_simp <;> rfl)
  go_simp; refine hK _ ?_; clear hK K
  with_reducible refine q_want ?_ (fun K hK => ?_)
  · kernel_rfl
  apply Exists.intro
  constructor
  · (intro w1 hw1; have hc := hw1.cells; go_simp <;> rfl)
  go_simp; refine hK _ ?_; clear hK K
  with_reducible refine q_want ?_ (fun K hK => ?_)
  · kernel_rfl
  apply Exists.intro
  constructor
  · (intro w1 hw1; have hc := hw1.cells; go_simp <;> rfl)
  go_simp; refine hK _ ?_; clear hK K
  with_reducible refine q_want ?_ (fun K hK => ?_)
  · kernel_rfl
  apply Exists.intro
  constructor
  · (intro w1 hw1; have hc := hw1.cells; go_simp <;> rfl)
  go_simp; refine hK _ ?_; clear hK K
  with_reducible refine q_want ?_ (fun K hK => ?_)
  · kernel_rfl
  apply Exists.intro
  constructor
  · (intro w1 hw1; have hc := hw1.cells; go_simp <;> rfl)
  go_simp; refine hK _ ?_; clear hK K
  with_reducible refine q_want ?_ (fun K hK => ?_)
  · kernel_rfl
  apply Exists.intro
  constructor
  · (intro w1 hw1; have hc := hw1.cells; go_simp <;> rfl)
  go_simp; refine hK _ ?_; clear hK K
  with_reducible refine q_want ?_ (fun K hK => ?_)
  · kernel_rfl
  apply Exists.intro
  constructor
  · (intro w1 hw1; have hc := hw1.cells; go_simp <;> rfl)
  go_simp; refine hK _ ?_; clear hK K
  with_reducible refine q_want ?_ (fun K hK => ?_)
  · kernel_rfl
  apply Exists.intro
  constructor
  · (intro w1 hw1; have hc := hw1.cells; go_simp <;> rfl)
  go_simp; refine hK _ ?_; clear hK K
  with_reducible refine q_want ?_ (fun K hK => ?_)
  · kernel_rfl
  apply Exists.intro
  constructor
  · (intro w1 hw1; have hc := hw1.cells; go_simp <;> rfl)
  go_simp; refine hK _ ?_; clear hK K
  with_reducible refine q_want ?_ (fun K hK => ?_)
  · kernel_rfl
  apply Exists.intro
  constructor
  · (intro w1 hw1; have hc := hw1.cells; go_simp <;> rfl)
  go_simp; refine hK _ ?_; clear hK K
  with_reducible refine q_want ?_ (fun K hK => ?_)
  · kernel_rfl
  apply Exists.intro
  constructor
  · intro w1 hw1
    have hc := hw1.cells
    go_simp
    first
      | rfl
  go_simp; refine hK _ ?_; clear hK K
  with_reducible refine q_want ?_ (fun K hK => ?_)
  · kernel_rfl
  apply Exists.intro
  constructor
  · (intro w1 hw1; have hc := hw1.cells; go_simp <;> rfl)
  go_simp; refine hK _ ?_; clear hK K
  with_reducible refine q_want ?_ (fun K hK => ?_)
  · kernel_rfl
  apply Exists.intro
  constructor
  · (intro w1 hw1; have hc := hw1.cells; go_simp <;> rfl)
  go_simp; refine hK _ ?_; clear hK K
  with_reducible refine q_want ?_ (fun K hK => ?_)
  · kernel_rfl
  apply Exists.intro
  constructor
  · intro w1 hw1
    have hc := hw1.cells
    go_simp
    first
      | rfl
  go_simp; refine hK _ ?_; clear hK K
  with_reducible refine q_want ?_ (fun K hK => ?_)
  · kernel_rfl
  apply Exists.intro
  constructor
  · (intro w1 hw1; have hc := hw1.cells; go_simp <;> rfl)
  go_simp; refine hK _ ?_; clear hK K
  with_reducible refine q_want ?_ (fun K hK => ?_)
  · kernel_rfl
  apply Exists.intro
  constructor
  · (intro w1 hw1; have hc := hw1.cells; go_simp <;> rfl)
  go_simp; refine hK _ ?_; clear hK K
  with_reducible refine q_want ?_ (fun K hK => ?_)
  · kernel_rfl
  apply Exists.intro
  constructor
  · (intro w1 hw1; have hc := hw1.cells; go_simp <;> rfl)
  go_simp; refine hK _ ?_; clear hK K
  with_reducible refine q_want ?_ (fun K hK => ?_)
  · kernel_rfl
  apply Exists.intro
  constructor
  · (intro w1 hw1; have hc := hw1.cells; go_simp <;> rfl)
  go_simp; refine hK _ ?_; clear hK K
  with_reducible refine q_want ?_ (fun K hK => ?_)
  · kernel_rfl
  apply Exists.intro
  constructor
  · (intro w1 hw1; have hc := hw1.cells; go_simp <;> rfl)
  go_simp; refine hK _ ?_; clear hK K
  with_reducible refine q_want ?_ (fun K hK => ?_)
  · kernel_rfl
  apply Exists.intro
  constructor
  · intro w1 hw1
    have hc := hw1.cells
    go_simp
    first
      | rfl
  go_simp; refine hK _ ?_; clear hK K
  with_reducible refine q_want ?_ (fun K hK => ?_)
  · kernel_rfl
  apply Exists.intro
  constructor
  · (intro w1 hw1; have hc := hw1.cells; go_simp <;> rfl)
  go_simp; refine hK _ ?_; clear hK K
  with_reducible refine q_want ?_ (fun K hK => ?_)
  · kernel_rfl
  apply Exists.intro
  constructor
  · (intro w1 hw1; have hc := hw1.cells; go_simp <;> rfl)
  go_simp; refine hK _ ?_; clear hK K
  with_reducible refine q_want ?_ (fun K hK => ?_)
  · kernel_rfl
  apply Exists.intro
  constructor
  · intro w1 hw1
    have hc := hw1.cells
    go_simp
    first
      | rfl
  go_simp; refine hK _ ?_; clear hK K
  with_reducible refine q_want ?_ (fun K hK => ?_)
  · kernel_rfl
  apply Exists.intro
  constructor
  · (intro w1 hw1; have hc := hw1.cells; go_simp <;> rfl)
  go_simp; refine hK _ ?_; clear hK K
  with_reducible refine q_want ?_ (fun K hK => ?_)
  · kernel_rfl
  apply Exists.intro
  constructor
  · (intro w1 hw1; have hc := hw1.cells; go_simp <;> rfl)
  go_simp; refine hK _ ?_; clear hK K
  with_reducible refine q_want ?_ (fun K hK => ?_)
  · kernel_rfl
  apply Exists.intro
  constructor
  · (intro w1 hw1; have hc := hw1.cells; go_simp <;> rfl)
  go_simp; refine hK _ ?_; clear hK K
  refine wpQuiet_nil ?_
  intro w1 hw1
  go_wp2_with fail
  go_ret
  exact ⟨rfl, by (repeat (first | exact Below.refl _ _ | refine bl_alloc ?_ _ | refine bl_drew ?_ | (refine bl_set ?_ (by simp <;> omega) _) | refine bl_then ?_ (by assumption) | refine bl_cls ?_ (by assumption)))⟩

set_option maxHeartbeats 1600000 in
theorem sameList_any (es : List Inc.Ent) (hn : es.length ≤ 4294967296) (v u : Value) (w : World) (h : ERow w v es) (h' : ERow w u es) :
    Calls Try.prog 15 #[v, u] w fun e w' => e = .returned (.bool true) ∧ Below w.heap.size w w' := by
  have HR := Lib.hid h
  have HS := Lib.hid h'
  obtain ⟨_, A, cap, rfl, _, _, _⟩ := h
  obtain ⟨_, B, bap, rfl, _, _, _⟩ := h'
  go_enter Try.func15, Try.ntmps15
  go_wp2_with fail
  go_loopw [5] (fun x wr => ∃ k : Nat, k ≤ es.length ∧ x = .int .i64 k ∧ Below w.heap.size w wr) (fun x _ => es.length - (intOf x).toNat)
  case atStart => exact ⟨0, by omega, rfl, Below.refl _ _⟩
  case round =>
    obtain ⟨k, hk, rfl, hbel⟩ := hrel
    have HBEL := Lib.hid hbel
    by_cases hlt : k < es.length
    · have e0n : (k < es.length) = True := by simp; omega
      obtain ⟨e, he⟩ : ∃ e, es[k]? = some e := ⟨_, List.getElem?_eq_getElem hlt⟩
      obtain ⟨b, off, cap', hA, hb, c0, c1, c2⟩ := ERow.at_ (ERow.below HR.out hbel) he
      injection hA with hA _ hA2
      subst hA hA2
      obtain ⟨b', off', cap'', hA, hb', d0, d1, d2⟩ := ERow.at_ (ERow.below HS.out hbel) he
      injection hA with hA _ hA2
      subst hA hA2
      obtain ⟨key, val, gone⟩ := e
      simp only at c0 c1 c2 d0 d1 d2
      have e4 : 0 ≤ (k : Int) ∧ (k : Int) < (es.length : Int) := by omega
      have e5 : IntKind.i64.wrap ((k : Int) + 1) = ((k + 1 : Nat) : Int) := by rw [IntKind.wrap_i64]; omega
      clear he hbel
      go_wp2_with fail
      refine wp_region_below (by kernel_rfl) (by kernel_rfl) ?_
      with_reducible refine q_want ?_ (fun K hK => ?_)
      · kernel_rfl
      apply Exists.intro
      constructor
      · (intro w1 hw1; have hc := hw1.cells; go_simp <;> rfl)
      go_simp; refine hK _ ?_; clear hK K
      with_reducible refine q_want ?_ (fun K hK => ?_)
      · kernel_rfl
      apply Exists.intro
      constructor
      · (intro w1 hw1; have hc := hw1.cells; go_simp <;> rfl)
      go_simp; refine hK _ ?_; clear hK K
      with_reducible refine q_want ?_ (fun K hK => ?_)
      · kernel_rfl
      apply Exists.intro
      constructor
      · (intro w1 hw1; have hc := hw1.cells; go_simp <;> rfl)
      go_simp; refine hK _ ?_; clear hK K
      with_reducible refine q_want ?_ (fun K hK => ?_)
      · kernel_rfl
      apply Exists.intro
      constructor
      · (intro w1 hw1; have hc := hw1.cells; go_simp <;> rfl)
      go_simp; refine hK _ ?_; clear hK K
      with_reducible refine q_want ?_ (fun K hK => ?_)
      · kernel_rfl
      apply Exists.intro
      constructor
      · (intro w1 hw1; have hc := hw1.cells; go_simp <;> rfl)
      go_simp; refine hK _ ?_; clear hK K
      with_reducible refine q_want ?_ (fun K hK => ?_)
      · kernel_rfl
      apply Exists.intro
      constructor
      · (intro w1 hw1; have hc := hw1.cells; go_simp <;> rfl)
      go_simp; refine hK _ ?_; clear hK K
      with_reducible refine q_want ?_ (fun K hK => ?_)
      · kernel_rfl
      apply Exists.intro
      constructor
      · (intro w1 hw1; have hc := hw1.cells; go_simp <;> rfl)
      go_simp; refine hK _ ?_; clear hK K
      with_reducible refine q_want ?_ (fun K hK => ?_)
      · kernel_rfl
      apply Exists.intro
      constructor
      · (intro w1 hw1; have hc := hw1.cells; go_simp <;> rfl)
      go_simp; refine hK _ ?_; clear hK K
      with_reducible refine q_want ?_ (fun K hK => ?_)
      · kernel_rfl
      apply Exists.intro
      constructor
      · (intro w1 hw1; have hc := hw1.cells; go_simp <;> rfl)
      go_simp; refine hK _ ?_; clear hK K
      refine wpQuiet_nil ?_
      intro w1 hw1
      have HB1 := Lib.hid (show Below w.heap.size w w1 from bl_then HBEL.out hw1.below)
      go_wp2_with fail
      exact ⟨⟨k + 1, by omega, by go_num, HB1.out⟩, by simp [intOf]; omega⟩
    · obtain rfl : k = es.length := by omega
      have e0n : (es.length < es.length) = False := by simp
      go_wp2_with fail
      go_ret
      exact ⟨rfl, HBEL.out⟩

theorem cell_lt {w : World} {b o : Nat} {v : Value} (h : w.cell? ⟨b, o, none⟩ = some v) : b < w.heap.size := by
  unfold World.cell? at h
  rcases Nat.lt_or_ge b w.heap.size with h' | h'
  · exact h'
  · rw [Array.getElem?_eq_none h'] at h
    simp at h

set_option maxHeartbeats 3200000 in
theorem sameLevels_any (ls : List (List Inc.Seg)) (hn : ls.length ≤ 4294967296) (hls : ∀ l ∈ ls, l.length ≤ 4294967296) (v u : Value) (w : World) (h : LRow w v ls) (h' : LRow w u ls) :
    Calls Try.prog 16 #[v, u] w fun e w' => e = .returned (.bool true) ∧ Below w.heap.size w w' := by
  have HR := Lib.hid h
  have HS := Lib.hid h'
  obtain ⟨A, cap, rfl⟩ := h.shape
  obtain ⟨B, bap, rfl⟩ := h'.shape
  clear h h'
  go_enter Try.func16, Try.ntmps16
  go_wp2_with fail
  go_loopw [5] (fun x wr => ∃ k : Nat, k ≤ ls.length ∧ x = .int .i64 k ∧ Below w.heap.size w wr) (fun x _ => ls.length - (intOf x).toNat)
  case atStart => exact ⟨0, by omega, rfl, Below.refl _ _⟩
  case round =>
    obtain ⟨k, hk, rfl, hbel⟩ := hrel
    have HBEL := Lib.hid hbel
    by_cases hlt : k < ls.length
    · have e0n : (k < ls.length) = True := by simp; omega
      obtain ⟨l, hl⟩ : ∃ l, ls[k]? = some l := ⟨_, List.getElem?_eq_getElem hlt⟩
      have hll := hls l (List.mem_of_getElem? hl)
      obtain ⟨b, off, cap', x, hA, c0, hx⟩ := LRow.at_ (HR.out.below hbel) hl
      injection hA with hA _ hA2
      subst hA hA2
      obtain ⟨b', off', cap'', y, hA, d0, hy⟩ := LRow.at_ (HS.out.below hbel) hl
      injection hA with hA _ hA2
      subst hA hA2
      have HX := Lib.hid hx
      have HY := Lib.hid hy
      obtain ⟨_, A3, cap3, rfl, _, _, _⟩ := hx
      obtain ⟨_, B3, bap3, rfl, _, _, _⟩ := hy
      have hbl := cell_lt c0
      have hbl' := cell_lt d0
      have e4 : 0 ≤ (k : Int) ∧ (k : Int) < (ls.length : Int) := by omega
      have e5 : IntKind.i64.wrap ((k : Int) + 1) = ((k + 1 : Nat) : Int) := by rw [IntKind.wrap_i64]; omega
      clear hl hbel
      go_wp2_with fail
      refine wp_region_below (by kernel_rfl) (by kernel_rfl) ?_
      with_reducible refine q_want ?_ (fun K hK => ?_)
      · kernel_rfl
      apply Exists.intro
      constructor
      · (intro w1 hw1; have hc := hw1.cells; go_simp <;> rfl)
      go_simp; refine hK _ ?_; clear hK K
      with_reducible refine q_want ?_ (fun K hK => ?_)
      · kernel_rfl
      apply Exists.intro
      constructor
      · (intro w1 hw1; have hc := hw1.cells; go_simp <;> rfl)
      go_simp; refine hK _ ?_; clear hK K
      with_reducible refine q_want ?_ (fun K hK => ?_)
      · kernel_rfl
      apply Exists.intro
      constructor
      · (intro w1 hw1; have hc := hw1.cells; go_simp <;> rfl)
      go_simp; refine hK _ ?_; clear hK K
      with_reducible refine q_want ?_ (fun K hK => ?_)
      · kernel_rfl
      apply Exists.intro
      constructor
      · (intro w1 hw1; have hc := hw1.cells; go_simp <;> rfl)
      go_simp; refine hK _ ?_; clear hK K
      with_reducible refine q_want ?_ (fun K hK => ?_)
      · kernel_rfl
      apply Exists.intro
      constructor
      · (intro w1 hw1; have hc := hw1.cells; go_simp <;> rfl)
      go_simp; refine hK _ ?_; clear hK K
      with_reducible refine q_want ?_ (fun K hK => ?_)
      · kernel_rfl
      apply Exists.intro
      constructor
      · (intro w1 hw1; have hc := hw1.cells; go_simp <;> rfl)
      go_simp; refine hK _ ?_; clear hK K
      with_reducible refine q_want ?_ (fun K hK => ?_)
      · kernel_rfl
      apply Exists.intro
      constructor
      · (intro w1 hw1; have hc := hw1.cells; go_simp <;> rfl)
      go_simp; refine hK _ ?_; clear hK K
      with_reducible refine q_want ?_ (fun K hK => ?_)
      · kernel_rfl
      apply Exists.intro
      constructor
      · (intro w1 hw1; have hc := hw1.cells; go_simp <;> rfl)
      go_simp; refine hK _ ?_; clear hK K
      with_reducible refine q_want ?_ (fun K hK => ?_)
      · kernel_rfl
      apply Exists.intro
      constructor
      · (intro w1 hw1; have hc := hw1.cells; go_simp <;> rfl)
      go_simp; refine hK _ ?_; clear hK K
      with_reducible refine q_want ?_ (fun K hK => ?_)
      · kernel_rfl
      apply Exists.intro
      constructor
      · (intro w1 hw1; have hc := hw1.cells; go_simp <;> rfl)
      go_simp; refine hK _ ?_; clear hK K
      with_reducible refine q_want ?_ (fun K hK => ?_)
      · kernel_rfl
      apply Exists.intro
      constructor
      · (intro w1 hw1; have hc := hw1.cells; go_simp <;> rfl)
      go_simp; refine hK _ ?_; clear hK K
      refine wpQuiet_nil ?_
      intro w1 hw1
      have HB1 := Lib.hid (show Below w.heap.size w w1 from bl_then HBEL.out hw1.below)
      have c1 : w1.cell? ⟨b, off + k, none⟩ = some (.slice A3 l.length cap3) := (hw1.cells _ _ hbl).trans c0
      have d1 : w1.cell? ⟨b', off' + k, none⟩ = some (.slice B3 l.length bap3) := (hw1.cells _ _ hbl').trans d0
      have HX1 := Lib.hid (Row.below HX.out hw1.below)
      have HY1 := Lib.hid (Row.below HY.out hw1.below)
      have hbl1 := cell_lt c1
      have hbl1' := cell_lt d1
      clear HX HY c0 d0 hw1 hbl hbl'
      go_wp2_with fail
      go_loopw [6] (fun x wr => ∃ j : Nat, j ≤ l.length ∧ x = .int .i64 j ∧ Below w1.heap.size w1 wr) (fun x _ => l.length - (intOf x).toNat)
      case atStart => exact ⟨0, by omega, rfl, Below.refl _ _⟩
      case round =>
        obtain ⟨j, hj, rfl, hbel2⟩ := hrel
        have HBEL2 := Lib.hid hbel2
        have c2 := (below_cells hbel2 _ (off + k) hbl1).trans c1
        have d2 := (below_cells hbel2 _ (off' + k) hbl1').trans d1
        have hbl2 := cell_lt c2
        have hbl2' := cell_lt d2
        by_cases hlt2 : j < l.length
        · have e0n2 : (j < l.length) = True := by simp; omega
          obtain ⟨s, hs⟩ : ∃ s, l[j]? = some s := ⟨_, List.getElem?_eq_getElem hlt2⟩
          have hcs := fun w' => sameSeg_any s w'
          unfold segV at hcs
          obtain ⟨b3, off3, cap4, hA, hb3, f0, f1, f2, f3, f4⟩ := SRow.at_ (Row.below HX1.out hbel2) hs
          injection hA with hA _ hA2
          subst hA hA2
          obtain ⟨b4, off4, cap5, hA, hb4, g0, g1, g2, g3, g4⟩ := SRow.at_ (Row.below HY1.out hbel2) hs
          injection hA with hA _ hA2
          subst hA hA2
          have e6 : 0 ≤ (j : Int) ∧ (j : Int) < (l.length : Int) := by omega
          have e7 : IntKind.i64.wrap ((j : Int) + 1) = ((j + 1 : Nat) : Int) := by rw [IntKind.wrap_i64]; omega
          clear hs hbel2 c1 d1
          go_wp2_with fail
          refine wp_region_below (by kernel_rfl) (by kernel_rfl) ?_
          with_reducible refine q_want ?_ (fun K hK => ?_)
          · kernel_rfl
          apply Exists.intro
          constructor
          · (intro w1 hw1; have hc := hw1.cells; go_simp <;> rfl)
          go_simp; refine hK _ ?_; clear hK K
          with_reducible refine q_want ?_ (fun K hK => ?_)
          · kernel_rfl
          apply Exists.intro
          constructor
          · (intro w1 hw1; have hc := hw1.cells; go_simp <;> rfl)
          go_simp; refine hK _ ?_; clear hK K
          with_reducible refine q_want ?_ (fun K hK => ?_)
          · kernel_rfl
          apply Exists.intro
          constructor
          · (intro w1 hw1; have hc := hw1.cells; go_simp <;> rfl)
          go_simp; refine hK _ ?_; clear hK K
          with_reducible refine q_want ?_ (fun K hK => ?_)
          · kernel_rfl
          apply Exists.intro
          constructor
          · (intro w1 hw1; have hc := hw1.cells; go_simp <;> rfl)
          go_simp; refine hK _ ?_; clear hK K
          with_reducible refine q_want ?_ (fun K hK => ?_)
          · kernel_rfl
          apply Exists.intro
          constructor
          · (intro w1 hw1; have hc := hw1.cells; go_simp <;> rfl)
          go_simp; refine hK _ ?_; clear hK K
          with_reducible refine q_want ?_ (fun K hK => ?_)
          · kernel_rfl
          apply Exists.intro
          constructor
          · (intro w1 hw1; have hc := hw1.cells; go_simp <;> rfl)
          go_simp; refine hK _ ?_; clear hK K
          with_reducible refine q_want ?_ (fun K hK => ?_)
          · kernel_rfl
          apply Exists.intro
          constructor
          · (intro w1 hw1; have hc := hw1.cells; go_simp <;> rfl)
          go_simp; refine hK _ ?_; clear hK K
          with_reducible refine q_want ?_ (fun K hK => ?_)
          · kernel_rfl
          apply Exists.intro
          constructor
          · (intro w1 hw1; have hc := hw1.cells; go_simp <;> rfl)
          go_simp; refine hK _ ?_; clear hK K
          with_reducible refine q_want ?_ (fun K hK => ?_)
          · kernel_rfl
          apply Exists.intro
          constructor
          · (intro w1 hw1; have hc := hw1.cells; go_simp <;> rfl)
          go_simp; refine hK _ ?_; clear hK K
          with_reducible refine q_want ?_ (fun K hK => ?_)
          · kernel_rfl
          apply Exists.intro
          constructor
          · (intro w1 hw1; have hc := hw1.cells; go_simp <;> rfl)
          go_simp; refine hK _ ?_; clear hK K
          with_reducible refine q_want ?_ (fun K hK => ?_)
          · kernel_rfl
          apply Exists.intro
          constructor
          · (intro w1 hw1; have hc := hw1.cells; go_simp <;> rfl)
          go_simp; refine hK _ ?_; clear hK K
          with_reducible refine q_want ?_ (fun K hK => ?_)
          · kernel_rfl
          apply Exists.intro
          constructor
          · (intro w1 hw1; have hc := hw1.cells; go_simp <;> rfl)
          go_simp; refine hK _ ?_; clear hK K
          with_reducible refine q_want ?_ (fun K hK => ?_)
          · kernel_rfl
          apply Exists.intro
          constructor
          · (intro w1 hw1; have hc := hw1.cells; go_simp <;> rfl)
          go_simp; refine hK _ ?_; clear hK K
          with_reducible refine q_want ?_ (fun K hK => ?_)
          · kernel_rfl
          apply Exists.intro
          constructor
          · (intro w1 hw1; have hc := hw1.cells; go_simp <;> rfl)
          go_simp; refine hK _ ?_; clear hK K
          with_reducible refine q_want ?_ (fun K hK => ?_)
          · kernel_rfl
          apply Exists.intro
          constructor
          · intro w1 hw1
            have hc := hw1.cells
            go_simp
            first
              | (go_at_call 30; exact quiet_call hw1 (hcs _))
          go_simp; refine hK _ ?_; clear hK K
          with_reducible refine q_want ?_ (fun K hK => ?_)
          · kernel_rfl
          apply Exists.intro
          constructor
          · (intro w1 hw1; have hc := hw1.cells; go_simp <;> rfl)
          go_simp; refine hK _ ?_; clear hK K
          refine wpQuiet_nil ?_
          intro w2 hw2
          have HB3 := Lib.hid (bl_then HBEL2.out hw2.below)
          go_wp2_with fail
          exact ⟨⟨j + 1, by omega, by go_num, HB3.out⟩, by simp [intOf]; omega⟩
        · obtain rfl : j = l.length := by omega
          have e0n2 : (l.length < l.length) = False := by simp
          clear c1 d1
          go_wp2_with fail
          exact ⟨⟨k + 1, by omega, by go_num, bl_then HB1.out HBEL2.out⟩, by simp [intOf]; omega⟩
    · obtain rfl : k = ls.length := by omega
      have e0n : (ls.length < ls.length) = False := by simp
      go_wp2_with fail
      go_ret
      exact ⟨rfl, HBEL.out⟩
end Go.Proofs.Ytdfkgkidaffcgaa
namespace Go.Proofs.Ytdfkgkidaffcgaa
open Go.RowKit

set_option maxRecDepth 100000 in
set_option maxHeartbeats 3200000 in
theorem runAgain_any (es : List Inc.Ent) (hel : es.length ≤ 4294967296) (hes : ∀ e ∈ es, Inc.EntWf e) (eps : Int) (v : Value) (w : World) (h : ERow w v es) :
    Calls Try.prog 4 #[v, .int .i64 eps] w fun e w' => e = .returned (.bool true) ∧ Below w.heap.size w w' := by
  have HE := Lib.hid h
  obtain ⟨_, A, cap, rfl, _, _, _⟩ := h
  by_cases hc : Inc.newCode eps es = 0
  · have HES := Lib.hid hes
    have HC := Lib.hid hc
    go_enter Try.func4, Try.ntmps4
    go_wp2_with fail
    refine (shown_any w).mono ?_
    rintro ed w1 ⟨rfl, hb1⟩
    go_wp2_with fail
    refine (runNew_any eps es hel hes _ w1 (ERow.below HE.out hb1)).mono ?_
    rintro ed w2 ⟨hb2, _, m2⟩
    obtain ⟨ls, b, hbl, hbge, rfl, hrun⟩ := m2 hc
    obtain ⟨_, _, _, _, hrc, hll, hwf⟩ := Inc.built_good hc hel hes hbl
    have HE2 := Lib.hid (ERow.below HE.out (bl_then hb1 hb2))
    have HB02 := Lib.hid (bl_then hb1 hb2)
    have HRUN := Lib.hid hrun
    have HBL := Lib.hid hbl
    have HRC := Lib.hid hrc
    have HLL := Lib.hid hll
    have HWF := Lib.hid hwf
    obtain ⟨p, c2, hp⟩ := hrun.pile
    have hblt := hrun.lt
    have HP := Lib.hid hp
    clear HE hb1 hb2 m2 hbl hrun hbge hc hes hrc hll hwf hp
    go_wp2_with fail
    go_cut [8, 9] (fun s8 s9 wx => ∃ b1 : Nat, s8 = .pointer (some ⟨b1, 0, none⟩) ∧ s9 = .int .i64 0 ∧ Below w2.heap.size w2 wx ∧ RunAt wx b1 eps es ls)
    case first =>
      go_region_with (first
        | (go_at_call 12
           refine (runList_any (HRUN.out.below (by (repeat (first | exact Below.refl _ _ | refine bl_alloc ?_ _ | refine bl_drew ?_ | (refine bl_set ?_ (by simp <;> omega) _) | refine bl_then ?_ (by assumption) | refine bl_cls ?_ (by assumption))))) hel).mono ?_
           rintro ed w3 ⟨u, rfl, hu, hb3⟩
           have hb3' : Below w2.heap.size w2 w3 := bl_then (by (repeat (first | exact Below.refl _ _ | refine bl_alloc ?_ _ | refine bl_drew ?_ | (refine bl_set ?_ (by simp <;> omega) _) | refine bl_then ?_ (by assumption) | refine bl_cls ?_ (by assumption)))) hb3
           have HU := Lib.hid (Row.own hu)
           obtain ⟨_, A3, cap3, rfl, _, _, _⟩ := Row.own hu
           have cc3 : w3.cell? ⟨b, 0, none⟩ = some (.pointer (some ⟨p, 0, none⟩)) := (below_cells hb3' _ _ hblt).trans c2
           have HB3 := Lib.hid hb3'
           have hblt3 : b < w3.heap.size := Nat.lt_of_lt_of_le hblt hb3'.size
           clear hu hb3 hb3')
        | (go_at_call 13
           refine (pileEps_any (HP.out.below (by have := HB3.out; (repeat (first | exact Below.refl _ _ | refine bl_alloc ?_ _ | refine bl_drew ?_ | (refine bl_set ?_ (by simp <;> omega) _) | refine bl_then ?_ (by assumption) | refine bl_cls ?_ (by assumption)))))).mono ?_
           rintro ed w' ⟨rfl, rfl⟩)
        | (go_at_call 14
           refine (runLevels_any (HRUN.out.below (by have := HB3.out; (repeat (first | exact Below.refl _ _ | refine bl_alloc ?_ _ | refine bl_drew ?_ | (refine bl_set ?_ (by simp <;> omega) _) | refine bl_then ?_ (by assumption) | refine bl_cls ?_ (by assumption))))) HLL.out (fun l hl => (HWF.out l hl).1)).mono ?_
           rintro ed w4 ⟨u2, rfl, hu2, hb4⟩
           obtain ⟨A4, cap4, rfl⟩ := hu2.read.shape
           have HU2 := Lib.hid hu2.read
           have hb4' : Below w3.heap.size w3 w4 := bl_then (by (repeat (first | exact Below.refl _ _ | refine bl_alloc ?_ _ | refine bl_drew ?_ | (refine bl_set ?_ (by simp <;> omega) _) | refine bl_then ?_ (by assumption) | refine bl_cls ?_ (by assumption)))) hb4
           have HB4 := Lib.hid hb4'
           clear hu2 hb4 hb4')
        | (go_at_call 11
           refine (runOf_any eps es hel HES.out ls HLL.out HWF.out _ _ _ (Row.below HU.out (by have := HB4.out; (repeat (first | exact Below.refl _ _ | refine bl_alloc ?_ _ | refine bl_drew ?_ | (refine bl_set ?_ (by simp <;> omega) _) | refine bl_then ?_ (by assumption) | refine bl_cls ?_ (by assumption))))) (HU2.out.below (by (repeat (first | exact Below.refl _ _ | refine bl_alloc ?_ _ | refine bl_drew ?_ | (refine bl_set ?_ (by simp <;> omega) _) | refine bl_then ?_ (by assumption) | refine bl_cls ?_ (by assumption)))))).mono ?_
           rintro ed w5 ⟨hb5, _, m5⟩
           obtain ⟨b5, _, rfl, hrun5⟩ := m5 HRC.out
           have hb5' : Below w4.heap.size w4 w5 := bl_then (by (repeat (first | exact Below.refl _ _ | refine bl_alloc ?_ _ | refine bl_drew ?_ | (refine bl_set ?_ (by simp <;> omega) _) | refine bl_then ?_ (by assumption) | refine bl_cls ?_ (by assumption)))) hb5
           have HB5 := Lib.hid hb5'
           have HR5 := Lib.hid hrun5
           clear hb5 m5 hrun5 hb5'))
      all_goals
        go_wp2_with fail
        go_meet
        exact ⟨b5, rfl, rfl, bl_then (bl_then HB3.out HB4.out) HB5.out, HR5.out⟩
    case rest =>
      obtain ⟨b1, rfl, rfl, hbc, hr1⟩ := hcut
      have HBC := Lib.hid hbc
      have HR1 := Lib.hid hr1
      have c2c := (below_cells hbc _ _ hblt).trans c2
      have hbltc : b < wc.heap.size := Nat.lt_of_lt_of_le hblt hbc.size
      clear hbc hr1 c2 hblt
      have HRUNC := Lib.hid (HRUN.out.below HBC.out)
      have HPC := Lib.hid (HP.out.below HBC.out)
      go_wp2_with fail
      go_cut [10, 11] (fun s8 s9 wx => ∃ b2 : Nat, s8 = .pointer (some ⟨b2, 0, none⟩) ∧ s9 = .int .i64 0 ∧ Below wc.heap.size wc wx ∧ RunAt wx b2 eps es ls)
      case first =>
        go_region_with (first
          | (go_at_call 12
             refine (runList_any (HRUNC.out.below (by (repeat (first | exact Below.refl _ _ | refine bl_alloc ?_ _ | refine bl_drew ?_ | (refine bl_set ?_ (by simp <;> omega) _) | refine bl_then ?_ (by assumption) | refine bl_cls ?_ (by assumption))))) hel).mono ?_
             rintro ed w3 ⟨u, rfl, hu, hb3⟩
             have hb3' : Below wc.heap.size wc w3 := bl_then (by (repeat (first | exact Below.refl _ _ | refine bl_alloc ?_ _ | refine bl_drew ?_ | (refine bl_set ?_ (by simp <;> omega) _) | refine bl_then ?_ (by assumption) | refine bl_cls ?_ (by assumption)))) hb3
             have HU := Lib.hid (Row.own hu)
             obtain ⟨_, A3, cap3, rfl, _, _, _⟩ := Row.own hu
             have cc3 : w3.cell? ⟨b, 0, none⟩ = some (.pointer (some ⟨p, 0, none⟩)) := (below_cells hb3' _ _ hbltc).trans c2c
             have HB3 := Lib.hid hb3'
             have hblt3 : b < w3.heap.size := Nat.lt_of_lt_of_le hbltc hb3'.size
             clear hu hb3 hb3')
          | (go_at_call 13
             refine (pileEps_any (HPC.out.below (by have := HB3.out; (repeat (first | exact Below.refl _ _ | refine bl_alloc ?_ _ | refine bl_drew ?_ | (refine bl_set ?_ (by simp <;> omega) _) | refine bl_then ?_ (by assumption) | refine bl_cls ?_ (by assumption)))))).mono ?_
             rintro ed w' ⟨rfl, rfl⟩)
          | (go_at_call 6
             refine (runNew_any eps es hel HES.out _ _ (Row.below HU.out (by (repeat (first | exact Below.refl _ _ | refine bl_alloc ?_ _ | refine bl_drew ?_ | (refine bl_set ?_ (by simp <;> omega) _) | refine bl_then ?_ (by assumption) | refine bl_cls ?_ (by assumption)))))).mono ?_
             rintro ed w5 ⟨hb5, _, m5⟩
             obtain ⟨ls5, b5, hbl5, _, rfl, hrun5⟩ := m5 HC.out
             obtain rfl := Inc.Built.unique hbl5 HBL.out
             have hb5' : Below w3.heap.size w3 w5 := bl_then (by (repeat (first | exact Below.refl _ _ | refine bl_alloc ?_ _ | refine bl_drew ?_ | (refine bl_set ?_ (by simp <;> omega) _) | refine bl_then ?_ (by assumption) | refine bl_cls ?_ (by assumption)))) hb5
             have HB5 := Lib.hid hb5'
             have HR5 := Lib.hid hrun5
             clear hb5 m5 hrun5 hb5' hbl5))
        all_goals
          go_wp2_with fail
          go_meet
          exact ⟨b5, rfl, rfl, bl_then HB3.out HB5.out, HR5.out⟩
      case rest =>
        obtain ⟨b2, rfl, rfl, hbd, hr2⟩ := hcut
        have HR0 := Lib.hid (HRUNC.out.below hbd)
        have HR1 := Lib.hid (HR1.out.below hbd)
        have HR2 := Lib.hid hr2
        have HE3 := Lib.hid (Row.below (Row.below HE2.out HBC.out) hbd)
        have HB0 := Lib.hid (bl_then (bl_then HB02.out HBC.out) hbd)
        obtain ⟨p1, c1, hp1⟩ := HR1.out.pile
        obtain ⟨p2, c2, hp2⟩ := hr2.pile
        have hl1 := HR1.out.lt
        have hl2 := hr2.lt
        have HP1 := Lib.hid hp1
        have HP2 := Lib.hid hp2
        have HK0 := Lib.hid (Below.refl wc.heap.size wc)
        clear hr2 hbd c2c hbltc HRUNC HPC hp1 hp2
        go_wp2_with fail
        refine (runList_any (HR1.out.below HK0.out) hel).mono ?_
        rintro ed x1 ⟨u1, rfl, hu1, hk1⟩
        have HU1 := Lib.hid (Row.own hu1)
        obtain ⟨_, A1, cap1, rfl, _, _, _⟩ := Row.own hu1
        clear hu1
        have HK1 := Lib.hid (show Below wc.heap.size wc x1 from bl_then HK0.out hk1)
        clear hk1
        go_wp2_with fail
        refine (sameList_any es hel _ _ _ HU1.out (Row.below HE3.out HK1.out)).mono ?_
        rintro ed x2 ⟨rfl, hk2⟩
        have HK2 := Lib.hid (show Below wc.heap.size wc x2 from bl_then HK1.out hk2)
        clear hk2
        go_wp2_with fail
        refine (runList_any (HR2.out.below HK2.out) hel).mono ?_
        rintro ed x3 ⟨u3, rfl, hu3, hk3⟩
        have HU3 := Lib.hid (Row.own hu3)
        obtain ⟨_, A3, cap3, rfl, _, _, _⟩ := Row.own hu3
        clear hu3
        have HK3 := Lib.hid (show Below wc.heap.size wc x3 from bl_then HK2.out hk3)
        clear hk3
        go_wp2_with fail
        refine (sameList_any es hel _ _ _ HU3.out (Row.below HE3.out HK3.out)).mono ?_
        rintro ed x4 ⟨rfl, hk4⟩
        have HK4 := Lib.hid (show Below wc.heap.size wc x4 from bl_then HK3.out hk4)
        clear hk4
        go_wp2_with fail
        refine (runLevels_any (HR1.out.below HK4.out) HLL.out (fun l hl => (HWF.out l hl).1)).mono ?_
        rintro ed x5 ⟨u5, rfl, hu5, hk5⟩
        have HU5 := Lib.hid hu5.read
        obtain ⟨A5, cap5, rfl⟩ := hu5.read.shape
        clear hu5
        have HK5 := Lib.hid (show Below wc.heap.size wc x5 from bl_then HK4.out hk5)
        clear hk5
        go_wp2_with fail
        refine (runLevels_any (HR0.out.below HK5.out) HLL.out (fun l hl => (HWF.out l hl).1)).mono ?_
        rintro ed x6 ⟨u6, rfl, hu6, hk6⟩
        have HU6 := Lib.hid hu6.read
        have HV6 := Lib.hid (HU5.out.below hk6)
        obtain ⟨A6, cap6, rfl⟩ := hu6.read.shape
        clear hu6
        have HK6 := Lib.hid (show Below wc.heap.size wc x6 from bl_then HK5.out hk6)
        clear hk6
        go_wp2_with fail
        refine (sameLevels_any ls HLL.out (fun l hl => (HWF.out l hl).1) _ _ _ HV6.out HU6.out).mono ?_
        rintro ed x7 ⟨rfl, hk7⟩
        have HK7 := Lib.hid (show Below wc.heap.size wc x7 from bl_then HK6.out hk7)
        clear hk7
        go_wp2_with fail
        refine (runLevels_any (HR2.out.below HK7.out) HLL.out (fun l hl => (HWF.out l hl).1)).mono ?_
        rintro ed x8 ⟨u8, rfl, hu8, hk8⟩
        have HU8 := Lib.hid hu8.read
        obtain ⟨A8, cap8, rfl⟩ := hu8.read.shape
        clear hu8
        have HK8 := Lib.hid (show Below wc.heap.size wc x8 from bl_then HK7.out hk8)
        clear hk8
        go_wp2_with fail
        refine (runLevels_any (HR0.out.below HK8.out) HLL.out (fun l hl => (HWF.out l hl).1)).mono ?_
        rintro ed x9 ⟨u9, rfl, hu9, hk9⟩
        have HU9 := Lib.hid hu9.read
        have HV9 := Lib.hid (HU8.out.below hk9)
        obtain ⟨A9, cap9, rfl⟩ := hu9.read.shape
        clear hu9
        have HK9 := Lib.hid (show Below wc.heap.size wc x9 from bl_then HK8.out hk9)
        clear hk9
        go_wp2_with fail
        refine (sameLevels_any ls HLL.out (fun l hl => (HWF.out l hl).1) _ _ _ HV9.out HU9.out).mono ?_
        rintro ed x10 ⟨rfl, hk10⟩
        have HK10 := Lib.hid (show Below wc.heap.size wc x10 from bl_then HK9.out hk10)
        clear hk10
        have c1 := (below_cells HK10.out _ _ hl1).trans c1
        have c2 := (below_cells HK10.out _ _ hl2).trans c2
        go_wp2_with fail
        refine (pileEps_any (HP1.out.below HK10.out)).mono ?_
        rintro ed x' ⟨rfl, rfl⟩
        go_wp2_with fail
        refine (pileEps_any (HP2.out.below HK10.out)).mono ?_
        rintro ed x' ⟨rfl, rfl⟩
        go_wp2_with fail
        go_ret
        exact ⟨rfl, bl_then HB0.out HK10.out⟩
  · have hd : Inc.entCode es ≠ 0 ∨ (Inc.entCode es = 0 ∧ eps < 2) ∨ (Inc.entCode es = 0 ∧ ¬ eps < 2 ∧ 64 < eps) := by
      unfold Inc.newCode at hc
      split at hc <;> omega
    rcases hd with hd | ⟨hd, he⟩ | ⟨hd, he, he2⟩
    · have hd' : (Inc.entCode es != 0) = true := by simpa using hd
      go_enter Try.func4, Try.ntmps4
      go_wp2_with fail
      refine (shown_any w).mono ?_
      rintro ed w1 ⟨rfl, hb1⟩
      go_wp2_with fail
      refine (runNew_any eps es hel hes _ w1 (ERow.below HE.out hb1)).mono ?_
      rintro ed w2 ⟨hb2, m1, _⟩
      obtain rfl := m1 hc
      go_wp2_with fail
      refine (refCheck_any es _ w2 (by omega) (ERow.below HE.out (bl_then hb1 hb2))).mono ?_
      rintro ed w3 ⟨rfl, hb3⟩
      go_wp2_with fail
      go_ret
      exact ⟨rfl, bl_then (bl_then hb1 hb2) hb3⟩
    · have he' : decide (eps < 2) = true := by simpa using he
      go_enter Try.func4, Try.ntmps4
      go_wp2_with fail
      refine (shown_any w).mono ?_
      rintro ed w1 ⟨rfl, hb1⟩
      go_wp2_with fail
      refine (runNew_any eps es hel hes _ w1 (ERow.below HE.out hb1)).mono ?_
      rintro ed w2 ⟨hb2, m1, _⟩
      obtain rfl := m1 hc
      go_wp2_with fail
      refine (refCheck_any es _ w2 (by omega) (ERow.below HE.out (bl_then hb1 hb2))).mono ?_
      rintro ed w3 ⟨rfl, hb3⟩
      rw [hd]
      go_wp2_with fail
      go_ret
      exact ⟨rfl, bl_then (bl_then hb1 hb2) hb3⟩
    · have he' : decide (eps < 2) = false := by simpa using he
      have he2' : decide (64 < eps) = true := by simpa using he2
      go_enter Try.func4, Try.ntmps4
      go_wp2_with fail
      refine (shown_any w).mono ?_
      rintro ed w1 ⟨rfl, hb1⟩
      go_wp2_with fail
      refine (runNew_any eps es hel hes _ w1 (ERow.below HE.out hb1)).mono ?_
      rintro ed w2 ⟨hb2, m1, _⟩
      obtain rfl := m1 hc
      go_wp2_with fail
      refine (refCheck_any es _ w2 (by omega) (ERow.below HE.out (bl_then hb1 hb2))).mono ?_
      rintro ed w3 ⟨rfl, hb3⟩
      rw [hd]
      go_wp2_with fail
      go_ret
      exact ⟨rfl, bl_then (bl_then hb1 hb2) hb3⟩
end Go.Proofs.Ytdfkgkidaffcgaa
