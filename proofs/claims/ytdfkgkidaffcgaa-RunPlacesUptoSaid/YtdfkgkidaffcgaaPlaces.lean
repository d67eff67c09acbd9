/- RunPlaces answers true for every list of entries, every eps, every two keys, where what it reads is of bulk at most 1048576 (the row's own bound); what came in reads as it did. -/
import Derived.Test.YtdfkgkidaffcgaaRows
import Derived.WalkKit
import Derived.ProofKit
import Derived.OpenShut
import Derived.ChangeOld
import Derived.Below
import Derived.JoinedCond
import Derived.Deep.Slices
import Derived.Deep.Fields
import Derived.ChangeSame
import Derived.Test.YtdfkgkidaffcgaaJ20
set_option linter.all false
namespace Go.Proofs.Ytdfkgkidaffcgaa
open Go.ChangeShapes Go.WideShapes Go.Deep Go.ChangeAt Go.RowKit
theorem bulk_one {H : Type} (d : DataW H) : 1 ≤ Rows.uptoBulk d := by
  cases d with
  | lit l => cases l <;> simp [Rows.uptoBulk]
  | nil => simp [Rows.uptoBulk]
  | ptr d => simp [Rows.uptoBulk]
  | slice elems spare => simp [Rows.uptoBulk]
  | agg parts => simp [Rows.uptoBulk]
  | iface t d => simp [Rows.uptoBulk]
  | map entries => simp [Rows.uptoBulk]
  | held h => simp [Rows.uptoBulk]
theorem bulk_len {H : Type} (l : List (DataW H)) : l.length ≤ Rows.uptoBulkAll l := by
  induction l with
  | nil => simp
  | cons x r ih => have := bulk_one x; simp only [Rows.uptoBulkAll, List.length_cons]; omega

set_option maxRecDepth 100000 in
/-- entries that came in: what the walks ask of them -/
theorem open_ents {H : Type} {enc : TypeId × Value → H} {W : World} {v : Value} {d : DataW H} {p : List MemPlace} (hv : Value.okWide Try.prog W .any 0 22 v)
    (h : DataW.Trod enc Try.prog W 0 (fun _ => true) true 22 v d p) : ∃ es : List Inc.Ent, ERow W v es ∧ es.length ≤ Rows.uptoBulk d ∧ ∀ e ∈ es, Inc.EntWf e := by
  obtain ⟨A, len, cap, rfl⟩ := okWide_slice Try.underlying22 hv
  obtain ⟨fuel, hf⟩ := h
  rcases open_slice Try.underlying22 hf with ⟨hcs, hx⟩ | ⟨a, len', cap', m, n, D, Pl, hcs, hb, hl, hm, hmm, hx, hi⟩
  · simp only [Value.cells, List.cons.injEq, Value.slice.injEq, and_true] at hcs
    obtain ⟨rfl, rfl, rfl⟩ := hcs
    exact ⟨[], Row.nil _ _, by simp, by simp⟩
  · simp only [Value.cells, List.cons.injEq, Value.slice.injEq, and_true] at hcs
    obtain ⟨rfl, rfl, rfl⟩ := hcs
    simp only [if_true] at hmm
    subst hmm
    have hC : Try.prog.cellsOf 31 = 3 := by kernel_rfl
    have one : ∀ i, ∃ e : Inc.Ent, i < len → Inc.EntWf e ∧ W.cell? (a.add (i * 3)) = some (.int .u64 e.key) ∧ W.cell? (a.add (i * 3 + 1)) = some (.int .u64 e.val) ∧ W.cell? (a.add (i * 3 + 2)) = some (.bool e.gone) := by
      intro i
      by_cases hil : i < len
      · obtain ⟨cs, hc, ht⟩ := hi i (by omega)
        rw [hC] at hc
        obtain ⟨xs, k, _, _, hcl, hxl, hfd⟩ := DataW.trod_struct Try.underlying31 ht
        obtain ⟨_, hcn, hat⟩ := World.cells?_some hc
        match cs, hcn with
        | [c0, c1, c2], _ =>
          have k23 : Try.prog.cellsOf 23 = 1 := by kernel_rfl
          have k4 : Try.prog.cellsOf 4 = 1 := by kernel_rfl
          have h0 : DataW.trod enc Try.prog W 0 (fun _ => true) true k 23 (([c0, c1, c2].drop 0).take (Try.prog.cellsOf 23)) = xs[0]? := hfd 0 _ rfl
          have h1 : DataW.trod enc Try.prog W 0 (fun _ => true) true k 23 (([c0, c1, c2].drop 1).take (Try.prog.cellsOf 23)) = xs[1]? := hfd 1 _ rfl
          have h2 : DataW.trod enc Try.prog W 0 (fun _ => true) true k 4 (([c0, c1, c2].drop 2).take (Try.prog.cellsOf 4)) = xs[2]? := hfd 2 _ rfl
          rw [k23] at h0 h1
          rw [k4] at h2
          have hxl : xs.length = 3 := hxl
          match xs, hxl with
          | [x0, x1, x2], _ =>
            obtain ⟨n0, e0, _, w0⟩ := DataW.trod_int Try.underlying23 h0
            obtain ⟨n1, e1, _, w1⟩ := DataW.trod_int Try.underlying23 h1
            obtain ⟨b2, e2, _⟩ := DataW.trod_bool Try.underlying4 h2
            obtain rfl : c0 = .int .u64 n0 := by simpa using e0
            obtain rfl : c1 = .int .u64 n1 := by simpa using e1
            obtain rfl : c2 = .bool b2 := by simpa using e2
            have r0 : 0 ≤ n0 ∧ n0 ≤ 18446744073709551615 := by simpa [Lit.wf, IntKind.min, IntKind.max, IntKind.signed, IntKind.bits] using w0
            have r1 : 0 ≤ n1 ∧ n1 ≤ 18446744073709551615 := by simpa [Lit.wf, IntKind.min, IntKind.max, IntKind.signed, IntKind.bits] using w1
            refine ⟨⟨n0, n1, b2⟩, fun _ => ⟨⟨r0.1, by show n0 < _; omega, r1.1, by show n1 < _; omega⟩, ?_, ?_, ?_⟩⟩
            · have := hat 0 (by omega); rw [Go.Deep.add_add] at this; exact this
            · have := hat 1 (by omega); rw [Go.Deep.add_add] at this; exact this
            · have := hat 2 (by omega); rw [Go.Deep.add_add] at this; exact this
      · exact ⟨⟨0, 0, false⟩, fun h => absurd h hil⟩
    obtain ⟨f, hfn⟩ := Classical.axiomOfChoice one
    obtain ⟨blk, off, spot⟩ := a
    have hspot : 0 < len → spot = none := fun hp => by
      have := (hfn 0 hp).2.1
      simpa [Addr.add] using World.cell?_spot this
    have hwl : ∀ e ∈ (List.range len).map f, Inc.EntWf e := by
      intro e he
      obtain ⟨i, hir, rfl⟩ := List.mem_map.1 he
      exact (hfn i (by simpa using hir)).1
    have hlen : ((List.range len).map f).length = len := by simp
    refine ⟨(List.range len).map f, ⟨by rw [entVals_len], some ⟨blk, off, spot⟩, m, by rw [hlen], by omega, hm, fun hp => ?_⟩, ?_, hwl⟩
    · rw [hlen] at hp
      obtain rfl := hspot hp
      refine ⟨blk, off, rfl, ?_, fun t ht => ?_⟩
      · have := (hfn 0 hp).2.1
        unfold World.cell? at this
        rcases Nat.lt_or_ge blk W.heap.size with h | h
        · exact h
        · have hn : ((⟨blk, off, none⟩ : Addr).add (0 * 3)).block = blk := by simp [Addr.add]
          rw [hn, Array.getElem?_eq_none h] at this
          simp at this
      · rw [entVals_len, hlen] at ht
        have hq : t / 3 < len := by omega
        obtain ⟨_, q0, q1, q2⟩ := hfn (t / 3) hq
        have hget : ((List.range len).map f)[t / 3]? = some (f (t / 3)) := by simp [hq]
        have hfl := flat_get entCells 3 (fun _ => rfl) _ _ _ hget (t % 3) (by omega)
        have ht3 : t / 3 * 3 + t % 3 = t := by omega
        rw [ht3] at hfl
        show W.cell? ⟨blk, off + t, none⟩ = some ((((List.range len).map f).flatMap entCells).getD t undef)
        rw [hfl]
        have hmod : t % 3 = 0 ∨ t % 3 = 1 ∨ t % 3 = 2 := by omega
        have adr : ∀ j, (⟨blk, off, none⟩ : Addr).add j = ⟨blk, off + j, none⟩ := fun j => by unfold Addr.add; split <;> simp_all
        rcases hmod with h | h | h
        · rw [h, show off + t = off + (t / 3 * 3) by omega, ← adr]; exact q0
        · rw [h, show off + t = off + (t / 3 * 3 + 1) by omega, ← adr]; exact q1
        · rw [h, show off + t = off + (t / 3 * 3 + 2) by omega, ← adr]; exact q2
    · rw [hlen]
      injection hx with hx1 hx2
      rw [hx1]
      have := bulk_len ((List.range len).map D)
      simp only [Rows.uptoBulk]
      rw [List.length_map, List.length_range] at this
      omega
end Go.Proofs.Ytdfkgkidaffcgaa
namespace Go.Proofs.Ytdfkgkidaffcgaa.places
open Go.ChangeShapes Go.WideShapes Go.Deep Go.ChangeAt Go.RowKit
theorem own : ownKnob Try.prog.godebug = none := by kernel_rfl
theorem laidOut : laidOutB Try.prog = true := by kernel_rfl

set_option maxRecDepth 100000 in
theorem contract (H : Type) (enc : TypeId × Value → H) (W : World) (base : Nat) (args : Array Value) (ds gs : List (DataW H)) (before : List MemPlace)
    (hval : ∀ (j : Nat) t v, Try.f3.params[j]? = some t → args[j]? = some v → Value.okWide Try.prog W .any base t v)
    (hW : DataW.Whole enc Try.prog Try.f3.params.toList Rows.runPlacesSpec.vars false W args.toList ds gs before) (hk : Rows.uptoSmall H (ds ++ gs) = true) :
    Calls Try.prog 3 args W fun e W' => ∃ v, e = .returned v ∧ Rows.runPlacesSpec.post enc Try.prog Try.f3 false true false false W args v W' := by
  have hW' := hW
  obtain ⟨p, q, hA0, hV, rfl, hfz, hnd⟩ := hW
  have hA : DataW.TrodAll enc Try.prog W 0 (fun _ => true) true Try.f3.params.toList args.toList ds p := hA0
  rw [Try.params3] at hA hval
  obtain ⟨v0, vs0, d0, ds0, p0, q0, hargs, rfl, rfl, h0, r0⟩ := trodAll_cons hA
  obtain ⟨v1, vs1, d1, ds1, p1, q1, rfl, rfl, rfl, h1, r1⟩ := trodAll_cons r0
  obtain ⟨v2, vs2, d2, ds2, p2, q2, rfl, rfl, rfl, h2, r2⟩ := trodAll_cons r1
  obtain ⟨v3, vs3, d3, ds3, p3, q3, rfl, rfl, rfl, h3, r3⟩ := trodAll_cons r2
  obtain ⟨rfl, rfl, rfl⟩ := trodAll_nil r3
  obtain rfl : args = #[v0, v1, v2, v3] := by cases args; simp_all
  obtain ⟨rfl, rfl⟩ := trodVars_none hV
  have lt0 : ∀ x ∈ p0, x.block < W.heap.size := by obtain ⟨m, hm⟩ := h0; exact DataW.trod_lt m _ _ _ hm
  obtain ⟨es, hE, hlen, hwf⟩ := open_ents (hval 0 22 v0 rfl rfl) h0
  have k0 := h0
  obtain ⟨a1, rfl, rfl, rfl, w1⟩ := open_int Try.underlying3 (hval 1 3 v1 rfl rfl) h1
  obtain ⟨a2, rfl, rfl, rfl, w2⟩ := open_int Try.underlying23 (hval 2 23 v2 rfl rfl) h2
  obtain ⟨a3, rfl, rfl, rfl, w3⟩ := open_int Try.underlying23 (hval 3 23 v3 rfl rfl) h3
  have b2 : 0 ≤ a2 ∧ a2 ≤ 18446744073709551615 := by simpa [Lit.wf, IntKind.min, IntKind.max, IntKind.signed, IntKind.bits] using w2
  have b3 : 0 ≤ a3 ∧ a3 ≤ 18446744073709551615 := by simpa [Lit.wf, IntKind.min, IntKind.max, IntKind.signed, IntKind.bits] using w3
  have hsmall : es.length ≤ 4294967296 := by
    have hb : Rows.uptoBulkAll ([d0, .lit (.int .i64 a1), .lit (.int .u64 a2), .lit (.int .u64 a3)] ++ []) ≤ 1048576 := of_decide_eq_true hk
    simp only [List.cons_append, Rows.uptoBulkAll] at hb
    omega
  clear hA0
  refine (runPlaces_any es hsmall hwf a1 a2 a3 b2.1 (by omega) b3.1 (by omega) v0 W hE).mono fun e W' ⟨he, bel⟩ => ?_
  subst he
  exact ⟨_, rfl, _, _, _, [], _, [], hW', trodAll_mk1 (shut_bool Try.underlying4 _), (trodAll_cons_mk (Below.trod laidOut (by kernel_rfl) (of_decide_eq_true (by kernel_rfl)) k0 bel lt0) (trodAll_cons_mk (shut_int Try.underlying3 w1) (trodAll_cons_mk (shut_int Try.underlying23 w2) (trodAll_cons_mk (shut_int Try.underlying23 w3) trodAll_mk0)))), rfl, bel.frame _, fun h => by cases h⟩

set_option maxRecDepth 100000 in
theorem lifted (os : Os) (started : os.Started) (H : Type) (enc : TypeId × Value → H) (F : Stop.Interp) :
    ReturnsInHanded {} Try.checked os 3 .any ((Rows.OpenSpec.upto Rows.runPlacesSpec).pre6 enc Try.prog Try.f3 Rows.runPlacesUptoRow.domain false) (((Rows.OpenSpec.upto Rows.runPlacesSpec).at F).post enc Try.prog Try.f3 false true false false) := by
  refine returnsInHanded_of_cond (C := Try.checked) (s := Rows.OpenSpec.upto Rows.runPlacesSpec) (k := Rows.uptoSmall) rfl own started (by kernel_rfl) Try.func3
    (OpenSpec.witness (enc := enc) (C := Try.checked) (s := Rows.OpenSpec.upto Rows.runPlacesSpec) (k := Rows.uptoSmall) rfl false ⟨#[], #[.slice none 0 0, .int .i64 0, .int .u64 0, .int .u64 0], []⟩ 8 (by kernel_rfl) (by kernel_rfl) (by kernel_rfl)
      (x := ([.nil, .lit (.int .i64 0), .lit (.int .u64 0), .lit (.int .u64 0)], [], [])) (by kernel_rfl) rfl (by kernel_rfl)) ?_
  intro W base args ds gs before hval hW _ hk _
  exact contract H enc W base args ds gs before hval hW hk

theorem over : Rows.runPlacesUptoRow.holds Try.pinned (Rows.OpenSpec.upto Rows.runPlacesSpec) :=
  OpenClaim.holds_of_cond 3 Try.f3 rfl rfl rfl rfl rfl rfl rfl ⟨rfl, rfl, rfl, rfl, rfl⟩ rfl rfl rfl rfl rfl (by kernel_rfl) Try.func3 (by kernel_rfl)
    (of_decide_eq_true (by kernel_rfl)) (by unfold Func.isWrapper; first | (rw [if_pos (by decide +kernel)]; kernel_rfl) | (rw [if_neg (by decide +kernel)]; exact ⟨rfl, rfl⟩))
    (fun os started H enc _ F => lifted os started H enc F)

theorem proved : Rows.RunPlacesUptoSaid := over
#print axioms proved
end Go.Proofs.Ytdfkgkidaffcgaa.places
