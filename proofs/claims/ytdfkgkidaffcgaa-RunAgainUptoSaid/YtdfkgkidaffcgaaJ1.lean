/- Words of this proof: regions whose order is open and whose operations read, or make memory of their own. -/
import Derived.Test.YtdfkgkidaffcgaaProg
import Derived.WalkKit
import Derived.WalkSpells
import Derived.WalkLawsBesides
import Derived.BigQuiet
import Derived.Deep.QuietTactic
set_option linter.all false
namespace Go.Proofs.Ytdfkgkidaffcgaa
open Go.RowKit

theorem below_cells {B : Nat} {W w1 : World} (hb : Below B W w1) : ∀ b o, b < B → w1.cell? ⟨b, o, none⟩ = W.cell? ⟨b, o, none⟩ :=
  fun b o h => hb.cell (p := ⟨b, o, none⟩) h
theorem below_frozen {B : Nat} {W w1 : World} (hb : Below B W w1) : ∀ b o, b < B → w1.frozen? ⟨b, o, none⟩ = W.frozen? ⟨b, o, none⟩ :=
  fun b o h => hb.frozen (p := ⟨b, o, none⟩) h

theorem bl_alloc {w W : World} (h : Below w.heap.size w W) (o : Obj) : Below w.heap.size w (W.alloc o) := h.alloc h.size o
theorem bl_drew {w W : World} (h : Below w.heap.size w W) : Below w.heap.size w W.drew := h.drew
theorem bl_then {w W W' : World} (h : Below w.heap.size w W) (k : Below W.heap.size W W') : Below w.heap.size w W' := h.trans (k.mono h.size)
theorem bl_set {w W : World} (h : Below w.heap.size w W) {a : Addr} (ha : w.heap.size ≤ a.block) (v : Value) : Below w.heap.size w (W.setCell a v) := h.setCell ha v

theorem wrap_i64_id' {x : Int} (h : -9223372036854775808 ≤ x) (h' : x ≤ 9223372036854775807) : IntKind.i64.wrap x = x := by
  rw [IntKind.wrap_i64]; omega
theorem wrap_u64_id' {x : Int} (h : 0 ≤ x) (h' : x < 18446744073709551616) : IntKind.u64.wrap x = x := by
  rw [IntKind.wrap_u64]; omega

/-- w1 is W, and what was made since. -/
def Cls (W w1 : World) : Prop := Below W.heap.size W w1
theorem Cls.below {W w1 : World} (h : Cls W w1) : Below W.heap.size W w1 := h
theorem Cls.cells {W w1 : World} (h : Cls W w1) : ∀ b o, b < W.heap.size → w1.cell? ⟨b, o, none⟩ = W.cell? ⟨b, o, none⟩ := below_cells h
theorem Cls.frozen {W w1 : World} (h : Cls W w1) : ∀ b o, b < W.heap.size → w1.frozen? ⟨b, o, none⟩ = W.frozen? ⟨b, o, none⟩ := below_frozen h
theorem bl_cls {w W W' : World} (h : Below w.heap.size w W) (k : Cls W W') : Below w.heap.size w W' := bl_then h k
theorem Cls.refl (W : World) : Cls W W := Below.refl _ _

/-- A region in whatever order: its operations only read, or call what only makes memory. -/
theorem wp_region_below {P : Program} {id : Nat} {Q : Exit → Act → World → Prop} {a : Act} {w : World} {l : List Oper} (hm : P.follows .mixedOrders = true) (hB : Region.lexB .any l.toArray = true)
    (h : wpQuiet P l.toArray (Cls w) (fun a' => ∀ w1, Cls w w1 → Q .normal a' w1) l a) : (Code.region id l.toArray true).wp P Q a w :=
  wp_region_quiet (C := Cls w) hm hB (Below.drew (Below.refl _ _)) (by simpa using h)

theorem quiet_call {P : Program} {f : FuncId} {args : Array Value} {W w1 : World} {v : Value} (hw : Cls W w1)
    (h : Calls P f args w1 fun e w' => e = .returned v ∧ Below w1.heap.size w1 w') : Calls P f args w1 fun e w' => e = .returned v ∧ Cls W w' :=
  h.mono fun _ _ ⟨he, hb⟩ => ⟨he, Below.trans hw (hb.mono hw.below.size)⟩
theorem quiet_call_same {P : Program} {f : FuncId} {args : Array Value} {W w1 : World} {v : Value} (hw : Cls W w1)
    (h : Calls P f args w1 fun e w' => e = .returned v ∧ w1 = w') : Calls P f args w1 fun e w' => e = .returned v ∧ Cls W w' :=
  h.mono fun _ _ ⟨he, hb⟩ => ⟨he, hb ▸ hw⟩

theorem q_want {P : Program} {ops : Array Oper} {C : World → Prop} {Q : Act → Prop} {a : Act} {o : Oper} {rest : List Oper} (hg : Region.wanted o (yielded ops a.tmps) = true)
    (h : ∀ K : Act → Prop, (∀ a, wpQuiet P ops C Q rest a → K a) → ∃ v, (∀ w, C w → o.quietAt P a C w v) ∧ K (a.put o.dst v)) : wpQuiet P ops C Q (o :: rest) a := by
  unfold wpQuiet
  rw [if_pos hg]
  exact h _ (fun _ h => h)
theorem q_skip {P : Program} {ops : Array Oper} {C : World → Prop} {Q : Act → Prop} {a : Act} {o : Oper} {rest : List Oper} (hg : Region.wanted o (yielded ops a.tmps) = false)
    (h : ∀ K : Act → Prop, (∀ a, wpQuiet P ops C Q rest a → K a) → K (a.put o.dst undef)) : wpQuiet P ops C Q (o :: rest) a := by
  unfold wpQuiet
  rw [hg]
  exact h _ (fun _ h => h)
end Go.Proofs.Ytdfkgkidaffcgaa
