/- Walk: math/bits.Div64. Walk: math/bits.Div64. Walks: ratio.pack, ratio.Near. What a good fit gives Add: sorted chains, small slopes, short chains. Plain mathematics. Walks: the order of numbers of 128 bits; turns. Walks: slopes, tangents. -/
import Derived.Laws.BitsLemmas
import Derived.Lib.ItoaNum
import Derived.Deep.DeepCutAuto
import Derived.Deep.CutBlock
import Derived.LoopTactic
import Derived.Lib.Hide
import Derived.Test.YtdfkgkidaffcgaaJ9
set_option linter.all false
namespace Go.Proofs.Ytdfkgkidaffcgaa
open Go.RowKit

theorem wrap_u64_nat (a : Nat) (h : a < 18446744073709551616) : IntKind.u64.wrap (a : Int) = (a : Int) := by
  rw [IntKind.wrap_u64]; omega

/-- what math/bits.Div64 makes of its numbers ahead of the first digit -/
structure DivN (hi lo y s t Y n1 n0 A B U L u1 u0 q m r : Nat) : Prop where
  fs : IntKind.u64.wrap (s : Int) = (s : Int)
  ms : min s 64 = s
  ms' : min (s : Int).toNat 64 = s
  ft : IntKind.u64.wrap (64 - (s : Int)) = (t : Int)
  mt : min t 64 = t
  mt' : min (t : Int).toNat 64 = t
  fY : IntKind.u64.wrap ((y : Int) * 2 ^ s) = (Y : Int)
  fn1 : (Y : Int) / 4294967296 = (n1 : Int)
  fn0 : bits .and .u64 (Y : Int) 4294967295 = (n0 : Int)
  fA : IntKind.u64.wrap ((hi : Int) * 2 ^ s) = (A : Int)
  fB : (lo : Int) / 2 ^ t = (B : Int)
  fU : bits .or .u64 (A : Int) (B : Int) = (U : Int)
  fL : IntKind.u64.wrap ((lo : Int) * 2 ^ s) = (L : Int)
  fu1 : (L : Int) / 4294967296 = (u1 : Int)
  fu0 : bits .and .u64 (L : Int) 4294967295 = (u0 : Int)
  fq : (U : Int).tdiv (n1 : Int) = (q : Int)
  wq : IntKind.u64.wrap (q : Int) = (q : Int)
  fm : IntKind.u64.wrap ((q : Int) * (n1 : Int)) = (m : Int)
  fr : IntKind.u64.wrap ((U : Int) - (m : Int)) = (r : Int)

structure DivE (hi lo y s Y n1 n0 U u1 u0 q r : Nat) : Prop where
  eY : Y = n1 * 4294967296 + n0
  halves : Inc.Halves n1 n0 U u1
  g : Inc.Guess n1 n0 U u1 q r
  u0lt : u0 < 4294967296
  quo : ((U * 4294967296 + u1) * 4294967296 + u0) / Y = (hi * 18446744073709551616 + lo) / y
  rem : ((U * 4294967296 + u1) * 4294967296 + u0) % Y = (hi * 18446744073709551616 + lo) % y * 2 ^ s
  slt : s ≤ 63
  Yhi : Y < 18446744073709551616

theorem bits_and32 (a : Nat) (h : a < 18446744073709551616) : bits .and .u64 (a : Int) 4294967295 = ((a % 4294967296 : Nat) : Int) := by
  have := bits_mask .u64 64 (by decide) (fun n h0 h1 => by rw [IntKind.wrap_u64]; omega) 32 (by decide) (a : Int) (by omega) (by omega)
  simpa using this

theorem bits_or_sum (i a b : Nat) (h : a % 2 ^ i = 0) (hb : b < 2 ^ i) (ha : a < 18446744073709551616) (hb' : b < 18446744073709551616) : bits .or .u64 (a : Int) (b : Int) = ((a + b : Nat) : Int) := by
  have := bits_join .u64 64 (by decide) (fun n h0 h1 => by rw [IntKind.wrap_u64]; omega) i (a : Int) (b : Int) (by omega) (by exact_mod_cast h) (by omega) (by omega) (by exact_mod_cast hb) (by omega)
  rw [this]
  simp

theorem div_facts (hi lo y s t : Nat) (hh : hi < y) (hl : lo < 18446744073709551616) (hst : s + t = 64) (hs : s ≤ 63) (h1 : 9223372036854775808 ≤ y * 2 ^ s) (h2 : y * 2 ^ s < 18446744073709551616) :
    ∃ Y n1 n0 A B U L u1 u0 q m r, DivN hi lo y s t Y n1 n0 A B U L u1 u0 q m r ∧ DivE hi lo y s Y n1 n0 U u1 u0 q r := by
  have hp : 0 < 2 ^ s := Nat.two_pow_pos s
  have hpt : 0 < 2 ^ t := Nat.two_pow_pos _
  have hps : 2 ^ s * 2 ^ t = 18446744073709551616 := by rw [← Nat.pow_add, hst]
  have hd := Nat.div_add_mod lo (2 ^ t)
  have hm := Nat.mod_lt lo hpt
  have hA : hi * 2 ^ s < y * 2 ^ s := Nat.mul_lt_mul_of_pos_right hh hp
  have hA' : (hi + 1) * 2 ^ s ≤ y * 2 ^ s := Nat.mul_le_mul_right _ hh
  rw [Nat.add_mul, Nat.one_mul] at hA'
  have hB : lo / 2 ^ t < 2 ^ s := by
    rw [Nat.div_lt_iff_lt_mul hpt, hps]; exact hl
  have hL : lo * 2 ^ s % 18446744073709551616 = lo % 2 ^ t * 2 ^ s := by
    rw [← hps, Nat.mul_comm (2 ^ s), Nat.mul_mod_mul_right]
  have hlo : lo * 2 ^ s = lo / 2 ^ t * 18446744073709551616 + lo % 2 ^ t * 2 ^ s := by
    rw [← hps, Nat.mul_comm (2 ^ s), ← Nat.mul_assoc, ← Nat.add_mul, Nat.mul_comm (lo / _), hd]
  have hUL : (hi * 2 ^ s + lo / 2 ^ t) * 18446744073709551616 + lo % 2 ^ t * 2 ^ s = (hi * 18446744073709551616 + lo) * 2 ^ s := by
    rw [Nat.add_mul (hi * 18446744073709551616), hlo, Nat.add_mul, Nat.mul_right_comm]
    omega
  have hdiv : (hi * 18446744073709551616 + lo) * 2 ^ s / (y * 2 ^ s) = (hi * 18446744073709551616 + lo) / y := Nat.mul_div_mul_right _ _ hp
  have hmod : (hi * 18446744073709551616 + lo) * 2 ^ s % (y * 2 ^ s) = (hi * 18446744073709551616 + lo) % y * 2 ^ s := Nat.mul_mod_mul_right _ _ _
  have hAm : hi * 2 ^ s % 2 ^ s = 0 := Nat.mul_mod_left _ _
  have hYw : IntKind.u64.wrap ((y : Int) * 2 ^ s) = ((y * 2 ^ s : Nat) : Int) := by rw [← wrap_u64_nat (y * 2 ^ s) (by omega)]; simp
  have hAw : IntKind.u64.wrap ((hi : Int) * 2 ^ s) = ((hi * 2 ^ s : Nat) : Int) := by rw [← wrap_u64_nat (hi * 2 ^ s) (by omega)]; simp
  have hLw : IntKind.u64.wrap ((lo : Int) * 2 ^ s) = ((lo % 2 ^ t * 2 ^ s : Nat) : Int) := by
    rw [← hL, IntKind.wrap_u64]; simp
  have hBw : (lo : Int) / 2 ^ t = ((lo / 2 ^ t : Nat) : Int) := by simp
  generalize y * 2 ^ s = Y at *
  generalize hi * 2 ^ s = A at *
  generalize lo / 2 ^ t = B at *
  generalize lo % 2 ^ t * 2 ^ s = L at *
  have hLlt : L < 18446744073709551616 := by rw [← hL]; exact Nat.mod_lt _ (by decide)
  have hU := bits_or_sum s A B hAm hB (by omega) (by omega)
  have hUlt : A + B < Y := by omega
  generalize A + B = U at *
  have hH : Inc.Halves (Y / 4294967296) (Y % 4294967296) U (L / 4294967296) := ⟨by omega, by omega, by omega, by omega, by omega⟩
  have hG := Inc.Guess.start hH
  have hmod' := Nat.div_add_mod U (Y / 4294967296)
  refine ⟨Y, Y / 4294967296, Y % 4294967296, A, B, U, L, L / 4294967296, L % 4294967296, U / (Y / 4294967296), U / (Y / 4294967296) * (Y / 4294967296), U % (Y / 4294967296), ?_, ?_⟩
  · constructor <;> first | exact hYw | exact hAw | exact hLw | exact hBw | exact hU | exact bits_and32 _ (by omega) | omega | skip
    · exact wrap_u64_nat s (by omega)
    · rw [show (64 : Int) - (s : Int) = (t : Int) from by omega]; exact wrap_u64_nat t (by omega)
    · exact (Int.ofNat_tdiv U (Y / 4294967296)).symm
    · exact wrap_u64_nat _ (by have := hG.qlt; omega)
    · rw [← Int.natCast_mul]; exact wrap_u64_nat _ (by have := hG.sum; omega)
    · rw [← wrap_u64_nat (U % (Y / 4294967296)) (by have := hG.rlt; omega)]
      congr 1
      have := hG.sum
      omega
  · have e : (U * 4294967296 + L / 4294967296) * 4294967296 + L % 4294967296 = (hi * 18446744073709551616 + lo) * 2 ^ s := by
      rw [← hUL]; clear hdiv hmod hUL; omega
    exact ⟨by omega, hH, hG, by omega, (congrArg (· / Y) e).trans hdiv, (congrArg (· % Y) e).trans hmod, hs, by omega⟩

/-- a digit's guess, one step of its loop: what the words are -/
structure GuessW (n0 b q r P R S : Nat) : Prop where
  fP : IntKind.u64.wrap ((q : Int) * (n0 : Int)) = (P : Int)
  fR : IntKind.u64.wrap (4294967296 * (r : Int)) = (R : Int)
  fS : IntKind.u64.wrap ((R : Int) + (b : Int)) = (S : Int)
  eP : P = q * n0
  eS : S = 4294967296 * r + b

theorem guess_words {n1 n0 a b q r : Nat} (h : Inc.Halves n1 n0 a b) (g : Inc.Guess n1 n0 a b q r) (hq : q < 4294967296) : ∃ P R S, GuessW n0 b q r P R S := by
  have hP : q * n0 ≤ 4294967295 * 4294967295 := Nat.mul_le_mul (by omega) (by have := h.n0hi; omega)
  have h1 := g.rlt
  have h2 := h.bhi
  refine ⟨q * n0, 4294967296 * r, 4294967296 * r + b, ⟨?_, ?_, ?_, rfl, rfl⟩⟩
  · rw [← Int.natCast_mul]; exact wrap_u64_nat _ (by omega)
  · rw [show 4294967296 * (r : Int) = ((4294967296 * r : Nat) : Int) from by omega]; exact wrap_u64_nat _ (by omega)
  · rw [← Int.natCast_add]; exact wrap_u64_nat _ (by omega)

/-- the remainder behind the first digit -/
theorem rest_word (U b Y Q : Nat) (h : Q = (U * 4294967296 + b) / Y) (hY : Y < 18446744073709551616) (hY0 : 0 < Y) :
    IntKind.u64.wrap (IntKind.u64.wrap (IntKind.u64.wrap ((U : Int) * 4294967296) + (b : Int)) - IntKind.u64.wrap ((Q : Int) * (Y : Int))) = (((U * 4294967296 + b) % Y : Nat) : Int) := by
  have hd := Nat.div_add_mod (U * 4294967296 + b) Y
  rw [← h, Nat.mul_comm Y] at hd
  have hm := Nat.mod_lt (U * 4294967296 + b) hY0
  generalize (U * 4294967296 + b) % Y = z at *
  rw [← Int.natCast_mul]
  generalize Q * Y = p at *
  simp only [IntKind.wrap_u64]
  omega

/-- the second digit's guess -/
structure StartW (R n1 q m r : Nat) : Prop where
  fq : (R : Int).tdiv (n1 : Int) = (q : Int)
  wq : IntKind.u64.wrap (q : Int) = (q : Int)
  fm : IntKind.u64.wrap ((q : Int) * (n1 : Int)) = (m : Int)
  fr : IntKind.u64.wrap ((R : Int) - (m : Int)) = (r : Int)

theorem start_words {n1 n0 R b : Nat} (h : Inc.Halves n1 n0 R b) : ∃ q m r, StartW R n1 q m r ∧ Inc.Guess n1 n0 R b q r := by
  have hG := Inc.Guess.start h
  have h1 := h.ahi
  have h2 := h.n1hi
  have h3 := h.n0hi
  refine ⟨R / n1, R / n1 * n1, R % n1, ⟨(Int.ofNat_tdiv R n1).symm, wrap_u64_nat _ (by have := hG.qlt; omega), ?_, ?_⟩, hG⟩
  · rw [← Int.natCast_mul]; exact wrap_u64_nat _ (by have := hG.sum; omega)
  · rw [← wrap_u64_nat (R % n1) (by have := hG.rlt; omega)]
    congr 1
    have := hG.sum
    omega

/-- the quotient and the remainder out of two digits -/
theorem end_words {hi lo y s Y n1 n0 U u1 u0 q r D R1 E : Nat} (h : DivE hi lo y s Y n1 n0 U u1 u0 q r) (hD : (U * 4294967296 + u1) / Y = D) (hR : (U * 4294967296 + u1) % Y = R1) (hE : (R1 * 4294967296 + u0) / Y = E) :
    IntKind.u64.wrap (IntKind.u64.wrap ((D : Int) * 4294967296) + (E : Int)) = (((hi * 18446744073709551616 + lo) / y : Nat) : Int) ∧
    IntKind.u64.wrap (IntKind.u64.wrap (IntKind.u64.wrap ((R1 : Int) * 4294967296) + (u0 : Int)) - IntKind.u64.wrap ((E : Int) * (Y : Int))) / 2 ^ s = (((hi * 18446744073709551616 + lo) % y : Nat) : Int) ∧ R1 < Y ∧ Inc.Halves n1 n0 R1 u0 := by
  have hY := h.Yhi
  have e := h.eY
  have hh := h.halves
  have n1lo := hh.n1lo
  have hY0 : 0 < Y := by omega
  have hRlt : R1 < Y := by rw [← hR]; exact Nat.mod_lt _ hY0
  have hH : Inc.Halves n1 n0 R1 u0 := ⟨hh.n1lo, hh.n1hi, hh.n0hi, by omega, h.u0lt⟩
  obtain ⟨t1, t2⟩ := Inc.two_digits Y (U * 4294967296 + u1) u0 hY0
  rw [hD, hR, hE, h.quo] at t1
  rw [hR, h.rem] at t2
  have d1 := Inc.digit_lt hh
  rw [← e, hD] at d1
  have d2 := Inc.digit_lt hH
  rw [← e, hE] at d2
  refine ⟨?_, ?_, hRlt, hH⟩
  · rw [← t1]
    simp only [IntKind.wrap_u64]
    omega
  · rw [rest_word R1 u0 Y E hE.symm hY hY0, t2]
    rw [Int.natCast_mul, Int.natCast_pow]
    exact Int.mul_ediv_cancel _ (by have := Nat.two_pow_pos s; omega)

theorem lead_any (y : Nat) (hy : y < 18446744073709551616) (h0 : 0 < y) (w : World) : ∃ s t : Nat, s + t = 64 ∧ s ≤ 63 ∧ 9223372036854775808 ≤ y * 2 ^ s ∧ y * 2 ^ s < 18446744073709551616 ∧
    Calls Try.prog 69 #[.int .u64 y] w fun e w' => e = .returned (.int .i64 (s : Int)) ∧ w = w' := by
  obtain ⟨h1, h2, h3⟩ := Lib.bitLenAux_bounds 64 y hy (by omega)
  have hb : Lib.bitLenAux 64 y ≤ 64 := by
    rcases Nat.lt_or_ge 64 (Lib.bitLenAux 64 y) with h | h
    · have := Nat.pow_le_pow_right (show 0 < 2 by decide) (show 64 ≤ Lib.bitLenAux 64 y - 1 by omega)
      omega
    · exact h
  obtain ⟨n, hn⟩ : ∃ n, Lib.bitLenAux 64 y = n + 1 := ⟨_, (Nat.sub_add_cancel h1).symm⟩
  rw [hn] at h1 h2 h3 hb
  refine ⟨64 - (n + 1), n + 1, by omega, by omega, ?_, ?_, ?_⟩
  · have := Nat.mul_le_mul_right (2 ^ (64 - (n + 1))) h2
    rw [Nat.add_sub_cancel, ← Nat.pow_add, show n + (64 - (n + 1)) = 63 from by omega] at this
    exact this
  · have := Nat.mul_lt_mul_of_pos_right h3 (Nat.two_pow_pos (64 - (n + 1)))
    rw [← Nat.pow_add, show n + 1 + (64 - (n + 1)) = 64 from by omega] at this
    exact this
  · refine (Try.bits_LeadingZeros64 (y : Int) w (by omega) (by omega)).mono ?_
    rintro e w' ⟨rfl, rfl⟩
    refine ⟨?_, rfl⟩
    rw [Int.toNat_natCast, show Lib.bitLen y = n + 1 from hn]
    congr 2
    omega
end Go.Proofs.Ytdfkgkidaffcgaa
namespace Go.Proofs.Ytdfkgkidaffcgaa
open Go.RowKit

set_option maxRecDepth 100000 in
set_option maxHeartbeats 1600000 in
theorem div64_any (hi lo y : Nat) (hh : hi < y) (hl : lo < 18446744073709551616) (hy : y < 18446744073709551616) (w : World) :
    Calls Try.prog 70 #[.int .u64 hi, .int .u64 lo, .int .u64 y] w fun e w' => e = .returned (.tuple #[.int .u64 ((hi * 18446744073709551616 + lo) / y : Nat), .int .u64 ((hi * 18446744073709551616 + lo) % y : Nat)]) ∧ Below w.heap.size w w' := by
  have h1 : decide ((y : Int) = 0) = false := by simp; omega
  have h2 : decide ((y : Int) ≤ (hi : Int)) = false := by simp; omega
  have h3 : ((y : Int) = 0) = False := by simp; omega
  by_cases h0 : hi = 0
  · subst h0
    have h4 : lo / y ≤ lo := Nat.div_le_self _ _
    have h5 := wrap_u64_nat (lo / y) (by omega)
    rw [Int.natCast_ediv] at h5
    go_enter Try.func70, Try.ntmps70
    go_wp2_with fail
    go_region
    go_wp2_with fail
    go_ret2
    refine ⟨by simp, by (repeat (first | exact Below.refl _ _ | refine bl_alloc ?_ _ | refine bl_drew ?_ | (refine bl_set ?_ (by simp <;> omega) _) | refine bl_then ?_ (by assumption) | refine bl_cls ?_ (by assumption)))⟩
  · have h4 : decide ((hi : Int) = 0) = false := by simp; omega
    obtain ⟨s, t, hst, hs, hs1, hs2, hcall⟩ := lead_any y hy (by omega) w
    obtain ⟨Y, n1, n0, A, B, U, L, u1, u0, q, m, r, ⟨fs, ms, ms', ft, mt, mt', fY, fn1, fn0, fA, fB, fU, fL, fu1, fu0, fq, wq, fm, fr⟩, hE⟩ := div_facts hi lo y s t hh hl hst hs hs1 hs2
    have hE := Lib.hid hE
    have hn1 := hE.out.halves.n1lo
    clear hs1 hs2
    go_enter Try.func70, Try.ntmps70
    go_wp2_with fail
    refine hcall.mono ?_
    rintro e w' ⟨rfl, rfl⟩
    go_upto_block 0 with fail
    obtain ⟨D, hD⟩ : ∃ D, (U * 4294967296 + u1) / (n1 * 4294967296 + n0) = D := ⟨_, rfl⟩
    go_cut [15] from 67 to 85 (fun v wx => v = .int .u64 (D : Int) ∧ w = wx)
    case first =>
      go_wp2_with fail
      go_loopw [15, 16] (fun v0 v1 wr => ∃ q r : Nat, v0 = .int .u64 (q : Int) ∧ v1 = .int .u64 (r : Int) ∧ Inc.Guess n1 n0 U u1 q r ∧ wr = w) (fun v0 _ _ => (intOf v0).toNat)
      case atStart => exact ⟨q, r, rfl, rfl, hE.out.g, rfl⟩
      case round =>
        obtain ⟨q', r', rfl, rfl, hg, rfl⟩ := hrel
        have hH := hE.out.halves
        rcases Nat.lt_or_ge q' 4294967296 with hq | hq
        · obtain ⟨P, R, S, ⟨fP, fR, fS, eP, eS⟩⟩ := guess_words hH hg hq
          have c1 : decide (4294967296 ≤ (q' : Int)) = false := by simp; omega
          rcases Nat.lt_or_ge S P with hSP | hSP
          · have c2 : decide ((S : Int) < (P : Int)) = true := by simp; omega
            have hbig := hg.big hH (.inr (by omega))
            have hq0 : 0 < q' := Nat.lt_of_le_of_lt (Nat.zero_le _) hbig
            have e1 : IntKind.u64.wrap ((q' : Int) - 1) = ((q' - 1 : Nat) : Int) := by rw [IntKind.wrap_u64]; have := hg.qlt; omega
            have e2 : IntKind.u64.wrap ((r' : Int) + (n1 : Int)) = ((r' + n1 : Nat) : Int) := by rw [IntKind.wrap_u64]; have := hg.rlt; have := hH.n1hi; omega
            rcases Nat.lt_or_ge (r' + n1) 4294967296 with hr | hr
            · have c3 : decide (4294967296 ≤ ((r' + n1 : Nat) : Int)) = false := by simp only [decide_eq_false_iff_not]; omega
              have g2 := hg.next hH hbig hr
              generalize r' + n1 = r2 at *
              obtain ⟨q2, hq2⟩ : ∃ q2, q2 = q' - 1 := ⟨_, rfl⟩
              have hlt : q2 < q' := by omega
              rw [← hq2] at e1 g2
              clear hq2
              have g2 := Lib.hid g2
              have hg := Lib.hid hg
              go_wp2_with fail
              go_roundw
              case measure => simp [intOf]; omega
              case rel => exact ⟨q2, r2, rfl, rfl, g2.out, trivial⟩
            · have c3 : decide (4294967296 ≤ ((r' + n1 : Nat) : Int)) = true := by simp only [decide_eq_true_iff]; omega
              have g2 := (hg.last hH hbig hr).trans hD
              generalize r' + n1 = r2 at *
              generalize q' - 1 = q2 at *
              have g2 := Lib.hid g2
              have hg := Lib.hid hg
              go_wp2_with fail
              go_meet
              have := g2.out
              subst this
              simp
          · have c2 : decide ((S : Int) < (P : Int)) = false := by simp; omega
            have hg2 := Lib.hid ((hg.right hH (by omega)).trans hD)
            have hg := Lib.hid hg
            go_wp2_with fail
            go_meet
            have := hg2.out
            subst this
            simp
        · have c1 : decide (4294967296 ≤ (q' : Int)) = true := by simp; omega
          have hbig := hg.big hH (.inl hq)
          have hq0 : 0 < q' := Nat.lt_of_le_of_lt (Nat.zero_le _) hbig
          have e1 : IntKind.u64.wrap ((q' : Int) - 1) = ((q' - 1 : Nat) : Int) := by rw [IntKind.wrap_u64]; have := hg.qlt; omega
          have e2 : IntKind.u64.wrap ((r' : Int) + (n1 : Int)) = ((r' + n1 : Nat) : Int) := by rw [IntKind.wrap_u64]; have := hg.rlt; have := hH.n1hi; omega
          rcases Nat.lt_or_ge (r' + n1) 4294967296 with hr | hr
          · have c3 : decide (4294967296 ≤ ((r' + n1 : Nat) : Int)) = false := by simp only [decide_eq_false_iff_not]; omega
            have g2 := hg.next hH hbig hr
            generalize r' + n1 = r2 at *
            obtain ⟨q2, hq2⟩ : ∃ q2, q2 = q' - 1 := ⟨_, rfl⟩
            have hlt : q2 < q' := by omega
            rw [← hq2] at e1 g2
            clear hq2
            have g2 := Lib.hid g2
            have hg := Lib.hid hg
            go_wp2_with fail
            go_roundw
            case measure => simp [intOf]; omega
            case rel => exact ⟨q2, r2, rfl, rfl, g2.out, trivial⟩
          · have c3 : decide (4294967296 ≤ ((r' + n1 : Nat) : Int)) = true := by simp only [decide_eq_true_iff]; omega
            have g2 := (hg.last hH hbig hr).trans hD
            generalize r' + n1 = r2 at *
            generalize q' - 1 = q2 at *
            have g2 := Lib.hid g2
            have hg := Lib.hid hg
            go_wp2_with fail
            go_meet
            have := g2.out
            subst this
            simp
    case rest =>
      obtain ⟨rfl, rfl⟩ := hcut
      obtain ⟨R1, hR1⟩ : ∃ R1, (U * 4294967296 + u1) % Y = R1 := ⟨_, rfl⟩
      obtain ⟨E, hEe⟩ : ∃ E, (R1 * 4294967296 + u0) / (n1 * 4294967296 + n0) = E := ⟨_, rfl⟩
      have eY := hE.out.eY
      have hD' := hD
      rw [← eY] at hD'
      have hE' := hEe
      rw [← eY] at hE'
      obtain ⟨w1, w2, hRlt, hH2⟩ := end_words hE.out hD' hR1 hE'
      have w3 := rest_word U u1 Y D hD'.symm hE.out.Yhi (by omega)
      rw [hR1] at w3
      obtain ⟨qb, mb, rb, ⟨bq, bwq, bm, br⟩, hG2⟩ := start_words hH2
      have hH2 := Lib.hid hH2
      have hG2 := Lib.hid hG2
      have hD := Lib.hid hD
      have hR1 := Lib.hid hR1
      clear eY hD' hE'
      clear fs fY fn1 fn0 fA fB fU fL fu1 fu0 fq wq fm fr ft mt mt' hcall
      go_upto_block 2 with fail
      go_cut [18] from 102 to 120 (fun v wx => v = .int .u64 (E : Int) ∧ w = wx)
      case first =>
        go_wp2_with fail
        go_loopw [18, 16] (fun v0 v1 wr => ∃ q r : Nat, v0 = .int .u64 (q : Int) ∧ v1 = .int .u64 (r : Int) ∧ Inc.Guess n1 n0 R1 u0 q r ∧ wr = w) (fun v0 _ _ => (intOf v0).toNat)
        case atStart => exact ⟨qb, rb, rfl, rfl, hG2.out, rfl⟩
        case round =>
          obtain ⟨q', r', rfl, rfl, hg, rfl⟩ := hrel
          have hH := hH2.out
          rcases Nat.lt_or_ge q' 4294967296 with hq | hq
          · obtain ⟨P, R, S, ⟨fP, fR, fS, eP, eS⟩⟩ := guess_words hH hg hq
            have c1 : decide (4294967296 ≤ (q' : Int)) = false := by simp; omega
            rcases Nat.lt_or_ge S P with hSP | hSP
            · have c2 : decide ((S : Int) < (P : Int)) = true := by simp; omega
              have hbig := hg.big hH (.inr (by omega))
              have hq0 : 0 < q' := Nat.lt_of_le_of_lt (Nat.zero_le _) hbig
              have e1 : IntKind.u64.wrap ((q' : Int) - 1) = ((q' - 1 : Nat) : Int) := by rw [IntKind.wrap_u64]; have := hg.qlt; omega
              have e2 : IntKind.u64.wrap ((r' : Int) + (n1 : Int)) = ((r' + n1 : Nat) : Int) := by rw [IntKind.wrap_u64]; have := hg.rlt; have := hH.n1hi; omega
              rcases Nat.lt_or_ge (r' + n1) 4294967296 with hr | hr
              · have c3 : decide (4294967296 ≤ ((r' + n1 : Nat) : Int)) = false := by simp only [decide_eq_false_iff_not]; omega
                have g2 := hg.next hH hbig hr
                generalize r' + n1 = r2 at *
                obtain ⟨q2, hq2⟩ : ∃ q2, q2 = q' - 1 := ⟨_, rfl⟩
                have hlt : q2 < q' := by omega
                rw [← hq2] at e1 g2
                clear hq2
                have g2 := Lib.hid g2
                have hg := Lib.hid hg
                go_wp2_with fail
                go_roundw
                case measure => simp [intOf]; omega
                case rel => exact ⟨q2, r2, rfl, rfl, g2.out, trivial⟩
              · have c3 : decide (4294967296 ≤ ((r' + n1 : Nat) : Int)) = true := by simp only [decide_eq_true_iff]; omega
                have g2 := (hg.last hH hbig hr).trans hEe
                generalize r' + n1 = r2 at *
                generalize q' - 1 = q2 at *
                have g2 := Lib.hid g2
                have hg := Lib.hid hg
                go_wp2_with fail
                go_meet
                have := g2.out
                subst this
                simp
            · have c2 : decide ((S : Int) < (P : Int)) = false := by simp; omega
              have hg2 := Lib.hid ((hg.right hH (by omega)).trans hEe)
              have hg := Lib.hid hg
              go_wp2_with fail
              go_meet
              have := hg2.out
              subst this
              simp
          · have c1 : decide (4294967296 ≤ (q' : Int)) = true := by simp; omega
            have hbig := hg.big hH (.inl hq)
            have hq0 : 0 < q' := Nat.lt_of_le_of_lt (Nat.zero_le _) hbig
            have e1 : IntKind.u64.wrap ((q' : Int) - 1) = ((q' - 1 : Nat) : Int) := by rw [IntKind.wrap_u64]; have := hg.qlt; omega
            have e2 : IntKind.u64.wrap ((r' : Int) + (n1 : Int)) = ((r' + n1 : Nat) : Int) := by rw [IntKind.wrap_u64]; have := hg.rlt; have := hH.n1hi; omega
            rcases Nat.lt_or_ge (r' + n1) 4294967296 with hr | hr
            · have c3 : decide (4294967296 ≤ ((r' + n1 : Nat) : Int)) = false := by simp only [decide_eq_false_iff_not]; omega
              have g2 := hg.next hH hbig hr
              generalize r' + n1 = r2 at *
              obtain ⟨q2, hq2⟩ : ∃ q2, q2 = q' - 1 := ⟨_, rfl⟩
              have hlt : q2 < q' := by omega
              rw [← hq2] at e1 g2
              clear hq2
              have g2 := Lib.hid g2
              have hg := Lib.hid hg
              go_wp2_with fail
              go_roundw
              case measure => simp [intOf]; omega
              case rel => exact ⟨q2, r2, rfl, rfl, g2.out, trivial⟩
            · have c3 : decide (4294967296 ≤ ((r' + n1 : Nat) : Int)) = true := by simp only [decide_eq_true_iff]; omega
              have g2 := (hg.last hH hbig hr).trans hEe
              generalize r' + n1 = r2 at *
              generalize q' - 1 = q2 at *
              have g2 := Lib.hid g2
              have hg := Lib.hid hg
              go_wp2_with fail
              go_meet
              have := g2.out
              subst this
              simp
      case rest =>
        obtain ⟨rfl, rfl⟩ := hcut
        go_wp2_with fail
        go_ret2
        exact ⟨by simp, Below.refl _ _⟩
end Go.Proofs.Ytdfkgkidaffcgaa
namespace Go.Proofs.Ytdfkgkidaffcgaa
open Go.RowKit

theorem bits_and_2047 (q : Nat) (h : q < 18446744073709551616) : bits .and .u64 (q : Int) 2047 = ((q % 2048 : Nat) : Int) := by
  have := bits_mask .u64 64 (by decide) (fun n h0 h1 => by rw [IntKind.wrap_u64]; omega) 11 (by decide) (q : Int) (by omega) (by omega)
  rw [show ((2 : Int) ^ 11 - 1) = 2047 from rfl] at this
  rw [this]; omega
theorem bits_and_1 (q : Nat) (h : q < 18446744073709551616) : bits .and .u64 (q : Int) 1 = ((q % 2 : Nat) : Int) := by
  have := bits_mask .u64 64 (by decide) (fun n h0 h1 => by rw [IntKind.wrap_u64]; omega) 1 (by decide) (q : Int) (by omega) (by omega)
  rw [show ((2 : Int) ^ 1 - 1) = 1 from rfl] at this
  rw [this]; omega

theorem lead_top (q : Nat) (h1 : 9223372036854775808 ≤ q) (h2 : q < 18446744073709551616) (w : World) :
    Calls Try.prog 69 #[.int .u64 q] w fun e w' => e = .returned (.int .i64 0) ∧ w = w' := by
  obtain ⟨s, t, hst, hs, hs1, hs2, hcall⟩ := lead_any q h2 (by omega) w
  have : s = 0 := by
    rcases Nat.eq_zero_or_pos s with h | h
    · exact h
    · have h3 := Nat.mul_le_mul_left q (Nat.pow_le_pow_right (show 0 < 2 by omega) h)
      omega
  subst this
  exact hcall

theorem float_of_digits (M : Nat) (h1 : 4503599627370496 ≤ M) (h2 : M ≤ 9007199254740992) : floatOfInt .f64 (M : Int) = 4836865999795912704 + M := Inc.ofI_digits h1 h2

set_option maxRecDepth 100000 in
theorem pack_f (q : Nat) (more : Bool) (x : Int) (h1 : 9223372036854775808 ≤ q) (h2 : q < 18446744073709551616) (hx : -500 ≤ x) (hx' : x ≤ 500) (w : World) :
    Calls Try.prog 71 #[.int .u64 q, .bool more, .int .i64 x] w fun e w' => e = .returned (.float .f64 ((1085 + x).toNat * 4503599627370496 + Inc.packM q more)) ∧ w = w' := by
  obtain ⟨m1, m2⟩ := Inc.packM_range (more := more) h1 h2
  have hl := ldexp_any (Inc.packM q more) (x + 11) (by omega) (by omega) (by omega) (by omega) w
  rw [show 1074 + (x + 11) = 1085 + x by omega] at hl
  have hf := float_of_digits (Inc.packM q more) (by omega) (by omega)
  have hz := lead_top q h1 h2 w
  have e1 := bits_and_2047 q h2
  have e2 := bits_and_1 (q / 2048) (by omega)
  have e3 : IntKind.u64.wrap (q : Int) = (q : Int) := wrap_u64_nat _ h2
  obtain ⟨lo, hlo⟩ : ∃ lo, lo = q % 2048 := ⟨_, rfl⟩
  obtain ⟨hi, hhi⟩ : ∃ hi, hi = q / 2048 := ⟨_, rfl⟩
  have hp : Inc.packM q more = hi + (if 1024 < lo ∨ (lo = 1024 ∧ (more = true ∨ hi % 2 = 1)) then 1 else 0) := by
    unfold Inc.packM; rw [← hlo, ← hhi]
  have b1 : hi < 9007199254740992 := by omega
  have e4 : (q : Int) / 2048 = (hi : Int) := by omega
  rw [← hlo] at e1
  rw [← hhi] at e2
  generalize Inc.packM q more = M at *
  generalize (1085 + x).toNat * 4503599627370496 + M = Y at *
  have b2 : 0 ≤ (hi : Int) + 1 ∧ (hi : Int) + 1 < 18446744073709551616 := by omega
  clear hlo hhi m1 m2
  have HP := Lib.hid hp
  clear hp
  have hup : M = hi + 1 → floatOfInt .f64 ((hi : Int) + 1) = 4836865999795912704 + M := by
    rintro rfl; rw [← hf]; rfl
  rcases Nat.lt_trichotomy lo 1024 with h | h | h
  · have c1 : decide ((1024 : Int) < (lo : Int)) = false := by simp; omega
    have c2 : decide ((lo : Int) = 1024) = false := by simp; omega
    obtain rfl : M = hi := by rw [HP.out, if_neg (by omega)]; rfl
    clear HP hup
    go_enter Try.func71, Try.ntmps71
    go_wp2_with (first
      | (go_at_call 69; refine (hz).mono ?_; rintro e w' ⟨rfl, rfl⟩)
      | (go_at_call 85; refine (hl).mono ?_; rintro e w' ⟨rfl, rfl⟩))
    go_ret
    exact ⟨rfl, rfl⟩
  · subst h
    have c1 : decide ((1024 : Int) < ((1024 : Nat) : Int)) = false := by decide
    have c2 : decide (((1024 : Nat) : Int) = 1024) = true := by decide
    cases more
    · rcases Nat.mod_two_eq_zero_or_one hi with h2 | h2
      · obtain rfl : M = hi := by rw [HP.out, if_neg (by simp; omega)]; rfl
        rw [h2] at e2
        clear HP hup h2
        go_enter Try.func71, Try.ntmps71
        go_wp2_with (first
          | (go_at_call 69; refine (hz).mono ?_; rintro e w' ⟨rfl, rfl⟩)
          | (go_at_call 85; refine (hl).mono ?_; rintro e w' ⟨rfl, rfl⟩))
        go_ret
        exact ⟨rfl, rfl⟩
      · have hM : M = hi + 1 := by rw [HP.out, if_pos (by simp; omega)]
        have hf2 := hup hM
        rw [h2] at e2
        clear HP hup h2 hM hf
        go_enter Try.func71, Try.ntmps71
        go_wp2_with (first
          | (go_at_call 69; refine (hz).mono ?_; rintro e w' ⟨rfl, rfl⟩)
          | (go_at_call 85; refine (hl).mono ?_; rintro e w' ⟨rfl, rfl⟩))
        go_ret
        exact ⟨rfl, rfl⟩
    · have hM : M = hi + 1 := by rw [HP.out, if_pos (by simp)]
      have hf2 := hup hM
      clear HP hup hM hf
      go_enter Try.func71, Try.ntmps71
      go_wp2_with (first
        | (go_at_call 69; refine (hz).mono ?_; rintro e w' ⟨rfl, rfl⟩)
        | (go_at_call 85; refine (hl).mono ?_; rintro e w' ⟨rfl, rfl⟩))
      go_ret
      exact ⟨rfl, rfl⟩
  · have c1 : decide ((1024 : Int) < (lo : Int)) = true := by simp; omega
    have hM : M = hi + 1 := by rw [HP.out, if_pos (.inl h)]
    have hf2 := hup hM
    clear HP hup hM hf
    go_enter Try.func71, Try.ntmps71
    go_wp2_with (first
      | (go_at_call 69; refine (hz).mono ?_; rintro e w' ⟨rfl, rfl⟩)
      | (go_at_call 85; refine (hl).mono ?_; rintro e w' ⟨rfl, rfl⟩))
    go_ret
    exact ⟨rfl, rfl⟩

set_option maxRecDepth 100000 in
set_option maxHeartbeats 800000 in
theorem near_f (num den : Nat) (hn : 0 < num) (hd : 0 < den) (hn' : num < 18446744073709551616) (hd' : den < 18446744073709551616) (w : World) :
    Calls Try.prog 58 #[.int .u64 num, .int .u64 den] w fun e w' => e = .returned (.tuple #[.float .f64 (Inc.quoW num den), .int .i64 0]) ∧ Below w.heap.size w w' := by
  obtain ⟨a, t, _, ha, ha1, ha2, hca⟩ := lead_any num hn' hn w
  obtain ⟨b, t', _, hb, hb1, hb2, hcb⟩ := lead_any den hd' hd w
  obtain ⟨w1, w2⟩ := Inc.near_word ha hb ha1 ha2 hb1 hb2
  have eA : IntKind.u64.wrap ((num : Int) * 2 ^ a) = ((num * 2 ^ a : Nat) : Int) := by rw [← wrap_u64_nat _ ha2]; simp
  have eB : IntKind.u64.wrap ((den : Int) * 2 ^ b) = ((den * 2 ^ b : Nat) : Int) := by rw [← wrap_u64_nat _ hb2]; simp
  have c1 : decide ((num : Int) = 0) = false := by simp; omega
  have c2 : decide ((den : Int) = 0) = false := by simp; omega
  have m1 : min a 64 = a := by omega
  have m2 : min b 64 = b := by omega
  have m3 : (a : Int).toNat = a := by omega
  have m4 : (b : Int).toNat = b := by omega
  have g1 : 0 ≤ (a : Int) ∧ (a : Int) ≤ 63 := by omega
  have g2 : 0 ≤ (b : Int) ∧ (b : Int) ≤ 63 := by omega
  generalize hA : num * 2 ^ a = A at *
  generalize hB : den * 2 ^ b = B at *
  generalize Inc.quoW num den = Q at *
  clear hA hB
  rcases Nat.lt_or_ge A B with hlt | hge
  · have hq := w2 hlt
    clear w1 w2
    have dv := fun w => div64_any A 0 B hlt (by omega) hb2 w
    have c3 : decide ((B : Int) ≤ (A : Int)) = false := by simp; omega
    have c3n : (B ≤ A) = False := by simp; omega
    rw [show A * 18446744073709551616 + 0 = A * 2 ^ 64 by omega] at dv
    simp only [show ((0 : Nat) : Int) = 0 from rfl] at dv
    have r1 : 9223372036854775808 ≤ A * 2 ^ 64 / B := by rw [Nat.le_div_iff_mul_le (by omega)]; omega
    have r2 : A * 2 ^ 64 / B < 18446744073709551616 := by rw [Nat.div_lt_iff_lt_mul (by omega)]; omega
    obtain ⟨q, hqq⟩ : ∃ q, q = A * 2 ^ 64 / B := ⟨_, rfl⟩
    obtain ⟨r, hrr⟩ : ∃ r, r = A * 2 ^ 64 % B := ⟨_, rfl⟩
    rw [← hqq, ← hrr] at dv
    rw [← hqq, ← hrr] at hq
    rw [← hqq] at r1 r2
    have hp := fun w => pack_f q (decide ((0 : Int) < (r : Int))) ((b : Int) - a - 64) r1 r2 (by omega) (by omega) w
    rw [show decide ((0 : Int) < (r : Int)) = decide (0 < r) by simp] at hp
    rw [show (2 : Nat) ^ 52 = 4503599627370496 from rfl] at hq
    rw [← hq] at hp
    have e7 : decide ((0 : Int) < (r : Int)) = decide (0 < r) := by simp
    generalize hm : decide (0 < r) = more at *
    clear hqq hrr hq r1 r2 hlt
    go_enter Try.func58, Try.ntmps58
    go_wp2_with fail
    refine hca.mono ?_
    rintro e w' ⟨rfl, rfl⟩
    go_wp2_with fail
    refine hcb.mono ?_
    rintro e w' ⟨rfl, rfl⟩
    go_wp2_with fail
    go_region
    go_wp2_with fail
    refine (dv _).mono ?_
    rintro e w1 ⟨rfl, hb1⟩
    go_wp2_with fail
    refine (hp _).mono ?_
    rintro e w' ⟨rfl, rfl⟩
    go_wp2_with fail
    go_ret2
    exact ⟨rfl, by (repeat (first | exact Below.refl _ _ | refine bl_alloc ?_ _ | refine bl_drew ?_ | (refine bl_set ?_ (by simp <;> omega) _) | refine bl_then ?_ (by assumption) | refine bl_cls ?_ (by assumption)))⟩
  · have hq := w1 hge
    clear w1 w2
    have dv := fun w => div64_any (A / 2) (A % 2 * 9223372036854775808) B (by omega) (by omega) hb2 w
    have c3n : (B ≤ A) = True := by simp; omega
    rw [show A / 2 * 18446744073709551616 + A % 2 * 9223372036854775808 = A * 2 ^ 63 by omega] at dv
    have r1 : 9223372036854775808 ≤ A * 2 ^ 63 / B := by rw [Nat.le_div_iff_mul_le (by omega)]; omega
    have r2 : A * 2 ^ 63 / B < 18446744073709551616 := by rw [Nat.div_lt_iff_lt_mul (by omega)]; omega
    obtain ⟨q, hqq⟩ : ∃ q, q = A * 2 ^ 63 / B := ⟨_, rfl⟩
    obtain ⟨r, hrr⟩ : ∃ r, r = A * 2 ^ 63 % B := ⟨_, rfl⟩
    rw [← hqq, ← hrr] at dv
    rw [← hqq, ← hrr] at hq
    rw [← hqq] at r1 r2
    have hp := fun w => pack_f q (decide ((0 : Int) < (r : Int))) ((b : Int) - a + 1 - 64) r1 r2 (by omega) (by omega) w
    rw [show decide ((0 : Int) < (r : Int)) = decide (0 < r) by simp] at hp
    rw [show 1085 + ((b : Int) - a + 1 - 64) = 1085 + ((b : Int) - a - 63) by omega] at hp
    rw [show (2 : Nat) ^ 52 = 4503599627370496 from rfl] at hq
    rw [← hq] at hp
    have e7 : decide ((0 : Int) < (r : Int)) = decide (0 < r) := by simp
    have e5 : (A : Int) / 2 = ((A / 2 : Nat) : Int) := by omega
    have e6 : IntKind.u64.wrap ((A : Int) * 9223372036854775808) = ((A % 2 * 9223372036854775808 : Nat) : Int) := by rw [IntKind.wrap_u64]; omega
    obtain ⟨h, hh⟩ : ∃ h, h = A / 2 := ⟨_, rfl⟩
    obtain ⟨l, hl⟩ : ∃ l, l = A % 2 * 9223372036854775808 := ⟨_, rfl⟩
    simp only [← hh, ← hl] at dv
    rw [← hh] at e5
    rw [← hl] at e6
    clear hh hl
    generalize hm : decide (0 < r) = more at *
    clear hqq hrr hq r1 r2 hge
    go_enter Try.func58, Try.ntmps58
    go_wp2_with fail
    refine hca.mono ?_
    rintro e w' ⟨rfl, rfl⟩
    go_wp2_with fail
    refine hcb.mono ?_
    rintro e w' ⟨rfl, rfl⟩
    go_wp2_with fail
    go_region
    go_wp2_with fail
    refine (dv _).mono ?_
    rintro e w1 ⟨rfl, hb1⟩
    go_wp2_with fail
    refine (hp _).mono ?_
    rintro e w' ⟨rfl, rfl⟩
    go_wp2_with fail
    go_ret2
    exact ⟨rfl, by (repeat (first | exact Below.refl _ _ | refine bl_alloc ?_ _ | refine bl_drew ?_ | (refine bl_set ?_ (by simp <;> omega) _) | refine bl_then ?_ (by assumption) | refine bl_cls ?_ (by assumption)))⟩
end Go.Proofs.Ytdfkgkidaffcgaa
set_option autoImplicit false
namespace Inc

theorem popR_len (p : Pt) (l : List Pt) : (popR p l).length ≤ l.length := by
  fun_induction popR p l with
  | case1 b a t h ih => simp at *; omega
  | case2 b a t h => simp
  | case3 l h => simp

structure FitS (e : Int) (ks : List Int) (F : Fit) : Prop where
  ok : FitOK e ks F
  ul : F.up.length ≤ ks.length
  ll : F.lo.length ≤ ks.length

theorem Conv.sorted {l : List Pt} (h : Conv l) : ∀ i j : Nat, i ≤ j → j < l.length → (l.getD j default).x ≤ (l.getD i default).x := by
  induction l with
  | nil => intro i j _ hj; simp at hj
  | cons c l ih =>
    intro i j hij hj
    rcases i with _ | i
    · rcases j with _ | j
      · exact Int.le_refl _
      · have hj' : j < l.length := by simpa using hj
        have := h.lt_head (l.getD j default) (by rw [getD_get _ _ hj']; exact List.getElem_mem _)
        simp only [List.getD_cons_succ, List.getD_cons_zero]
        omega
    · rcases j with _ | j
      · omega
      · simp only [List.getD_cons_succ]
        exact ih h.tail i j (by omega) (by simpa using hj)

theorem Conv.sorted_rev {c : List Pt} (h : Conv c.reverse) : ∀ i j : Nat, i ≤ j → j < c.length → (c.getD i default).x ≤ (c.getD j default).x := by
  intro i j hij hj
  have := h.sorted (c.length - 1 - j) (c.length - 1 - i) (by omega) (by simp; omega)
  rw [getD_reverse_at _ _ (by omega), getD_reverse_at _ _ (by omega)] at this
  rw [show c.length - 1 - (c.length - 1 - i) = i by omega, show c.length - 1 - (c.length - 1 - j) = j by omega] at this
  exact this

theorem low2_le {a b : Int} (ha : 0 ≤ a) (hb : 0 < b) : (low2 a b).1 ≤ a ∧ (low2 a b).2 ≤ b := by
  obtain ⟨g, hg, e1, e2, p1, p2, _⟩ := low2_spec ha hb
  generalize low2 a b = p at *
  have h1 := Int.mul_le_mul_of_nonneg_left (show 1 ≤ g by omega) p1
  have h2 := Int.mul_le_mul_of_nonneg_left (show 1 ≤ g by omega) (Int.le_of_lt p2)
  omega

structure KeysIn (ks : List Int) : Prop where
  len : ks.length ≤ 8589934592
  rng : ∀ i : Nat, i < ks.length → 0 ≤ K ks i ∧ K ks i < 18446744073709551616

theorem FitOK.slopes {e : Int} {ks : List Int} {F : Fit} (h0 : 1 ≤ e) (h1 : e ≤ 63) (h : FitOK e ks F) (hk : KeysIn ks) :
    (0 ≤ F.least.1 ∧ F.least.1 < 9223372036854775808 ∧ 0 ≤ F.least.2 ∧ F.least.2 < 18446744073709551616) ∧ (0 ≤ F.most.1 ∧ F.most.1 < 9223372036854775808 ∧ 0 ≤ F.most.2 ∧ F.most.2 < 18446744073709551616) := by
  have hl := hk.len
  constructor
  · refine ⟨h.low.num, ?_, Int.le_of_lt h.low.den, ?_⟩
    all_goals
      rcases h.low.att with he | ⟨i, j, hij, hj, hp, he⟩
      · rw [he]; decide
      · have hr := h.rise i j hij hj
        obtain ⟨a, b⟩ := low2_le (a := (j : Int) - i - 2 * e) (b := K ks j - K ks i) (by omega) (by omega)
        have r1 := hk.rng i (by omega)
        have r2 := hk.rng j hj
        rw [he]
        omega
  · rcases Nat.lt_or_ge 1 ks.length with hn | hn
    · obtain ⟨p1, p2, _, i, j, hij, hj, he⟩ := h.top.some hn
      have hr := h.rise i j hij hj
      obtain ⟨a, b⟩ := low2_le (a := (j : Int) - i + 2 * e) (b := K ks j - K ks i) (by omega) (by omega)
      have r1 := hk.rng i (by omega)
      have r2 := hk.rng j hj
      rw [← he] at a b
      refine ⟨?_, ?_, ?_, ?_⟩ <;> omega
    · rw [h.top.none hn]
      decide

theorem FitOK.last_lt {e : Int} {ks : List Int} {F : Fit} (h : FitOK e ks F) {key : Int} (hk : ∀ i, i < ks.length → K ks i < key) (hn : 0 < F.cnt) : F.last < key := by
  have := h.cnt
  rw [h.last (by omega)]
  exact hk _ (by omega)

theorem FitOK.flip_mem {e : Int} {ks : List Int} {F : Fit} (h : FitOK e ks F) {d : Pt} (hd : d ∈ F.lo) : ∃ i : Nat, i < ks.length ∧ d = ⟨K ks i, (i : Int) - e⟩ := by
  obtain ⟨i, hi, he⟩ := h.lo.mem (flip d) (List.mem_map_of_mem hd)
  refine ⟨i, hi, ?_⟩
  rw [← flip_flip d, he]
  simp only [flip]
  congr 1
  omega

theorem FitOK.lo_sorted {e : Int} {ks : List Int} {F : Fit} (h : FitOK e ks F) : ∀ i j : Nat, i ≤ j → j < F.lo.length → (F.lo.getD i default).x ≤ (F.lo.getD j default).x := by
  intro i j hij hj
  have := h.lo.conv.sorted_rev i j hij (by simpa using hj)
  have e1 : ∀ k : Nat, k < F.lo.length → ((F.lo.map flip).getD k default).x = (F.lo.getD k default).x := by
    intro k hk
    rw [getD_get _ _ (by simpa using hk), getD_get _ _ hk]
    simp [flip]
  rw [e1 i (by omega), e1 j hj] at this
  exact this

theorem FitS.new (e : Int) : FitS e [] Fit.new := ⟨FitOK.new e, by simp [Fit.new], by simp [Fit.new]⟩

theorem FitS.add {e : Int} {ks : List Int} {F : Fit} (h0 : 0 ≤ e) (h : FitS e ks F) {key : Int} (hk : ∀ i, i < ks.length → K ks i < key) :
    (∃ F', F.add e key = some F' ∧ FitS e (ks ++ [key]) F') ∨
    (0 < ks.length ∧ F.add e key = none ∧ ∃ l m, IsLow e (ks ++ [key]) l ∧ IsTop e (ks ++ [key]) m ∧ below m l = true) := by
  rcases h.ok.add h0 hk with ⟨F', h1, h2⟩ | h'
  · refine .inl ⟨F', h1, h2, ?_, ?_⟩
    all_goals
      have hu := h.ul
      have hl := h.ll
      simp only [List.length_append, List.length_singleton]
      unfold Fit.add at h1
      have hlay : ∀ l m, (F.lay e key l m).up.length ≤ F.up.length + 1 ∧ (F.lay e key l m).lo.length ≤ F.lo.length + 1 := by
        intro l m
        simp only [Fit.lay, laid]
        simp only [List.length_append, List.length_take, List.length_singleton]
        omega
      split at h1
      · split at h1
        · cases h1
        · injection h1 with h1
          subst h1
          have := hlay (leastOf e F key) (mostOf e F key)
          omega
      · injection h1 with h1
        subst h1
        have := hlay F.least F.most
        omega
  · exact .inr h'
end Inc
namespace Go.Proofs.Ytdfkgkidaffcgaa
open Go.RowKit

theorem cmpu_any (a b : Int) (w : World) :
    Calls Try.prog 90 #[.int .u64 a, .int .u64 b] w fun e w' => e = .returned (.int .i64 (cmpI a b)) ∧ w = w' := by
  go_enter Try.func90, Try.ntmps90
  go_wp2_with (go_at_call 96; refine (nanu_any _ _).mono ?_; rintro e w' ⟨rfl, rfl⟩)
  all_goals (go_ret; exact ⟨by unfold cmpI; simp [*] <;> omega, rfl⟩)

def wcmp (h1 l1 h2 l2 : Int) : Int := if h1 = h2 then cmpI l1 l2 else cmpI h1 h2

set_option maxHeartbeats 400000 in
theorem wcmp_any (h1 l1 h2 l2 : Int) (w : World) :
    Calls Try.prog 80 #[.agg #[.int .i64 h1, .int .u64 l1], .agg #[.int .i64 h2, .int .u64 l2]] w fun e w' => e = .returned (.int .i64 (wcmp h1 l1 h2 l2)) ∧ Below w.heap.size w w' := by
  go_enter Try.func80, Try.ntmps80
  go_wp2_with (first | (go_at_call 89; refine (cmp64_any _ _ _).mono ?_; rintro e w' ⟨rfl, rfl⟩) | (go_at_call 90; refine (cmpu_any _ _ _).mono ?_; rintro e w' ⟨rfl, rfl⟩))
  all_goals (go_ret; refine ⟨?_, ((Below.refl _ _).alloc (Nat.le_refl _) _).alloc (by simp) _⟩)
  all_goals (simp_all [wcmp, cmpI])

theorem wcmp_div (A B : Int) : wcmp (A / 18446744073709551616) (A % 18446744073709551616) (B / 18446744073709551616) (B % 18446744073709551616) = Inc.icmp A B := by
  unfold wcmp cmpI Inc.icmp
  split <;> (repeat' split) <;> omega

theorem wrap_i64_id {x : Int} (h : -9223372036854775808 ≤ x) (h' : x ≤ 9223372036854775807) : IntKind.i64.wrap x = x := by
  rw [IntKind.wrap_i64]; omega
theorem wrap_u64_id {x : Int} (h : 0 ≤ x) (h' : x < 18446744073709551616) : IntKind.u64.wrap x = x := by
  rw [IntKind.wrap_u64]; omega

/-- a point's coordinates: a key and a height -/
def PtB (p : Inc.Pt) : Prop := 0 ≤ p.x ∧ p.x < 18446744073709551616 ∧ -2305843009213693952 ≤ p.y ∧ p.y ≤ 2305843009213693952
def ptV (p : Inc.Pt) : Value := .agg #[.int .u64 p.x, .int .i64 p.y]

set_option maxHeartbeats 800000 in
theorem turn_any (p q r : Inc.Pt) (hp : PtB p) (hq : PtB q) (hr : PtB r) (hpq : p.x ≤ q.x) (hpr : p.x ≤ r.x) (w : World) :
    Calls Try.prog 82 #[ptV p, ptV q, ptV r] w fun e w' => e = .returned (.int .i64 (Inc.turnS p q r)) ∧ Below w.heap.size w w' := by
  obtain ⟨px, py⟩ := p
  obtain ⟨qx, qy⟩ := q
  obtain ⟨rx, ry⟩ := r
  unfold PtB at hp hq hr
  simp only at hp hq hr hpq hpr
  unfold ptV Inc.turnS
  rw [← wcmp_div]
  simp only
  have w1 : IntKind.i64.wrap (qy - py) = qy - py := wrap_i64_id (by omega) (by omega)
  have w2 : IntKind.i64.wrap (ry - py) = ry - py := wrap_i64_id (by omega) (by omega)
  have w3 : IntKind.u64.wrap (rx - px) = rx - px := wrap_u64_id (by omega) (by omega)
  have w4 : IntKind.u64.wrap (qx - px) = qx - px := wrap_u64_id (by omega) (by omega)
  go_enter Try.func82, Try.ntmps82
  go_wp2_with fail
  refine wp_region_below (by kernel_rfl) (by kernel_rfl) ?_
  with_reducible refine q_want ?_ (fun K hK => ?_)
  · kernel_rfl
  apply Exists.intro
  constructor
  · (intro w1 hw1; have hc := hw1.cells; go_simp <;> rfl)
  go_simp; refine hK _ ?_; clear hK K
  with_reducible refine q_want ?_ (fun K hK => ?_)
  · kernel_rfl
  apply Exists.intro
  constructor
  · (intro w1 hw1; have hc := hw1.cells; go_simp <;> rfl)
  go_simp; refine hK _ ?_; clear hK K
  with_reducible refine q_want ?_ (fun K hK => ?_)
  · kernel_rfl
  apply Exists.intro
  constructor
  · (intro w1 hw1; have hc := hw1.cells; go_simp <;> rfl)
  go_simp; refine hK _ ?_; clear hK K
  with_reducible refine q_want ?_ (fun K hK => ?_)
  · kernel_rfl
  apply Exists.intro
  constructor
  · (intro w1 hw1; have hc := hw1.cells; go_simp <;> rfl)
  go_simp; refine hK _ ?_; clear hK K
  with_reducible refine q_want ?_ (fun K hK => ?_)
  · kernel_rfl
  apply Exists.intro
  constructor
  · (intro w1 hw1; have hc := hw1.cells; go_simp <;> rfl)
  go_simp; refine hK _ ?_; clear hK K
  with_reducible refine q_want ?_ (fun K hK => ?_)
  · kernel_rfl
  apply Exists.intro
  constructor
  · (intro w1 hw1; have hc := hw1.cells; go_simp <;> rfl)
  go_simp; refine hK _ ?_; clear hK K
  with_reducible refine q_want ?_ (fun K hK => ?_)
  · kernel_rfl
  apply Exists.intro
  constructor
  · (intro w1 hw1; have hc := hw1.cells; go_simp <;> rfl)
  go_simp; refine hK _ ?_; clear hK K
  with_reducible refine q_want ?_ (fun K hK => ?_)
  · kernel_rfl
  apply Exists.intro
  constructor
  · (intro w1 hw1; have hc := hw1.cells; go_simp <;> rfl)
  go_simp; refine hK _ ?_; clear hK K
  with_reducible refine q_want ?_ (fun K hK => ?_)
  · kernel_rfl
  apply Exists.intro
  constructor
  · (intro w1 hw1; have hc := hw1.cells; go_simp <;> rfl)
  go_simp; refine hK _ ?_; clear hK K
  with_reducible refine q_want ?_ (fun K hK => ?_)
  · kernel_rfl
  apply Exists.intro
  constructor
  · (intro w1 hw1; have hc := hw1.cells; go_simp <;> rfl)
  go_simp; refine hK _ ?_; clear hK K
  with_reducible refine q_want ?_ (fun K hK => ?_)
  · kernel_rfl
  apply Exists.intro
  constructor
  · intro w1 hw1
    have hc := hw1.cells
    go_simp
    first
      | (go_at_call 81; exact quiet_call hw1 (times_any _ _ (by omega) (by omega) (by omega) (by omega) _))
      | (go_at_call 80; exact quiet_call hw1 (wcmp_any _ _ _ _ _))
  go_simp; refine hK _ ?_; clear hK K
  with_reducible refine q_want ?_ (fun K hK => ?_)
  · kernel_rfl
  apply Exists.intro
  constructor
  · (intro w1 hw1; have hc := hw1.cells; go_simp <;> rfl)
  go_simp; refine hK _ ?_; clear hK K
  with_reducible refine q_want ?_ (fun K hK => ?_)
  · kernel_rfl
  apply Exists.intro
  constructor
  · (intro w1 hw1; have hc := hw1.cells; go_simp <;> rfl)
  go_simp; refine hK _ ?_; clear hK K
  with_reducible refine q_want ?_ (fun K hK => ?_)
  · kernel_rfl
  apply Exists.intro
  constructor
  · (intro w1 hw1; have hc := hw1.cells; go_simp <;> rfl)
  go_simp; refine hK _ ?_; clear hK K
  with_reducible refine q_want ?_ (fun K hK => ?_)
  · kernel_rfl
  apply Exists.intro
  constructor
  · (intro w1 hw1; have hc := hw1.cells; go_simp <;> rfl)
  go_simp; refine hK _ ?_; clear hK K
  with_reducible refine q_want ?_ (fun K hK => ?_)
  · kernel_rfl
  apply Exists.intro
  constructor
  · (intro w1 hw1; have hc := hw1.cells; go_simp <;> rfl)
  go_simp; refine hK _ ?_; clear hK K
  with_reducible refine q_want ?_ (fun K hK => ?_)
  · kernel_rfl
  apply Exists.intro
  constructor
  · (intro w1 hw1; have hc := hw1.cells; go_simp <;> rfl)
  go_simp; refine hK _ ?_; clear hK K
  with_reducible refine q_want ?_ (fun K hK => ?_)
  · kernel_rfl
  apply Exists.intro
  constructor
  · (intro w1 hw1; have hc := hw1.cells; go_simp <;> rfl)
  go_simp; refine hK _ ?_; clear hK K
  with_reducible refine q_want ?_ (fun K hK => ?_)
  · kernel_rfl
  apply Exists.intro
  constructor
  · (intro w1 hw1; have hc := hw1.cells; go_simp <;> rfl)
  go_simp; refine hK _ ?_; clear hK K
  with_reducible refine q_want ?_ (fun K hK => ?_)
  · kernel_rfl
  apply Exists.intro
  constructor
  · (intro w1 hw1; have hc := hw1.cells; go_simp <;> rfl)
  go_simp; refine hK _ ?_; clear hK K
  with_reducible refine q_want ?_ (fun K hK => ?_)
  · kernel_rfl
  apply Exists.intro
  constructor
  · (intro w1 hw1; have hc := hw1.cells; go_simp <;> rfl)
  go_simp; refine hK _ ?_; clear hK K
  with_reducible refine q_want ?_ (fun K hK => ?_)
  · kernel_rfl
  apply Exists.intro
  constructor
  · intro w1 hw1
    have hc := hw1.cells
    go_simp
    first
      | (go_at_call 81; exact quiet_call hw1 (times_any _ _ (by omega) (by omega) (by omega) (by omega) _))
      | (go_at_call 80; exact quiet_call hw1 (wcmp_any _ _ _ _ _))
  go_simp; refine hK _ ?_; clear hK K
  with_reducible refine q_want ?_ (fun K hK => ?_)
  · kernel_rfl
  apply Exists.intro
  constructor
  · intro w1 hw1
    have hc := hw1.cells
    go_simp
    first
      | (go_at_call 81; exact quiet_call hw1 (times_any _ _ (by omega) (by omega) (by omega) (by omega) _))
      | (go_at_call 80; exact quiet_call hw1 (wcmp_any _ _ _ _ _))
  go_simp; refine hK _ ?_; clear hK K
  with_reducible refine q_want ?_ (fun K hK => ?_)
  · kernel_rfl
  apply Exists.intro
  constructor
  · (intro w1 hw1; have hc := hw1.cells; go_simp <;> rfl)
  go_simp; refine hK _ ?_; clear hK K
  refine wpQuiet_nil ?_
  intro w1 hw1
  go_wp2_with fail
  go_ret
  refine ⟨rfl, Below.trans ?_ (hw1.below.mono ?_)⟩
  · exact (((Below.refl _ _).alloc (Nat.le_refl _) _).alloc (by simp) _).alloc (by simp; omega) _
  · simp; omega
end Go.Proofs.Ytdfkgkidaffcgaa
namespace Go.Proofs.Ytdfkgkidaffcgaa
open Go.RowKit

set_option maxHeartbeats 800000 in
theorem steeper_any (p q r : Inc.Pt) (hp : PtB p) (hq : PtB q) (hr : PtB r) (hpq : q.x ≤ r.x) (hpr : p.x ≤ r.x) (w : World) :
    Calls Try.prog 77 #[ptV p, ptV q, ptV r] w fun e w' => e = .returned (.int .i64 (Inc.steepS p q r)) ∧ Below w.heap.size w w' := by
  obtain ⟨px, py⟩ := p
  obtain ⟨qx, qy⟩ := q
  obtain ⟨rx, ry⟩ := r
  unfold PtB at hp hq hr
  simp only at hp hq hr hpq hpr
  unfold ptV Inc.steepS
  rw [← wcmp_div]
  simp only
  have e1 : IntKind.i64.wrap (ry - py) = ry - py := wrap_i64_id (by omega) (by omega)
  have e2 : IntKind.i64.wrap (ry - qy) = ry - qy := wrap_i64_id (by omega) (by omega)
  have e3 : IntKind.u64.wrap (rx - px) = rx - px := wrap_u64_id (by omega) (by omega)
  have e4 : IntKind.u64.wrap (rx - qx) = rx - qx := wrap_u64_id (by omega) (by omega)
  go_enter Try.func77, Try.ntmps77
  go_wp2_with fail
  refine wp_region_below (by kernel_rfl) (by kernel_rfl) ?_
  with_reducible refine q_want ?_ (fun K hK => ?_)
  · kernel_rfl
  apply Exists.intro
  constructor
  · (intro w1 hw1; have hc := hw1.cells; go_simp <;> rfl)
  go_simp; refine hK _ ?_; clear hK K
  with_reducible refine q_want ?_ (fun K hK => ?_)
  · kernel_rfl
  apply Exists.intro
  constructor
  · (intro w1 hw1; have hc := hw1.cells; go_simp <;> rfl)
  go_simp; refine hK _ ?_; clear hK K
  with_reducible refine q_want ?_ (fun K hK => ?_)
  · kernel_rfl
  apply Exists.intro
  constructor
  · (intro w1 hw1; have hc := hw1.cells; go_simp <;> rfl)
  go_simp; refine hK _ ?_; clear hK K
  with_reducible refine q_want ?_ (fun K hK => ?_)
  · kernel_rfl
  apply Exists.intro
  constructor
  · (intro w1 hw1; have hc := hw1.cells; go_simp <;> rfl)
  go_simp; refine hK _ ?_; clear hK K
  with_reducible refine q_want ?_ (fun K hK => ?_)
  · kernel_rfl
  apply Exists.intro
  constructor
  · (intro w1 hw1; have hc := hw1.cells; go_simp <;> rfl)
  go_simp; refine hK _ ?_; clear hK K
  with_reducible refine q_want ?_ (fun K hK => ?_)
  · kernel_rfl
  apply Exists.intro
  constructor
  · (intro w1 hw1; have hc := hw1.cells; go_simp <;> rfl)
  go_simp; refine hK _ ?_; clear hK K
  with_reducible refine q_want ?_ (fun K hK => ?_)
  · kernel_rfl
  apply Exists.intro
  constructor
  · (intro w1 hw1; have hc := hw1.cells; go_simp <;> rfl)
  go_simp; refine hK _ ?_; clear hK K
  with_reducible refine q_want ?_ (fun K hK => ?_)
  · kernel_rfl
  apply Exists.intro
  constructor
  · (intro w1 hw1; have hc := hw1.cells; go_simp <;> rfl)
  go_simp; refine hK _ ?_; clear hK K
  with_reducible refine q_want ?_ (fun K hK => ?_)
  · kernel_rfl
  apply Exists.intro
  constructor
  · (intro w1 hw1; have hc := hw1.cells; go_simp <;> rfl)
  go_simp; refine hK _ ?_; clear hK K
  with_reducible refine q_want ?_ (fun K hK => ?_)
  · kernel_rfl
  apply Exists.intro
  constructor
  · (intro w1 hw1; have hc := hw1.cells; go_simp <;> rfl)
  go_simp; refine hK _ ?_; clear hK K
  with_reducible refine q_want ?_ (fun K hK => ?_)
  · kernel_rfl
  apply Exists.intro
  constructor
  · intro w1 hw1
    have hc := hw1.cells
    go_simp
    first
      | (go_at_call 81; exact quiet_call hw1 (times_any _ _ (by omega) (by omega) (by omega) (by omega) _))
      | (go_at_call 80; exact quiet_call hw1 (wcmp_any _ _ _ _ _))
  go_simp; refine hK _ ?_; clear hK K
  with_reducible refine q_want ?_ (fun K hK => ?_)
  · kernel_rfl
  apply Exists.intro
  constructor
  · (intro w1 hw1; have hc := hw1.cells; go_simp <;> rfl)
  go_simp; refine hK _ ?_; clear hK K
  with_reducible refine q_want ?_ (fun K hK => ?_)
  · kernel_rfl
  apply Exists.intro
  constructor
  · (intro w1 hw1; have hc := hw1.cells; go_simp <;> rfl)
  go_simp; refine hK _ ?_; clear hK K
  with_reducible refine q_want ?_ (fun K hK => ?_)
  · kernel_rfl
  apply Exists.intro
  constructor
  · (intro w1 hw1; have hc := hw1.cells; go_simp <;> rfl)
  go_simp; refine hK _ ?_; clear hK K
  with_reducible refine q_want ?_ (fun K hK => ?_)
  · kernel_rfl
  apply Exists.intro
  constructor
  · (intro w1 hw1; have hc := hw1.cells; go_simp <;> rfl)
  go_simp; refine hK _ ?_; clear hK K
  with_reducible refine q_want ?_ (fun K hK => ?_)
  · kernel_rfl
  apply Exists.intro
  constructor
  · (intro w1 hw1; have hc := hw1.cells; go_simp <;> rfl)
  go_simp; refine hK _ ?_; clear hK K
  with_reducible refine q_want ?_ (fun K hK => ?_)
  · kernel_rfl
  apply Exists.intro
  constructor
  · (intro w1 hw1; have hc := hw1.cells; go_simp <;> rfl)
  go_simp; refine hK _ ?_; clear hK K
  with_reducible refine q_want ?_ (fun K hK => ?_)
  · kernel_rfl
  apply Exists.intro
  constructor
  · (intro w1 hw1; have hc := hw1.cells; go_simp <;> rfl)
  go_simp; refine hK _ ?_; clear hK K
  with_reducible refine q_want ?_ (fun K hK => ?_)
  · kernel_rfl
  apply Exists.intro
  constructor
  · (intro w1 hw1; have hc := hw1.cells; go_simp <;> rfl)
  go_simp; refine hK _ ?_; clear hK K
  with_reducible refine q_want ?_ (fun K hK => ?_)
  · kernel_rfl
  apply Exists.intro
  constructor
  · (intro w1 hw1; have hc := hw1.cells; go_simp <;> rfl)
  go_simp; refine hK _ ?_; clear hK K
  with_reducible refine q_want ?_ (fun K hK => ?_)
  · kernel_rfl
  apply Exists.intro
  constructor
  · (intro w1 hw1; have hc := hw1.cells; go_simp <;> rfl)
  go_simp; refine hK _ ?_; clear hK K
  with_reducible refine q_want ?_ (fun K hK => ?_)
  · kernel_rfl
  apply Exists.intro
  constructor
  · intro w1 hw1
    have hc := hw1.cells
    go_simp
    first
      | (go_at_call 81; exact quiet_call hw1 (times_any _ _ (by omega) (by omega) (by omega) (by omega) _))
      | (go_at_call 80; exact quiet_call hw1 (wcmp_any _ _ _ _ _))
  go_simp; refine hK _ ?_; clear hK K
  with_reducible refine q_want ?_ (fun K hK => ?_)
  · kernel_rfl
  apply Exists.intro
  constructor
  · intro w1 hw1
    have hc := hw1.cells
    go_simp
    first
      | (go_at_call 81; exact quiet_call hw1 (times_any _ _ (by omega) (by omega) (by omega) (by omega) _))
      | (go_at_call 80; exact quiet_call hw1 (wcmp_any _ _ _ _ _))
  go_simp; refine hK _ ?_; clear hK K
  with_reducible refine q_want ?_ (fun K hK => ?_)
  · kernel_rfl
  apply Exists.intro
  constructor
  · (intro w1 hw1; have hc := hw1.cells; go_simp <;> rfl)
  go_simp; refine hK _ ?_; clear hK K
  refine wpQuiet_nil ?_
  intro w1 hw1
  go_wp2_with fail
  go_ret
  refine ⟨rfl, Below.trans ?_ (hw1.below.mono ?_)⟩
  · exact (((Below.refl _ _).alloc (Nat.le_refl _) _).alloc (by simp) _).alloc (by simp; omega) _
  · simp; omega

def bendV (side : Int) : Int := if side = 0 then -1 else 1
theorem bend_any (side : Int) (w : World) :
    Calls Try.prog 78 #[.int .i64 side] w fun e w' => e = .returned (.int .i64 (bendV side)) ∧ w = w' := by
  go_enter Try.func78, Try.ntmps78
  go_wp2
  all_goals (go_ret; exact ⟨by simp_all [bendV], rfl⟩)

end Go.Proofs.Ytdfkgkidaffcgaa
