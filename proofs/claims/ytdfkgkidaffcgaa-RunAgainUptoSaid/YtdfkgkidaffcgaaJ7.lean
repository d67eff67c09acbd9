/- A fit: its chains, its least and its greatest slope, as keys are added. The line of a stretch: the least slope, and the least base over which it stays near. How near a segment's guess is to its line. Plain mathematics. The digits of a quotient, as ratio.Near reckons them. Plain mathematics. -/
import Derived.Test.YtdfkgkidaffcgaaJ6
set_option linter.all false
set_option autoImplicit false
namespace Inc

theorem slope_trans {a b c d e f : Int} (hb : 0 < b) (hd : 0 < d) (hf : 0 < f) (h1 : a * d ≤ c * b) (h2 : c * f ≤ e * d) : a * f ≤ e * b := by
  have h1' := Int.mul_le_mul_of_nonneg_right h1 (Int.le_of_lt hf)
  have h2' := Int.mul_le_mul_of_nonneg_right h2 (Int.le_of_lt hb)
  apply Int.le_of_mul_le_mul_right (a := d) _ hd
  grind

theorem pos_of_mul {b g : Int} (hg : 0 < g) (h : 0 < b * g) : 0 < b := by
  rcases Int.lt_or_le 0 b with k | k
  · exact k
  · exfalso
    have := Int.mul_le_mul_of_nonneg_right k (Int.le_of_lt hg)
    omega

/-! ### fractions in lowest terms -/
def low2 (a b : Int) : Int × Int := (a / (Int.gcd a b : Int), b / (Int.gcd a b : Int))

theorem low2_spec {a b : Int} (ha : 0 ≤ a) (hb : 0 < b) : ∃ g : Int, 0 < g ∧ a = (low2 a b).1 * g ∧ b = (low2 a b).2 * g ∧ 0 ≤ (low2 a b).1 ∧ 0 < (low2 a b).2 ∧ (0 < a → 0 < (low2 a b).1) := by
  have hg : 0 < (Int.gcd a b : Int) := by
    have : 0 < Int.gcd a b := Int.gcd_pos_of_ne_zero_right _ (by omega)
    omega
  have e1 : a = a / (Int.gcd a b : Int) * (Int.gcd a b : Int) := (Int.ediv_mul_cancel (Int.gcd_dvd_left ..)).symm
  have e2 : b = b / (Int.gcd a b : Int) * (Int.gcd a b : Int) := (Int.ediv_mul_cancel (Int.gcd_dvd_right ..)).symm
  refine ⟨(Int.gcd a b : Int), hg, e1, e2, Int.ediv_nonneg ha (by omega), ?_, ?_⟩
  · exact pos_of_mul (b := b / (Int.gcd a b : Int)) hg (by rw [← e2]; exact hb)
  · intro h0; exact pos_of_mul (b := a / (Int.gcd a b : Int)) hg (by rw [← e1]; exact h0)

theorem low2_cross {a b : Int} (ha : 0 ≤ a) (hb : 0 < b) : (low2 a b).1 * b = a * (low2 a b).2 := by
  obtain ⟨g, _, e1, e2, _⟩ := low2_spec ha hb
  generalize low2 a b = p at *
  subst e1 e2
  grind

theorem low2_coprime {a b : Int} (hb : 0 < b) : Int.gcd (low2 a b).1 (low2 a b).2 = 1 := by
  have hg : 0 < Int.gcd a b := Int.gcd_pos_of_ne_zero_right _ (by omega)
  exact Int.gcd_ediv_gcd_ediv_gcd hg

theorem dvd_of_coprime {a b d : Int} (h : Int.gcd a b = 1) (hd : b ∣ a * d) : b ∣ d := by
  rw [← Int.natAbs_dvd_natAbs] at hd ⊢
  rw [Int.natAbs_mul] at hd
  have hc : Nat.Coprime b.natAbs a.natAbs := by
    have : Nat.gcd a.natAbs b.natAbs = 1 := h
    rw [Nat.gcd_comm] at this; exact this
  exact hc.dvd_of_dvd_mul_left hd

theorem coprime_eq {a b c d : Int} (ha : 0 ≤ a) (hb : 0 < b) (hc : 0 ≤ c) (hd : 0 < d) (h1 : Int.gcd a b = 1) (h2 : Int.gcd c d = 1) (h : a * d = c * b) : a = c ∧ b = d := by
  have k1 : b ∣ d := by
    have : b ∣ a * d := ⟨c, by rw [h]; exact Int.mul_comm ..⟩
    exact dvd_of_coprime h1 this
  have k2 : d ∣ b := by
    have : d ∣ c * b := ⟨a, by rw [← h]; exact Int.mul_comm ..⟩
    exact dvd_of_coprime h2 this
  have hbd : b = d := Int.dvd_antisymm (by omega) (by omega) k1 k2
  subst hbd
  exact ⟨Int.eq_of_mul_eq_mul_right (by omega) h, rfl⟩

theorem low2_eq {a b c d : Int} (ha : 0 ≤ a) (hb : 0 < b) (hc : 0 ≤ c) (hd : 0 < d) (h : (low2 a b).1 * (low2 c d).2 = (low2 c d).1 * (low2 a b).2) : low2 a b = low2 c d := by
  obtain ⟨g, hg, e1, e2, p1, p2, _⟩ := low2_spec ha hb
  obtain ⟨g', hg', e1', e2', p1', p2', _⟩ := low2_spec hc hd
  obtain ⟨x, y⟩ := coprime_eq p1 p2 p1' p2' (low2_coprime hb) (low2_coprime hd) h
  exact Prod.ext x y

/-! ### the state -/
def below (a b : Int × Int) : Bool := if b.2 = 0 then decide (a.2 ≠ 0) else decide (a.2 ≠ 0) && decide (a.1 * b.2 < b.1 * a.2)

structure Fit where
  cnt : Int
  last : Int
  least : Int × Int
  most : Int × Int
  lo : List Pt
  up : List Pt

def Fit.new : Fit := ⟨0, 0, (0, 1), (1, 0), [], []⟩

/-- how many points of the chain stay; s: 1 upper, -1 lower -/
def keep (s : Int) (c : List Pt) (p : Pt) : Nat → Nat
  | 0 => 0
  | 1 => 1
  | n + 2 => if 0 ≤ turnS (c.getD n default) (c.getD (n + 1) default) p * s then keep s c p (n + 1) else n + 2

def laid (s : Int) (c : List Pt) (p : Pt) : List Pt := c.take (keep s c p c.length) ++ [p]

def touch (s : Int) (c : List Pt) (p : Pt) : Pt :=
  c.getD (bsearch (fun i => decide (0 ≤ steepS (c.getD i default) (c.getD (i + 1) default) p * s)) c.length 0 (c.length - 1)) default

def between (p q : Pt) : Int × Int := low2 (q.y - p.y) (q.x - p.x)

def leastOf (e : Int) (F : Fit) (key : Int) : Int × Int :=
  if (touch 1 F.up ⟨key, F.cnt - e⟩).y < F.cnt - e then
    (if below F.least (between (touch 1 F.up ⟨key, F.cnt - e⟩) ⟨key, F.cnt - e⟩) then between (touch 1 F.up ⟨key, F.cnt - e⟩) ⟨key, F.cnt - e⟩ else F.least)
  else F.least

def mostOf (e : Int) (F : Fit) (key : Int) : Int × Int :=
  if below (between (touch (-1) F.lo ⟨key, F.cnt + e⟩) ⟨key, F.cnt + e⟩) F.most then between (touch (-1) F.lo ⟨key, F.cnt + e⟩) ⟨key, F.cnt + e⟩ else F.most

def Fit.lay (e : Int) (F : Fit) (key : Int) (l m : Int × Int) : Fit :=
  ⟨F.cnt + 1, key, l, m, laid (-1) F.lo ⟨key, F.cnt - e⟩, laid 1 F.up ⟨key, F.cnt + e⟩⟩

/-- one key more, or none: no line fits -/
def Fit.add (e : Int) (F : Fit) (key : Int) : Option Fit :=
  if F.cnt > 0 then
    (if below (mostOf e F key) (leastOf e F key) then none else some (F.lay e key (leastOf e F key) (mostOf e F key)))
  else some (F.lay e key F.least F.most)

/-! ### what least and most are -/
abbrev K (ks : List Int) (i : Nat) : Int := ks.getD i 0

structure IsLow (e : Int) (ks : List Int) (s : Int × Int) : Prop where
  den : 0 < s.2
  num : 0 ≤ s.1
  bound : ∀ i j : Nat, i < j → j < ks.length → ((j : Int) - i - 2 * e) * s.2 ≤ s.1 * (K ks j - K ks i)
  att : s = (0, 1) ∨ ∃ i j : Nat, i < j ∧ j < ks.length ∧ 0 < (j : Int) - i - 2 * e ∧ s = low2 ((j : Int) - i - 2 * e) (K ks j - K ks i)

structure IsTop (e : Int) (ks : List Int) (s : Int × Int) : Prop where
  none : ks.length ≤ 1 → s = (1, 0)
  some : 1 < ks.length → 0 < s.2 ∧ 0 < s.1 ∧ (∀ i j : Nat, i < j → j < ks.length → s.1 * (K ks j - K ks i) ≤ ((j : Int) - i + 2 * e) * s.2) ∧
    ∃ i j : Nat, i < j ∧ j < ks.length ∧ s = low2 ((j : Int) - i + 2 * e) (K ks j - K ks i)

def Rise (ks : List Int) : Prop := ∀ i j : Nat, i < j → j < ks.length → K ks i < K ks j

theorem IsLow.unique {e : Int} {ks : List Int} {s t : Int × Int} (hr : Rise ks) (hs : IsLow e ks s) (ht : IsLow e ks t) : s = t := by
  have key : ∀ {s t : Int × Int}, IsLow e ks s → IsLow e ks t → s.1 * t.2 ≤ t.1 * s.2 := by
    intro s t hs ht
    rcases hs.att with rfl | ⟨i, j, hij, hj, hpos, rfl⟩
    · have := Int.mul_nonneg ht.num (Int.le_of_lt (by decide : (0 : Int) < 1))
      simpa using this
    · have hk := hr i j hij hj
      have h1 := ht.bound i j hij hj
      have h2 := low2_cross (Int.le_of_lt hpos) (show 0 < K ks j - K ks i by omega)
      exact slope_trans hs.den (by omega) ht.den (Int.le_of_eq h2) h1
  have heq : s.1 * t.2 = t.1 * s.2 := by have := key hs ht; have := key ht hs; omega
  rcases hs.att with rfl | ⟨i, j, hij, hj, hpos, rfl⟩
  · rcases ht.att with rfl | ⟨i', j', hij', hj', hpos', rfl⟩
    · rfl
    · exfalso
      have hk := hr i' j' hij' hj'
      obtain ⟨_, _, _, _, _, _, hp⟩ := low2_spec (Int.le_of_lt hpos') (show 0 < K ks j' - K ks i' by omega)
      have := hp hpos'
      rw [Int.zero_mul, Int.mul_one] at heq; omega
  · rcases ht.att with rfl | ⟨i', j', hij', hj', hpos', rfl⟩
    · exfalso
      have hk := hr i j hij hj
      obtain ⟨_, _, _, _, _, _, hp⟩ := low2_spec (Int.le_of_lt hpos) (show 0 < K ks j - K ks i by omega)
      have := hp hpos
      rw [Int.zero_mul, Int.mul_one] at heq; omega
    · have hk := hr i j hij hj
      have hk' := hr i' j' hij' hj'
      exact low2_eq (Int.le_of_lt hpos) (by omega) (Int.le_of_lt hpos') (by omega) heq

theorem IsTop.unique {e : Int} {ks : List Int} {s t : Int × Int} (he : 0 ≤ e) (hr : Rise ks) (hs : IsTop e ks s) (ht : IsTop e ks t) : s = t := by
  rcases Nat.lt_or_ge 1 ks.length with hn | hn
  · have key : ∀ {s t : Int × Int}, IsTop e ks s → IsTop e ks t → t.1 * s.2 ≤ s.1 * t.2 := by
      intro s t hs ht
      obtain ⟨hd, _, _, i, j, hij, hj, rfl⟩ := hs.some hn
      obtain ⟨htd, _, hb, _⟩ := ht.some hn
      have hk := hr i j hij hj
      have h1 := hb i j hij hj
      have h2 := low2_cross (a := (j : Int) - i + 2 * e) (by omega) (show 0 < K ks j - K ks i by omega)
      exact slope_trans htd (by omega) hd h1 (Int.le_of_eq h2.symm)
    have heq : s.1 * t.2 = t.1 * s.2 := by have := key hs ht; have := key ht hs; omega
    obtain ⟨_, _, _, i, j, hij, hj, rfl⟩ := hs.some hn
    obtain ⟨_, _, _, i', j', hij', hj', rfl⟩ := ht.some hn
    have hk := hr i j hij hj
    have hk' := hr i' j' hij' hj'
    exact low2_eq (by omega) (by omega) (by omega) (by omega) heq
  · rw [hs.none hn, ht.none hn]

/-! ### the chains -/
def flip (p : Pt) : Pt := ⟨p.x, -p.y⟩
theorem flip_flip (p : Pt) : flip (flip p) = p := by simp [flip]
theorem turn_flip (a b p : Pt) : turnS (flip a) (flip b) (flip p) = - turnS a b p := by
  unfold turnS flip
  rw [← icmp_neg]
  congr 1 <;> grind
theorem steep_flip (a b p : Pt) : steepS (flip a) (flip b) (flip p) = - steepS a b p := by
  unfold steepS flip
  rw [← icmp_neg]
  congr 1 <;> grind
theorem getD_map_flip (c : List Pt) (i : Nat) : (c.map flip).getD i default = flip (c.getD i default) := by
  rcases Nat.lt_or_ge i c.length with h | h
  · rw [getD_get _ _ (by simpa using h), getD_get _ _ h]; simp
  · simp [List.getD_eq_getElem?_getD, h]; rfl

theorem keep_le (s : Int) (c : List Pt) (p : Pt) : ∀ n, keep s c p n ≤ n := by
  intro n
  fun_induction keep s c p n with
  | case1 => simp
  | case2 => simp
  | case3 n h ih => omega
  | case4 n h => omega

theorem keep_flip (c : List Pt) (p : Pt) : ∀ n, keep (-1) c p n = keep 1 (c.map flip) (flip p) n := by
  intro n
  fun_induction keep (-1) c p n with
  | case1 => rfl
  | case2 => rfl
  | case3 n h ih =>
    rw [keep, if_pos, ih]
    rw [getD_map_flip, getD_map_flip, turn_flip]; omega
  | case4 n h =>
    rw [keep, if_neg]
    rw [getD_map_flip, getD_map_flip, turn_flip]; omega

theorem keep_pop (c : List Pt) (p : Pt) : ∀ n, n ≤ c.length → (c.take (keep 1 c p n)).reverse = popR p (c.take n).reverse := by
  intro n
  fun_induction keep 1 c p n with
  | case1 => intro _; simp [popR]
  | case2 =>
    intro h
    match c, h with
    | a :: t, _ => simp [popR]
  | case3 n h ih =>
    intro hn
    rw [ih (by omega)]
    have e1 : c.take (n + 2) = c.take (n + 1) ++ [c.getD (n + 1) default] := by
      rw [getD_get _ _ (by omega)]; simp
    have e2 : c.take (n + 1) = c.take n ++ [c.getD n default] := by
      rw [getD_get _ _ (by omega)]; simp
    rw [e1, e2]
    simp only [List.reverse_append, List.reverse_cons, List.reverse_nil, List.nil_append, List.cons_append]
    conv => rhs; rw [popR]
    rw [if_pos (by simpa using h)]
  | case4 n h =>
    intro hn
    have e1 : c.take (n + 2) = c.take (n + 1) ++ [c.getD (n + 1) default] := by
      rw [getD_get _ _ (by omega)]; simp
    have e2 : c.take (n + 1) = c.take n ++ [c.getD n default] := by
      rw [getD_get _ _ (by omega)]; simp
    rw [e1, e2]
    simp only [List.reverse_append, List.reverse_cons, List.reverse_nil, List.nil_append, List.cons_append]
    conv => rhs; rw [popR]
    rw [if_neg (by simpa using h)]

theorem laid_up (c : List Pt) (p : Pt) : (laid 1 c p).reverse = p :: popR p c.reverse := by
  unfold laid
  rw [List.reverse_append, keep_pop c p c.length (Nat.le_refl _)]
  simp

theorem laid_lo (c : List Pt) (p : Pt) : ((laid (-1) c p).map flip) = laid 1 (c.map flip) (flip p) := by
  unfold laid
  rw [keep_flip]
  simp

theorem touch_up (c : List Pt) (p : Pt) : touch 1 c p = touchS c p := by simp [touch, touchS, touchAt]

theorem touch_lo (c : List Pt) (p : Pt) : flip (touch (-1) c p) = touchS (c.map flip) (flip p) := by
  unfold touch touchS touchAt
  rw [getD_map_flip, List.length_map]
  congr 3
  funext i
  rw [getD_map_flip, getD_map_flip, steep_flip]
  congr 1
  simp

/-- A chain of the points (K i, f i) of the keys. -/
structure Chain (ks : List Int) (f : Nat → Int) (c : List Pt) : Prop where
  conv : Conv c.reverse
  mem : ∀ d ∈ c, ∃ i : Nat, i < ks.length ∧ d = ⟨K ks i, f i⟩
  ne : 0 < ks.length → c ≠ []
  dom : ∀ i : Nat, i < ks.length → Dom ⟨K ks i, f i⟩ c.reverse (K ks (ks.length - 1))

theorem K_append_lt (ks : List Int) (k : Int) (i : Nat) (h : i < ks.length) : K (ks ++ [k]) i = K ks i := by
  simp [K, List.getD_eq_getElem?_getD, List.getElem?_append_left h]
theorem K_append_last (ks : List Int) (k : Int) : K (ks ++ [k]) ks.length = k := by
  simp [K, List.getD_eq_getElem?_getD]

theorem Rise.snoc {ks : List Int} {k : Int} (h : Rise ks) (hk : ∀ i, i < ks.length → K ks i < k) : Rise (ks ++ [k]) := by
  intro i j hij hj
  simp at hj
  rcases Nat.lt_or_ge j ks.length with h' | h'
  · rw [K_append_lt _ _ _ h', K_append_lt _ _ _ (by omega)]; exact h i j hij h'
  · obtain rfl : j = ks.length := by omega
    rw [K_append_last, K_append_lt _ _ _ hij]; exact hk i hij

theorem Chain.lay {ks : List Int} {f : Nat → Int} {c : List Pt} (h : Chain ks f c) {k : Int} (hk : ∀ i, i < ks.length → K ks i < k) :
    Chain (ks ++ [k]) f (laid 1 c ⟨k, f ks.length⟩) := by
  have hp : ∀ d ∈ c.reverse, d.x < k := by
    intro d hd
    obtain ⟨i, hi, rfl⟩ := h.mem d (by simpa using hd)
    exact hk i hi
  refine ⟨?_, ?_, ?_, ?_⟩
  · rw [laid_up]; exact popR_conv _ _ h.conv hp
  · intro d hd
    have : d ∈ (laid 1 c ⟨k, f ks.length⟩).reverse := by simpa using hd
    rw [laid_up] at this
    rcases List.mem_cons.1 this with rfl | h'
    · exact ⟨ks.length, by simp, by rw [K_append_last]⟩
    · obtain ⟨i, hi, rfl⟩ := h.mem d (by simpa using popR_sub _ _ _ h')
      exact ⟨i, by simp; omega, by rw [K_append_lt _ _ _ hi]⟩
  · intro _ h'
    have := congrArg List.reverse h'
    rw [laid_up] at this
    simp at this
  · intro i hi
    simp at hi
    rw [laid_up, show (ks ++ [k]).length - 1 = ks.length from by simp, K_append_last]
    rcases Nat.lt_or_ge i ks.length with h' | h'
    · rw [K_append_lt _ _ _ h']
      have hl : K ks i ≤ K ks (ks.length - 1) ∨ True := .inr trivial
      intro r hr
      obtain ⟨c1, hc1, hk1⟩ := h.dom i h' r (by have := hk (ks.length - 1) (by omega); exact Int.lt_trans this hr)
      obtain ⟨c2, hc2, hk2⟩ := popR_dom ⟨k, f ks.length⟩ c.reverse h.conv hp c1 hc1 r hr
      refine ⟨c2, hc2, hk1.trans ?_ ?_ ?_ hk2⟩
      · exact Int.lt_trans (hk i h') hr
      · exact Int.lt_trans (hp c1 hc1) hr
      · rcases List.mem_cons.1 hc2 with rfl | hc2
        · exact hr
        · exact Int.lt_trans (hp c2 (popR_sub _ _ _ hc2)) hr
    · obtain rfl : i = ks.length := by omega
      rw [K_append_last]
      intro r hr
      exact ⟨_, List.mem_cons_self, SlLe.refl _ _⟩

theorem Chain.touch {ks : List Int} {f : Nat → Int} {c : List Pt} (h : Chain ks f c) (hn : 0 < ks.length) {p : Pt} (hk : ∀ i, i < ks.length → K ks i < p.x) :
    ∃ m : Nat, m < ks.length ∧ touchS c p = ⟨K ks m, f m⟩ ∧ ∀ i, i < ks.length → SlLe ⟨K ks i, f i⟩ ⟨K ks m, f m⟩ p := by
  have hp : ∀ d ∈ c, d.x < p.x := by
    intro d hd
    obtain ⟨i, hi, rfl⟩ := h.mem d hd
    exact hk i hi
  have hF : ConvF c := by have := h.conv.forward; rwa [List.reverse_reverse] at this
  obtain ⟨_, hm, hb⟩ := touch_best c p hF (h.ne hn) hp
  obtain ⟨m, hml, hme⟩ := h.mem _ hm
  refine ⟨m, hml, hme, ?_⟩
  intro i hi
  obtain ⟨d, hd, hk1⟩ := h.dom i hi p (hk _ (by omega))
  have hd' : d ∈ c := by simpa using hd
  rw [← hme]
  exact hk1.trans (hk i hi) (hp d hd') (hp _ hm) (hb d hd')

/-! ### the whole state -/
structure FitOK (e : Int) (ks : List Int) (F : Fit) : Prop where
  cnt : F.cnt = ks.length
  last : 0 < ks.length → F.last = K ks (ks.length - 1)
  rise : Rise ks
  low : IsLow e ks F.least
  top : IsTop e ks F.most
  fits : below F.most F.least = false
  up : Chain ks (fun i => (i : Int) + e) F.up
  lo : Chain ks (fun i => e - (i : Int)) (F.lo.map flip)

theorem FitOK.new (e : Int) : FitOK e [] Fit.new where
  cnt := rfl
  last := fun h => by simp at h
  rise := fun i j _ h => by simp at h
  low := ⟨by decide, by decide, fun i j _ h => by simp at h, .inl rfl⟩
  top := ⟨fun _ => rfl, fun h => by simp at h⟩
  fits := by decide
  up := ⟨trivial, fun d h => by simp [Fit.new] at h, fun h => by simp at h, fun i h => by simp at h⟩
  lo := ⟨trivial, fun d h => by simp [Fit.new] at h, fun h => by simp at h, fun i h => by simp at h⟩

theorem below_iff {a b : Int × Int} (ha : 0 < a.2) (hb : 0 < b.2) : below a b = true ↔ a.1 * b.2 < b.1 * a.2 := by
  unfold below
  rw [if_neg (by omega)]
  simp
  omega

/-- The least slope behind one key more. -/
theorem leastOf_ok {e : Int} {ks : List Int} {F : Fit} (h : FitOK e ks F) (hn : 0 < ks.length) {key : Int} (hk : ∀ i, i < ks.length → K ks i < key) :
    IsLow e (ks ++ [key]) (leastOf e F key) := by
  obtain ⟨m, hm, he, hb⟩ := h.up.touch hn (p := ⟨key, F.cnt - e⟩) hk
  rw [← touch_up] at he
  have hkm := hk m hm
  -- the tangent's slope is the greatest
  have hmax : ∀ i : Nat, i < ks.length → ((ks.length : Int) - i - 2 * e) * (key - K ks m) ≤ ((ks.length : Int) - m - 2 * e) * (key - K ks i) := by
    intro i hi
    have := hb i hi
    unfold SlLe at this
    simp only [h.cnt] at this
    have e1 : (ks.length : Int) - e - ((i : Int) + e) = (ks.length : Int) - i - 2 * e := by omega
    have e2 : (ks.length : Int) - e - ((m : Int) + e) = (ks.length : Int) - m - 2 * e := by omega
    rwa [e1, e2] at this
  unfold leastOf
  rw [he]
  simp only [h.cnt]
  have hbt : between ⟨K ks m, (m : Int) + e⟩ ⟨key, (ks.length : Int) - e⟩ = low2 ((ks.length : Int) - m - 2 * e) (key - K ks m) := by
    unfold between; simp only; congr 1; omega
  rw [hbt]
  have hd := h.low.den
  have hnn := h.low.num
  -- whatever is at least the old one and at least the tangent's
  have build : ∀ s : Int × Int, 0 < s.2 → 0 ≤ s.1 → F.least.1 * s.2 ≤ s.1 * F.least.2 → ((ks.length : Int) - m - 2 * e) * s.2 ≤ s.1 * (key - K ks m) →
      (s = (0, 1) ∨ ∃ i j : Nat, i < j ∧ j < (ks ++ [key]).length ∧ 0 < (j : Int) - i - 2 * e ∧ s = low2 ((j : Int) - i - 2 * e) (K (ks ++ [key]) j - K (ks ++ [key]) i)) → IsLow e (ks ++ [key]) s := by
    intro s hs2 hs1 hs3 hs4 hatt
    refine ⟨hs2, hs1, ?_, hatt⟩
    intro i j hij hj
    simp at hj
    rcases Nat.lt_or_ge j ks.length with h' | h'
    · rw [K_append_lt _ _ _ h', K_append_lt _ _ _ (show i < ks.length by omega)]
      have h1 := h.low.bound i j hij h'
      have hx : 0 < K ks j - K ks i := by have := h.rise i j hij h'; omega
      exact slope_trans hx hd hs2 h1 hs3
    · obtain rfl : j = ks.length := by omega
      rw [K_append_last, K_append_lt _ _ _ hij]
      have h1 := hmax i hij
      have hx : 0 < key - K ks i := by have := hk i hij; omega
      have hy : 0 < key - K ks m := by omega
      exact slope_trans hx hy hs2 h1 hs4
  have oldatt : F.least = (0, 1) ∨ ∃ i j : Nat, i < j ∧ j < (ks ++ [key]).length ∧ 0 < (j : Int) - i - 2 * e ∧ F.least = low2 ((j : Int) - i - 2 * e) (K (ks ++ [key]) j - K (ks ++ [key]) i) := by
    rcases h.low.att with h' | ⟨i, j, hij, hj, hp, h'⟩
    · exact .inl h'
    · refine .inr ⟨i, j, hij, by simp; omega, hp, ?_⟩
      rw [K_append_lt _ _ _ hj, K_append_lt _ _ _ (by omega)]; exact h'
  split
  · rename_i hy
    have hy' : 0 < (ks.length : Int) - m - 2 * e := by omega
    have hz : 0 < key - K ks m := by omega
    obtain ⟨g, hg, e1, e2, p1, p2, p3⟩ := low2_spec (Int.le_of_lt hy') hz
    have hc := low2_cross (Int.le_of_lt hy') hz
    split
    · rename_i hbl
      rw [below_iff hd p2] at hbl
      refine build _ p2 p1 (Int.le_of_lt hbl) (Int.le_of_eq hc.symm) (.inr ⟨m, ks.length, hm, by simp, hy', ?_⟩)
      rw [K_append_last, K_append_lt _ _ _ hm]
    · rename_i hbl
      rw [below_iff hd p2] at hbl
      refine build _ hd hnn (Int.le_refl _) ?_ oldatt
      exact slope_trans hz p2 hd (Int.le_of_eq hc.symm) (Int.not_lt.1 hbl)
  · rename_i hy
    refine build _ hd hnn (Int.le_refl _) ?_ oldatt
    have h1 : ((ks.length : Int) - m - 2 * e) * F.least.2 ≤ 0 := Int.mul_nonpos_of_nonpos_of_nonneg (by omega) (Int.le_of_lt hd)
    have h2 : 0 ≤ F.least.1 * (key - K ks m) := Int.mul_nonneg hnn (by omega)
    omega

/-- The greatest slope behind one key more. -/
theorem mostOf_ok {e : Int} {ks : List Int} {F : Fit} (h0 : 0 ≤ e) (h : FitOK e ks F) (hn : 0 < ks.length) {key : Int} (hk : ∀ i, i < ks.length → K ks i < key) :
    IsTop e (ks ++ [key]) (mostOf e F key) := by
  obtain ⟨m, hm, he, hb⟩ := h.lo.touch hn (p := flip ⟨key, F.cnt + e⟩) hk
  rw [← touch_lo] at he
  have he' : touch (-1) F.lo ⟨key, F.cnt + e⟩ = ⟨K ks m, (m : Int) - e⟩ := by
    have := congrArg flip he
    rw [flip_flip] at this
    rw [this]; simp only [flip]; congr 1; omega
  have hkm := hk m hm
  have hmin : ∀ i : Nat, i < ks.length → ((ks.length : Int) - m + 2 * e) * (key - K ks i) ≤ ((ks.length : Int) - i + 2 * e) * (key - K ks m) := by
    intro i hi
    have := hb i hi
    unfold SlLe flip at this
    simp only [h.cnt] at this
    have e1 : -((ks.length : Int) + e) - (e - (i : Int)) = -((ks.length : Int) - i + 2 * e) := by omega
    have e2 : -((ks.length : Int) + e) - (e - (m : Int)) = -((ks.length : Int) - m + 2 * e) := by omega
    rw [e1, e2, Int.neg_mul, Int.neg_mul] at this
    omega
  unfold mostOf
  rw [he']
  simp only [h.cnt]
  have hbt : between ⟨K ks m, (m : Int) - e⟩ ⟨key, (ks.length : Int) + e⟩ = low2 ((ks.length : Int) - m + 2 * e) (key - K ks m) := by
    unfold between; simp only; congr 1; omega
  rw [hbt]
  have hy' : 0 < (ks.length : Int) - m + 2 * e := by omega
  have hz : 0 < key - K ks m := by omega
  obtain ⟨g, hg, e1, e2, p1, p2, p3⟩ := low2_spec (Int.le_of_lt hy') hz
  have hc := low2_cross (Int.le_of_lt hy') hz
  have p3 := p3 hy'
  have build : ∀ s : Int × Int, 0 < s.2 → 0 < s.1 → (1 < ks.length → s.1 * F.most.2 ≤ F.most.1 * s.2) → s.1 * (key - K ks m) ≤ ((ks.length : Int) - m + 2 * e) * s.2 →
      (∃ i j : Nat, i < j ∧ j < (ks ++ [key]).length ∧ s = low2 ((j : Int) - i + 2 * e) (K (ks ++ [key]) j - K (ks ++ [key]) i)) → IsTop e (ks ++ [key]) s := by
    intro s hs2 hs1 hs3 hs4 hatt
    refine ⟨fun hl => by rw [List.length_append] at hl; simp only [List.length_cons, List.length_nil] at hl; omega, fun _ => ⟨hs2, hs1, ?_, hatt⟩⟩
    intro i j hij hj
    simp at hj
    rcases Nat.lt_or_ge j ks.length with h' | h'
    · rw [K_append_lt _ _ _ h', K_append_lt _ _ _ (show i < ks.length by omega)]
      obtain ⟨hd, hn0, hbd, _⟩ := h.top.some (by omega)
      have h1 := hbd i j hij h'
      have hs3' := hs3 (by omega)
      have hx : 0 < K ks j - K ks i := by have := h.rise i j hij h'; omega
      exact slope_trans hs2 hd hx hs3' h1
    · obtain rfl : j = ks.length := by omega
      rw [K_append_last, K_append_lt _ _ _ hij]
      have h1 := hmin i hij
      have hx : 0 < key - K ks i := by have := hk i hij; omega
      exact slope_trans hs2 hz hx hs4 h1
  have newatt : ∃ i j : Nat, i < j ∧ j < (ks ++ [key]).length ∧ low2 ((ks.length : Int) - m + 2 * e) (key - K ks m) = low2 ((j : Int) - i + 2 * e) (K (ks ++ [key]) j - K (ks ++ [key]) i) :=
    ⟨m, ks.length, hm, by simp, by rw [K_append_last, K_append_lt _ _ _ hm]⟩
  rcases Nat.lt_or_ge 1 ks.length with h1 | h1
  · obtain ⟨hd, hn0, hbd, i, j, hij, hj, hat⟩ := h.top.some h1
    split
    · rename_i hbl
      rw [below_iff p2 hd] at hbl
      exact build _ p2 p3 (fun _ => Int.le_of_lt hbl) (Int.le_of_eq hc) newatt
    · rename_i hbl
      rw [below_iff p2 hd] at hbl
      refine build _ hd hn0 (fun _ => Int.le_refl _) ?_ ⟨i, j, hij, by simp; omega, ?_⟩
      · exact slope_trans hd p2 hz (Int.not_lt.1 hbl) (Int.le_of_eq hc)
      · rw [K_append_lt _ _ _ hj, K_append_lt _ _ _ (by omega)]; exact hat
  · have hm0 := h.top.none h1
    rw [hm0, if_pos (by unfold below; rw [if_pos rfl]; simp only [ne_eq, decide_not, Bool.not_eq_true', decide_eq_false_iff_not]; omega)]
    exact build _ p2 p3 (fun h => by omega) (Int.le_of_eq hc) newatt

theorem FitOK.lay {e : Int} {ks : List Int} {F : Fit} (h : FitOK e ks F) {key : Int} (hk : ∀ i, i < ks.length → K ks i < key) {l m : Int × Int}
    (hl : IsLow e (ks ++ [key]) l) (hm : IsTop e (ks ++ [key]) m) (hb : below m l = false) : FitOK e (ks ++ [key]) (F.lay e key l m) where
  cnt := by simp [Fit.lay, h.cnt]
  last := fun _ => by simp [Fit.lay]
  rise := h.rise.snoc hk
  low := hl
  top := hm
  fits := hb
  up := by
    show Chain _ _ (laid 1 F.up ⟨key, F.cnt + e⟩)
    rw [h.cnt]
    exact h.up.lay hk
  lo := by
    show Chain _ _ ((laid (-1) F.lo ⟨key, F.cnt - e⟩).map flip)
    rw [laid_lo, h.cnt]
    have : flip ⟨key, (ks.length : Int) - e⟩ = ⟨key, e - (ks.length : Int)⟩ := by simp [flip]; omega
    rw [this]
    exact h.lo.lay hk

/-- One key more: a fit of all; or: none, and the least and the greatest slope that the keys ask for cross. -/
theorem FitOK.add {e : Int} {ks : List Int} {F : Fit} (h0 : 0 ≤ e) (h : FitOK e ks F) {key : Int} (hk : ∀ i, i < ks.length → K ks i < key) :
    (∃ F', F.add e key = some F' ∧ FitOK e (ks ++ [key]) F') ∨
    (0 < ks.length ∧ F.add e key = none ∧ ∃ l m, IsLow e (ks ++ [key]) l ∧ IsTop e (ks ++ [key]) m ∧ below m l = true) := by
  rcases Nat.eq_zero_or_pos ks.length with hn | hn
  · refine .inl ⟨F.lay e key F.least F.most, ?_, ?_⟩
    · unfold Fit.add; rw [if_neg (by rw [h.cnt]; omega)]
    · obtain rfl : ks = [] := List.length_eq_zero_iff.1 hn
      refine h.lay hk ?_ ?_ h.fits
      · exact ⟨h.low.den, h.low.num, fun i j hij hj => by simp at hj; omega, by
          rcases h.low.att with h' | ⟨i, j, _, hj, _⟩
          · exact .inl h'
          · simp at hj⟩
      · exact ⟨fun _ => h.top.none (by simp), fun hl => by simp at hl⟩
  · have hl := leastOf_ok h hn hk
    have hm := mostOf_ok h0 h hn hk
    unfold Fit.add
    rw [if_pos (by rw [h.cnt]; omega)]
    cases hb : below (mostOf e F key) (leastOf e F key) with
    | true => exact .inr ⟨hn, by simp, _, _, hl, hm, hb⟩
    | false => exact .inl ⟨_, by simp, h.lay hk hl hm hb⟩

end Inc
set_option autoImplicit false
namespace Inc

/-- num * d / den, rounded down -/
def flo (s : Int × Int) (d : Int) : Int := s.1 * d / s.2

/-- the base after k keys -/
def baseTo (e : Int) (ks : List Int) (s : Int × Int) : Nat → Int
  | 0 => -e
  | k + 1 => max (baseTo e ks s k) ((k : Int) - e - flo s (K ks k - K ks 0))

theorem baseTo_ge (e : Int) (ks : List Int) (s : Int × Int) : ∀ k i : Nat, i < k → (i : Int) - e - flo s (K ks i - K ks 0) ≤ baseTo e ks s k := by
  intro k
  induction k with
  | zero => intro i h; omega
  | succ k ih =>
    intro i h
    unfold baseTo
    rcases Nat.lt_or_ge i k with h' | h'
    · have := ih i h'; omega
    · obtain rfl : i = k := by omega
      omega

theorem baseTo_lo (e : Int) (ks : List Int) (s : Int × Int) : ∀ k : Nat, -e ≤ baseTo e ks s k := by
  intro k
  induction k with
  | zero => exact Int.le_refl _
  | succ k ih => unfold baseTo; omega

theorem flo_zero (s : Int × Int) : flo s 0 = 0 := by simp [flo]
theorem flo_nonneg {s : Int × Int} {d : Int} (h1 : 0 ≤ s.1) (h2 : 0 < s.2) (hd : 0 ≤ d) : 0 ≤ flo s d := Int.ediv_nonneg (Int.mul_nonneg h1 hd) (Int.le_of_lt h2)

theorem baseTo_att (e : Int) (ks : List Int) (s : Int × Int) : ∀ k : Nat, 0 < k → ∃ i : Nat, i < k ∧ baseTo e ks s k = (i : Int) - e - flo s (K ks i - K ks 0) := by
  intro k
  induction k with
  | zero => intro h; omega
  | succ k ih =>
    intro _
    rcases Nat.eq_zero_or_pos k with rfl | hk
    · refine ⟨0, by omega, ?_⟩
      unfold baseTo baseTo
      rw [Int.sub_self, flo_zero]; simp
    · obtain ⟨i, hi, he⟩ := ih hk
      unfold baseTo
      rcases Int.le_total (baseTo e ks s k) ((k : Int) - e - flo s (K ks k - K ks 0)) with h | h
      · exact ⟨k, by omega, by omega⟩
      · exact ⟨i, by omega, by omega⟩

/-- of two keys of a fit: how far the slope's part may be apart -/
theorem FitOK.apart {e : Int} {ks : List Int} {F : Fit} (h : FitOK e ks F) {i j : Nat} (hij : i < j) (hj : j < ks.length) :
    (j : Int) - i - 2 * e ≤ flo F.least (K ks j - K ks 0) - flo F.least (K ks i - K ks 0) ∧
    flo F.least (K ks j - K ks 0) - flo F.least (K ks i - K ks 0) ≤ (j : Int) - i + 2 * e := by
  have hd := h.low.den
  have hlo := h.low.bound i j hij hj
  have hx : 0 < K ks j - K ks i := by have := h.rise i j hij hj; omega
  have hup : F.least.1 * (K ks j - K ks i) ≤ ((j : Int) - i + 2 * e) * F.least.2 := by
    obtain ⟨md, mn, mb, _⟩ := h.top.some (by omega)
    have hf : ¬ F.most.1 * F.least.2 < F.least.1 * F.most.2 := by
      intro hc
      have := (below_iff md hd).2 hc
      rw [h.fits] at this; cases this
    exact slope_trans hd md hx (Int.not_lt.1 hf) (mb i j hij hj)
  unfold flo
  have e1 : F.least.1 * (K ks j - K ks 0) = F.least.1 * (K ks i - K ks 0) + F.least.1 * (K ks j - K ks i) := by
    rw [← Int.mul_add]; congr 1; omega
  have a1 : F.least.1 * (K ks i - K ks 0) / F.least.2 + ((j : Int) - i - 2 * e) ≤ F.least.1 * (K ks j - K ks 0) / F.least.2 := by
    rw [← Int.add_mul_ediv_right _ _ (by omega)]
    exact Int.ediv_le_ediv hd (by omega)
  have a2 : F.least.1 * (K ks j - K ks 0) / F.least.2 ≤ F.least.1 * (K ks i - K ks 0) / F.least.2 + ((j : Int) - i + 2 * e) := by
    rw [← Int.add_mul_ediv_right _ _ (by omega)]
    exact Int.ediv_le_ediv hd (by omega)
  omega

theorem line_near {e : Int} {ks : List Int} {F : Fit} (h0 : 0 ≤ e) (h : FitOK e ks F) {i : Nat} (hi : i < ks.length) :
    (i : Int) - e ≤ flo F.least (K ks i - K ks 0) + baseTo e ks F.least ks.length ∧ flo F.least (K ks i - K ks 0) + baseTo e ks F.least ks.length ≤ (i : Int) + e := by
  have h1 := baseTo_ge e ks F.least ks.length i hi
  obtain ⟨j, hj, he⟩ := baseTo_att e ks F.least ks.length (by omega)
  rw [he] at h1 ⊢
  constructor
  · omega
  · rcases Nat.lt_trichotomy i j with hc | hc | hc
    · have := h.apart hc hj; omega
    · subst hc; omega
    · have := h.apart hc hi; omega

theorem flo_bound {e : Int} {ks : List Int} {F : Fit} (h0 : 0 ≤ e) (h : FitOK e ks F) {i : Nat} (hi : i < ks.length) :
    0 ≤ flo F.least (K ks i - K ks 0) ∧ flo F.least (K ks i - K ks 0) ≤ (i : Int) + 2 * e := by
  rcases Nat.eq_zero_or_pos i with rfl | hp
  · rw [Int.sub_self, flo_zero]; omega
  · have := h.apart hp hi
    rw [Int.sub_self, flo_zero] at this
    refine ⟨flo_nonneg h.low.num h.low.den ?_, by omega⟩
    have := h.rise 0 i hp hi; omega

theorem baseTo_hi {e : Int} {ks : List Int} {F : Fit} (h0 : 0 ≤ e) (h : FitOK e ks F) : ∀ k : Nat, k ≤ ks.length → baseTo e ks F.least k ≤ (k : Int) := by
  intro k
  induction k with
  | zero => intro _; unfold baseTo; omega
  | succ k ih =>
    intro hk
    unfold baseTo
    have := ih (by omega)
    have := flo_bound h0 h (show k < ks.length by omega)
    omega

end Inc
section
set_option exponentiation.threshold 4000
namespace Inc
open Ieee

theorem rel_err {n : Nat} (h : 2 ^ 1126 ≤ n) : 2 ^ 53 * (mag (rungOf n) * U) ≤ (2 ^ 53 + 1) * n ∧ (2 ^ 53 - 1) * n ≤ 2 ^ 53 * (mag (rungOf n) * U) := by
  have h1 := rung_err n
  rw [← U_eq] at h1
  have hn : n ≠ 0 := by have := Nat.two_pow_pos 1126; omega
  have hl : 1126 ≤ n.log2 := (Nat.le_log2 hn).2 h
  have hd : drop n = n.log2 - 52 := by unfold drop; omega
  have h2 : 2 ^ 52 * 2 ^ drop n ≤ n := by
    rw [← Nat.pow_add, show 52 + drop n = n.log2 by omega]; exact Nat.log2_self_le hn
  clear h hl hd
  generalize mag (rungOf n) * U = M at *
  generalize 2 ^ drop n = D at *
  omega

/-- what stands behind the point of num / den, so that 53 digits stand ahead of it -/
def quoS (num den : Nat) : Int := (if den * 2 ^ num.log2 ≤ num * 2 ^ den.log2 then 52 else 53) - ((num.log2 : Int) - den.log2)
/-- its 53 digits -/
def quoM (num den : Nat) : Nat := hev (num * 2 ^ (quoS num den).toNat) (den * 2 ^ (-(quoS num den)).toNat)
/-- the float nearest to num / den -/
def quoW (num den : Nat) : Nat := if num = 0 then 0 else wr false (quoM num den * 2 ^ (2148 - quoS num den).toNat)

theorem quo_range {num den : Nat} (hn : 0 < num) (hd : 0 < den) :
    2 ^ 52 * (den * 2 ^ (-(quoS num den)).toNat) ≤ num * 2 ^ (quoS num den).toNat ∧ num * 2 ^ (quoS num den).toNat < 2 ^ 53 * (den * 2 ^ (-(quoS num den)).toNat) := by
  have n1 := Nat.log2_self_le (n := num) (by omega)
  have n2 := Nat.lt_log2_self (n := num)
  have d1 := Nat.log2_self_le (n := den) (by omega)
  have d2 := Nat.lt_log2_self (n := den)
  have hL := Nat.two_pow_pos num.log2
  rw [Nat.pow_succ] at n2 d2
  by_cases hc : den * 2 ^ num.log2 ≤ num * 2 ^ den.log2
  · have hs : quoS num den = 52 - ((num.log2 : Int) - den.log2) := by unfold quoS; rw [if_pos hc]
    have e : 2 ^ (quoS num den).toNat * 2 ^ num.log2 = 2 ^ 52 * (2 ^ (-(quoS num den)).toNat * 2 ^ den.log2) := by
      rw [← Nat.pow_add, ← Nat.pow_add, ← Nat.pow_add]; congr 1; omega
    have hM := Nat.two_pow_pos (-(quoS num den)).toNat
    generalize 2 ^ (quoS num den).toNat = p at *
    generalize 2 ^ (-(quoS num den)).toNat = m at *
    generalize 2 ^ num.log2 = L at *
    generalize 2 ^ den.log2 = D at *
    constructor
    · refine Nat.le_of_mul_le_mul_right (c := L) ?_ hL
      have h1 := Nat.mul_le_mul_left (2 ^ 52 * m) hc
      have e2 : num * p * L = num * (p * L) := Nat.mul_assoc ..
      rw [e2, e]
      grind
    · apply Nat.lt_of_mul_lt_mul_right (a := L)
      have e2 : num * p * L = num * (p * L) := Nat.mul_assoc ..
      rw [e2, e]
      have h1 : num * (m * D) < (L * 2) * (m * D) := Nat.mul_lt_mul_of_pos_right n2 (Nat.mul_pos hM (by omega))
      have h2 := Nat.mul_le_mul_left (2 * (m * L)) d1
      grind
  · have hs : quoS num den = 53 - ((num.log2 : Int) - den.log2) := by unfold quoS; rw [if_neg hc]
    have e : 2 ^ (quoS num den).toNat * 2 ^ num.log2 = 2 ^ 53 * (2 ^ (-(quoS num den)).toNat * 2 ^ den.log2) := by
      rw [← Nat.pow_add, ← Nat.pow_add, ← Nat.pow_add]; congr 1; omega
    have hM := Nat.two_pow_pos (-(quoS num den)).toNat
    generalize 2 ^ (quoS num den).toNat = p at *
    generalize 2 ^ (-(quoS num den)).toNat = m at *
    generalize 2 ^ num.log2 = L at *
    generalize 2 ^ den.log2 = D at *
    constructor
    · refine Nat.le_of_mul_le_mul_right (c := L) ?_ hL
      have e2 : num * p * L = num * (p * L) := Nat.mul_assoc ..
      rw [e2, e]
      have h1 := Nat.mul_le_mul_right (m * D) n1
      have h2 := Nat.mul_le_mul_left (m * L) (Nat.le_of_lt d2)
      grind
    · apply Nat.lt_of_mul_lt_mul_right (a := L)
      have e2 : num * p * L = num * (p * L) := Nat.mul_assoc ..
      rw [e2, e]
      have h1 : m * (num * D) < m * (den * L) := Nat.mul_lt_mul_of_pos_left (by omega) hM
      grind

theorem quoM_range {num den : Nat} (hn : 0 < num) (hd : 0 < den) : 2 ^ 52 ≤ quoM num den ∧ quoM num den ≤ 2 ^ 53 := by
  obtain ⟨h1, h2⟩ := quo_range hn hd
  have hp : 0 < den * 2 ^ (-(quoS num den)).toNat := Nat.mul_pos hd (Nat.two_pow_pos _)
  exact ⟨le_hev hp h1, hev_le hp (Nat.le_of_lt h2)⟩

theorem quoS_bound {num den : Nat} (hn : num < 2 ^ 64) (hd : den < 2 ^ 64) : -12 ≤ quoS num den ∧ quoS num den ≤ 117 := by
  have h1 : num.log2 < 65 := by
    rcases Nat.eq_zero_or_pos num with rfl | h
    · decide
    · rw [Nat.log2_lt (by omega)]; omega
  have h2 : den.log2 < 65 := by
    rcases Nat.eq_zero_or_pos den with rfl | h
    · decide
    · rw [Nat.log2_lt (by omega)]; omega
  have h3 : num.log2 < 64 ∨ num = 0 := by
    rcases Nat.eq_zero_or_pos num with rfl | h
    · exact .inr rfl
    · left; rw [Nat.log2_lt (by omega)]; exact hn
  have h4 : den.log2 < 64 := by
    rcases Nat.eq_zero_or_pos den with rfl | h
    · decide
    · rw [Nat.log2_lt (by omega)]; exact hd
  have h5 : num.log2 < 64 := by
    rcases h3 with h | rfl
    · exact h
    · decide
  unfold quoS
  split <;> omega

/-- the size of num / den's float -/
theorem quoW_mag {num den : Nat} (hn : 0 < num) (hd : 0 < den) (hn' : num < 2 ^ 64) (hd' : den < 2 ^ 64) :
    mag (rungOfW (quoW num den)) = quoM num den * 2 ^ (1074 - quoS num den).toNat ∧ negW (quoW num den) = false ∧ Fin (quoW num den) ∧ quoW num den = rungOf (quoM num den * 2 ^ (2148 - quoS num den).toNat) := by
  obtain ⟨m1, m2⟩ := quoM_range hn hd
  obtain ⟨s1, s2⟩ := quoS_bound hn' hd'
  have hex : mag (rungOf (quoM num den * 2 ^ (2148 - quoS num den).toNat)) * U = quoM num den * 2 ^ (2148 - quoS num den).toNat := by
    rcases Nat.eq_or_lt_of_le m2 with h | h
    · rw [h, ← Nat.pow_add]
      exact rungOf_pow_eq (by omega)
    · rw [U_eq]
      refine rung_exact (d := (2148 - quoS num den).toNat) (by omega) ?_ (Nat.dvd_mul_left _ _)
      rw [Nat.add_comm _ 53, Nat.pow_add 2 53]
      exact (Nat.mul_lt_mul_right (Nat.two_pow_pos _)).2 h
  have hlt : rungOf (quoM num den * 2 ^ (2148 - quoS num den).toNat) < infR := by
    refine rungOf_fin ?_
    calc quoM num den * 2 ^ (2148 - quoS num den).toNat ≤ 2 ^ 53 * 2 ^ (2148 - quoS num den).toNat := Nat.mul_le_mul_right _ m2
      _ = 2 ^ (53 + (2148 - quoS num den).toNat) := by rw [← Nat.pow_add]
      _ ≤ 2 ^ 3171 := Nat.pow_le_pow_right (by omega) (by omega)
  have hw : rungOfW (quoW num den) = rungOf (quoM num den * 2 ^ (2148 - quoS num den).toNat) := by
    unfold quoW; rw [if_neg (by omega), wr_rung]; omega
  refine ⟨?_, by unfold quoW; rw [if_neg (by omega), wr_neg], by unfold Fin; omega, ?_⟩
  · rw [hw]
    refine Nat.eq_of_mul_eq_mul_right U_pos ?_
    rw [hex, U_eq, Nat.mul_assoc, ← Nat.pow_add]
    congr 2
    omega
  · unfold quoW
    rw [if_neg (by omega)]
    unfold wr
    rw [word_eq]
    simp only [Bool.false_eq_true, if_false]
    omega

/-- how near it is -/
theorem quo_err {num den : Nat} (hn : 0 < num) (hd : 0 < den) (hn' : num < 2 ^ 64) (hd' : den < 2 ^ 64) :
    2 ^ 53 * (mag (rungOfW (quoW num den)) * den) ≤ (2 ^ 53 + 1) * (num * U) ∧ (2 ^ 53 - 1) * (num * U) ≤ 2 ^ 53 * (mag (rungOfW (quoW num den)) * den) := by
  obtain ⟨r1, r2⟩ := quo_range hn hd
  obtain ⟨s1, s2⟩ := quoS_bound hn' hd'
  rw [(quoW_mag hn hd hn' hd').1]
  have hp : 0 < den * 2 ^ (-(quoS num den)).toNat := Nat.mul_pos hd (Nat.two_pow_pos _)
  have he := hev_err (n := num * 2 ^ (quoS num den).toNat) hp
  rw [show hev (num * 2 ^ (quoS num den).toNat) (den * 2 ^ (-(quoS num den)).toNat) = quoM num den from rfl] at he
  have e : 2 ^ (1074 - quoS num den).toNat * 2 ^ (quoS num den).toNat = 2 ^ (-(quoS num den)).toNat * U := by
    rw [U_eq, ← Nat.pow_add, ← Nat.pow_add]; congr 1; omega
  have hP := Nat.two_pow_pos (quoS num den).toNat
  generalize 2 ^ (1074 - quoS num den).toNat = A at *
  generalize 2 ^ (quoS num den).toNat = p at *
  generalize 2 ^ (-(quoS num den)).toNat = m at *
  generalize quoM num den = M at *
  have f1 : 2 ^ 53 * (M * (den * m)) ≤ (2 ^ 53 + 1) * (num * p) := by
    generalize M * (den * m) = a at *
    generalize den * m = b at *
    generalize num * p = c at *
    omega
  have f2 : (2 ^ 53 - 1) * (num * p) ≤ 2 ^ 53 * (M * (den * m)) := by
    generalize M * (den * m) = a at *
    generalize den * m = b at *
    generalize num * p = c at *
    omega
  have g1 : M * A * den * p = M * (den * m) * U := by
    rw [show M * A * den * p = M * den * (A * p) by grind, e]; grind
  constructor
  · refine Nat.le_of_mul_le_mul_right (c := p) ?_ hP
    have := Nat.mul_le_mul_right U f1
    rw [show 2 ^ 53 * (M * A * den) * p = 2 ^ 53 * (M * A * den * p) by grind, g1]
    grind
  · refine Nat.le_of_mul_le_mul_right (c := p) ?_ hP
    have := Nat.mul_le_mul_right U f2
    rw [show 2 ^ 53 * (M * A * den) * p = 2 ^ 53 * (M * A * den * p) by grind, g1]
    grind

theorem quoW_ok {num den : Nat} (hd : 0 < den) (hnd : num ≤ den) (hd' : den < 2 ^ 64) : SlOK (quoW num den) := by
  rcases Nat.eq_zero_or_pos num with rfl | hn
  · unfold SlOK quoW; rw [if_pos rfl]; omega
  · have h1 := (quo_err hn hd (by omega) hd').1
    have h2 := quoW_mag hn hd (by omega) hd'
    have h3 : rungOfW (quoW num den) = quoW num den := by
      have hh := h2.2.1
      have hw : quoW num den < 2 ^ 64 := by unfold quoW; rw [if_neg (by omega)]; exact wr_lt _ _
      unfold negW at hh; unfold rungOfW
      simp at hh
      omega
    rw [h3] at h1
    have h4 : mag (quoW num den) ≤ 2 * U := by
      refine Nat.le_of_mul_le_mul_right (c := den) ?_ hd
      have h5 := Nat.mul_le_mul_right U hnd
      have e : 2 * U * den = 2 * (den * U) := by grind
      rw [e]
      generalize mag (quoW num den) * den = a at *
      generalize den * U = b at *
      generalize num * U = c at *
      omega
    unfold SlOK
    rcases Nat.lt_or_ge 4611686018427387904 (quoW num den) with h | h
    · have := mag_strict h
      rw [mag_two] at this
      omega
    · exact h

theorem ofI_rel {d : Int} (h : 0 < d) (h' : d ≤ 2 ^ 64) : 2 ^ 53 * mag (rungOfW (ofI d)) ≤ (2 ^ 53 + 1) * (d.toNat * U) ∧ (2 ^ 53 - 1) * (d.toNat * U) ≤ 2 ^ 53 * mag (rungOfW (ofI d)) := by
  rw [(ofI_rung (by omega) h').1]
  have hn : 2 ^ 1126 ≤ d.toNat * (U * U) := by
    rw [UU]
    calc 2 ^ 1126 ≤ 1 * 2 ^ 2148 := by rw [Nat.one_mul]; exact Nat.pow_le_pow_right (by omega) (by omega)
      _ ≤ d.toNat * 2 ^ 2148 := Nat.mul_le_mul_right _ (by omega)
  obtain ⟨h1, h2⟩ := rel_err hn
  constructor
  · refine Nat.le_of_mul_le_mul_right (c := U) ?_ U_pos
    grind
  · refine Nat.le_of_mul_le_mul_right (c := U) ?_ U_pos
    grind

theorem chain_up {N P U' den num S D d : Nat} (hU : 0 < U') (c : N * (P * U') ≤ (N + 1) * (S * D)) (a : N * (S * den) ≤ (N + 1) * (num * U')) (b : N * D ≤ (N + 1) * (d * U')) :
    N * N * N * (P * den) ≤ (N + 1) * (N + 1) * (N + 1) * (num * d * U') := by
  have h1 := Nat.mul_le_mul_left (N * N * den) c
  have h2 := Nat.mul_le_mul_left (N + 1) (Nat.mul_le_mul a b)
  refine Nat.le_of_mul_le_mul_right (c := U') ?_ hU
  generalize hK : N + 1 = K at *
  calc N * N * N * (P * den) * U' = N * N * den * (N * (P * U')) := by grind
    _ ≤ N * N * den * (K * (S * D)) := h1
    _ = K * (N * (S * den) * (N * D)) := by grind
    _ ≤ K * (K * (num * U') * (K * (d * U'))) := h2
    _ = K * K * K * (num * d * U') * U' := by grind

theorem chain_dn {N P U' den num S D d : Nat} (hU : 0 < U') (c : (N - 1) * (S * D) ≤ N * (P * U')) (a : (N - 1) * (num * U') ≤ N * (S * den)) (b : (N - 1) * (d * U') ≤ N * D) :
    (N - 1) * (N - 1) * (N - 1) * (num * d * U') ≤ N * N * N * (P * den) := by
  have h1 := Nat.mul_le_mul_left (N * N * den) c
  have h2 := Nat.mul_le_mul_left (N - 1) (Nat.mul_le_mul a b)
  refine Nat.le_of_mul_le_mul_right (c := U') ?_ hU
  generalize hK : N - 1 = K at *
  calc K * K * K * (num * d * U') * U' = K * (K * (num * U') * (K * (d * U'))) := by grind
    _ ≤ K * (N * (S * den) * (N * D)) := h2
    _ = N * N * den * (K * (S * D)) := by grind
    _ ≤ N * N * den * (N * (P * U')) := h1
    _ = N * N * N * (P * den) * U' := by grind

/-- slope times distance, as floats reckon it -/
theorem prod_near {num den : Nat} {d : Int} (hn : 0 < num) (hd : 0 < den) (hn' : num < 2 ^ 64) (hd' : den < 2 ^ 64) (h0 : 0 ≤ d) (h1 : d ≤ 2 ^ 64) (hX : num * d.toNat ≤ 2 ^ 34 * den) :
    2 ^ 17 * (mag (rungOf (mag (rungOfW (quoW num den)) * mag (rungOfW (ofI d)))) * den) ≤ 2 ^ 17 * (num * d.toNat * U) + den * U ∧
    2 ^ 17 * (num * d.toNat * U) ≤ 2 ^ 17 * (mag (rungOf (mag (rungOfW (quoW num den)) * mag (rungOfW (ofI d)))) * den) + den * U := by
  rcases Int.lt_or_le 0 d with hdp | hdz
  · obtain ⟨a1, a2⟩ := quo_err hn hd hn' hd'
    obtain ⟨b1, b2⟩ := ofI_rel hdp h1
    have hbig : 2 ^ 1126 ≤ mag (rungOfW (quoW num den)) * mag (rungOfW (ofI d)) := by
      have k1 : 2 ^ 1009 ≤ mag (rungOfW (quoW num den)) := by
        rw [(quoW_mag hn hd hn' hd').1]
        have m1 := (quoM_range hn hd).1
        obtain ⟨s1, s2⟩ := quoS_bound hn' hd'
        calc 2 ^ 1009 ≤ 2 ^ (52 + (1074 - quoS num den).toNat) := Nat.pow_le_pow_right (by omega) (by omega)
          _ = 2 ^ 52 * 2 ^ (1074 - quoS num den).toNat := Nat.pow_add ..
          _ ≤ _ := Nat.mul_le_mul_right _ m1
      have k2 : 2 ^ 1073 ≤ mag (rungOfW (ofI d)) := by
        have hU : 2 ^ 1073 * 2 = U := by rw [U_eq, ← Nat.pow_succ]
        have h5 := Nat.mul_le_mul_right U (show 1 ≤ d.toNat by omega)
        rw [Nat.one_mul] at h5
        generalize mag (rungOfW (ofI d)) = x at *
        generalize d.toNat * U = y at *
        generalize U = u at *
        generalize (2 : Nat) ^ 1073 = z at *
        omega
      calc 2 ^ 1126 ≤ 2 ^ 1009 * 2 ^ 1073 := by rw [← Nat.pow_add]; exact Nat.pow_le_pow_right (by omega) (by omega)
        _ ≤ _ := Nat.mul_le_mul k1 k2
    obtain ⟨c1, c2⟩ := rel_err hbig
    have u := chain_up U_pos c1 a1 b1
    have l := chain_dn U_pos c2 a2 b2
    have hXU := Nat.mul_le_mul_right U hX
    rw [show 2 ^ 34 * den * U = 2 ^ 34 * (den * U) from Nat.mul_assoc ..] at hXU
    clear hbig c1 c2 a1 a2 b1 b2
    generalize mag (rungOf (mag (rungOfW (quoW num den)) * mag (rungOfW (ofI d)))) * den = a at *
    generalize num * d.toNat * U = b at *
    generalize den * U = c at *
    omega
  · obtain rfl : d = 0 := by omega
    have e : mag (rungOfW (ofI 0)) = 0 := by
      rw [(ofI_rung (by omega) (by omega)).1]; simp [rungOf, mag_zero]
    rw [e]
    simp [rungOf, mag_zero]

theorem ofI_small {c : Int} (h : c.natAbs ≤ 2 ^ 34) : sval (ofI c) = c * (U : Int) ∧ Fin (ofI c) := by
  have h1 := write_whole (k := c.natAbs) (m := c.natAbs) (j := 0) (by simp) (by omega)
  have h2 : rungOf (c.natAbs * (U * U)) < infR := by
    refine rungOf_fin ?_
    rw [UU]
    calc c.natAbs * 2 ^ 2148 ≤ 2 ^ 34 * 2 ^ 2148 := Nat.mul_le_mul_right _ h
      _ = 2 ^ 2182 := by rw [← Nat.pow_add]
      _ ≤ 2 ^ 3171 := Nat.pow_le_pow_right (by omega) (by omega)
  have h3 : rungOfW (ofI c) = rungOf (c.natAbs * (U * U)) := by rw [ofI_eq, wr_rung]; omega
  refine ⟨?_, by unfold Fin; omega⟩
  unfold sval
  rw [h3, h1, ofI_eq, wr_neg]
  rcases Int.lt_or_le c 0 with hc | hc
  · simp only [hc, decide_true, if_true]
    rw [show (c : Int) = -(c.natAbs : Int) by omega]
    simp [Int.neg_mul]
  · rw [show decide (c < 0) = false by simp; omega]
    simp only [Bool.false_eq_true, if_false]
    rw [Int.natCast_mul]; congr 1; omega

/-- a sum of no great size -/
theorem sum_near {n : Nat} (h : n ≤ 2 ^ 36 * U) : 4 * mag (rungOf (n * U)) ≤ 4 * n + U ∧ 4 * n ≤ 4 * mag (rungOf (n * U)) + U := by
  have h1 := rung_err (n * U)
  have hU4 : 4 ≤ U := by
    rw [U_eq]
    exact Nat.pow_le_pow_right (n := 2) (i := 2) (by omega) (by omega)
  have hdrop : 2 * 2 ^ drop (n * U) ≤ U * U := by
    rcases Nat.eq_zero_or_pos (n * U) with hz | hp
    · rw [hz]
      have : drop 0 = 1074 := by decide
      rw [this, ← U_eq]
      exact Nat.mul_le_mul_right U (by omega)
    · rcases Nat.lt_or_ge (drop (n * U)) 1075 with hd | hd
      · have : drop (n * U) = 1074 := by have := drop_ge (n * U); omega
        rw [this, ← U_eq]
        exact Nat.mul_le_mul_right U (by omega)
      · have e : drop (n * U) = (n * U).log2 - 52 := by unfold drop at *; omega
        have h2 := Nat.log2_self_le (n := n * U) (by omega)
        have h3 : 2 ^ 52 * 2 ^ drop (n * U) ≤ n * U := by
          rw [← Nat.pow_add, show 52 + drop (n * U) = (n * U).log2 by omega]; exact h2
        have h4 := Nat.mul_le_mul_right U h
        rw [Nat.mul_assoc] at h4
        generalize 2 ^ drop (n * U) = D at *
        generalize n * U = a at *
        generalize U * U = b at *
        omega
  rw [← U_eq] at h1
  generalize 2 ^ drop (n * U) = D at *
  generalize mag (rungOf (n * U)) = M at *
  constructor
  · refine Nat.le_of_mul_le_mul_right (c := U) ?_ U_pos
    have e1 : 4 * M * U = 4 * (M * U) := Nat.mul_assoc ..
    have e2 : (4 * n + U) * U = 4 * (n * U) + U * U := by grind
    rw [e1, e2]
    omega
  · refine Nat.le_of_mul_le_mul_right (c := U) ?_ U_pos
    have e1 : 4 * n * U = 4 * (n * U) := Nat.mul_assoc ..
    have e2 : (4 * M + U) * U = 4 * (M * U) + U * U := by grind
    rw [e1, e2]
    omega

theorem whole_near {num den : Nat} {d c f : Int} (hd : 0 < den) (hnd : num ≤ den) (hd' : den < 2 ^ 64) (h0 : 0 ≤ d) (h1 : d ≤ 2 ^ 64) (hX : num * d.toNat ≤ 2 ^ 34 * den) (hc : c.natAbs ≤ 2 ^ 34)
    (hf : f = (num : Int) * d / den) : f + c - 1 ≤ whole (quoW num den) d (ofI c) ∧ whole (quoW num den) d (ofI c) ≤ f + c + 1 := by
  have hs := quoW_ok hd hnd hd'
  obtain ⟨c1, c2⟩ := ofI_small hc
  have hUp : 0 < U := U_pos
  have hps := prod_sval hs h0 h1
  -- the product and its bounds
  have hpn : 2 ^ 17 * (mag (rungOf (mag (rungOfW (quoW num den)) * mag (rungOfW (ofI d)))) * den) ≤ 2 ^ 17 * (num * d.toNat * U) + den * U ∧
    2 ^ 17 * (num * d.toNat * U) ≤ 2 ^ 17 * (mag (rungOf (mag (rungOfW (quoW num den)) * mag (rungOfW (ofI d)))) * den) + den * U := by
    rcases Nat.eq_zero_or_pos num with rfl | hn
    · have e : mag (rungOfW (quoW 0 den)) = 0 := by
        have : quoW 0 den = 0 := by unfold quoW; rw [if_pos rfl]
        rw [this]; decide
      rw [e]
      simp [rungOf, mag_zero]
    · exact prod_near hn hd (by omega) hd' h0 h1 hX
  generalize hP : mag (rungOf (mag (rungOfW (quoW num den)) * mag (rungOfW (ofI d)))) = P at *
  -- f
  have f1 : f * den ≤ num * d := by rw [hf]; exact Int.ediv_mul_le _ (by omega)
  have f2 : (num : Int) * d < (f + 1) * den := by rw [hf]; exact Int.lt_ediv_add_one_mul_self _ (by omega)
  have hXd : ((num * d.toNat : Nat) : Int) = (num : Int) * d := by rw [Int.natCast_mul]; congr 1; omega
  have q1 : (2 ^ 17 : Int) * P < (2 ^ 17 * (f + 1) + 1) * U := by
    apply Int.lt_of_mul_lt_mul_right (a := (den : Int)) _ (by omega)
    have k := hpn.1
    have k' : (2 ^ 17 : Int) * ((P : Int) * den) ≤ 2 ^ 17 * ((num : Int) * d * U) + den * U := by
      rw [← hXd]; exact_mod_cast k
    have k2 := Int.mul_lt_mul_of_pos_right f2 (show (0 : Int) < (U : Int) by omega)
    generalize (num : Int) * d = X at *
    have e1 : (2 ^ 17 * (f + 1) + 1) * (U : Int) * den = 2 ^ 17 * ((f + 1) * den * U) + den * U := by grind
    have e2 : (2 ^ 17 : Int) * P * den = 2 ^ 17 * ((P : Int) * den) := by grind
    rw [e1, e2]
    omega
  have q2 : (2 ^ 17 : Int) * (f * U) ≤ 2 ^ 17 * P + U := by
    apply Int.le_of_mul_le_mul_right (a := (den : Int)) _ (by omega)
    have k := hpn.2
    have k' : (2 ^ 17 : Int) * ((num : Int) * d * U) ≤ 2 ^ 17 * ((P : Int) * den) + den * U := by
      rw [← hXd]; exact_mod_cast k
    have k2 := Int.mul_le_mul_of_nonneg_right f1 (show (0 : Int) ≤ (U : Int) by omega)
    generalize (num : Int) * d = X at *
    have e1 : (2 ^ 17 : Int) * (f * U) * den = 2 ^ 17 * (f * den * U) := by grind
    have e2 : (2 ^ 17 * (P : Int) + U) * den = 2 ^ 17 * ((P : Int) * den) + den * U := by grind
    rw [e1, e2]
    omega
  have hfb : f ≤ 2 ^ 34 := by
    rw [hf]
    have : (num : Int) * d ≤ 2 ^ 34 * den := by rw [← hXd]; exact_mod_cast hX
    exact Int.le_of_lt_add_one (Int.ediv_lt_of_lt_mul (by omega) (by omega))
  have hf0 : 0 ≤ f := by rw [hf]; exact Int.ediv_nonneg (Int.mul_nonneg (by omega) h0) (by omega)
  -- the sum
  have hsum : sval (prodW (quoW num den) d) + sval (ofI c) = P + c * (U : Int) := by rw [hps, c1]
  have hcU : (c * (U : Int)).natAbs ≤ 2 ^ 34 * U := by
    rw [Int.natAbs_mul, Int.natAbs_natCast]; exact Nat.mul_le_mul_right U hc
  have hPU : P ≤ 2 ^ 35 * U := by
    have hfU : f * (U : Int) ≤ 2 ^ 34 * U := Int.mul_le_mul_of_nonneg_right hfb (by omega)
    have : (2 ^ 17 * (f + 1) + 1) * (U : Int) = 2 ^ 17 * (f * U) + (2 ^ 17 + 1) * U := by grind
    rw [this] at q1
    omega
  have hn : ((P : Int) + c * (U : Int)).natAbs ≤ 2 ^ 36 * U := by omega
  obtain ⟨r1, r2⟩ := sum_near hn
  have hfin := sum_fin hs h0 h1 c2
  rw [hsum] at hfin
  have hsv : sval (alongW (quoW num den) d (ofI c)) = if sumNeg (prodW (quoW num den) d) (ofI c) then -(mag (rungOf (((P : Int) + c * (U : Int)).natAbs * U)) : Int) else mag (rungOf (((P : Int) + c * (U : Int)).natAbs * U)) := by
    show sval (wr (sumNeg (prodW (quoW num den) d) (ofI c)) ((sval (prodW (quoW num den) d) + sval (ofI c)).natAbs * U)) = _
    rw [wr_sval, hsum]
    rw [Nat.min_eq_left (Nat.le_of_lt hfin)]
  have hsg : sumNeg (prodW (quoW num den) d) (ofI c) = true → (P : Int) + c * (U : Int) ≤ 0 := by
    unfold sumNeg; rw [hsum]; split
    · intro _; omega
    · simp; omega
  have hsg' : sumNeg (prodW (quoW num den) d) (ofI c) = false → 0 ≤ (P : Int) + c * (U : Int) := by
    unfold sumNeg; rw [hsum]; split
    · intro _; omega
    · simp
  have hnear : 4 * sval (alongW (quoW num den) d (ofI c)) ≤ 4 * ((P : Int) + c * (U : Int)) + U ∧ 4 * ((P : Int) + c * (U : Int)) ≤ 4 * sval (alongW (quoW num den) d (ofI c)) + U := by
    rw [hsv]
    generalize mag (rungOf (((P : Int) + c * (U : Int)).natAbs * U)) = M at *
    generalize (P : Int) + c * (U : Int) = t at *
    cases hb : sumNeg (prodW (quoW num den) d) (ofI c)
    · have := hsg' hb
      simp only [Bool.false_eq_true, if_false]
      omega
    · have := hsg hb
      simp only [if_true]
      omega
  unfold whole
  generalize sval (alongW (quoW num den) d (ofI c)) = r at *
  have hU' : (0 : Int) < (U : Int) := by omega
  constructor
  · rw [Int.le_ediv_iff_mul_le hU']
    have e : (f + c - 1) * (U : Int) = f * U + c * U - U := by grind
    rw [e]; omega
  · apply Int.le_of_lt_add_one
    rw [Int.ediv_lt_iff_lt_mul hU']
    have e : (f + c + 1 + 1) * (U : Int) = f * U + c * U + 2 * U := by grind
    have e2 : (2 ^ 17 * (f + 1) + 1) * (U : Int) = 2 ^ 17 * (f * U) + (2 ^ 17 + 1) * U := by grind
    rw [e2] at q1
    rw [e]; omega
end Inc
end
namespace Inc
open Ieee

theorem rungOf_digits {m k : Nat} (h1 : 2 ^ 52 ≤ m) (h2 : m ≤ 2 ^ 53) (hk : 1074 ≤ k) : rungOf (m * 2 ^ k) = (k - 1074) * 2 ^ 52 + m := by
  have hne : m * 2 ^ k ≠ 0 := by have := Nat.mul_pos (show 0 < m by omega) (Nat.two_pow_pos k); omega
  unfold rungOf
  rw [if_neg hne]
  rcases Nat.eq_or_lt_of_le h2 with h | h
  · have hl : (m * 2 ^ k).log2 = 53 + k := by rw [log2_mul_pow (by omega), h]; congr 1
    have hd : drop (m * 2 ^ k) = k + 1 := by unfold drop; omega
    rw [hd, show m * 2 ^ k = 2 ^ 52 * 2 ^ (k + 1) by rw [h, ← Nat.pow_add, ← Nat.pow_add]; congr 1; omega, hev_exact (Nat.two_pow_pos _), h]
    omega
  · have hl2 : m.log2 = 52 := by rw [Nat.log2_eq_iff (by omega)]; omega
    have hl : (m * 2 ^ k).log2 = 52 + k := by rw [log2_mul_pow (by omega), hl2]
    have hd : drop (m * 2 ^ k) = k := by unfold drop; omega
    rw [hd, hev_exact (Nat.two_pow_pos _)]

/-- a whole number of 53 digits, as a float -/
theorem ofI_digits {m : Nat} (h1 : 2 ^ 52 ≤ m) (h2 : m ≤ 2 ^ 53) : ofI (m : Int) = 4836865999795912704 + m := by
  have e := rungOf_digits h1 h2 (k := 2148) (by omega)
  have hi : infR = 2047 * 2 ^ 52 := rfl
  rw [ofI_eq, UU, Int.natAbs_natCast, show decide ((m : Int) < 0) = false by simp]
  unfold wr
  rw [word_eq, e]
  simp only [Bool.false_eq_true, if_false]
  omega

/-- what ratio.pack makes of 64 digits and of whether something stands behind them -/
def packM (q : Nat) (more : Bool) : Nat := q / 2048 + (if 1024 < q % 2048 ∨ (q % 2048 = 1024 ∧ (more = true ∨ q / 2048 % 2 = 1)) then 1 else 0)

theorem packM_hev {N D : Nat} (hD : 0 < D) : packM (N / D) (decide (0 < N % D)) = hev N (D * 2048) := by
  unfold packM hev
  have e1 : N / (D * 2048) = N / D / 2048 := (Nat.div_div_eq_div_mul N D 2048).symm
  have e2 : N % (D * 2048) = D * (N / D % 2048) + N % D := by rw [Nat.mod_mul]; omega
  have hr := Nat.mod_lt N hD
  rw [e1, e2]
  generalize N / D = q at *
  generalize N % D = r at *
  congr 1
  have h1 := Nat.mod_lt q (show 0 < 2048 by omega)
  generalize q % 2048 = l at *
  have key : (D * 2048 < 2 * (D * l + r) ↔ 1024 < l ∨ (l = 1024 ∧ 0 < r)) ∧ (D * 2048 = 2 * (D * l + r) ↔ l = 1024 ∧ r = 0) := by
    rcases Nat.lt_trichotomy l 1024 with h | h | h
    · have h2 := Nat.mul_le_mul_left D (show l + 1 ≤ 1024 by omega)
      rw [Nat.mul_add] at h2
      generalize D * l = z at *
      omega
    · subst h; omega
    · have h2 := Nat.mul_le_mul_left D (show 1025 ≤ l by omega)
      generalize D * l = z at *
      omega
  have hc : (1024 < l ∨ l = 1024 ∧ (decide (0 < r) = true ∨ q / 2048 % 2 = 1)) ↔ (D * 2048 < 2 * (D * l + r) ∨ D * 2048 = 2 * (D * l + r) ∧ q / 2048 % 2 = 1) := by
    rw [key.1, key.2, decide_eq_true_eq]; omega
  by_cases h : 1024 < l ∨ l = 1024 ∧ (decide (0 < r) = true ∨ q / 2048 % 2 = 1)
  · rw [if_pos h, if_pos (hc.1 h)]
  · rw [if_neg h, if_neg (fun h' => h (hc.2 h'))]

theorem packM_range {q : Nat} {more : Bool} (h1 : 2 ^ 63 ≤ q) (h2 : q < 2 ^ 64) : 2 ^ 52 ≤ packM q more ∧ packM q more ≤ 2 ^ 53 := by
  unfold packM; split <;> omega

theorem log2_of_shift {n a : Nat} (h : 2 ^ 63 ≤ n * 2 ^ a) (h' : n * 2 ^ a < 2 ^ 64) (_ : a ≤ 63) : n.log2 + a = 63 ∧ 0 < n := by
  have hn : n ≠ 0 := by rintro rfl; simp at h
  have := log2_mul_pow (k := a) hn
  have h3 : (n * 2 ^ a).log2 = 63 := by rw [Nat.log2_eq_iff (by omega)]; omega
  omega

/-- the quotient's word, by what ratio.Near reckons -/
theorem near_word {num den a b : Nat} (ha : a ≤ 63) (hb : b ≤ 63) (h1 : 2 ^ 63 ≤ num * 2 ^ a) (h1' : num * 2 ^ a < 2 ^ 64) (h2 : 2 ^ 63 ≤ den * 2 ^ b) (h2' : den * 2 ^ b < 2 ^ 64) :
    (den * 2 ^ b ≤ num * 2 ^ a → quoW num den = (1085 + ((b : Int) - a - 63)).toNat * 2 ^ 52 + packM (num * 2 ^ a * 2 ^ 63 / (den * 2 ^ b)) (decide (0 < num * 2 ^ a * 2 ^ 63 % (den * 2 ^ b)))) ∧
    (num * 2 ^ a < den * 2 ^ b → quoW num den = (1085 + ((b : Int) - a - 64)).toNat * 2 ^ 52 + packM (num * 2 ^ a * 2 ^ 64 / (den * 2 ^ b)) (decide (0 < num * 2 ^ a * 2 ^ 64 % (den * 2 ^ b)))) := by
  obtain ⟨l1, hn⟩ := log2_of_shift h1 h1' ha
  obtain ⟨l2, hd⟩ := log2_of_shift h2 h2' hb
  have hn' : num < 2 ^ 64 := Nat.lt_of_le_of_lt (Nat.le_mul_of_pos_right _ (Nat.two_pow_pos a)) h1'
  have hd' : den < 2 ^ 64 := Nat.lt_of_le_of_lt (Nat.le_mul_of_pos_right _ (Nat.two_pow_pos b)) h2'
  have hDp : 0 < den * 2 ^ b := by omega
  obtain ⟨m1, m2⟩ := quoM_range hn hd
  obtain ⟨s1, s2⟩ := quoS_bound hn' hd'
  have hw := (quoW_mag hn hd hn' hd').2.2.2
  rw [rungOf_digits m1 m2 (by omega)] at hw
  -- the test
  have e63 : 2 ^ a * 2 ^ num.log2 = 2 ^ 63 := by rw [← Nat.pow_add]; congr 1; omega
  have e63' : 2 ^ b * 2 ^ den.log2 = 2 ^ 63 := by rw [← Nat.pow_add]; congr 1; omega
  have htest : (den * 2 ^ b ≤ num * 2 ^ a) ↔ den * 2 ^ num.log2 ≤ num * 2 ^ den.log2 := by
    have p1 := Nat.two_pow_pos num.log2
    have p2 := Nat.two_pow_pos den.log2
    have p3 : 0 < 2 ^ num.log2 * 2 ^ den.log2 := Nat.mul_pos p1 p2
    have hZ : 0 < (2 : Nat) ^ 63 := Nat.two_pow_pos 63
    generalize (2 : Nat) ^ 63 = Z at *
    have k1 : den * 2 ^ b * (2 ^ num.log2 * 2 ^ den.log2) = den * 2 ^ num.log2 * Z := by rw [← e63']; grind
    have k2 : num * 2 ^ a * (2 ^ num.log2 * 2 ^ den.log2) = num * 2 ^ den.log2 * Z := by rw [← e63]; grind
    rw [← Nat.mul_le_mul_right_iff p3, k1, k2, Nat.mul_le_mul_right_iff hZ]
  -- the digits
  have hdig : ∀ j : Nat, j ≤ 64 → quoS num den = (j : Int) + a - b - 11 → quoM num den = hev (num * 2 ^ a * 2 ^ j) (den * 2 ^ b * 2048) := by
    intro j hj hs
    unfold quoM
    have hk : 0 < den * 2 ^ (-(quoS num den)).toNat := Nat.mul_pos hd (Nat.two_pow_pos _)
    rw [← hev_scale hk (Nat.two_pow_pos (a + j - (quoS num den).toNat))]
    congr 1
    · rw [Nat.mul_assoc, Nat.mul_assoc, ← Nat.pow_add, ← Nat.pow_add]; congr 2; omega
    · rw [show 2048 = 2 ^ 11 from rfl, Nat.mul_assoc, Nat.mul_assoc, ← Nat.pow_add, ← Nat.pow_add]; congr 2; omega
  constructor
  · intro h
    have hs : quoS num den = 52 - ((num.log2 : Int) - den.log2) := by unfold quoS; rw [if_pos (htest.1 h)]
    have e : (2148 - quoS num den).toNat - 1074 = (1085 + ((b : Int) - a - 63)).toNat := by omega
    rw [packM_hev hDp, ← hdig 63 (by omega) (by omega), hw, e]
  · intro h
    have hs : quoS num den = 53 - ((num.log2 : Int) - den.log2) := by unfold quoS; rw [if_neg (fun h' => absurd (htest.2 h') (by omega))]
    have e : (2148 - quoS num den).toNat - 1074 = (1085 + ((b : Int) - a - 64)).toNat := by omega
    rw [packM_hev hDp, ← hdig 64 (by omega) (by omega), hw, e]
end Inc
