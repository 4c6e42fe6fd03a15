import Derived.Test.YtfiobfjolkmdpaaDoorQSampx1
namespace Go.Proofs.YtfiobfjolkmdpaaDoor.Pure
open Go.RowKit Go.Proofs.YtfiobfjolkmdpaaDoor.QSamp Go.Proofs.YtfiobfjolkmdpaaDoorW.PrintWords Go.Proofs.YtfiobfjolkmdpaaDoorW.PrintLast Go.Proofs.YtfiobfjolkmdpaaDoorW.PrintMore
/-! The counting tree (marks): what add and ahead tell. -/
/-- The lowest bit of a number. -/
def lb (x : Nat) : Nat := 2 ^ Lib.ctz 64 x
theorem lb_pos (x : Nat) : 0 < lb x := Nat.pow_pos (by decide)
theorem lb_form {x : Nat} (h0 : 0 < x) (h : x < 18446744073709551616) : ∃ m, x = lb x * (2 * m + 1) := by
  obtain ⟨m, hm, _⟩ := Lib.ctzFrom_spec 64 x h0 h
  exact ⟨m, by unfold lb Lib.ctz; rw [if_neg (by omega)]; exact hm⟩
theorem lb_le {x : Nat} (h0 : 0 < x) (h : x < 18446744073709551616) : lb x ≤ x := by
  obtain ⟨m, hm⟩ := lb_form h0 h
  calc lb x ≤ lb x * (2 * m + 1) := Nat.le_mul_of_pos_right _ (by omega)
    _ = x := hm.symm
theorem and_low (x : Nat) (h0 : 0 < x) (h : x < 4611686018427387904) : Go.bits .and .i64 (x : Int) (wrap64 (-(x : Int))) = ((lb x : Nat) : Int) := by
  have hw : wrap64 (-(x : Int)) = -(x : Int) := by unfold wrap64; omega
  have h1 : (BitVec.ofInt 64 (x : Int)).toNat = x := by
    rw [BitVec.ofInt_natCast, BitVec.toNat_ofNat]; exact Nat.mod_eq_of_lt (by omega)
  have h2 : (BitVec.ofInt 64 (-(x : Int))).toNat = 2 ^ 64 - x := by
    rw [BitVec.toNat_ofInt]; omega
  have h3 := (Lib.lowest_bit 64 x (by omega) (by omega)).1
  have h4 := lb_le h0 (by omega)
  rw [hw]
  show IntKind.i64.wrap ((BitVec.ofInt 64 (x : Int) &&& BitVec.ofInt 64 (-(x : Int))).toNat : Int) = _
  rw [BitVec.toNat_and, h1, h2, h3]
  show IntKind.i64.wrap ((lb x : Nat) : Int) = _
  rw [i64_w]
  unfold wrap64
  omega
theorem pow_cmp {a b : Nat} (h : ¬ a ≤ b) : b + 1 ≤ a := by omega
theorem lb_gap {x y : Nat} (h0 : 0 < x) (hxy : x < y) (hy : y < x + lb x) (h : y < 4611686018427387904) : x ≤ y - lb y := by
  obtain ⟨m, hm⟩ := lb_form h0 (by omega)
  obtain ⟨q, hq⟩ := lb_form (x := y) (by omega) (by omega)
  have dx : lb x ∣ x := ⟨_, hm⟩
  have dy : lb y ∣ y := ⟨_, hq⟩
  by_cases hab : Lib.ctz 64 x ≤ Lib.ctz 64 y
  · have d : lb x ∣ lb y := Nat.pow_dvd_pow 2 hab
    have d2 : lb x ∣ y - x := Nat.dvd_sub (Nat.dvd_trans d dy) dx
    have := Nat.le_of_dvd (by omega) d2
    omega
  · have d : lb y ∣ lb x := Nat.pow_dvd_pow 2 (by omega)
    have d2 : lb y ∣ y - x := Nat.dvd_sub dy (Nat.dvd_trans d dx)
    have := Nat.le_of_dvd (by omega) d2
    omega
theorem lb_climb {x : Nat} (h0 : 0 < x) (h : x < 4611686018427387904) : (x + lb x) - lb (x + lb x) ≤ x - lb x := by
  have hl := lb_le h0 (by omega)
  obtain ⟨m, hm⟩ := lb_form h0 (by omega)
  have e : x + lb x = 2 ^ (Lib.ctz 64 x + 1) * (m + 1) := by
    have e1 : lb x * (2 * m + 1) + lb x = lb x * (2 * (m + 1)) := by
      rw [show 2 * (m + 1) = (2 * m + 1) + 1 by omega]
      exact (Nat.mul_succ _ _).symm
    have e2 : x + lb x = lb x * (2 * m + 1) + lb x := by rw [← hm]
    rw [e2, e1, Nat.pow_succ, Nat.mul_assoc]
    rfl
  have hb : x + lb x < 18446744073709551616 := by omega
  have hb0 : 0 < x + lb x := by omega
  have hle : x + lb x ≤ x + lb x := Nat.le_refl _
  obtain ⟨y, hy⟩ : ∃ y, x + lb x = y := ⟨_, rfl⟩
  rw [hy] at e hb hb0 ⊢
  obtain ⟨q, hq⟩ := lb_form hb0 hb
  by_cases hab : Lib.ctz 64 x + 1 ≤ Lib.ctz 64 y
  · have hp : 2 * lb x ≤ lb y := by
      have := Nat.pow_le_pow_right (n := 2) (by decide) hab
      rw [Nat.pow_succ] at this
      unfold lb at *
      omega
    omega
  · exfalso
    obtain ⟨d, hd⟩ : ∃ d, Lib.ctz 64 x + 1 = Lib.ctz 64 y + 1 + d := ⟨Lib.ctz 64 x - Lib.ctz 64 y, by omega⟩
    have e3 : lb y * (2 * q + 1) = lb y * (2 * (2 ^ d * (m + 1))) := by
      refine hq.symm.trans (e.trans ?_)
      rw [hd, Nat.pow_add, Nat.pow_succ]
      unfold lb
      simp only [Nat.mul_assoc]
    have := Nat.eq_of_mul_eq_mul_left (lb_pos _) e3
    omega
/-- The sum of c over the n places from a on. -/
def sm (c : Nat → Int) (a : Nat) : Nat → Int
  | 0 => 0
  | n + 1 => sm c a n + c (a + n)
theorem sm_add (c : Nat → Int) (a m : Nat) : ∀ n, sm c a (m + n) = sm c a m + sm c (a + m) n
  | 0 => by simp [sm]
  | n + 1 => by
    show sm c a (m + n) + c (a + (m + n)) = _
    rw [sm_add c a m n]
    show _ = sm c a m + (sm c (a + m) n + c (a + m + n))
    rw [Nat.add_assoc a m n]
    omega
theorem sm_nonneg {c : Nat → Int} (h : ∀ p, 0 ≤ c p) (a : Nat) : ∀ n, 0 ≤ sm c a n
  | 0 => Int.le_refl _
  | n + 1 => by
    have := sm_nonneg h a n
    have := h (a + n)
    show 0 ≤ sm c a n + c (a + n)
    omega
theorem sm_le {c : Nat → Int} (h : ∀ p, c p ≤ 1) (a : Nat) : ∀ n : Nat, sm c a n ≤ n
  | 0 => Int.le_refl _
  | n + 1 => by
    have := sm_le h a n
    have := h (a + n)
    show sm c a n + c (a + n) ≤ _
    omega
theorem sm_ext {c d : Nat → Int} {a : Nat} : ∀ {n : Nat}, (∀ p, a ≤ p → p < a + n → c p = d p) → sm c a n = sm d a n
  | 0, _ => rfl
  | n + 1, h => by
    show sm c a n + c (a + n) = sm d a n + d (a + n)
    rw [sm_ext (n := n) (fun p h1 h2 => h p h1 (by omega)), h (a + n) (by omega) (by omega)]
theorem sm_upd (c : Nat → Int) (at_ : Nat) (d : Int) (a : Nat) : ∀ n, sm (fun p => c p + if p = at_ then d else 0) a n = sm c a n + (if a ≤ at_ ∧ at_ < a + n then d else 0)
  | 0 => by
    show (0 : Int) = 0 + _
    rw [if_neg (by omega)]
    rfl
  | n + 1 => by
    show sm (fun p => c p + if p = at_ then d else 0) a n + (c (a + n) + if a + n = at_ then d else 0) = sm c a n + c (a + n) + _
    rw [sm_upd c at_ d a n]
    by_cases h1 : a + n = at_
    · rw [if_pos h1, if_neg (by omega), if_pos (by omega)]
      omega
    · rw [if_neg h1]
      by_cases h2 : a ≤ at_ ∧ at_ < a + n
      · rw [if_pos h2, if_pos (by omega)]
        omega
      · rw [if_neg h2, if_neg (by omega)]
        omega
/-- The list is the tree of the counts c. -/
def Fen (c : Nat → Int) (m : List Int) : Prop := ∀ x : Nat, 0 < x → x < m.length → rd m (x : Int) = sm c (x - lb x) (lb x)
theorem rd_set {m : List Int} {x : Nat} (hx : x < m.length) (v : Int) (y : Nat) : rd (m.set x v) (y : Int) = if y = x then v else rd m (y : Int) := by
  unfold rd
  rw [Int.toNat_natCast, List.getD_eq_getElem?_getD, List.getD_eq_getElem?_getD, List.getElem?_set]
  by_cases h : x = y
  · subst h
    rw [if_pos rfl, if_pos hx, if_pos rfl]
    rfl
  · rw [if_neg h, if_neg (Ne.symm h)]
theorem tz_ev (x : Nat) (h : x < 4611686018427387904) : bits_TrailingZeros.f (IntKind.u64.wrap (x : Int)) = some ((Lib.ctz 64 x : Nat) : Int) := by
  have hw : IntKind.u64.wrap (x : Int) = (x : Int) := by rw [IntKind.wrap_u64]; omega
  unfold bits_TrailingZeros.f
  rw [hw, if_pos (by omega), if_pos (by omega), Int.toNat_natCast]
theorem shl_ev (x : Nat) (h0 : 0 < x) (h : x < 4611686018427387904) : shl .i64 1 ((Lib.ctz 64 x : Nat) : Int) = ((lb x : Nat) : Int) := by
  have h4 := lb_le h0 (by omega)
  have hk := (Lib.lowest_bit 64 x (by omega) (by omega)).2
  unfold shl
  rw [Int.toNat_natCast, Nat.min_eq_left (show Lib.ctz 64 x ≤ IntKind.i64.bits from by show _ ≤ 64; omega), Int.one_mul]
  have e : ((2 : Int) ^ Lib.ctz 64 x) = ((lb x : Nat) : Int) := by
    unfold lb
    exact (Int.natCast_pow 2 _).symm
  rw [e, i64_w]
  unfold wrap64
  omega
theorem ahead_ev {c : Nat → Int} {m : List Int} (hF : Fen c m) (hc : ∀ p, 0 ≤ c p) (hm : m.length ≤ 5000) : ∀ (k at_ : Nat) (acc : Int), at_ < m.length → at_ < k → 0 ≤ acc → acc + sm c 0 at_ ≤ 10000 →
    sample_marks_ahead.l0 k m (at_ : Int) acc = some (acc + sm c 0 at_)
  | 0, at_, _, _, h, _, _ => absurd h (by omega)
  | k + 1, at_, acc, hl, hk, h0, h1 => by
    rw [sample_marks_ahead.l0]
    by_cases hz : at_ = 0
    · subst hz
      rw [if_neg (by omega)]
      simp [sm]
    · have hlb := lb_le (x := at_) (by omega) (by omega)
      have hlp := lb_pos at_
      have hs := sm_add c 0 (at_ - lb at_) (lb at_)
      rw [Nat.sub_add_cancel hlb, Nat.zero_add] at hs
      have hr := hF at_ (by omega) hl
      have n1 := sm_nonneg hc 0 (at_ - lb at_)
      have n2 := sm_nonneg hc (at_ - lb at_) (lb at_)
      rw [if_pos (by omega), if_pos (by omega), if_pos (by omega), tz_ev at_ (by omega)]
      dsimp only [Option.bind_some]
      rw [if_pos (by omega), shl_ev at_ (by omega) (by omega), hr]
      have e1 : wrap64 ((at_ : Int) - ((lb at_ : Nat) : Int)) = ((at_ - lb at_ : Nat) : Int) := by unfold wrap64; omega
      have e2 : wrap64 (acc + sm c (at_ - lb at_) (lb at_)) = acc + sm c (at_ - lb at_) (lb at_) := by unfold wrap64; omega
      rw [e1, e2, ahead_ev hF hc hm k (at_ - lb at_) _ (by omega) (by omega) (by omega) (by omega)]
      congr 1
      omega
/-- What add has done when it stands at x: what lies ahead of x and counts the place is raised by d. -/
def AddSt (m0 m : List Int) (at_ : Nat) (d : Int) (x : Nat) : Prop :=
  m.length = m0.length ∧ ∀ y : Nat, 0 < y → y < m0.length → rd m (y : Int) = rd m0 (y : Int) + (if y < x ∧ y - lb y ≤ at_ ∧ at_ < y then d else 0)
theorem add_done {c : Nat → Int} {m0 m : List Int} (hF : Fen c m0) (hm : m0.length ≤ 5000) {at_ : Nat} {d : Int} {x : Nat} (hS : AddSt m0 m at_ d x) (hx : m0.length ≤ x) : Fen (fun p => c p + if p = at_ then d else 0) m := by
  intro y h0 h1
  rw [hS.1] at h1
  have hl := lb_le (x := y) h0 (by omega)
  rw [hS.2 y h0 h1, hF y h0 h1, sm_upd c at_ d (y - lb y) (lb y), Nat.sub_add_cancel hl]
  by_cases h : y - lb y ≤ at_ ∧ at_ < y
  · rw [if_pos h, if_pos ⟨by omega, h⟩]
  · rw [if_neg h, if_neg (fun h2 => h h2.2)]
theorem add_step {m0 m : List Int} (hm : m0.length ≤ 5000) {at_ : Nat} {d : Int} {x : Nat} (hS : AddSt m0 m at_ d x) (h0 : 0 < x) (hx : at_ < x) (hlx : x - lb x ≤ at_) (hl : x < m0.length) : AddSt m0 (m.set x (rd m (x : Int) + d)) at_ d (x + lb x) := by
  refine ⟨by rw [List.length_set]; exact hS.1, fun y hy hyl => ?_⟩
  have hp := lb_pos x
  rw [rd_set (by rw [hS.1]; exact hl)]
  by_cases he : y = x
  · subst he
    rw [if_pos rfl, hS.2 y hy hyl, if_neg (by omega), if_pos ⟨by omega, hlx, hx⟩]
    omega
  · rw [if_neg he, hS.2 y hy hyl]
    by_cases hyx : y < x
    · by_cases h2 : y - lb y ≤ at_ ∧ at_ < y
      · rw [if_pos ⟨hyx, h2⟩, if_pos ⟨by omega, h2⟩]
      · rw [if_neg (fun h => h2 h.2), if_neg (fun h => h2 h.2)]
    · rw [if_neg (fun h => hyx h.1), if_neg]
      rintro ⟨h1, h2, h3⟩
      have := lb_gap h0 (by omega) h1 (by omega)
      omega
theorem add_l0 (m : List Int) (k x : Nat) (d : Int) (hx : x < m.length) (h0 : 0 < x) (hb : x < 5000) (e1 : wrap64 (rd m (x : Int) + d) = rd m (x : Int) + d) : sample_marks_add.l0 (k + 1) m (x : Int) d = sample_marks_add.l0 k (m.set x (rd m (x : Int) + d)) ((x + lb x : Nat) : Int) d := by
  have e0 := and_low x h0 (by omega)
  have hl := lb_le (x := x) h0 (by omega)
  generalize hL : lb x = L at *
  have e2 : wrap64 ((x : Int) + (L : Int)) = ((x + L : Nat) : Int) := by unfold wrap64; omega
  have i1 : (x : Int) < (m.length : Int) := by omega
  have i2 : 0 ≤ (x : Int) := by omega
  rw [sample_marks_add.l0, if_pos i1, if_pos i2, e0, e2, e1, Int.toNat_natCast]
theorem add_end (m : List Int) (k x : Nat) (d : Int) (hx : ¬ x < m.length) : sample_marks_add.l0 (k + 1) m (x : Int) d = some m := by
  rw [sample_marks_add.l0, if_neg (by omega)]
theorem add_ev {c : Nat → Int} {m0 : List Int} (hF : Fen c m0) (hc : ∀ p, 0 ≤ c p ∧ c p ≤ 1) (hm : m0.length ≤ 5000) (at_ : Nat) (d : Int) (hd : -1 ≤ d ∧ d ≤ 1) : ∀ (k x : Nat) (m : List Int), AddSt m0 m at_ d x → at_ < x → x - lb x ≤ at_ → x ≤ 20000 → m0.length < x + k → 0 < k →
    ∃ r, sample_marks_add.l0 k m (x : Int) d = some r ∧ r.length = m0.length ∧ Fen (fun p => c p + if p = at_ then d else 0) r
  | 0, _, _, _, _, _, _, _, h0 => absurd h0 (by omega)
  | k + 1, x, m, hS, hx, hlx, hb, hk, _ => by
    by_cases hz : x < m0.length
    · have hp := lb_pos x
      have hl := lb_le (x := x) (by omega) (by omega)
      have hr := hS.2 x (by omega) hz
      rw [if_neg (by omega), hF x (by omega) hz] at hr
      have n1 := sm_nonneg (fun p => (hc p).1) (x - lb x) (lb x)
      have n2 := sm_le (fun p => (hc p).2) (x - lb x) (lb x)
      have e1 : wrap64 (rd m (x : Int) + d) = rd m (x : Int) + d := by unfold wrap64; omega
      have hcl := lb_climb (x := x) (by omega) (by omega)
      have hst := add_step hm hS (by omega) hx hlx hz
      rw [add_l0 m k x d (by rw [hS.1]; exact hz) (by omega) (by omega) e1]
      obtain ⟨y, hy⟩ : ∃ y, x + lb x = y := ⟨_, rfl⟩
      rw [hy] at hcl hst ⊢
      have b1 : at_ < y := by omega
      have b2 : y - lb y ≤ at_ := Nat.le_trans hcl hlx
      have b3 : y ≤ 20000 := by omega
      have b4 : m0.length < y + k := by omega
      exact add_ev hF hc hm at_ d hd k y _ hst b1 b2 b3 b4 (by omega)
    · rw [add_end m k x d (by rw [hS.1]; exact hz)]
      exact ⟨m, rfl, hS.1, add_done hF hm hS (by omega)⟩
theorem add_f {c : Nat → Int} {m : List Int} (hF : Fen c m) (hc : ∀ p, 0 ≤ c p ∧ c p ≤ 1) (hm : m.length ≤ 5000) (at_ : Nat) (hat : at_ < m.length) (d : Int) (hd : -1 ≤ d ∧ d ≤ 1) {k : Nat} (hk : m.length ≤ k) :
    ∃ r, sample_marks_add.f k m (at_ : Int) d = some r ∧ r.length = m.length ∧ Fen (fun p => c p + if p = at_ then d else 0) r := by
  unfold sample_marks_add.f
  have e : wrap64 ((at_ : Int) + 1) = ((at_ + 1 : Nat) : Int) := by unfold wrap64; omega
  rw [e]
  have hp := lb_pos (at_ + 1)
  refine add_ev hF hc hm at_ d hd k (at_ + 1) m ⟨rfl, fun y hy hyl => ?_⟩ (by omega) (by omega) (by omega) (by omega) (by omega)
  rw [if_neg (by omega)]
  omega
theorem ahead_f {c : Nat → Int} {m : List Int} (hF : Fen c m) (hc : ∀ p, 0 ≤ c p ∧ c p ≤ 1) (hm : m.length ≤ 5000) (at_ : Nat) (hat : at_ < m.length) {k : Nat} (hk : m.length ≤ k) : sample_marks_ahead.f k m (at_ : Int) = some (sm c 0 at_) := by
  have n2 := sm_le (fun p => (hc p).2) 0 at_
  unfold sample_marks_ahead.f
  rw [ahead_ev hF (fun p => (hc p).1) hm k at_ 0 hat (by omega) (by omega) (by omega), Int.zero_add]
theorem fen_zero (n : Nat) : Fen (fun _ => 0) (List.replicate n 0) := by
  intro x _ hx
  have hz : ∀ a n, sm (fun _ => 0) a n = 0 := by
    intro a n
    induction n with
    | zero => rfl
    | succ n ih => show sm _ a n + 0 = 0; rw [ih]; rfl
  rw [hz]
  unfold rd
  rw [List.length_replicate] at hx
  simp [List.getD, hx]
theorem lastOf_rd {l : List Int} {r : Int} : ∀ {i j : Nat}, lastOf l i r = some j → rd l (j : Int) = r
  | 0, _, h => by simp [lastOf] at h
  | i + 1, j, h => by
    unfold lastOf at h
    split at h
    · rename_i he
      rw [← Option.some.inj h]
      exact he
    · exact lastOf_rd h
theorem lastOf_some {l : List Int} {p : Nat} : ∀ {i : Nat}, p < i → ∃ j, lastOf l i (rd l (p : Int)) = some j
  | 0, h => absurd h (by omega)
  | i + 1, h => by
    unfold lastOf
    split
    · exact ⟨i, rfl⟩
    · rename_i he
      exact lastOf_some (by
        apply Nat.lt_of_le_of_ne (by omega)
        rintro rfl
        exact he rfl)
/-- Is the place the last one of its number, ahead of i? -/
def mk (l : List Int) (i : Nat) (p : Nat) : Int := if p < i ∧ lastOf l i (rd l (p : Int)) = some p then 1 else 0
theorem mk_range (l : List Int) (i p : Nat) : 0 ≤ mk l i p ∧ mk l i p ≤ 1 := by
  unfold mk
  split <;> omega
theorem mk_none {l : List Int} {i : Nat} (h : lastOf l i (rd l (i : Int)) = none) : mk l (i + 1) = fun p => mk l i p + if p = i then 1 else 0 := by
  funext p
  unfold mk
  rw [lastOf]
  by_cases hp : p < i
  · have hne : ¬ rd l (i : Int) = rd l (p : Int) := by
      intro e
      obtain ⟨j, hj⟩ := lastOf_some (l := l) hp
      rw [← e, h] at hj
      cases hj
    rw [if_neg hne, if_neg (show ¬ p = i by omega)]
    by_cases h2 : lastOf l i (rd l (p : Int)) = some p
    · rw [if_pos ⟨by omega, h2⟩, if_pos ⟨hp, h2⟩]
      rfl
    · rw [if_neg (fun x => h2 x.2), if_neg (fun x => h2 x.2)]
      rfl
  · by_cases he : p = i
    · subst he
      rw [if_pos rfl, if_pos ⟨by omega, rfl⟩, if_neg (by omega), if_pos rfl]
      rfl
    · rw [if_neg (by omega), if_neg (by omega), if_neg he]
      rfl
theorem mk_some {l : List Int} {i j : Nat} (h : lastOf l i (rd l (i : Int)) = some j) : mk l (i + 1) = fun p => (mk l i p + if p = j then -1 else 0) + if p = i then 1 else 0 := by
  have hj := lastOf_lt h
  have hr := lastOf_rd h
  funext p
  unfold mk
  rw [lastOf]
  by_cases hp : p < i
  · rw [if_neg (show ¬ p = i by omega)]
    by_cases he : rd l (i : Int) = rd l (p : Int)
    · rw [if_pos he, ← he, h]
      by_cases hpj : p = j
      · subst hpj
        rw [if_neg (by intro x; have := Option.some.inj x.2; omega), if_pos ⟨hp, rfl⟩, if_pos rfl]
        rfl
      · rw [if_neg (by intro x; have := Option.some.inj x.2; omega), if_neg (by intro x; exact hpj (Option.some.inj x.2).symm), if_neg hpj]
        rfl
    · have hpj : ¬ p = j := by
        rintro rfl
        exact he hr.symm
      rw [if_neg he, if_neg hpj]
      by_cases h2 : lastOf l i (rd l (p : Int)) = some p
      · rw [if_pos ⟨by omega, h2⟩, if_pos ⟨hp, h2⟩]
        rfl
      · rw [if_neg (fun x => h2 x.2), if_neg (fun x => h2 x.2)]
        rfl
  · by_cases he : p = i
    · subst he
      rw [if_pos rfl, if_pos ⟨by omega, rfl⟩, if_neg (by omega), if_neg (by omega), if_pos rfl]
      rfl
    · rw [if_neg (by omega), if_neg (by omega), if_neg (show ¬ p = j by omega), if_neg he]
      rfl
/-- How many other things were referred to since place i's thing was last; -1: it was never. -/
def dAt (l : List Int) (i : Nat) : Int := match lastOf l i (rd l (i : Int)) with
  | none => -1
  | some j => sm (mk l i) (j + 1) (i - (j + 1))
def specD (l : List Int) : Nat → List Int
  | 0 => []
  | i + 1 => specD l i ++ [dAt l i]
theorem specD_len (l : List Int) : ∀ i, (specD l i).length = i
  | 0 => rfl
  | i + 1 => by
    unfold specD
    rw [List.length_append, specD_len l i]
    rfl
theorem dist_none {l m m2 o : List Int} {i k : Nat} {d : Int} (hi : i < l.length) (h : lastOf l i (rd l (i : Int)) = none) (e : sample_marks_add.f k m (i : Int) 1 = some m2) (hd : d = -1) :
    sample_Distances.l0 (k + 1) l m o i = sample_Distances.l0 k l m2 (o ++ [d]) (i + 1) := by
  rw [sample_Distances.l0, if_pos hi]
  simp only [h, e, hd, Option.bind_some]
theorem dist_some {l m m2 m3 o : List Int} {i j k : Nat} {p q d : Int} (hi : i < l.length) (h : lastOf l i (rd l (i : Int)) = some j) (ea : sample_marks_ahead.f k m (i : Int) = some p) (eb : sample_marks_ahead.f k m (wrap64 ((j : Int) + 1)) = some q)
    (e2 : sample_marks_add.f k m (j : Int) (-1) = some m2) (e3 : sample_marks_add.f k m2 (i : Int) 1 = some m3) (hd : d = wrap64 (p - q)) :
    sample_Distances.l0 (k + 1) l m o i = sample_Distances.l0 k l m3 (o ++ [d]) (i + 1) := by
  rw [sample_Distances.l0, if_pos hi]
  simp only [h, ea, eb, e2, e3, hd, Option.bind_some]
theorem dAt_some {l : List Int} {i j : Nat} (hi : i ≤ 4096) (h : lastOf l i (rd l (i : Int)) = some j) : dAt l i = wrap64 (sm (mk l i) 0 i - sm (mk l i) 0 (j + 1)) := by
  have hj := lastOf_lt h
  have hs := sm_add (mk l i) 0 (j + 1) (i - (j + 1))
  have e : j + 1 + (i - (j + 1)) = i := by omega
  rw [Nat.zero_add, e] at hs
  have n1 := sm_nonneg (fun p => (mk_range l i p).1) (j + 1) (i - (j + 1))
  have n2 := sm_le (fun p => (mk_range l i p).2) (j + 1) (i - (j + 1))
  have hD : dAt l i = sm (mk l i) (j + 1) (i - (j + 1)) := by unfold dAt; rw [h]
  rw [hD]
  generalize sm (mk l i) 0 i = A at *
  generalize sm (mk l i) 0 (j + 1) = B at *
  generalize sm (mk l i) (j + 1) (i - (j + 1)) = C at *
  unfold wrap64
  omega
theorem dist_l0 {l : List Int} (hl : l.length ≤ 4096) : ∀ (n i : Nat) (m : List Int) (k : Nat), l.length = i + n → Fen (mk l i) m → m.length = l.length + 1 → m.length ≤ k → sample_Distances.l0 (k + n + 1) l m (specD l i) i = some (specD l l.length)
  | 0, i, m, k, hn, hF, hm, hk => by
    have e : l.length = i := by omega
    rw [sample_Distances.l0, if_neg (by omega), e]
  | n + 1, i, m, k, hn, hF, hm, hk => by
    have hc := mk_range l i
    have ek : k + (n + 1) + 1 = (k + n + 1) + 1 := by omega
    have hi : i < l.length := by omega
    have hk2 : m.length ≤ k + n + 1 := by omega
    have hm5 : m.length ≤ 5000 := by omega
    rw [ek]
    cases h : lastOf l i (rd l (i : Int)) with
    | none =>
      obtain ⟨m2, e2, hl2, hF2⟩ := add_f hF hc hm5 i (by omega) 1 (by omega) (k := k + n + 1) hk2
      rw [← mk_none h] at hF2
      have hd : dAt l i = -1 := by unfold dAt; rw [h]
      rw [dist_none hi h e2 hd]
      exact dist_l0 hl n (i + 1) m2 k (by omega) hF2 (by omega) (by omega)
    | some j =>
      have hj := lastOf_lt h
      have hr := lastOf_rd h
      have ej : wrap64 ((j : Int) + 1) = ((j + 1 : Nat) : Int) := by unfold wrap64; omega
      have ea := ahead_f hF hc hm5 i (by omega) (k := k + n + 1) hk2
      have eb := ahead_f hF hc hm5 (j + 1) (by omega) (k := k + n + 1) hk2
      rw [← ej] at eb
      obtain ⟨m2, e2, hl2, hF2⟩ := add_f hF hc hm5 j (by omega) (-1) (by omega) (k := k + n + 1) hk2
      have hmj : mk l i j = 1 := by unfold mk; rw [hr, if_pos ⟨hj, h⟩]
      have hc2 : ∀ p, 0 ≤ (mk l i p + if p = j then -1 else 0) ∧ (mk l i p + if p = j then -1 else 0) ≤ 1 := by
        intro p
        have := hc p
        by_cases hp : p = j
        · rw [if_pos hp, hp, hmj]
          omega
        · rw [if_neg hp]
          omega
      obtain ⟨m3, e3, hl3, hF3⟩ := add_f hF2 hc2 (by omega) i (by omega) 1 (by omega) (k := k + n + 1) (by omega)
      rw [← mk_some h] at hF3
      rw [dist_some hi h ea eb e2 e3 (dAt_some (by omega) h)]
      exact dist_l0 hl n (i + 1) m3 k (by omega) hF3 (by omega) (by omega)
theorem dist_ev {l : List Int} (hl : l.length ≤ 4096) (hw : ∀ x ∈ l, (Lit.int .i64 x).wf = true) {k : Nat} (hk : 10000 ≤ k) : sample_Distances.f k l = some (specD l l.length) := by
  unfold sample_Distances.f
  rw [if_neg (by omega), if_pos (List.all_eq_true.2 hw)]
  obtain ⟨q, rfl⟩ : ∃ q, k = q + l.length + 1 := ⟨k - l.length - 1, by omega⟩
  refine dist_l0 hl l.length 0 _ q (by omega) ?_ (by rw [List.length_replicate]) (by rw [List.length_replicate]; omega)
  have : mk l 0 = fun _ => 0 := by funext p; unfold mk; rw [if_neg (by omega)]
  rw [this]
  exact fen_zero _
end Go.Proofs.YtfiobfjolkmdpaaDoor.Pure
